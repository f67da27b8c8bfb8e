/- The law CheckFlow, run by the machine: the op is a number that is not known. -/
import Derived.Test.YtkiahdaicpikbaaDoorAwake5
set_option linter.unusedVariables false
namespace Go.Proofs.YtkiahdaicpikbaaDoor
open Go Go.RowKit

def lib3 : CallF → CallF := fun call f args h => if Nat.beq f 9 then match args with
    | [] => some (.ret (.bool true), h)
    | _ => none
  else lib call f args h
theorem lib3_ok : ∀ call, CallOK Tryd.prog call → CallOK Tryd.prog (lib3 call) := by
  intro call hc f args h r h' hx
  unfold lib3 at hx
  split at hx
  · rename_i hf
    have hf' := Nat.eq_of_beq_eq_true hf
    subst hf'
    split at hx
    · cases hx
      exact awake_call _
    · cases hx
  · exact lib_ok call hc f args h r h' hx
noncomputable def run3 : CallF := eFun Tryd.prog (tabOf Tryd.prog plans) lib3 300 60
theorem run3_ok : CallOK Tryd.prog run3 := eFun_ok mixed (tabOf_ok plans_ok) lib3_ok 300 60
noncomputable def runD (D : Told) (f : FuncId) (args : List AV) : Option ((ARes × AHeap) × Owed) := eFunD Tryd.prog (tabOf Tryd.prog plans) lib3 300 60 D f args noHeap
theorem saysIf_call {D : Told} {f : FuncId} {args : List AV} {o : Owed} (hn : noLs args = true) (h : saysIf (runD D f args) = some o) (hp : Paid o) (h0 : AHeap) : ACall Tryd.prog f args h0 fun r h' => r = .ret (.bool true) ∧ h' = h0 := by
  unfold saysIf at h
  split at h
  · rename_i h1 o1 hx
    cases h
    have hy := eFunD_ok hx hp
    exact ACall.frame (R := fun a => a = .ret (.bool true)) hn (fun l => rfl) ((eFun_ok mixed (tabOf_ok plans_ok) lib3_ok 300 61 _ _ _ _ _ hy).mono fun a b hab => ⟨hab.1, by rw [hab.1]; rfl⟩) h0
  · cases h
def flowArgs (op : AV) (a b c : Bool) : List AV := [op, .agg [.bool a, .bool b, .bool c]]
def flowSym : AV := .isym .i64 0 1 10
theorem flow0 : saysTrue (run3 7 (flowArgs flowSym false false false) noHeap) = true := by kernel_rfl
theorem flow1 : saysTrue (run3 7 (flowArgs flowSym false false true) noHeap) = true := by kernel_rfl
theorem flow2 : saysTrue (run3 7 (flowArgs flowSym false true false) noHeap) = true := by kernel_rfl
theorem flow3 : saysTrue (run3 7 (flowArgs flowSym false true true) noHeap) = true := by kernel_rfl
theorem flow4 : saysTrue (run3 7 (flowArgs flowSym true false false) noHeap) = true := by kernel_rfl
theorem flow5 : saysTrue (run3 7 (flowArgs flowSym true false true) noHeap) = true := by kernel_rfl
theorem flow6 : saysTrue (run3 7 (flowArgs flowSym true true false) noHeap) = true := by kernel_rfl
theorem flow7 : saysTrue (run3 7 (flowArgs flowSym true true true) noHeap) = true := by kernel_rfl

theorem flow_runs (a b c : Bool) : saysTrue (run3 7 (flowArgs flowSym a b c) noHeap) = true := by
  cases a <;> cases b <;> cases c
  · exact flow0
  · exact flow1
  · exact flow2
  · exact flow3
  · exact flow4
  · exact flow5
  · exact flow6
  · exact flow7
theorem flow_less (op : Int) (a b c : Bool) : saysIf (runD [(21, true)] 7 (flowArgs (.int .i64 op) a b c)) = some [(decide (op < 1), true)] := by kernel_rfl
theorem flow_more (op : Int) (a b c : Bool) : saysIf (runD [(21, false), (24, true)] 7 (flowArgs (.int .i64 op) a b c)) = some [(decide (op < 1), false), (decide (op > 10), true)] := by kernel_rfl

end Go.Proofs.YtkiahdaicpikbaaDoor
