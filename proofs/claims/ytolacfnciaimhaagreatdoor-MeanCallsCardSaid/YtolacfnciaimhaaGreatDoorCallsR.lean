/- The machine that is told that nothing is wrong with the units of the law MeanCalls. -/
import Derived.Test.YtolacfnciaimhaaGreatDoorCallsE
import Derived.Test.YtolacfnciaimhaaGreatDoorCallsF
set_option linter.unusedVariables false
namespace Go.Proofs.YtolacfnciaimhaaGreatDoor
open Go Go.RowKit

def tenL : List Nat := [1, 2, 3, 4, 5, 6, 7, 8, 9, 10]
theorem callAll_all (op : Nat) (h : op ∈ tenL) : callAll op := by
  simp only [tenL, List.mem_cons, List.not_mem_nil, or_false] at h
  rcases h with rfl | rfl | rfl | rfl | rfl | rfl | rfl | rfl | rfl | rfl
  · exact callAll1
  · exact callAll2
  · exact callAll3
  · exact callAll4
  · exact callAll5
  · exact callAll6
  · exact callAll7
  · exact callAll8
  · exact callAll9
  · exact callAll10
def opFind (U : AV) : List Nat → Option Nat
  | [] => none
  | op :: rest => if beqV U (callUnits op) then some op else opFind U rest
theorem opFind_some {U : AV} : ∀ {l : List Nat} {op : Nat}, opFind U l = some op → op ∈ l ∧ U = callUnits op
  | [], _, h => by cases h
  | k :: rest, op, h => by
    simp only [opFind] at h
    split at h
    · rename_i hb
      cases h
      exact ⟨by simp, beqV_eq _ _ hb⟩
    · obtain ⟨h1, h2⟩ := opFind_some h
      exact ⟨by simp [h1], h2⟩
noncomputable def lib1 : CallF → CallF := fun call f args h =>
  if Nat.beq f 10 then match args with
    | [U] => match opFind U tenL with
      | some op => some (.ret allOK, h)
      | none => none
    | _ => none
  else lib call f args h
theorem lib1_ok : ∀ call, CallOK Tryz.prog call → CallOK Tryz.prog (lib1 call) := by
  intro call hc f args h r h' hx
  unfold lib1 at hx
  split at hx
  · rename_i hf
    have hf' := Nat.eq_of_beq_eq_true hf
    subst hf'
    split at hx
    · split at hx
      · rename_i op ho
        obtain ⟨hm, rfl⟩ := opFind_some ho
        cases hx
        exact outOf_call run_ok rfl rfl (by simp [allOK]) (callAll_all op hm) h
      · cases hx
    · cases hx
  · exact lib_ok call hc f args h r h' hx
noncomputable def run1 : CallF := eFun Tryz.prog (tabOf Tryz.prog plans) lib1 300 60
theorem run1_ok : CallOK Tryz.prog run1 := eFun_ok mixed (tabOf_ok plans_ok) lib1_ok 300 60
noncomputable def callRun (op : Nat) (u f : UInt8) (x : Int) (b : Nat) : CR := run1 11 [callUnits op, .str [u, 46, f], .fslice 1 [[.int .u32 x], [.int .u32 (.ofNat b)]]] noHeap
def callTold (op : Nat) : Prop := ∀ (x : Int) (b : Nat), (outOf (callRun op 97 103 x b), outOf (callRun op 97 102 x b), outOf (callRun op 98 104 x b)) =
  (outV (opw op x (.ofNat b)), outV (opw op (opw op x (.ofNat b)) (.ofNat b)), outV (opw op x (.ofNat b)))


end Go.Proofs.YtolacfnciaimhaaGreatDoor
