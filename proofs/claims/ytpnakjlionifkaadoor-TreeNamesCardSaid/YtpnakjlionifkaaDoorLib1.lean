/- What the library's functions do that the machine does not walk (two contracts laid off the shelf's templates), and the machine of this program. -/
import Derived.Test.YtpnakjlionifkaaDoorTab
import Derived.Lib.Strings
import Derived.Lib.Slices
import Derived.Lib.Walk
import Derived.Lib.Bytealg
set_option linter.unusedVariables false
namespace Go.Proofs.YtpnakjlionifkaaDoor
open Go Go.RowKit

set_option maxHeartbeats 1000000 in
set_option maxRecDepth 100000 in
theorem stringslite_IndexByte (s : ByteArray) (c : Int) (w : World) :
    Calls Tryd.prog 71 #[.string s, .int .u8 c] w fun e w' => e = .returned (.int .i64 (Lib.indexByte s.data.toList c.toNat.toUInt8)) ∧ w' = w := by
  go_enter Tryd.func71, Tryd.ntmps71
  go_wp2
  rw [run_callFunc_extern Tryd.func83 (by kernel_rfl) (by kernel_rfl) (by kernel_rfl) (e := Extern.BytealgIndexByte.indexByte) (by kernel_rfl), Lib.run_indexByteString]
  simp only [Result.andThen]
  rw [Oper.upon_value]
  go_wp2
  go_ret
  exact ⟨rfl, rfl⟩
set_option maxHeartbeats 1000000 in
theorem strings_IndexByte (s : ByteArray) (c : Int) (w : World) :
    Calls Tryd.prog 43 #[.string s, .int .u8 c] w fun e w' => e = .returned (.int .i64 (Lib.indexByte s.data.toList c.toNat.toUInt8)) ∧ w' = w := by
  go_enter Tryd.func43, Tryd.ntmps43
  go_wp2_with (go_at_call 71; refine (stringslite_IndexByte _ _ _).mono ?_; rintro e w' ⟨rfl, rfl⟩)
  go_ret
  exact ⟨rfl, rfl⟩

theorem indexByte_call (s : List UInt8) (c : Int) (h : AHeap) : ACall Tryd.prog 43 [.str s, .int .u8 c] h fun r h' => r = .ret (.int .i64 (Lib.indexByte s c.toNat.toUInt8)) ∧ h' = h := by
  intro K w vs H hv
  obtain ⟨u, v, rfl, h1, h2⟩ := VRs.two hv
  generalize hx : AV.str s = x at h1
  cases h1 <;> cases hx
  rename_i b
  cases h2
  refine (strings_IndexByte b c w).mono fun e w' he => ?_
  obtain ⟨rfl, rfl⟩ := he
  exact ⟨K, h, .ret (.int .i64 (Lib.indexByte b.data.toList c.toNat.toUInt8)), KW.le_refl K, H, Glob.refl _, .int _ _, rfl, rfl⟩

def lib : CallF := fun f args h => if Nat.beq f 43 then match args with
    | [.str s, .int .u8 c] => some (.ret (.int .i64 (Lib.indexByte s c.toNat.toUInt8)), h)
    | _ => none
  else none
theorem lib_ok : CallOK Tryd.prog lib := by
  intro f args h r h' hx
  unfold lib at hx
  split at hx
  · rename_i hf
    have hf' := Nat.eq_of_beq_eq_true hf
    subst hf'
    split at hx
    · cases hx
      exact indexByte_call _ _ _
    · cases hx
  · cases hx

noncomputable def run : CallF := eFun Tryd.prog (tabOf Tryd.prog plans) lib 300 60
theorem run_ok : CallOK Tryd.prog run := eFun_ok mixed (tabOf_ok plans_ok) lib_ok 300 60

/-- Told true, whatever the heap. -/
def saysTrue : CR → Bool
  | some (.ret (.bool true), _) => true
  | _ => false
theorem saysTrue_ok {P : Program} {call : CallF} (hc : CallOK P call) {f : FuncId} {args : List AV} (hn : noLs args = true) (h : saysTrue (call f args noHeap) = true) (hp : AHeap) : ACall P f args hp fun r h' => r = .ret (.bool true) ∧ h' = hp := by
  unfold saysTrue at h
  split at h
  · rename_i h1 hx
    exact ACall.frame (R := fun a => a = .ret (.bool true)) hn (fun l => rfl) ((hc _ _ _ _ _ hx).mono fun a b hab => ⟨hab.1, by rw [hab.1]; rfl⟩) hp
  · cases h

end Go.Proofs.YtpnakjlionifkaaDoor
