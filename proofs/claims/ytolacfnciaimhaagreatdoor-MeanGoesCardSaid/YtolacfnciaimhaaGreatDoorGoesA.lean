/- Numbers below 2^32 that are not known, as texts and back; the law MeanGoes, run by the machine. -/
import Derived.Test.YtolacfnciaimhaaGreatDoorAwake6
import Derived.Test.YtolacfnciaimhaaGreatDoorNumB
import Derived.Test.YtolacfnciaimhaaGreatDoorItoaL
set_option linter.unusedVariables false
namespace Go.Proofs.YtolacfnciaimhaaGreatDoor
open Go Go.RowKit

theorem itoa_call (e : Nat) (lo hi : Int) (h0 : 0 ≤ lo) (h1 : hi ≤ 4294967295) (h : AHeap) : ACall Tryz.prog 60 [.isym .i64 e lo hi] h fun r h' => r = .ret (.ssym 2 e lo hi) ∧ h' = h := by
  intro K w vs H hv
  obtain ⟨u, rfl, hu⟩ := VRs.one hv
  obtain ⟨n, a1, a2, a3, rfl⟩ := isym_read hu
  have htab : Lib.TabIs Tryz.prog w "internal/strconv.uint64pow10" .u64 Lib.pow10Tab := H.good
  refine (Tryz.strconv_Itoa n (by omega) (by omega) w htab).mono fun x w' ⟨he, k, os, hw⟩ => ?_
  subst he; subst hw
  refine ⟨K, h, .ret (.ssym 2 e lo hi), KW.le_refl K, H.grown fun b hb => Lib.heap_grow_old w k os b hb, Lib.below_grow 0 w (Nat.zero_le _) k os, ?_, rfl, rfl⟩
  exact .ssym 2 e lo hi _ (by rw [a1]; rfl) (by omega) (by omega)
def lib5 : CallF → CallF := fun call f args h =>
  if Nat.beq f 8 then match args with
    | [] => some (.ret (.bool true), h)
    | _ => none
  else if Nat.beq f 60 then match args with
    | [.isym .i64 e lo hi] => if 0 ≤ lo ∧ hi ≤ 4294967295 then some (.ret (.ssym 2 e lo hi), h) else none
    | _ => none
  else if Nat.beq f 97 then match args with
    | [.ssym 2 e lo hi, .int .u64 0, .int .u64 4294967295] => if 0 ≤ lo ∧ hi ≤ 4294967295 then some (.ret (.tuple [.isym .u64 e lo hi, .bool true]), h) else none
    | _ => none
  else none
noncomputable def lib6 : CallF → CallF := fun call f args h => match lib5 call f args h with
  | some r => some r
  | none => lib call f args h
theorem lib5_ok : ∀ call, CallOK Tryz.prog call → CallOK Tryz.prog (lib5 call) := by
  intro call hc f args h r h' hx
  unfold lib5 at hx
  split at hx
  · rename_i hf
    have hf' := Nat.eq_of_beq_eq_true hf
    subst hf'
    split at hx
    · cases hx
      exact awake_call _
    · cases hx
  split at hx
  · rename_i hf
    have hf' := Nat.eq_of_beq_eq_true hf
    subst hf'
    split at hx
    · split at hx
      · rename_i hh
        cases hx
        exact itoa_call _ _ _ hh.1 hh.2 _
      · cases hx
    · cases hx
  split at hx
  · rename_i hf
    have hf' := Nat.eq_of_beq_eq_true hf
    subst hf'
    split at hx
    · split at hx
      · rename_i hh
        cases hx
        exact worth_call _ _ _ hh.1 hh.2 _
      · cases hx
    · cases hx
  · cases hx
theorem lib6_ok : ∀ call, CallOK Tryz.prog call → CallOK Tryz.prog (lib6 call) := by
  intro call hc f args h r h' hx
  unfold lib6 at hx
  split at hx
  · rename_i r0 h0
    cases hx
    exact lib5_ok call hc f args h r h' h0
  · exact lib_ok call hc f args h r h' hx
noncomputable def run6 : CallF := eFun Tryz.prog (tabOf Tryz.prog plans) lib6 300 60
theorem run6_ok : CallOK Tryz.prog run6 := eFun_ok mixed (tabOf_ok plans_ok) lib6_ok 300 60

def wordS (e : Nat) (lo : Int) : AV := .isym .u32 e lo 4294967295
theorem goes_some : saysTrue (run6 7 [wordS 102 1, wordS 100 0, wordS 101 0] noHeap) = true := by kernel_rfl
theorem goes_none : saysTrue (run6 7 [.int .u32 0, wordS 100 0, wordS 101 0] noHeap) = true := by kernel_rfl

end Go.Proofs.YtolacfnciaimhaaGreatDoor
