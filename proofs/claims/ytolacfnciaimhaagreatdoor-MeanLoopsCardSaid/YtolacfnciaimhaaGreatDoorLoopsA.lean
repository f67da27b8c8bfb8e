/- The law MeanLoops: what check.All tells of its units, whatever the three numbers are; the machine that is told so. -/
import Derived.Test.YtolacfnciaimhaaGreatDoorAwake6
import Derived.Test.YtolacfnciaimhaaGreatDoorNumB
import Derived.Test.YtolacfnciaimhaaGreatDoorItoaL
import Derived.Test.YtolacfnciaimhaaGreatDoorWk
set_option linter.unusedVariables false
namespace Go.Proofs.YtolacfnciaimhaaGreatDoor
open Go Go.RowKit

theorem itoa_call (e : Nat) (lo hi : Int) (h0 : 0 ≤ lo) (h1 : hi ≤ 4294967295) (h : AHeap) : ACall Tryz.prog 60 [.isym .i64 e lo hi] h fun r h' => r = .ret (.ssym 2 e lo hi) ∧ h' = h := by
  intro K w vs H hv
  obtain ⟨u, rfl, hu⟩ := VRs.one hv
  obtain ⟨n, a1, a2, a3, rfl⟩ := isym_read hu
  have htab : Lib.TabIs Tryz.prog w "internal/strconv.uint64pow10" .u64 Lib.pow10Tab := H.good
  refine (Tryz.strconv_Itoa n (by omega) (by omega) w htab).mono fun x w' ⟨he, k, os, hw⟩ => ?_
  subst he; subst hw
  refine ⟨K, h, .ret (.ssym 2 e lo hi), KW.le_refl K, H.grown fun b hb => Lib.heap_grow_old w k os b hb, Lib.below_grow 0 w (Nat.zero_le _) k os, ?_, rfl, rfl⟩
  exact .ssym 2 e lo hi _ (by rw [a1]; rfl) (by omega) (by omega)
def lib5 : CallF → CallF := fun call f args h =>
  if Nat.beq f 8 then match args with
    | [] => some (.ret (.bool true), h)
    | _ => none
  else if Nat.beq f 60 then match args with
    | [.isym .i64 e lo hi] => if 0 ≤ lo ∧ hi ≤ 4294967295 then some (.ret (.ssym 2 e lo hi), h) else none
    | _ => none
  else if Nat.beq f 97 then match args with
    | [.ssym 2 e lo hi, .int .u64 least, .int .u64 most] => if (0 ≤ lo ∧ hi ≤ 4294967295) ∧ least ≤ lo ∧ hi ≤ most then some (.ret (.tuple [.isym .u64 e lo hi, .bool true]), h) else none
    | _ => none
  else none
theorem lib5_ok : ∀ call, CallOK Tryz.prog call → CallOK Tryz.prog (lib5 call) := by
  intro call hc f args h r h' hx
  unfold lib5 at hx
  split at hx
  · rename_i hf
    have hf' := Nat.eq_of_beq_eq_true hf
    subst hf'
    split at hx
    · cases hx
      exact awake_call _
    · cases hx
  split at hx
  · rename_i hf
    have hf' := Nat.eq_of_beq_eq_true hf
    subst hf'
    split at hx
    · split at hx
      · rename_i hh
        cases hx
        exact itoa_call _ _ _ hh.1 hh.2 _
      · cases hx
    · cases hx
  split at hx
  · rename_i hf
    have hf' := Nat.eq_of_beq_eq_true hf
    subst hf'
    split at hx
    · split at hx
      · rename_i hh
        cases hx
        exact worth_call' _ _ _ _ _ hh.1.1 hh.1.2 hh.2.1 hh.2.2 _
      · cases hx
    · cases hx
  · cases hx
noncomputable def lib6 : CallF → CallF := fun call f args h => match lib5 call f args h with
  | some r => some r
  | none => lib call f args h
theorem lib6_ok : ∀ call, CallOK Tryz.prog call → CallOK Tryz.prog (lib6 call) := by
  intro call hc f args h r h' hx
  unfold lib6 at hx
  split at hx
  · rename_i r0 h0
    cases hx
    exact lib5_ok call hc f args h r h' h0
  · exact lib_ok call hc f args h r h' hx
noncomputable def run6 : CallF := eFun Tryz.prog (tabOf Tryz.prog plans) lib6 300 60
theorem run6_ok : CallOK Tryz.prog run6 := eFun_ok mixed (tabOf_ok plans_ok) lib6_ok 300 60

def ex0 : List AV := [.int .i64 0, .int .u32 0, .int .i64 0, .str [], .nils]
def exV (n : UInt8) : List AV := [.int .i64 2, .int .u32 0, .int .i64 0, .str [n], .nils]
def exN (n : AV) : List AV := [.int .i64 1, n, .int .i64 0, .str [], .nils]
def stm (k : Int) (n : UInt8) (fr to : AV) : List AV := [.int .i64 k, .str [n], .bool false, .int .i64 0, fr, to]
def i0 : AV := .int .i64 0
def loopsU (fr to n : AV) : AV := .fslice 3 [[.str [97], .nils, .fslice 9 [[.str [102], .fslice 3 [[.str [116], .bool false, .int .i64 16]], .bool false,
  .fslice 18 [stm 1 115 i0 i0 ++ ex0 ++ exN (.int .u32 0) ++ [.nils, .nils],
    stm 5 105 fr to ++ ex0 ++ ex0 ++ [.fslice 18 [
      stm 3 115 i0 i0 ++ ex0 ++ [.int .i64 4, .int .u32 0, .int .i64 1, .str [], .fslice 5 [exV 115, exN n]] ++ [.nils, .nils],
      stm 4 116 i0 i0 ++ exV 105 ++ exV 105 ++ [.nils, .nils]], .nils]],
  .int .i64 2, .int .u32 0, .int .i64 0, .str [115], .nils]]]]
def wideF (e : Nat) : AV := .isym .i64 e 0 64
def wideT (e : Nat) : AV := .isym .i64 e 0 16
def wordN : AV := .isym .u32 100 0 4294967295
def allOK : AV := .tuple [.int .i64 0, .int .i64 (-1), .int .i64 (-1)]
theorem loopsAll01 : outOf (run6 10 [loopsU (wideF 0) (wideT 1) wordN] noHeap) = allOK := by kernel_rfl
theorem loopsAll00 : outOf (run6 10 [loopsU (wideF 0) (wideT 0) wordN] noHeap) = allOK := by kernel_rfl
theorem loopsAll10 : outOf (run6 10 [loopsU (wideF 1) (wideT 0) wordN] noHeap) = allOK := by kernel_rfl

def loopsFind (U : AV) : Bool := wkV (loopsU (wideF 0) (wideT 1) wordN) U || wkV (loopsU (wideF 0) (wideT 0) wordN) U || wkV (loopsU (wideF 1) (wideT 0) wordN) U
theorem loopsFind_ok {U : AV} (hf : loopsFind U = true) (h : AHeap) : ACall Tryz.prog 10 [U] h fun r h' => r = .ret allOK ∧ h' = h := by
  have one : ∀ V, wkV V U = true → wks [V] [U] = true := fun V hv => by simp only [wks, hv, Bool.and_self]
  simp only [loopsFind, Bool.or_eq_true] at hf
  rcases hf with (hf | hf) | hf
  · exact (outOf_call run6_ok rfl rfl (by simp [allOK]) loopsAll01 h).wk (one _ hf)
  · exact (outOf_call run6_ok rfl rfl (by simp [allOK]) loopsAll00 h).wk (one _ hf)
  · exact (outOf_call run6_ok rfl rfl (by simp [allOK]) loopsAll10 h).wk (one _ hf)
noncomputable def lib7 : CallF → CallF := fun call f args h =>
  if Nat.beq f 10 then match args with
    | [U] => if loopsFind U then some (.ret allOK, h) else none
    | _ => none
  else lib6 call f args h
theorem lib7_ok : ∀ call, CallOK Tryz.prog call → CallOK Tryz.prog (lib7 call) := by
  intro call hc f args h r h' hx
  unfold lib7 at hx
  split at hx
  · rename_i hf
    have hf' := Nat.eq_of_beq_eq_true hf
    subst hf'
    split at hx
    · split at hx
      · rename_i hu
        cases hx
        exact loopsFind_ok hu _
      · cases hx
    · cases hx
  · exact lib6_ok call hc f args h r h' hx
noncomputable def run7 : CallF := eFun Tryz.prog (tabOf Tryz.prog plans) lib7 300 60
theorem run7_ok : CallOK Tryz.prog run7 := eFun_ok mixed (tabOf_ok plans_ok) lib7_ok 300 60
/-- The law at a closed pair. -/
def pairArgs (v w : Nat) : List AV := [.isym .i64 (if v ≤ w then 0 else 1) v v, .isym .i64 (if v < w then 1 else 0) w w, wordN]
noncomputable def pairSays (v w : Nat) : Bool := saysTrue (run7 5 (pairArgs v w) noHeap)
/-- From is v, to is less. -/
noncomputable def lessSays (v : Nat) : Bool := saysTrue (run7 5 [.isym .i64 1 v v, .isym .i64 0 0 (v - 1), wordN] noHeap)

end Go.Proofs.YtolacfnciaimhaaGreatDoor
