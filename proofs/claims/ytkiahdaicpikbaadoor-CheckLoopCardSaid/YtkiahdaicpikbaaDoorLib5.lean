/- What the machine of this program is told beforehand: a search for a byte (a contract laid off the shelf's template), signs of ops and digits of numbers that are not known. -/
import Derived.Test.YtkiahdaicpikbaaDoorTab
import Derived.Test.YtkiahdaicpikbaaDoorSym
import Derived.Lib.Strings
import Derived.Lib.Slices
import Derived.Lib.Walk
import Derived.Lib.Bytealg
set_option linter.unusedVariables false
set_option linter.unusedSimpArgs false
namespace Go.Proofs.YtkiahdaicpikbaaDoor
open Go Go.RowKit

set_option maxHeartbeats 1000000 in
set_option maxRecDepth 100000 in
theorem stringslite_IndexByte (s : ByteArray) (c : Int) (w : World) :
    Calls Tryd.prog 84 #[.string s, .int .u8 c] w fun e w' => e = .returned (.int .i64 (Lib.indexByte s.data.toList c.toNat.toUInt8)) ∧ w' = w := by
  go_enter Tryd.func84, Tryd.ntmps84
  go_wp2
  rw [run_callFunc_extern Tryd.func92 (by kernel_rfl) (by kernel_rfl) (by kernel_rfl) (e := Extern.BytealgIndexByte.indexByte) (by kernel_rfl), Lib.run_indexByteString]
  simp only [Result.andThen]
  rw [Oper.upon_value]
  go_wp2
  go_ret
  exact ⟨rfl, rfl⟩
theorem indexByte_call (s : List UInt8) (c : Int) (h : AHeap) : ACall Tryd.prog 84 [.str s, .int .u8 c] h fun r h' => r = .ret (.int .i64 (Lib.indexByte s c.toNat.toUInt8)) ∧ h' = h := by
  intro K w vs H hv
  obtain ⟨u, v, rfl, h1, h2⟩ := VRs.two hv
  generalize hx : AV.str s = x at h1
  cases h1 <;> cases hx
  rename_i b
  cases h2
  refine (stringslite_IndexByte b c w).mono fun e w' he => ?_
  obtain ⟨rfl, rfl⟩ := he
  exact ⟨K, h, .ret (.int .i64 (Lib.indexByte b.data.toList c.toNat.toUInt8)), KW.le_refl K, H, Glob.refl _, .int _ _, rfl, rfl⟩
def lib0 : CallF → CallF := fun _ f args h =>
  if Nat.beq f 84 then match args with
    | [.str s, .int .u8 c] => some (.ret (.int .i64 (Lib.indexByte s c.toNat.toUInt8)), h)
    | _ => none
  else none
theorem lib0_ok : ∀ call, CallOK Tryd.prog call → CallOK Tryd.prog (lib0 call) := by
  intro call _ f args h r h' hx
  unfold lib0 at hx
  split at hx
  · rename_i hf
    have hf' := Nat.eq_of_beq_eq_true hf
    subst hf'
    split at hx
    · cases hx
      exact indexByte_call _ _ _
    · cases hx
  · cases hx
noncomputable def run0 : CallF := eFun Tryd.prog (tabOf Tryd.prog plans) lib0 300 40
theorem run0_ok : CallOK Tryd.prog run0 := eFun_ok mixed (tabOf_ok plans_ok) lib0_ok 300 40

/-! ### Signs -/
theorem sign_runs : ((List.range 10).all fun m => beqV (outOf (run0 47 [.int .i64 (.ofNat (m + 1))] noHeap)) (.tuple [.str (signTxt (m + 1)), .bool true])) = true := by kernel_rfl
theorem of_runs : ((List.range 10).all fun m => beqV (outOf (run0 83 [.str (signTxt (m + 1))] noHeap)) (.tuple [.int .i64 (.ofNat (m + 1)), .bool true])) = true := by kernel_rfl
theorem ten {n : Int} (h1 : 1 ≤ n) (h2 : n ≤ 10) : ∃ m, m ∈ List.range 10 ∧ n = .ofNat (m + 1) ∧ n.toNat = m + 1 :=
  ⟨n.toNat - 1, by simp only [List.mem_range]; omega, by simp only [Int.ofNat_eq_natCast]; omega, by omega⟩
theorem sign_call (e : Nat) (lo hi : Int) (h1 : 1 ≤ lo) (h2 : hi ≤ 10) (h : AHeap) : ACall Tryd.prog 47 [.isym .i64 e lo hi] h fun r h' => r = .ret (.tuple [.ssym 0 e lo hi, .bool true]) ∧ h' = h := by
  refine sym_fun run0_ok (args := fun n => [.int .i64 n]) (res := fun n => .tuple [.str (symTxt 0 n), .bool true]) (e := e) (lo := lo) (hi := hi) (fun n a b => ?_) (fun n => by simp) (fun n => rfl) (fun n => rfl) (fun K vs hv => ?_) (fun K v n he a b hv => ?_) h
  · obtain ⟨m, hm, rfl, ht⟩ := ten (n := n) (by omega) (by omega)
    have := beqV_eq _ _ (List.all_eq_true.1 sign_runs m hm)
    rw [this]
    simp only [symTxt, ht]
  · obtain ⟨n, a1, a2, a3, a4⟩ := isym_read hv.head
    exact ⟨n, a1, a2, a3, hv.first_of fun u hu => by
      obtain ⟨n', b1, _, _, rfl⟩ := isym_read hu
      rw [a1] at b1; subst b1
      exact .int _ _⟩
  · exact hv.pair_of fun u hu => .ssym_of he a b hu
theorem of_call (e : Nat) (lo hi : Int) (h1 : 1 ≤ lo) (h2 : hi ≤ 10) (h : AHeap) : ACall Tryd.prog 83 [.ssym 0 e lo hi] h fun r h' => r = .ret (.tuple [.isym .i64 e lo hi, .bool true]) ∧ h' = h := by
  refine sym_fun run0_ok (args := fun n => [.str (symTxt 0 n)]) (res := fun n => .tuple [.int .i64 n, .bool true]) (e := e) (lo := lo) (hi := hi) (fun n a b => ?_) (fun n => by simp) (fun n => rfl) (fun n => rfl) (fun K vs hv => ?_) (fun K v n he a b hv => ?_) h
  · obtain ⟨m, hm, rfl, ht⟩ := ten (n := n) (by omega) (by omega)
    have := beqV_eq _ _ (List.all_eq_true.1 of_runs m hm)
    simp only [symTxt, ht]
    exact this
  · obtain ⟨n, a1, a2, a3, a4⟩ := ssym_read hv.head
    exact ⟨n, a1, a2, a3, hv.first_of fun u hu => by
      obtain ⟨n', b1, _, _, b4⟩ := ssym_read hu
      rw [a1] at b1; subst b1
      exact b4⟩
  · exact hv.pair_of fun u hu => .isym_of he a b hu

def lib : CallF → CallF := fun call f args h =>
  if Nat.beq f 47 then match args with
    | [.isym .i64 e lo hi] => if 1 ≤ lo ∧ hi ≤ 10 then some (.ret (.tuple [.ssym 0 e lo hi, .bool true]), h) else none
    | _ => none
  else if Nat.beq f 83 then match args with
    | [.ssym 0 e lo hi] => if 1 ≤ lo ∧ hi ≤ 10 then some (.ret (.tuple [.isym .i64 e lo hi, .bool true]), h) else none
    | _ => none
  else lib0 call f args h
theorem lib_ok : ∀ call, CallOK Tryd.prog call → CallOK Tryd.prog (lib call) := by
  intro call hc f args h r h' hx
  unfold lib at hx
  split at hx
  · rename_i hf
    have hf' := Nat.eq_of_beq_eq_true hf
    subst hf'
    split at hx
    · split at hx
      · rename_i hh
        cases hx
        exact sign_call _ _ _ hh.1 hh.2 _
      · cases hx
    · cases hx
  split at hx
  · rename_i hf
    have hf' := Nat.eq_of_beq_eq_true hf
    subst hf'
    split at hx
    · split at hx
      · rename_i hh
        cases hx
        exact of_call _ _ _ hh.1 hh.2 _
      · cases hx
    · cases hx
  · exact lib0_ok call hc f args h r h' hx
noncomputable def run : CallF := eFun Tryd.prog (tabOf Tryd.prog plans) lib 300 60
theorem run_ok : CallOK Tryd.prog run := eFun_ok mixed (tabOf_ok plans_ok) lib_ok 300 60

/-- Told true, whatever the heap. -/
def saysTrue : CR → Bool
  | some (.ret (.bool true), _) => true
  | _ => false
theorem saysTrue_ok {P : Program} {call : CallF} (hc : CallOK P call) {f : FuncId} {args : List AV} (hn : noLs args = true) (h : saysTrue (call f args noHeap) = true) (hp : AHeap) : ACall P f args hp fun r h' => r = .ret (.bool true) ∧ h' = hp := by
  unfold saysTrue at h
  split at h
  · rename_i h1 hx
    exact ACall.frame (R := fun a => a = .ret (.bool true)) hn (fun l => rfl) ((hc _ _ _ _ _ hx).mono fun a b hab => ⟨hab.1, by rw [hab.1]; rfl⟩) hp
  · cases h

end Go.Proofs.YtkiahdaicpikbaaDoor
