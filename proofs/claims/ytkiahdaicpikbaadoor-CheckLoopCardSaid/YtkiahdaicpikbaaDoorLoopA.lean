/- Numbers that are not known, as texts and back: from the runs at each number up to 64. -/
import Derived.Test.YtkiahdaicpikbaaDoorAwake5
set_option linter.unusedVariables false
namespace Go.Proofs.YtkiahdaicpikbaaDoor
open Go Go.RowKit

theorem itoa_runs : ((List.range 65).all fun m => beqV (outOf (run0 46 [.int .i64 (.ofNat m)] noHeap)) (.str (numTxt m))) = true := by kernel_rfl
theorem num_runs : ((List.range 65).all fun m => beqV (outOf (run0 79 [.str (numTxt m), .int .u64 0, .int .u64 64] noHeap)) (.tuple [.int .u64 (.ofNat m), .bool true])) = true := by kernel_rfl
theorem num_runs1 : ((List.range 16).all fun m => beqV (outOf (run0 79 [.str (numTxt (m + 1)), .int .u64 1, .int .u64 16] noHeap)) (.tuple [.int .u64 (.ofNat (m + 1)), .bool true])) = true := by kernel_rfl
theorem itoa_call (e : Nat) (lo hi : Int) (h1 : 0 ≤ lo) (h2 : hi ≤ 64) (h : AHeap) : ACall Tryd.prog 46 [.isym .i64 e lo hi] h fun r h' => r = .ret (.ssym 1 e lo hi) ∧ h' = h := by
  refine sym_fun run0_ok (args := fun n => [.int .i64 n]) (res := fun n => .str (symTxt 1 n)) (e := e) (lo := lo) (hi := hi) (fun n a b => ?_) (fun n => by simp) (fun n => rfl) (fun n => rfl) (fun K vs hv => ?_) (fun K v n he a b hv => ?_) h
  · have hm : n.toNat ∈ List.range 65 := by simp only [List.mem_range]; omega
    have hn : n = .ofNat n.toNat := by simp only [Int.ofNat_eq_natCast]; omega
    have := beqV_eq _ _ (List.all_eq_true.1 itoa_runs _ hm)
    rw [← hn] at this
    exact this
  · obtain ⟨n, a1, a2, a3, a4⟩ := isym_read hv.head
    exact ⟨n, a1, a2, a3, hv.first_of fun u hu => by
      obtain ⟨n', b1, _, _, rfl⟩ := isym_read hu
      rw [a1] at b1; subst b1
      exact .int _ _⟩
  · exact .ssym_of he a b hv
theorem num_call (e : Nat) (lo hi : Int) (h1 : 0 ≤ lo) (h2 : hi ≤ 64) (h : AHeap) : ACall Tryd.prog 79 [.ssym 1 e lo hi, .int .u64 0, .int .u64 64] h fun r h' => r = .ret (.tuple [.isym .u64 e lo hi, .bool true]) ∧ h' = h := by
  refine sym_fun run0_ok (args := fun n => [.str (symTxt 1 n), .int .u64 0, .int .u64 64]) (res := fun n => .tuple [.int .u64 n, .bool true]) (e := e) (lo := lo) (hi := hi) (fun n a b => ?_) (fun n => by simp) (fun n => rfl) (fun n => rfl) (fun K vs hv => ?_) (fun K v n he a b hv => ?_) h
  · have hm : n.toNat ∈ List.range 65 := by simp only [List.mem_range]; omega
    have hn : n = .ofNat n.toNat := by simp only [Int.ofNat_eq_natCast]; omega
    have := beqV_eq _ _ (List.all_eq_true.1 num_runs _ hm)
    rw [← hn] at this
    exact this
  · obtain ⟨n, a1, a2, a3, a4⟩ := ssym_read hv.head
    exact ⟨n, a1, a2, a3, hv.first_of fun u hu => by
      obtain ⟨n', b1, _, _, b4⟩ := ssym_read hu
      rw [a1] at b1; subst b1
      exact b4⟩
  · exact hv.pair_of fun u hu => .isym_of he a b hu
theorem num1_call (e : Nat) (lo hi : Int) (h1 : 1 ≤ lo) (h2 : hi ≤ 16) (h : AHeap) : ACall Tryd.prog 79 [.ssym 1 e lo hi, .int .u64 1, .int .u64 16] h fun r h' => r = .ret (.tuple [.isym .u64 e lo hi, .bool true]) ∧ h' = h := by
  refine sym_fun run0_ok (args := fun n => [.str (symTxt 1 n), .int .u64 1, .int .u64 16]) (res := fun n => .tuple [.int .u64 n, .bool true]) (e := e) (lo := lo) (hi := hi) (fun n a b => ?_) (fun n => by simp) (fun n => rfl) (fun n => rfl) (fun K vs hv => ?_) (fun K v n he a b hv => ?_) h
  · have hm : n.toNat - 1 ∈ List.range 16 := by simp only [List.mem_range]; omega
    have hn : n = .ofNat (n.toNat - 1 + 1) := by simp only [Int.ofNat_eq_natCast]; omega
    have ht : symTxt 1 n = numTxt (n.toNat - 1 + 1) := by
      simp only [symTxt]
      congr 1
      omega
    have := beqV_eq _ _ (List.all_eq_true.1 num_runs1 _ hm)
    rw [← hn, ← ht] at this
    exact this
  · obtain ⟨n, a1, a2, a3, a4⟩ := ssym_read hv.head
    exact ⟨n, a1, a2, a3, hv.first_of fun u hu => by
      obtain ⟨n', b1, _, _, b4⟩ := ssym_read hu
      rw [a1] at b1; subst b1
      exact b4⟩
  · exact hv.pair_of fun u hu => .isym_of he a b hu

def lib4 : CallF → CallF := fun call f args h =>
  if Nat.beq f 9 then match args with
    | [] => some (.ret (.bool true), h)
    | _ => none
  else if Nat.beq f 46 then match args with
    | [.isym .i64 e lo hi] => if 0 ≤ lo ∧ hi ≤ 64 then some (.ret (.ssym 1 e lo hi), h) else none
    | _ => none
  else if Nat.beq f 79 then match args with
    | [.ssym 1 e lo hi, .int .u64 0, .int .u64 64] => if 0 ≤ lo ∧ hi ≤ 64 then some (.ret (.tuple [.isym .u64 e lo hi, .bool true]), h) else none
    | [.ssym 1 e lo hi, .int .u64 1, .int .u64 16] => if 1 ≤ lo ∧ hi ≤ 16 then some (.ret (.tuple [.isym .u64 e lo hi, .bool true]), h) else none
    | _ => none
  else lib call f args h
theorem lib4_ok : ∀ call, CallOK Tryd.prog call → CallOK Tryd.prog (lib4 call) := by
  intro call hc f args h r h' hx
  unfold lib4 at hx
  split at hx
  · rename_i hf
    have hf' := Nat.eq_of_beq_eq_true hf
    subst hf'
    split at hx
    · cases hx
      exact awake_call _
    · cases hx
  split at hx
  · rename_i hf
    have hf' := Nat.eq_of_beq_eq_true hf
    subst hf'
    split at hx
    · split at hx
      · rename_i hh
        cases hx
        exact itoa_call _ _ _ hh.1 hh.2 _
      · cases hx
    · cases hx
  split at hx
  · rename_i hf
    have hf' := Nat.eq_of_beq_eq_true hf
    subst hf'
    split at hx
    · split at hx
      · rename_i hh
        cases hx
        exact num_call _ _ _ hh.1 hh.2 _
      · cases hx
    · split at hx
      · rename_i hh
        cases hx
        exact num1_call _ _ _ hh.1 hh.2 _
      · cases hx
    · cases hx
  · exact lib_ok call hc f args h r h' hx
noncomputable def run4 : CallF := eFun Tryd.prog (tabOf Tryd.prog plans) lib4 300 60
theorem run4_ok : CallOK Tryd.prog run4 := eFun_ok mixed (tabOf_ok plans_ok) lib4_ok 300 60

end Go.Proofs.YtkiahdaicpikbaaDoor
