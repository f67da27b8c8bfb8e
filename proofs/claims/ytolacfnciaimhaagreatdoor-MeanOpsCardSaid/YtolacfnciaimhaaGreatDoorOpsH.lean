/- The law MeanOps, for every input: run by the machine, case by case. -/
import Derived.Test.YtolacfnciaimhaaGreatDoorOpsG
set_option linter.unusedVariables false
namespace Go.Proofs.YtolacfnciaimhaaGreatDoor
open Go Go.RowKit

theorem law1 (u v z : Bool) : opsLaw 1 u v z := by cases u <;> cases v <;> cases z <;> (intro a b; kernel_rfl)
theorem law2 (u v z : Bool) : opsLaw 2 u v z := by cases u <;> cases v <;> cases z <;> (intro a b; kernel_rfl)
theorem law3 (u v z : Bool) : opsLaw 3 u v z := by cases u <;> cases v <;> cases z <;> (intro a b; kernel_rfl)
theorem law4 (u v z : Bool) : opsLaw 4 u v z := by cases u <;> cases v <;> cases z <;> (intro a b; kernel_rfl)
theorem law5 (u v z : Bool) : opsLaw 5 u v z := by cases u <;> cases v <;> cases z <;> (intro a b; kernel_rfl)
theorem law6 (u v z : Bool) : opsLaw 6 u v z := by cases u <;> cases v <;> cases z <;> (intro a b; kernel_rfl)
theorem law7 (u v z : Bool) : opsLaw 7 u v z := by cases u <;> cases v <;> cases z <;> (intro a b; kernel_rfl)
theorem law8 (u v z : Bool) : opsLaw 8 u v z := by cases u <;> cases v <;> cases z <;> (intro a b; kernel_rfl)
theorem law9 (u v z : Bool) : opsLaw 9 u v z := by cases u <;> cases v <;> cases z <;> (intro a b; kernel_rfl)
theorem law10 (u v z : Bool) : opsLaw 10 u v z := by cases u <;> cases v <;> cases z <;> (intro a b; kernel_rfl)
theorem law_less (op : Int) (a b : Nat) : saysIf (runD [(25, true)] 4 (opsArgs op a b)) = some [(decide (op < 1), true)] := by kernel_rfl
theorem law_more (op : Int) (a b : Nat) : saysIf (runD [(25, false), (28, true)] 4 (opsArgs op a b)) = some [(decide (op < 1), false), (decide (op > 10), true)] := by kernel_rfl

theorem ops_paid (op : Nat) (a b : Int) : Paid (opsOwed op (decide (a < b)) (a == b) (a == 0) a b) := by
  intro p hp
  simp only [opsOwed, List.mem_cons, List.not_mem_nil, or_false] at hp
  rcases hp with rfl | rfl | rfl | rfl | rfl
  · rfl
  · rfl
  · rfl
  · simp only [beq_iff_eq]
    unfold opsWant
    split
    · rfl
    · rfl
    · rfl
  · simp only [beq_iff_eq, selv]
theorem ops_in (op : Nat) (h : op ∈ [1, 2, 3, 4, 5, 6, 7, 8, 9, 10]) (u v z : Bool) : opsLaw op u v z := by
  simp only [List.mem_cons, List.not_mem_nil, or_false] at h
  rcases h with rfl | rfl | rfl | rfl | rfl | rfl | rfl | rfl | rfl | rfl
  · exact law1 u v z
  · exact law2 u v z
  · exact law3 u v z
  · exact law4 u v z
  · exact law5 u v z
  · exact law6 u v z
  · exact law7 u v z
  · exact law8 u v z
  · exact law9 u v z
  · exact law10 u v z
theorem meanOps_call (op : Int) (wo : (Lit.int .i64 op).wf = true) (a : Int) (wa : (Lit.int .u32 a).wf = true) (b : Int) (wb : (Lit.int .u32 b).wf = true) (h : AHeap) :
    ACall Tryz.prog 4 [.int .i64 op, .int .u32 a, .int .u32 b] h fun r h' => r = .ret (.bool true) ∧ h' = h := by
  have nat : ∀ n : Int, (Lit.int .u32 n).wf = true → ∃ m : Nat, n = .ofNat m := fun n hn => by
    simp [Lit.wf, IntKind.min, IntKind.max, IntKind.signed, IntKind.bits] at hn
    exact ⟨n.toNat, by simp only [Int.ofNat_eq_natCast]; omega⟩
  obtain ⟨a, rfl⟩ := nat a wa
  obtain ⟨b, rfl⟩ := nat b wb
  rcases Classical.em (op < 1) with h1 | h1
  · exact saysIf_call rfl (law_less op a b) (fun p hp => by simp only [List.mem_singleton] at hp; subst hp; simpa using h1) h
  · rcases Classical.em (op > 10) with h2 | h2
    · refine saysIf_call rfl (law_more op a b) (fun p hp => ?_) h
      simp only [List.mem_cons, List.not_mem_nil, or_false] at hp
      rcases hp with rfl | rfl
      · simpa using h1
      · simpa using h2
    · have hm : ∃ m : Nat, op = m ∧ m ∈ [1, 2, 3, 4, 5, 6, 7, 8, 9, 10] := by
        refine ⟨op.toNat, by omega, ?_⟩
        simp only [List.mem_cons, List.not_mem_nil, or_false]
        omega
      obtain ⟨m, rfl, hm⟩ := hm
      exact saysIf_call rfl (ops_in m hm _ _ _ a b) (ops_paid m _ _) h

end Go.Proofs.YtolacfnciaimhaaGreatDoor
