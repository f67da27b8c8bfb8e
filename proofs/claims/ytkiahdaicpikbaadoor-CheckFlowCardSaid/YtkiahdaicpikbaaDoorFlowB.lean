/- The law CheckFlow, for every input. -/
import Derived.Test.YtkiahdaicpikbaaDoorFlowA
import Derived.Test.YtkiahdaicpikbaaDoorArr3
set_option linter.unusedVariables false
namespace Go.Proofs.YtkiahdaicpikbaaDoor
open Go Go.RowKit

theorem bool3_vr (K : KW) (a b c : Bool) : VR K (.agg [.bool a, .bool b, .bool c]) (.agg #[.bool a, .bool b, .bool c]) := by
  refine .agg _ _ rfl (fun i hi => ?_) fun i x e => ?_
  · match i, hi with
    | 0, _ => rfl
    | 1, _ => rfl
    | 2, _ => rfl
  · match i, e with
    | 0, e => simp at e; subst e; exact .bool _
    | 1, e => simp at e; subst e; exact .bool _
    | 2, e => simp at e; subst e; exact .bool _
    | i + 3, e => simp at e
theorem checkFlow_calls (op : Int) (a b c : Bool) : TellsTrue Tryd.prog 7 #[.int .i64 op, .agg #[.bool a, .bool b, .bool c]] := by
  have plain : ∀ W, VRs (bareKE W (fun i => i) (fun i j h _ => by omega)) (flowArgs (.int .i64 op) a b c) #[.int .i64 op, .agg #[.bool a, .bool b, .bool c]] := fun W => ⟨rfl, fun i x e => by
    match i, e with
    | 0, e => simp [flowArgs] at e; subst e; exact .int _ _
    | 1, e => simp [flowArgs] at e; subst e; exact bool3_vr _ _ _ _
    | i + 2, e => simp [flowArgs] at e⟩
  rcases Classical.em (op < 1) with h1 | h1
  · exact TellsTrue.of (saysIf_call rfl (flow_less op a b c) (fun p hp => by simp only [List.mem_singleton] at hp; subst hp; simpa using h1) noHeap) _ _ plain
  · rcases Classical.em (op > 10) with h2 | h2
    · refine TellsTrue.of (saysIf_call rfl (flow_more op a b c) (fun p hp => ?_) noHeap) _ _ plain
      simp only [List.mem_cons, List.not_mem_nil, or_false] at hp
      rcases hp with rfl | rfl
      · simpa using h1
      · simpa using h2
    · refine TellsTrue.of (saysTrue_ok run3_ok rfl (flow_runs a b c) noHeap) (fun i => op + i) (fun i j h _ => by omega) fun W => ⟨rfl, fun i x e => ?_⟩
      match i, e with
      | 0, e =>
        simp [flowArgs, flowSym] at e
        subst e
        exact .isym _ _ _ _ op (by simp [bareKE]) (by omega) (by omega)
      | 1, e => simp [flowArgs] at e; subst e; exact bool3_vr _ _ _ _
      | i + 2, e => simp [flowArgs] at e

end Go.Proofs.YtkiahdaicpikbaaDoor
