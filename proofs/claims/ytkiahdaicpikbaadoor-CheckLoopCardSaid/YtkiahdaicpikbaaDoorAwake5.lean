/- awake tells true: run by the machine. -/
import Derived.Test.YtkiahdaicpikbaaDoorLib5
namespace Go.Proofs.YtkiahdaicpikbaaDoor
open Go Go.RowKit

theorem awake_runs : saysTrue (run 9 [] noHeap) = true := by kernel_rfl
theorem awake_call (h : AHeap) : ACall Tryd.prog 9 [] h fun r h' => r = .ret (.bool true) ∧ h' = h := saysTrue_ok run_ok rfl awake_runs h

end Go.Proofs.YtkiahdaicpikbaaDoor
