/- awake tells true: run by the machine. -/
import Derived.Test.YtolacfnciaimhaaGreatDoorLib6
namespace Go.Proofs.YtolacfnciaimhaaGreatDoor
open Go Go.RowKit

theorem awake_runs : saysTrue (run 8 [] noHeap) = true := by kernel_rfl
theorem awake_call (h : AHeap) : ACall Tryz.prog 8 [] h fun r h' => r = .ret (.bool true) ∧ h' = h := saysTrue_ok run_ok rfl awake_runs h

end Go.Proofs.YtolacfnciaimhaaGreatDoor
