/- Nothing is wrong with the units of the law MeanCalls: run by the machine. -/
import Derived.Test.YtolacfnciaimhaaGreatDoorCallsD
namespace Go.Proofs.YtolacfnciaimhaaGreatDoor
open Go Go.RowKit

theorem callAll1 : callAll 1 := by unfold callAll; kernel_rfl
theorem callAll2 : callAll 2 := by unfold callAll; kernel_rfl
theorem callAll3 : callAll 3 := by unfold callAll; kernel_rfl
theorem callAll4 : callAll 4 := by unfold callAll; kernel_rfl
theorem callAll5 : callAll 5 := by unfold callAll; kernel_rfl

end Go.Proofs.YtolacfnciaimhaaGreatDoor
