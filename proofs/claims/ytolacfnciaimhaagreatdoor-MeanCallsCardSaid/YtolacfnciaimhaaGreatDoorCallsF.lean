/- Nothing is wrong with the units of the law MeanCalls: run by the machine. -/
import Derived.Test.YtolacfnciaimhaaGreatDoorCallsD
namespace Go.Proofs.YtolacfnciaimhaaGreatDoor
open Go Go.RowKit

theorem callAll6 : callAll 6 := by unfold callAll; kernel_rfl
theorem callAll7 : callAll 7 := by unfold callAll; kernel_rfl
theorem callAll8 : callAll 8 := by unfold callAll; kernel_rfl
theorem callAll9 : callAll 9 := by unfold callAll; kernel_rfl
theorem callAll10 : callAll 10 := by unfold callAll; kernel_rfl

end Go.Proofs.YtolacfnciaimhaaGreatDoor
