/- What mean.Run tells of the units of the law MeanCalls: run by the machine. -/
import Derived.Test.YtolacfnciaimhaaGreatDoorCallsR
namespace Go.Proofs.YtolacfnciaimhaaGreatDoor
open Go Go.RowKit

theorem call6 : callTold 6 := fun x b => by kernel_rfl
theorem call7 : callTold 7 := fun x b => by kernel_rfl
theorem call8 : callTold 8 := fun x b => by kernel_rfl
theorem call9 : callTold 9 := fun x b => by kernel_rfl
theorem call10 : callTold 10 := fun x b => by kernel_rfl

end Go.Proofs.YtolacfnciaimhaaGreatDoor
