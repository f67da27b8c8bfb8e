/- What mean.Run tells of the units of the law MeanCalls: run by the machine. -/
import Derived.Test.YtolacfnciaimhaaGreatDoorCallsR
namespace Go.Proofs.YtolacfnciaimhaaGreatDoor
open Go Go.RowKit

theorem call1 : callTold 1 := fun x b => by kernel_rfl
theorem call2 : callTold 2 := fun x b => by kernel_rfl
theorem call3 : callTold 3 := fun x b => by kernel_rfl
theorem call4 : callTold 4 := fun x b => by kernel_rfl
theorem call5 : callTold 5 := fun x b => by kernel_rfl

end Go.Proofs.YtolacfnciaimhaaGreatDoor
