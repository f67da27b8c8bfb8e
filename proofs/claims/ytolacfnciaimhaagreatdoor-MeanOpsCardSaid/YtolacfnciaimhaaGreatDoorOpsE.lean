/- What mean.Run tells of the units of the law MeanOps: run by the machine. -/
import Derived.Test.YtolacfnciaimhaaGreatDoorOpsD
namespace Go.Proofs.YtolacfnciaimhaaGreatDoor
open Go Go.RowKit

theorem ops1 : opsTold 1 := fun a b => by kernel_rfl
theorem ops2 : opsTold 2 := fun a b => by kernel_rfl
theorem ops3 : opsTold 3 := fun a b => by kernel_rfl
theorem ops4 : opsTold 4 := fun a b => by kernel_rfl
theorem ops5 : opsTold 5 := fun a b => by kernel_rfl

end Go.Proofs.YtolacfnciaimhaaGreatDoor
