/- What mean.Run tells of the units of the law MeanOps: run by the machine. -/
import Derived.Test.YtolacfnciaimhaaGreatDoorOpsD
namespace Go.Proofs.YtolacfnciaimhaaGreatDoor
open Go Go.RowKit

theorem ops6 : opsTold 6 := fun a b => by kernel_rfl
theorem ops7 : opsTold 7 := fun a b => by kernel_rfl
theorem ops8 : opsTold 8 := fun a b => by kernel_rfl
theorem ops9 : opsTold 9 := fun a b => by kernel_rfl
theorem ops10 : opsTold 10 := fun a b => by kernel_rfl

end Go.Proofs.YtolacfnciaimhaaGreatDoor
