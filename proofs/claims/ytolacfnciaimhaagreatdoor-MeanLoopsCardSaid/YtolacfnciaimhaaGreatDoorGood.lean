/- What holds of every world that a call meets: the library's table of powers of ten stands. -/
import Derived.Test.YtolacfnciaimhaaGreatDoorProg
import Derived.Lib.LaidTab
import Derived.Lib.ItoaMem
namespace Go.Proofs.YtolacfnciaimhaaGreatDoor
open Go
def SeatGood (w : World) : Prop := Lib.TabIs Tryz.prog w "internal/strconv.uint64pow10" .u64 Lib.pow10Tab
end Go.Proofs.YtolacfnciaimhaaGreatDoor
