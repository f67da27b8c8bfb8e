/- What mean.Run tells of the units of the law MeanOps: stated. -/
import Derived.Test.YtolacfnciaimhaaGreatDoorLib6
import Derived.Test.YtolacfnciaimhaaGreatDoorEv4
namespace Go.Proofs.YtolacfnciaimhaaGreatDoor
open Go Go.RowKit

def evx (n : List UInt8) : List AV := [.int .i64 2, .int .u32 0, .int .i64 0, .str n, .nils]
def twoP : AV := .slice 3 [[.str [120], .bool false, .int .i64 0], [.str [121], .bool false, .int .i64 0]]
def opsUnits (op : Nat) : AV := .slice 3 [[.str [97], .nils, .slice 9 [
  [.str [102], twoP, .bool false, .nils, .int .i64 4, .int .u32 0, .int .i64 op, .str [], .slice 5 [evx [120], evx [121]]],
  [.str [103], twoP, .bool false, .nils, .int .i64 5, .int .u32 0, .int .i64 0, .str [], .slice 5 [evx [120], evx [121], [.int .i64 1, .int .u32 77, .int .i64 0, .str [], .nils]]]]]]
noncomputable def opsRun (op : Nat) (f : UInt8) (a b : Nat) : CR := run 11 [opsUnits op, .str [97, 46, f], .slice 1 [[.int .u32 (.ofNat a)], [.int .u32 (.ofNat b)]]] noHeap
def outOf : CR → AV
  | some (.ret v, _) => v
  | _ => .undef
def intOf : Option AV → Int
  | some (.int _ n) => n
  | _ => 0
/-- What an op makes of two numbers. -/
def opw (op : Nat) (a b : Int) : Int := match op with
  | 1 => intOf (aint .add .u32 a b)
  | 2 => intOf (aint .sub .u32 a b)
  | 3 => intOf (aint .mul .u32 a b)
  | 4 => intOf (aint .and .u32 a b)
  | 5 => intOf (aint .or .u32 a b)
  | 6 => intOf (aint .xor .u32 a b)
  | 7 => intOf (ashift .shl .u32 a (intOf (aint .rem .u32 b 32)))
  | 8 => intOf (ashift .shr .u32 a (intOf (aint .rem .u32 b 32)))
  | 9 => if decide (a < b) then 1 else 0
  | _ => if a == b then 1 else 0
def outV (n : Int) : AV := .tuple [.agg [.int .u32 n, .slice 1 []], .nils, .int .i64 0]
def selv (a b : Int) : Int := if a = 0 then 77 else b
def opsTold (op : Nat) : Prop := ∀ a b : Nat, (outOf (opsRun op 102 a b), outOf (opsRun op 103 a b)) = (outV (opw op (.ofNat a) (.ofNat b)), outV (selv (.ofNat a) (.ofNat b)))

end Go.Proofs.YtolacfnciaimhaaGreatDoor
