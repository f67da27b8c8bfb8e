/- What mean.Run tells of the units of the law MeanCalls: stated. -/
import Derived.Test.YtolacfnciaimhaaGreatDoorLib6
namespace Go.Proofs.YtolacfnciaimhaaGreatDoor
open Go Go.RowKit

def evx (n : List UInt8) : List AV := [.int .i64 2, .int .u32 0, .int .i64 0, .str n, .nils]
def twoP : AV := .fslice 3 [[.str [120], .bool false, .int .i64 0], [.str [121], .bool false, .int .i64 0]]
def exy : AV := .fslice 5 [evx [120], evx [121]]
def callUnits (op : Nat) : AV := .fslice 3 [
  [.str [98], .fslice 1 [[.str [97]]], .fslice 9 [[.str [104], twoP, .bool false, .nils, .int .i64 6, .int .u32 0, .int .i64 0, .str [97, 46, 103], exy]]],
  [.str [97], .nils, .fslice 9 [[.str [103], twoP, .bool false, .nils, .int .i64 4, .int .u32 0, .int .i64 op, .str [], exy],
    [.str [102], twoP, .bool false, .nils, .int .i64 6, .int .u32 0, .int .i64 0, .str [103], .fslice 5 [[.int .i64 6, .int .u32 0, .int .i64 0, .str [103], exy], evx [121]]]]]]
def intOf : Option AV → Int
  | some (.int _ n) => n
  | _ => 0
/-- What an op makes of two numbers. -/
def opw (op : Nat) (a b : Int) : Int := match op with
  | 1 => intOf (aint .add .u32 a b)
  | 2 => intOf (aint .sub .u32 a b)
  | 3 => intOf (aint .mul .u32 a b)
  | 4 => intOf (aint .and .u32 a b)
  | 5 => intOf (aint .or .u32 a b)
  | 6 => intOf (aint .xor .u32 a b)
  | 7 => intOf (ashift .shl .u32 a (intOf (aint .rem .u32 b 32)))
  | 8 => intOf (ashift .shr .u32 a (intOf (aint .rem .u32 b 32)))
  | 9 => if decide (a < b) then 1 else 0
  | _ => if a == b then 1 else 0
def outV (n : Int) : AV := .tuple [.agg [.int .u32 n, .slice 1 []], .nils, .int .i64 0]
def allOK : AV := .tuple [.int .i64 0, .int .i64 (-1), .int .i64 (-1)]
def callAll (op : Nat) : Prop := outOf (run 10 [callUnits op] noHeap) = allOK

end Go.Proofs.YtolacfnciaimhaaGreatDoor
