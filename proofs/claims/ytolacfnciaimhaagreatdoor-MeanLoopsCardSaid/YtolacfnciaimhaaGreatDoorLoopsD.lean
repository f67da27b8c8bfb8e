/- The law MeanLoops, run by the machine: pairs of bounds. -/
import Derived.Test.YtolacfnciaimhaaGreatDoorLoopsA
set_option linter.unusedVariables false
namespace Go.Proofs.YtolacfnciaimhaaGreatDoor
open Go Go.RowKit

theorem loopsP6_9 : pairSays 6 9 = true := by kernel_rfl
theorem loopsP6_10 : pairSays 6 10 = true := by kernel_rfl
theorem loopsP6_11 : pairSays 6 11 = true := by kernel_rfl
theorem loopsP6_12 : pairSays 6 12 = true := by kernel_rfl
theorem loopsP6_13 : pairSays 6 13 = true := by kernel_rfl
theorem loopsP6_14 : pairSays 6 14 = true := by kernel_rfl
theorem loopsP6_15 : pairSays 6 15 = true := by kernel_rfl
theorem loopsP6_16 : pairSays 6 16 = true := by kernel_rfl
theorem loopsL6 : lessSays 6 = true := by kernel_rfl
theorem loopsP7_7 : pairSays 7 7 = true := by kernel_rfl
theorem loopsP7_8 : pairSays 7 8 = true := by kernel_rfl
theorem loopsP7_9 : pairSays 7 9 = true := by kernel_rfl
theorem loopsP7_10 : pairSays 7 10 = true := by kernel_rfl
theorem loopsP7_11 : pairSays 7 11 = true := by kernel_rfl
theorem loopsP7_12 : pairSays 7 12 = true := by kernel_rfl
theorem loopsP7_13 : pairSays 7 13 = true := by kernel_rfl
theorem loopsP7_14 : pairSays 7 14 = true := by kernel_rfl
theorem loopsP7_15 : pairSays 7 15 = true := by kernel_rfl
theorem loopsP7_16 : pairSays 7 16 = true := by kernel_rfl
theorem loopsL7 : lessSays 7 = true := by kernel_rfl
theorem loopsP8_8 : pairSays 8 8 = true := by kernel_rfl
theorem loopsP8_9 : pairSays 8 9 = true := by kernel_rfl
theorem loopsP8_10 : pairSays 8 10 = true := by kernel_rfl
theorem loopsP8_11 : pairSays 8 11 = true := by kernel_rfl
theorem loopsP8_12 : pairSays 8 12 = true := by kernel_rfl
theorem loopsP8_13 : pairSays 8 13 = true := by kernel_rfl
theorem loopsP8_14 : pairSays 8 14 = true := by kernel_rfl
theorem loopsP8_15 : pairSays 8 15 = true := by kernel_rfl
theorem loopsP8_16 : pairSays 8 16 = true := by kernel_rfl
theorem loopsL8 : lessSays 8 = true := by kernel_rfl
theorem loopsP9_9 : pairSays 9 9 = true := by kernel_rfl
theorem loopsP9_10 : pairSays 9 10 = true := by kernel_rfl
theorem loopsP9_11 : pairSays 9 11 = true := by kernel_rfl
theorem loopsP9_12 : pairSays 9 12 = true := by kernel_rfl
theorem loopsP9_13 : pairSays 9 13 = true := by kernel_rfl
theorem loopsP9_14 : pairSays 9 14 = true := by kernel_rfl
theorem loopsP9_15 : pairSays 9 15 = true := by kernel_rfl
theorem loopsP9_16 : pairSays 9 16 = true := by kernel_rfl
theorem loopsL9 : lessSays 9 = true := by kernel_rfl
theorem loopsP10_10 : pairSays 10 10 = true := by kernel_rfl
theorem loopsP10_11 : pairSays 10 11 = true := by kernel_rfl
theorem loopsP10_12 : pairSays 10 12 = true := by kernel_rfl
theorem loopsP10_13 : pairSays 10 13 = true := by kernel_rfl
theorem loopsP10_14 : pairSays 10 14 = true := by kernel_rfl
theorem loopsP10_15 : pairSays 10 15 = true := by kernel_rfl
theorem loopsP10_16 : pairSays 10 16 = true := by kernel_rfl
theorem loopsL10 : lessSays 10 = true := by kernel_rfl
theorem loopsP11_11 : pairSays 11 11 = true := by kernel_rfl
theorem loopsP11_12 : pairSays 11 12 = true := by kernel_rfl
theorem loopsP11_13 : pairSays 11 13 = true := by kernel_rfl
theorem loopsP11_14 : pairSays 11 14 = true := by kernel_rfl
theorem loopsP11_15 : pairSays 11 15 = true := by kernel_rfl
theorem loopsP11_16 : pairSays 11 16 = true := by kernel_rfl
theorem loopsL11 : lessSays 11 = true := by kernel_rfl
theorem loopsP12_12 : pairSays 12 12 = true := by kernel_rfl
theorem loopsP12_13 : pairSays 12 13 = true := by kernel_rfl
theorem loopsP12_14 : pairSays 12 14 = true := by kernel_rfl
theorem loopsP12_15 : pairSays 12 15 = true := by kernel_rfl
theorem loopsP12_16 : pairSays 12 16 = true := by kernel_rfl
theorem loopsL12 : lessSays 12 = true := by kernel_rfl
theorem loopsP13_13 : pairSays 13 13 = true := by kernel_rfl
theorem loopsP13_14 : pairSays 13 14 = true := by kernel_rfl
theorem loopsP13_15 : pairSays 13 15 = true := by kernel_rfl
theorem loopsP13_16 : pairSays 13 16 = true := by kernel_rfl
theorem loopsL13 : lessSays 13 = true := by kernel_rfl
theorem loopsP14_14 : pairSays 14 14 = true := by kernel_rfl
theorem loopsP14_15 : pairSays 14 15 = true := by kernel_rfl
theorem loopsP14_16 : pairSays 14 16 = true := by kernel_rfl
theorem loopsL14 : lessSays 14 = true := by kernel_rfl
theorem loopsP15_15 : pairSays 15 15 = true := by kernel_rfl
theorem loopsP15_16 : pairSays 15 16 = true := by kernel_rfl
theorem loopsL15 : lessSays 15 = true := by kernel_rfl
theorem loopsP16_16 : pairSays 16 16 = true := by kernel_rfl
theorem loopsL16 : lessSays 16 = true := by kernel_rfl
theorem loopsWide : saysTrue (run7 5 [.isym .i64 1 17 64, .isym .i64 0 0 16, wordN] noHeap) = true := by kernel_rfl
theorem loopsOut1 : saysTrue (run7 5 [.irng .i64 (-9223372036854775808) (-1), .irng .i64 (-9223372036854775808) 9223372036854775807, wordN] noHeap) = true := by kernel_rfl
theorem loopsOut2 : saysTrue (run7 5 [.irng .i64 65 9223372036854775807, .irng .i64 (-9223372036854775808) 9223372036854775807, wordN] noHeap) = true := by kernel_rfl
theorem loopsOut3 : saysTrue (run7 5 [.irng .i64 0 64, .irng .i64 (-9223372036854775808) (-1), wordN] noHeap) = true := by kernel_rfl
theorem loopsOut4 : saysTrue (run7 5 [.irng .i64 0 64, .irng .i64 17 9223372036854775807, wordN] noHeap) = true := by kernel_rfl

end Go.Proofs.YtolacfnciaimhaaGreatDoor
