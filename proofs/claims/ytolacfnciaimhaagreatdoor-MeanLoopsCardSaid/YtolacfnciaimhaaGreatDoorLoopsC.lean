/- The law MeanLoops, run by the machine: pairs of bounds. -/
import Derived.Test.YtolacfnciaimhaaGreatDoorLoopsA
set_option linter.unusedVariables false
namespace Go.Proofs.YtolacfnciaimhaaGreatDoor
open Go Go.RowKit

theorem loopsP2_13 : pairSays 2 13 = true := by kernel_rfl
theorem loopsP2_14 : pairSays 2 14 = true := by kernel_rfl
theorem loopsP2_15 : pairSays 2 15 = true := by kernel_rfl
theorem loopsP2_16 : pairSays 2 16 = true := by kernel_rfl
theorem loopsL2 : lessSays 2 = true := by kernel_rfl
theorem loopsP3_3 : pairSays 3 3 = true := by kernel_rfl
theorem loopsP3_4 : pairSays 3 4 = true := by kernel_rfl
theorem loopsP3_5 : pairSays 3 5 = true := by kernel_rfl
theorem loopsP3_6 : pairSays 3 6 = true := by kernel_rfl
theorem loopsP3_7 : pairSays 3 7 = true := by kernel_rfl
theorem loopsP3_8 : pairSays 3 8 = true := by kernel_rfl
theorem loopsP3_9 : pairSays 3 9 = true := by kernel_rfl
theorem loopsP3_10 : pairSays 3 10 = true := by kernel_rfl
theorem loopsP3_11 : pairSays 3 11 = true := by kernel_rfl
theorem loopsP3_12 : pairSays 3 12 = true := by kernel_rfl
theorem loopsP3_13 : pairSays 3 13 = true := by kernel_rfl
theorem loopsP3_14 : pairSays 3 14 = true := by kernel_rfl
theorem loopsP3_15 : pairSays 3 15 = true := by kernel_rfl
theorem loopsP3_16 : pairSays 3 16 = true := by kernel_rfl
theorem loopsL3 : lessSays 3 = true := by kernel_rfl
theorem loopsP4_4 : pairSays 4 4 = true := by kernel_rfl
theorem loopsP4_5 : pairSays 4 5 = true := by kernel_rfl
theorem loopsP4_6 : pairSays 4 6 = true := by kernel_rfl
theorem loopsP4_7 : pairSays 4 7 = true := by kernel_rfl
theorem loopsP4_8 : pairSays 4 8 = true := by kernel_rfl
theorem loopsP4_9 : pairSays 4 9 = true := by kernel_rfl
theorem loopsP4_10 : pairSays 4 10 = true := by kernel_rfl
theorem loopsP4_11 : pairSays 4 11 = true := by kernel_rfl
theorem loopsP4_12 : pairSays 4 12 = true := by kernel_rfl
theorem loopsP4_13 : pairSays 4 13 = true := by kernel_rfl
theorem loopsP4_14 : pairSays 4 14 = true := by kernel_rfl
theorem loopsP4_15 : pairSays 4 15 = true := by kernel_rfl
theorem loopsP4_16 : pairSays 4 16 = true := by kernel_rfl
theorem loopsL4 : lessSays 4 = true := by kernel_rfl
theorem loopsP5_5 : pairSays 5 5 = true := by kernel_rfl
theorem loopsP5_6 : pairSays 5 6 = true := by kernel_rfl
theorem loopsP5_7 : pairSays 5 7 = true := by kernel_rfl
theorem loopsP5_8 : pairSays 5 8 = true := by kernel_rfl
theorem loopsP5_9 : pairSays 5 9 = true := by kernel_rfl
theorem loopsP5_10 : pairSays 5 10 = true := by kernel_rfl
theorem loopsP5_11 : pairSays 5 11 = true := by kernel_rfl
theorem loopsP5_12 : pairSays 5 12 = true := by kernel_rfl
theorem loopsP5_13 : pairSays 5 13 = true := by kernel_rfl
theorem loopsP5_14 : pairSays 5 14 = true := by kernel_rfl
theorem loopsP5_15 : pairSays 5 15 = true := by kernel_rfl
theorem loopsP5_16 : pairSays 5 16 = true := by kernel_rfl
theorem loopsL5 : lessSays 5 = true := by kernel_rfl
theorem loopsP6_6 : pairSays 6 6 = true := by kernel_rfl
theorem loopsP6_7 : pairSays 6 7 = true := by kernel_rfl
theorem loopsP6_8 : pairSays 6 8 = true := by kernel_rfl

end Go.Proofs.YtolacfnciaimhaaGreatDoor
