/- The law MeanLoops, run by the machine: pairs of bounds. -/
import Derived.Test.YtolacfnciaimhaaGreatDoorLoopsA
set_option linter.unusedVariables false
namespace Go.Proofs.YtolacfnciaimhaaGreatDoor
open Go Go.RowKit

theorem loopsP0_0 : pairSays 0 0 = true := by kernel_rfl
theorem loopsP0_1 : pairSays 0 1 = true := by kernel_rfl
theorem loopsP0_2 : pairSays 0 2 = true := by kernel_rfl
theorem loopsP0_3 : pairSays 0 3 = true := by kernel_rfl
theorem loopsP0_4 : pairSays 0 4 = true := by kernel_rfl
theorem loopsP0_5 : pairSays 0 5 = true := by kernel_rfl
theorem loopsP0_6 : pairSays 0 6 = true := by kernel_rfl
theorem loopsP0_7 : pairSays 0 7 = true := by kernel_rfl
theorem loopsP0_8 : pairSays 0 8 = true := by kernel_rfl
theorem loopsP0_9 : pairSays 0 9 = true := by kernel_rfl
theorem loopsP0_10 : pairSays 0 10 = true := by kernel_rfl
theorem loopsP0_11 : pairSays 0 11 = true := by kernel_rfl
theorem loopsP0_12 : pairSays 0 12 = true := by kernel_rfl
theorem loopsP0_13 : pairSays 0 13 = true := by kernel_rfl
theorem loopsP0_14 : pairSays 0 14 = true := by kernel_rfl
theorem loopsP0_15 : pairSays 0 15 = true := by kernel_rfl
theorem loopsP0_16 : pairSays 0 16 = true := by kernel_rfl
theorem loopsP1_1 : pairSays 1 1 = true := by kernel_rfl
theorem loopsP1_2 : pairSays 1 2 = true := by kernel_rfl
theorem loopsP1_3 : pairSays 1 3 = true := by kernel_rfl
theorem loopsP1_4 : pairSays 1 4 = true := by kernel_rfl
theorem loopsP1_5 : pairSays 1 5 = true := by kernel_rfl
theorem loopsP1_6 : pairSays 1 6 = true := by kernel_rfl
theorem loopsP1_7 : pairSays 1 7 = true := by kernel_rfl
theorem loopsP1_8 : pairSays 1 8 = true := by kernel_rfl
theorem loopsP1_9 : pairSays 1 9 = true := by kernel_rfl
theorem loopsP1_10 : pairSays 1 10 = true := by kernel_rfl
theorem loopsP1_11 : pairSays 1 11 = true := by kernel_rfl
theorem loopsP1_12 : pairSays 1 12 = true := by kernel_rfl
theorem loopsP1_13 : pairSays 1 13 = true := by kernel_rfl
theorem loopsP1_14 : pairSays 1 14 = true := by kernel_rfl
theorem loopsP1_15 : pairSays 1 15 = true := by kernel_rfl
theorem loopsP1_16 : pairSays 1 16 = true := by kernel_rfl
theorem loopsL1 : lessSays 1 = true := by kernel_rfl
theorem loopsP2_2 : pairSays 2 2 = true := by kernel_rfl
theorem loopsP2_3 : pairSays 2 3 = true := by kernel_rfl
theorem loopsP2_4 : pairSays 2 4 = true := by kernel_rfl
theorem loopsP2_5 : pairSays 2 5 = true := by kernel_rfl
theorem loopsP2_6 : pairSays 2 6 = true := by kernel_rfl
theorem loopsP2_7 : pairSays 2 7 = true := by kernel_rfl
theorem loopsP2_8 : pairSays 2 8 = true := by kernel_rfl
theorem loopsP2_9 : pairSays 2 9 = true := by kernel_rfl
theorem loopsP2_10 : pairSays 2 10 = true := by kernel_rfl
theorem loopsP2_11 : pairSays 2 11 = true := by kernel_rfl
theorem loopsP2_12 : pairSays 2 12 = true := by kernel_rfl

end Go.Proofs.YtolacfnciaimhaaGreatDoor
