/- The law CheckLoop, run by the machine: its three numbers are not known, but for their order. -/
import Derived.Test.YtkiahdaicpikbaaDoorLoopA
set_option linter.unusedVariables false
namespace Go.Proofs.YtkiahdaicpikbaaDoor
open Go Go.RowKit

def loopArgs (f t l : Nat) : List AV := [.isym .i64 f 0 64, .isym .i64 t 0 64, .isym .i64 l 1 16]
def loopSays (args : List AV) : Prop := saysTrue (run4 6 args noHeap) = true
theorem loop000 : loopSays (loopArgs 0 0 0) := by unfold loopSays; kernel_rfl
theorem loop001 : loopSays (loopArgs 0 0 1) := by unfold loopSays; kernel_rfl
theorem loop010 : loopSays (loopArgs 0 1 0) := by unfold loopSays; kernel_rfl
theorem loop011 : loopSays (loopArgs 0 1 1) := by unfold loopSays; kernel_rfl
theorem loop012 : loopSays (loopArgs 0 1 2) := by unfold loopSays; kernel_rfl
theorem loop021 : loopSays (loopArgs 0 2 1) := by unfold loopSays; kernel_rfl
theorem loop100 : loopSays (loopArgs 1 0 0) := by unfold loopSays; kernel_rfl
theorem loop101 : loopSays (loopArgs 1 0 1) := by unfold loopSays; kernel_rfl
theorem loop102 : loopSays (loopArgs 1 0 2) := by unfold loopSays; kernel_rfl
theorem loop110 : loopSays (loopArgs 1 1 0) := by unfold loopSays; kernel_rfl
theorem loop120 : loopSays (loopArgs 1 2 0) := by unfold loopSays; kernel_rfl
theorem loop201 : loopSays (loopArgs 2 0 1) := by unfold loopSays; kernel_rfl
theorem loop210 : loopSays (loopArgs 2 1 0) := by unfold loopSays; kernel_rfl
theorem loop_fl : loopSays [.irng .i64 (-9223372036854775808) (-1), .irng .i64 (-9223372036854775808) 9223372036854775807, .irng .i64 (-9223372036854775808) 9223372036854775807] := by unfold loopSays; kernel_rfl
theorem loop_fm : loopSays [.irng .i64 65 9223372036854775807, .irng .i64 (-9223372036854775808) 9223372036854775807, .irng .i64 (-9223372036854775808) 9223372036854775807] := by unfold loopSays; kernel_rfl
theorem loop_tl : loopSays [.irng .i64 0 64, .irng .i64 (-9223372036854775808) (-1), .irng .i64 (-9223372036854775808) 9223372036854775807] := by unfold loopSays; kernel_rfl
theorem loop_tm : loopSays [.irng .i64 0 64, .irng .i64 65 9223372036854775807, .irng .i64 (-9223372036854775808) 9223372036854775807] := by unfold loopSays; kernel_rfl
theorem loop_ll : loopSays [.irng .i64 0 64, .irng .i64 0 64, .irng .i64 (-9223372036854775808) 0] := by unfold loopSays; kernel_rfl
theorem loop_lm : loopSays [.irng .i64 0 64, .irng .i64 0 64, .irng .i64 17 9223372036854775807] := by unfold loopSays; kernel_rfl

end Go.Proofs.YtkiahdaicpikbaaDoor
