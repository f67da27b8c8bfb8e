/- awake tells true: run by the machine. -/
import Derived.Test.YtpnakjlionifkaaDoorLib1
namespace Go.Proofs.YtpnakjlionifkaaDoor
open Go Go.RowKit

theorem awake_runs : saysTrue (run 8 [] noHeap) = true := by kernel_rfl
theorem awake_call (h : AHeap) : ACall Tryd.prog 8 [] h fun r h' => r = .ret (.bool true) ∧ h' = h := saysTrue_ok run_ok rfl awake_runs h

end Go.Proofs.YtpnakjlionifkaaDoor
