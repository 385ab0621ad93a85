/- A call without arguments, carried out piece by piece. -/
import Derived.Test.YtfolofhknhgpiaaGreatDoorEB0
import Derived.KernelRfl
set_option linter.unusedVariables false
set_option maxRecDepth 100000
namespace Go.Proofs.YtfolofhknhgpiaaGreatDoor
open Go

theorem known_piece0 : cutB (runAt Tryz.prog 9 98 (baseK Tryz.prog) 100000 (piece 0 (bodyOf Tryz.prog 9)) .nil AHeap.empty) [] knownF0 knownL0 = true := by kernel_rfl
end Go.Proofs.YtfolofhknhgpiaaGreatDoor
