/- A call without arguments, carried out piece by piece. -/
import Derived.Test.YtfolofhknhgpiaaGreatDoorEB0
import Derived.KernelRfl
set_option linter.unusedVariables false
set_option maxRecDepth 100000
namespace Go.Proofs.YtfolofhknhgpiaaGreatDoor
open Go

theorem known_last : endB Tryz.prog Tryz.f9 (runAt Tryz.prog 9 98 (baseK Tryz.prog) 100000 (behind 7 (bodyOf Tryz.prog 9)) (mkE knownF6) (mkH knownL6)) (.bool true) = true := by kernel_rfl
end Go.Proofs.YtfolofhknhgpiaaGreatDoor
