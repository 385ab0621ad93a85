/- All that is known of calls, for the kernel. -/
import Derived.Test.YtfolofhknhgpiaaGreatDoorB0
import Derived.Test.YtfolofhknhgpiaaGreatDoorE9
set_option linter.unusedVariables false
namespace Go.Proofs.YtfolofhknhgpiaaGreatDoor
open Go
def baseK (P : Program) : Caller := either (memo facts0) (either baseO (base96 P (dcall P tab tfns noBase 100000 60) 100000))
theorem baseK_ok : CallOk Tryz.prog (baseK Tryz.prog) := either_ok facts0_ok (either_ok baseO_ok (base96_ok (call_ok noBase_ok 100000 60) 100000))
end Go.Proofs.YtfolofhknhgpiaaGreatDoor
