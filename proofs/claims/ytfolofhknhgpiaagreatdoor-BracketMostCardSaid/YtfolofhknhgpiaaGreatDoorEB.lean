/- A call without arguments, carried out piece by piece. -/
import Derived.Test.YtfolofhknhgpiaaGreatDoorEB1
import Derived.Test.YtfolofhknhgpiaaGreatDoorEB2
import Derived.Test.YtfolofhknhgpiaaGreatDoorEB3
import Derived.Test.YtfolofhknhgpiaaGreatDoorEB4
import Derived.Test.YtfolofhknhgpiaaGreatDoorEB5
import Derived.Test.YtfolofhknhgpiaaGreatDoorEB6
import Derived.Test.YtfolofhknhgpiaaGreatDoorEB7
import Derived.Test.YtfolofhknhgpiaaGreatDoorEB8
import Derived.KernelRfl
set_option linter.unusedVariables false
set_option maxRecDepth 100000
namespace Go.Proofs.YtfolofhknhgpiaaGreatDoor
open Go

theorem known_gives : ACall Tryz.prog 9 [] AHeap.empty fun e _ => e = .ret (.bool true) := by
  have hc := call_ok (base := (baseK Tryz.prog)) baseK_ok 100000 60
  refine .of_bodyQ (fn := Tryz.f9) (c := bodyOf Tryz.prog 9) (by kernel_rfl) (by kernel_rfl) (by decide) ?_
  show AWq _ (behind 0 (bodyOf Tryz.prog 9)) _ _ _
  refine AWq.step (tab := tab 9) mixed hc (by decide +kernel) (by decide +kernel) known_piece0 ?_
  refine AWq.step (tab := tab 9) mixed hc (by decide +kernel) (by decide +kernel) known_piece1 ?_
  refine AWq.step (tab := tab 9) mixed hc (by decide +kernel) (by decide +kernel) known_piece2 ?_
  refine AWq.step (tab := tab 9) mixed hc (by decide +kernel) (by decide +kernel) known_piece3 ?_
  refine AWq.step (tab := tab 9) mixed hc (by decide +kernel) (by decide +kernel) known_piece4 ?_
  refine AWq.step (tab := tab 9) mixed hc (by decide +kernel) (by decide +kernel) known_piece5 ?_
  refine AWq.step (tab := tab 9) mixed hc (by decide +kernel) (by decide +kernel) known_piece6 ?_
  exact AWq.done (tab := tab 9) mixed hc (by decide +kernel) known_last
end Go.Proofs.YtfolofhknhgpiaaGreatDoor
