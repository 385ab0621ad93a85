/- Calls of arguments without addresses, carried out. -/
import Derived.Test.YtihpfgnigpmihaaGreatA18
set_option linter.unusedVariables false
set_option maxRecDepth 100000
namespace Go.Proofs.YtihpfgnigpmihaaGreat
open Go

def plainFact : Fact :=
(18, [], .agg #[.slice (some ⟨0, 0, none⟩) 12 4611686018427387906, .slice (some ⟨1, 0, none⟩) 26 4611686018427387906, .slice (some ⟨2, 0, none⟩) 26 4611686018427387906, .slice (some ⟨3, 0, none⟩) 128 4611686018427387907],
  [none,
   none,
   none,
   none])
theorem plainFact_gives : Gives Tryz.prog plainFact.1 plainFact.2.1 plainFact.2.2.1 (mkH plainFact.2.2.2) :=
  .of_dcall (call_ok (base := noBase) noBase_ok 100000 60) (ids := [85, 187, 189, 573]) (by decide +kernel) (by decide +kernel)

def facts0 : List Fact := [plainFact]
theorem facts0_ok : CallOk Tryz.prog (memo facts0) := memo_ok _ (by
  intro e he
  simp only [facts0, List.mem_cons, List.not_mem_nil, or_false] at he
  subst he
  exact plainFact_gives)
end Go.Proofs.YtihpfgnigpmihaaGreat
