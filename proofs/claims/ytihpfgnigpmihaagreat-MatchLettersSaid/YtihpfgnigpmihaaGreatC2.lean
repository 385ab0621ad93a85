/- bracket.Alike without folding; match.one. -/
import Derived.Test.YtihpfgnigpmihaaGreatC1
set_option linter.unusedVariables false
set_option linter.unusedSimpArgs false
set_option maxRecDepth 100000
namespace Go.Proofs.YtihpfgnigpmihaaGreat
open Go

theorem alike_spec (a b : Int) (B : AHeap) : ACall Tryz.prog 50 [.int .i32 a, .int .i32 b, .pointer none] B fun e B' => e = .ret (.bool (decide (a = b))) ∧ B' = B := by
  refine ACall.walk (fn := Tryz.f50) (c := bodyOf Tryz.prog 50) (by kernel_rfl) (by kernel_rfl) (by kernel_rfl) ?_
  refine AWp.seq' (by kernel_rfl) (AWp.region' (by kernel_rfl) ?_)
  refine AOps.run (n := 28) [] [0] [] (cs := []) (by kernel_rfl) (by kernel_rfl) (by kernel_rfl) (by intro x hx; cases hx) ?_
  show AWp _ _ _ _ _
  refine AWp.seq' (by kernel_rfl) (AWp.region' (by kernel_rfl) ?_)
  by_cases h : a = b
  · refine AOps.run (n := 28) [(2, .val (.bool true))] (List.range 22) [] (cs := [.some (some (.bool (decide (a = b)))) (.bool true)]) (by kernel_rfl) (by kernel_rfl) (by kernel_rfl) ?_ ?_
    · intro x hx
      simp only [List.mem_cons, List.not_mem_nil, or_false] at hx
      subst hx
      show some _ = some _
      rw [decide_eq_true h]
    show AWp _ _ _ _ _
    refine AWp.view [(6, .bool true)] (by kernel_rfl) ?_
    exact AWp.ret' (by kernel_rfl) ⟨[.bool true], by kernel_rfl, by rw [decide_eq_true h]; rfl, rfl⟩
  · refine AOps.run (n := 28) [(2, .val (.bool false))] (List.range 22) [] (cs := [.some (some (.bool (decide (a = b)))) (.bool false)]) (by kernel_rfl) (by kernel_rfl) (by kernel_rfl) ?_ ?_
    · intro x hx
      simp only [List.mem_cons, List.not_mem_nil, or_false] at hx
      subst hx
      show some _ = some _
      rw [decide_eq_false h]
    show AWp _ _ _ _ _
    refine AWp.view [(6, .bool false)] (by kernel_rfl) ?_
    exact AWp.ret' (by kernel_rfl) ⟨[.bool false], by kernel_rfl, by rw [decide_eq_false h]; rfl, rfl⟩
end Go.Proofs.YtihpfgnigpmihaaGreat
