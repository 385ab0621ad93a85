/- Keys of the engine's maps: states and results. -/
import Derived.Test.YtihpfgnigpmihaaGreatC4
set_option linter.unusedVariables false
set_option linter.unusedSimpArgs false
set_option maxRecDepth 100000
namespace Go.Proofs.YtihpfgnigpmihaaGreat
open Go

def andO (x : Option Bool) (y : Option Bool) : Option Bool := match x with
  | some true => y
  | some false => some false
  | none => none
def eqI (a b : Int) : Option Bool := some (a == b)
def eqP (a b c d : Int) : Option Bool := andO (eqI a b) (andO (eqI c d) (some true))
def eqG (v w : Spans) : Option Bool :=
  andO (eqP (v 0) (w 0) (v 1) (w 1)) (andO (eqP (v 2) (w 2) (v 3) (w 3)) (andO (eqP (v 4) (w 4) (v 5) (w 5)) (andO (eqP (v 6) (w 6) (v 7) (w 7)) (andO (eqP (v 8) (w 8) (v 9) (w 9))
  (andO (eqP (v 10) (w 10) (v 11) (w 11)) (andO (eqP (v 12) (w 12) (v 13) (w 13)) (andO (eqP (v 14) (w 14) (v 15) (w 15)) (andO (eqP (v 16) (w 16) (v 17) (w 17)) (andO (eqP (v 18) (w 18) (v 19) (w 19)) (some true))))))))))
theorem key_st (s t : St) : keyEq Tryz.prog 79 s.val t.val = andO (eqI (s.node : Int) (t.node : Int)) (andO (eqI (s.done : Int) (t.done : Int)) (andO (eqI (s.pos : Int) (t.pos : Int)) (andO (eqG s.g t.g) (some true)))) := by kernel_rfl
theorem key_res (s t : Res) : keyEq Tryz.prog 56 s.val t.val = andO (eqI (s.stop : Int) (t.stop : Int)) (andO (eqG s.g t.g) (some true)) := by kernel_rfl
theorem fits_st (s : St) : keyFits Tryz.prog 79 s.val = true := by kernel_rfl
theorem fits_res (s : Res) : keyFits Tryz.prog 56 s.val = true := by kernel_rfl
theorem andO_some (a : Bool) (y : Option Bool) : andO (some a) y = if a then y else some false := by cases a <;> rfl
theorem andO_dec {p q : Prop} [Decidable p] [Decidable q] : andO (some (decide p)) (some (decide q)) = some (decide (p ∧ q)) := by
  by_cases hp : p <;> by_cases hq : q <;> simp [andO, hp, hq]
theorem andO_true {p : Prop} [Decidable p] : andO (some (decide p)) (some true) = some (decide p) := by
  by_cases hp : p <;> simp [andO, hp]
theorem eqI_dec (a b : Int) : eqI a b = some (decide (a = b)) := by
  unfold eqI; by_cases h : a = b <;> simp [h]
theorem spans_ext {v w : Spans} (h : (v 0 = w 0 ∧ v 1 = w 1) ∧ (v 2 = w 2 ∧ v 3 = w 3) ∧ (v 4 = w 4 ∧ v 5 = w 5) ∧ (v 6 = w 6 ∧ v 7 = w 7) ∧ (v 8 = w 8 ∧ v 9 = w 9) ∧ (v 10 = w 10 ∧ v 11 = w 11) ∧ (v 12 = w 12 ∧ v 13 = w 13) ∧ (v 14 = w 14 ∧ v 15 = w 15) ∧ (v 16 = w 16 ∧ v 17 = w 17) ∧ (v 18 = w 18 ∧ v 19 = w 19)) : v = w := by
  obtain ⟨⟨h0, h1⟩, ⟨h2, h3⟩, ⟨h4, h5⟩, ⟨h6, h7⟩, ⟨h8, h9⟩, ⟨h10, h11⟩, ⟨h12, h13⟩, ⟨h14, h15⟩, ⟨h16, h17⟩, ⟨h18, h19⟩⟩ := h
  funext i
  match i with
  | ⟨0, _⟩ => exact h0
  | ⟨1, _⟩ => exact h1
  | ⟨2, _⟩ => exact h2
  | ⟨3, _⟩ => exact h3
  | ⟨4, _⟩ => exact h4
  | ⟨5, _⟩ => exact h5
  | ⟨6, _⟩ => exact h6
  | ⟨7, _⟩ => exact h7
  | ⟨8, _⟩ => exact h8
  | ⟨9, _⟩ => exact h9
  | ⟨10, _⟩ => exact h10
  | ⟨11, _⟩ => exact h11
  | ⟨12, _⟩ => exact h12
  | ⟨13, _⟩ => exact h13
  | ⟨14, _⟩ => exact h14
  | ⟨15, _⟩ => exact h15
  | ⟨16, _⟩ => exact h16
  | ⟨17, _⟩ => exact h17
  | ⟨18, _⟩ => exact h18
  | ⟨19, _⟩ => exact h19
  | ⟨n + 20, h⟩ => exact absurd h (by omega)
theorem eqG_dec (v w : Spans) : eqG v w = some (decide (v = w)) := by
  unfold eqG eqP
  simp only [eqI_dec, andO_dec, andO_true]
  congr 1
  refine decide_eq_decide.2 ⟨fun h => spans_ext h, fun h => ?_⟩
  subst h; simp
theorem key_st_dec (s t : St) : keyEq Tryz.prog 79 s.val t.val = some (decide (s = t)) := by
  rw [key_st, eqG_dec]
  simp only [eqI_dec, andO_dec, andO_true, cast_eq]
  congr 1
  refine decide_eq_decide.2 ⟨fun ⟨h1, h2, h3, h4⟩ => ?_, fun h => ?_⟩
  · obtain ⟨a, b, c, d⟩ := s; obtain ⟨a', b', c', d'⟩ := t; simp only at h1 h2 h3 h4; subst h1 h2 h3 h4; rfl
  · subst h; exact ⟨rfl, rfl, rfl, rfl⟩
theorem key_res_dec (s t : Res) : keyEq Tryz.prog 56 s.val t.val = some (decide (s = t)) := by
  rw [key_res, eqG_dec]
  simp only [eqI_dec, andO_dec, andO_true, cast_eq]
  congr 1
  refine decide_eq_decide.2 ⟨fun ⟨h1, h2⟩ => ?_, fun h => ?_⟩
  · obtain ⟨a, b⟩ := s; obtain ⟨a', b'⟩ := t; simp only at h1 h2; subst h1 h2; rfl
  · subst h; exact ⟨rfl, rfl⟩
end Go.Proofs.YtihpfgnigpmihaaGreat
