/- What the plain model answers: a letter so many times. -/
import Derived.Test.YtihpfgnigpmihaaGreatD1
set_option linter.unusedVariables false
set_option linter.unusedSimpArgs false
namespace Go.Proofs.YtihpfgnigpmihaaGreat

/-- Stops that fall strictly. -/
def Strict (l : List Res) : Prop := l.Pairwise fun a b => b.stop < a.stop
theorem once_strict : ∀ (l out : List Res), (∀ x ∈ out, ∀ y ∈ l, y.stop < x.stop) → Strict l → once out l = out ++ l
  | [], out, _, _ => by simp [once]
  | x :: l, out, h, hs => by
    have hs' := List.pairwise_cons.1 hs
    have hx : x ∉ out := fun hm => by have := h x hm x (List.mem_cons_self ..); omega
    rw [once, if_neg hx, once_strict l (out ++ [x]) (fun a ha b hb => by
      rcases List.mem_append.1 ha with ha | ha
      · exact h a ha b (List.mem_cons_of_mem _ hb)
      · cases List.mem_singleton.1 ha; exact hs'.1 b hb) hs'.2]
    simp
theorem falls_strict : ∀ (l : List Res), Strict l → Falls l
  | [], _ => trivial
  | x :: l, h => ⟨fun y hy => Nat.le_of_lt ((List.pairwise_cons.1 h).1 y hy), falls_strict l (List.pairwise_cons.1 h).2⟩
theorem orderedD_strict {l : List Res} (h : Strict l) (h1 : ∀ x ∈ l, x.stop < far) (h2 : l.length ≤ most) : orderedD l = some l := by
  unfold orderedD
  rw [once_strict l [] (fun x hx => absurd hx List.not_mem_nil) h, List.nil_append]
  rw [if_pos ⟨Nat.lt_of_le_of_lt h2 (by decide), falls_strict l h, h1, h2⟩]

/-- The stops of a letter that stands d times already, k times more at most. -/
def stops (row : List Int) (c : Int) (lo : Nat) : Nat → Nat → Nat → List Nat
  | 0, d, q => if lo ≤ d then [q] else []
  | k + 1, d, q => (if row[q]? = some c then stops row c lo k (d + 1) (q + 1) else []) ++ (if lo ≤ d then [q] else [])
theorem stops_in (row : List Int) (c : Int) (lo : Nat) : ∀ (k d q x : Nat), x ∈ stops row c lo k d q → q ≤ x ∧ x ≤ q + k ∧ (x ≤ row.length ∨ x = q)
  | 0, d, q, x, h => by
    unfold stops at h
    split at h
    · cases List.mem_singleton.1 h; exact ⟨Nat.le_refl _, Nat.le_refl _, .inr rfl⟩
    · cases h
  | k + 1, d, q, x, h => by
    unfold stops at h
    rcases List.mem_append.1 h with h | h
    · split at h
      · rename_i hc
        obtain ⟨h1, h2, h3⟩ := stops_in row c lo k (d + 1) (q + 1) x h
        have : q < row.length := (List.getElem?_eq_some_iff.1 hc).1
        refine ⟨by omega, by omega, .inl ?_⟩
        rcases h3 with h3 | h3 <;> omega
      · cases h
    · split at h
      · cases List.mem_singleton.1 h; exact ⟨Nat.le_refl _, by omega, .inr rfl⟩
      · cases h
theorem stops_falls (row : List Int) (c : Int) (lo : Nat) : ∀ (k d q : Nat), (stops row c lo k d q).Pairwise fun a b => b < a
  | 0, d, q => by unfold stops; split <;> simp
  | k + 1, d, q => by
    unfold stops
    rw [List.pairwise_append]
    refine ⟨by split; exact stops_falls row c lo k (d + 1) (q + 1); simp, by split <;> simp, fun a ha b hb => ?_⟩
    split at ha
    · have := (stops_in row c lo k _ _ a ha).1
      split at hb
      · cases List.mem_singleton.1 hb; omega
      · cases hb
    · cases ha
theorem stops_len (row : List Int) (c : Int) (lo : Nat) : ∀ (k d q : Nat), (stops row c lo k d q).length ≤ k + 1
  | 0, d, q => by unfold stops; split <;> simp
  | k + 1, d, q => by
    unfold stops
    have := stops_len row c lo k (d + 1) (q + 1)
    rw [List.length_append]
    split <;> split <;> simp <;> omega
/-- How long a letter's row is. -/
def runFrom (row : List Int) (c : Int) (q : Nat) : Nat := ((row.drop q).takeWhile (· == c)).length
theorem run_yes {row : List Int} {c : Int} {q : Nat} (h : row[q]? = some c) : runFrom row c q = runFrom row c (q + 1) + 1 := by
  obtain ⟨hq, hc⟩ := List.getElem?_eq_some_iff.1 h
  unfold runFrom
  rw [List.drop_eq_getElem_cons hq, List.takeWhile_cons, hc]
  simp
theorem run_no {row : List Int} {c : Int} {q : Nat} (h : row[q]? ≠ some c) : runFrom row c q = 0 := by
  unfold runFrom
  rcases Nat.lt_or_ge q row.length with hq | hq
  · rw [List.drop_eq_getElem_cons hq, List.takeWhile_cons]
    have : ¬ (row[q] == c) = true := fun e => h (by rw [List.getElem?_eq_getElem hq]; simpa using e)
    rw [if_neg this]; rfl
  · rw [List.drop_eq_nil_of_le hq]; rfl
/-- The first of the stops. -/
theorem stops_head (row : List Int) (c : Int) (lo : Nat) : ∀ (k d q : Nat), if lo ≤ d + min (runFrom row c q) k then ∃ l, stops row c lo k d q = (q + min (runFrom row c q) k) :: l else stops row c lo k d q = []
  | 0, d, q => by
    simp only [Nat.min_zero, Nat.add_zero, stops]
    split
    · exact ⟨[], rfl⟩
    · rfl
  | k + 1, d, q => by
    have ih := stops_head row c lo k (d + 1) (q + 1)
    by_cases hc : row[q]? = some c
    · have hr := run_yes hc
      have hm : min (runFrom row c q) (k + 1) = min (runFrom row c (q + 1)) k + 1 := by omega
      rw [stops, if_pos hc, hm]
      split
      · rename_i h1
        rw [if_pos (by omega)] at ih
        obtain ⟨l, hl⟩ := ih
        exact ⟨l ++ (if lo ≤ d then [q] else []), by rw [hl, List.cons_append]; congr 1; omega⟩
      · rename_i h1
        rw [if_neg (by omega)] at ih
        rw [ih, if_neg (by omega)]; rfl
    · have hr := run_no hc
      rw [stops, if_neg hc, hr, Nat.zero_min, List.nil_append, Nat.add_zero, Nat.add_zero]
      split
      · exact ⟨[], rfl⟩
      · rfl

def resOf (g : Spans) (l : List Nat) : List Res := l.map fun n => ⟨n, g⟩
theorem resOf_strict (g : Spans) {l : List Nat} (h : l.Pairwise fun a b => b < a) : Strict (resOf g l) := List.pairwise_map.2 h
theorem orderedD_stops {row : List Int} {c : Int} {lo k d q : Nat} (g : Spans) (hl : k + 1 ≤ most) (hq : q + k < far) : orderedD (resOf g (stops row c lo k d q)) = some (resOf g (stops row c lo k d q)) := by
  refine orderedD_strict (resOf_strict g (stops_falls row c lo k d q)) (fun x hx => ?_) ?_
  · obtain ⟨n, hn, rfl⟩ := List.mem_map.1 hx
    have := (stops_in row c lo k d q n hn).2.1
    show n < far; omega
  · unfold resOf; rw [List.length_map]; exact Nat.le_trans (stops_len row c lo k d q) hl

/-- A letter, from so many times to so many. -/
theorem den_times {ns : List Pn} {row : List Int} {i : Nat} {g : Spans} {nd n0 : Pn} {y : Nat} (hi : ns[i]? = some nd) (hk : nd.kind = 10) (hkids : nd.kids = [0]) (hhi : nd.hi = (y : Int)) (h0 : ns[0]? = some n0) (k0 : n0.kind = 1) (hy : y + 1 ≤ most) :
    ∀ (k d q : Nat), d + k = y → q + k < far → den ns row (k + 1 + 1) ⟨i, d, q, g⟩ = some (resOf g (stops row n0.cell nd.lo k d q)) := by
  have hmost : most < far := by decide
  intro k
  induction k with
  | zero =>
    intro d q hd hq
    refine den_mk (by show d < far; omega) (by show q < far; omega) ?_ (orderedD_stops g (by omega) hq)
    unfold askD
    simp only [hi, hk]
    show timesD _ nd ⟨i, d, q, g⟩ = _
    unfold timesD
    rw [if_neg (by rw [hhi]; simp only; omega), bindO]
    unfold stops resOf
    by_cases h : nd.lo ≤ d
    · rw [if_pos h, if_pos h]; rfl
    · rw [if_neg h, if_neg h]; rfl
  | succ k ih =>
    intro d q hd hq
    refine den_mk (by show d < far; omega) (by show q < far; omega) ?_ (orderedD_stops g (by omega) (by omega))
    unfold askD
    simp only [hi, hk]
    show timesD _ nd ⟨i, d, q, g⟩ = _
    unfold timesD
    rw [if_pos (by rw [hhi]; right; simp only; omega)]
    simp only [hkids]
    rw [den_cell h0 k0 (by omega) (k + 1), bindO]
    have hnext : nextDone nd d = d + 1 := by unfold nextDone; rw [if_neg (by omega)]
    rw [join_single (l := resOf g (stops row n0.cell nd.lo k (d + 1) (q + 1))) (fun _ => by
      rw [if_neg (by simp only; omega)]
      show den ns row (k + 1 + 1) ⟨i, nextDone nd d, q + 1, g⟩ = _
      rw [hnext]; exact ih (d + 1) (q + 1) (by omega) (by omega)), bindO]
    show some (if nd.lo ≤ d then _ else _) = _
    rw [stops]
    unfold resOf
    by_cases hc : row[q]? = some n0.cell
    · by_cases hl : nd.lo ≤ d
      · rw [if_pos hl, if_pos hl, if_pos hc, if_pos hc, List.map_append]; rfl
      · rw [if_neg hl, if_neg hl, if_pos hc, if_pos hc, List.append_nil]
    · by_cases hl : nd.lo ≤ d
      · rw [if_pos hl, if_pos hl, if_neg hc, if_neg hc]; rfl
      · rw [if_neg hl, if_neg hl, if_neg hc, if_neg hc]; rfl
end Go.Proofs.YtihpfgnigpmihaaGreat
