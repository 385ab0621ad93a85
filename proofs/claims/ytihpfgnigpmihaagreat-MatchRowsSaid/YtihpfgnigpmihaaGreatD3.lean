/- What the plain model answers: a letter any number of times. -/
import Derived.Test.YtihpfgnigpmihaaGreatD2
set_option linter.unusedVariables false
set_option linter.unusedSimpArgs false
namespace Go.Proofs.YtihpfgnigpmihaaGreat

theorem stops_any (row : List Int) (c : Int) : ∀ (k d e q : Nat), stops row c 0 k d q = stops row c 0 k e q
  | 0, d, e, q => by simp [stops]
  | k + 1, d, e, q => by simp only [stops, Nat.zero_le, if_true]; rw [stops_any row c k (d + 1) (e + 1) (q + 1)]
/-- A letter, any number of times. -/
theorem den_star {ns : List Pn} {row : List Int} {i j : Nat} {g : Spans} {nd n0 : Pn} (hi : ns[i]? = some nd) (hk : nd.kind = 10) (hkids : nd.kids = [j]) (hlo : nd.lo = 0) (hhi : nd.hi < 0) (h0 : ns[j]? = some n0) (k0 : n0.kind = 1) (hrf : row.length + 1 < far) :
    ∀ (k q : Nat), row.length - q ≤ k → k + 1 ≤ most → q + k < far → q ≤ row.length → den ns row (k + 1 + 1) ⟨i, 0, q, g⟩ = some (resOf g (stops row n0.cell 0 k 0 q)) := by
  intro k
  have hnext : nextDone nd 0 = 0 := by unfold nextDone; rw [if_pos hhi, hlo]; rfl
  induction k with
  | zero =>
    intro q hq hm hf hf1
    refine den_mk far_pos (by show q < far; omega) ?_ (orderedD_stops g hm hf)
    unfold askD
    simp only [hi, hk]
    show timesD _ nd ⟨i, 0, q, g⟩ = _
    unfold timesD
    rw [if_pos (.inl hhi)]
    simp only [hkids]
    rw [den_cell h0 k0 (by omega) 0, bindO]
    have hnone : ¬ row[q]? = some n0.cell := by rw [List.getElem?_eq_none (by omega)]; simp
    rw [if_neg hnone]
    show some (if nd.lo ≤ 0 then _ else _) = _
    rw [hlo, if_pos (Nat.le_refl 0)]
    unfold stops resOf
    rw [if_pos (Nat.zero_le _)]; rfl
  | succ k ih =>
    intro q hq hm hf hf1
    refine den_mk far_pos (by show q < far; omega) ?_ (orderedD_stops g hm hf)
    unfold askD
    simp only [hi, hk]
    show timesD _ nd ⟨i, 0, q, g⟩ = _
    unfold timesD
    rw [if_pos (.inl hhi)]
    simp only [hkids]
    rw [den_cell h0 k0 (by omega) (k + 1), bindO]
    by_cases hc : row[q]? = some n0.cell
    · have hql : q < row.length := (List.getElem?_eq_some_iff.1 hc).1
      rw [join_single (l := resOf g (stops row n0.cell 0 k 0 (q + 1))) (fun _ => by
        rw [if_neg (by simp only; omega)]
        show den ns row (k + 1 + 1) ⟨i, nextDone nd 0, q + 1, g⟩ = _
        rw [hnext]
        exact ih (q + 1) (by omega) (by omega) (by omega) hql), bindO]
      show some (if nd.lo ≤ 0 then _ else _) = _
      rw [hlo, if_pos (Nat.le_refl 0), if_pos hc, stops, if_pos hc, if_pos (Nat.zero_le _), stops_any row n0.cell k 1 0 (q + 1)]
      unfold resOf
      rw [List.map_append]; rfl
    · rw [if_neg hc]
      show some (if nd.lo ≤ 0 then _ else _) = _
      rw [hlo, if_pos (Nat.le_refl 0), stops, if_neg hc, if_pos (Nat.zero_le _)]
      rfl
theorem join_filter (L : Nat) : ∀ (ys : List Res), joinO (fun y => some (if y.stop = L then [y] else [])) ys = some (ys.filter fun y => decide (y.stop = L))
  | [] => rfl
  | y :: ys => by
    rw [joinO, bindO, join_filter L ys, bindO, List.filter_cons]
    by_cases h : y.stop = L
    · simp [h]
    · simp [h]
/-- Of stops that reach the end there is one at most. -/
theorem filter_end (row : List Int) (c : Int) (g : Spans) : ∀ (k q : Nat), row.length - q ≤ k → q ≤ row.length →
    (resOf g (stops row c 0 k 0 q)).filter (fun y => decide (y.stop = row.length)) = if q + runFrom row c q = row.length then [⟨row.length, g⟩] else []
  | 0, q, h, hq => by
    have he : q = row.length := by omega
    have hr : runFrom row c q = 0 := run_no (by rw [List.getElem?_eq_none (by omega)]; simp)
    rw [hr, if_pos (by omega)]
    simp [stops, resOf, he]
  | k + 1, q, h, hq => by
    rw [stops]
    simp only [Nat.zero_le, if_true]
    unfold resOf
    rw [List.map_append, List.filter_append]
    by_cases hc : row[q]? = some c
    · have hql : q < row.length := (List.getElem?_eq_some_iff.1 hc).1
      have ih := filter_end row c g k (q + 1) (by omega) hql
      rw [stops_any row c k 0 1 (q + 1)] at ih
      unfold resOf at ih
      rw [if_pos hc, Nat.zero_add, ih, run_yes hc]
      have h2 : ([(⟨q, g⟩ : Res)]).filter (fun y => decide (y.stop = row.length)) = [] := by
        rw [List.filter_cons_of_neg (by simp; omega)]; rfl
      rw [show List.map (fun n => (⟨n, g⟩ : Res)) [q] = [⟨q, g⟩] from rfl, h2, List.append_nil]
      by_cases h3 : q + 1 + runFrom row c (q + 1) = row.length
      · rw [if_pos h3, if_pos (by omega)]
      · rw [if_neg h3, if_neg (by omega)]
    · rw [if_neg hc, run_no hc]
      by_cases h3 : q = row.length
      · subst h3; simp
      · have h2 : ([(⟨q, g⟩ : Res)]).filter (fun y => decide (y.stop = row.length)) = [] := by
          rw [List.filter_cons_of_neg (by simpa using h3)]; rfl
        rw [show List.map (fun n => (⟨n, g⟩ : Res)) [q] = [⟨q, g⟩] from rfl, h2, if_neg (by omega)]; rfl
/-- A letter, the letter any number of times, the end. -/
theorem den_plus {ns : List Pn} {row : List Int} {i q : Nat} {g : Spans} {nd n0 n1 n2 n3 : Pn} {c : Int} (hi : ns[i]? = some nd) (hk : nd.kind = 8) (hkids : nd.kids = [0, 2, 3]) (h0 : ns[0]? = some n0) (k0 : n0.kind = 1) (c0 : n0.cell = c) (h1 : ns[1]? = some n1) (k1 : n1.kind = 1) (c1 : n1.cell = c)
    (h2 : ns[2]? = some n2) (k2 : n2.kind = 10) (kids2 : n2.kids = [1]) (lo2 : n2.lo = 0) (hi2 : n2.hi < 0) (h3 : ns[3]? = some n3) (k3 : n3.kind = 5) (hl : row.length + 2 ≤ most) (hq : q ≤ row.length) :
    den ns row (row.length + 1 + 1 + 1) ⟨i, 0, q, g⟩ = some (if row[q]? = some c ∧ q + 1 + runFrom row c (q + 1) = row.length then [⟨row.length, g⟩] else []) := by
  have hmf : 2 * most + 2 < far := by decide
  refine den_if far_pos (by show q < far; omega) (fun _ => by show row.length < far; omega) ?_
  unfold askD
  simp only [hi, hk, hkids]
  show tellD _ [0, 2, 3] ⟨q, g⟩ = _
  rw [tellD, den_cell (q := q) h0 k0 (by omega) (row.length + 1), bindO, c0]
  have hone : ∀ y : Res, y.stop < far → tellD (den ns row (row.length + 1 + 1)) [3] y = some (if y.stop = row.length then [y] else []) := fun y hy => by
    obtain ⟨s, gy⟩ := y
    rw [tellD, den_end h3 k3 hy (row.length + 1), bindO, join_single (fun _ => rfl), bindO]
    by_cases h : s = row.length
    · simp only [h, if_true]; exact orderedD_one (by rw [← h]; exact hy)
    · simp only [h, if_false]; exact orderedD_nil
  have htwo : row[q]? = some c → tellD (den ns row (row.length + 1 + 1)) [2, 3] ⟨q + 1, g⟩ = some (if q + 1 + runFrom row c (q + 1) = row.length then [⟨row.length, g⟩] else []) := fun hc => by
    have hql : q < row.length := (List.getElem?_eq_some_iff.1 hc).1
    rw [tellD, den_star (n0 := n1) h2 k2 kids2 lo2 hi2 h1 k1 (by omega) row.length (q + 1) (by omega) (by omega) (by omega) hql, bindO, c1]
    have hj : joinO (tellD (den ns row (row.length + 1 + 1)) [3]) (resOf g (stops row c 0 row.length 0 (q + 1))) = joinO (fun y => some (if y.stop = row.length then [y] else [])) (resOf g (stops row c 0 row.length 0 (q + 1))) := by
      have : ∀ (ys : List Res), (∀ y ∈ ys, y.stop < far) → joinO (tellD (den ns row (row.length + 1 + 1)) [3]) ys = joinO (fun y => some (if y.stop = row.length then [y] else [])) ys := by
        intro ys
        induction ys with
        | nil => intro _; rfl
        | cons y ys ih => intro hys; rw [joinO, joinO, hone y (hys y (List.mem_cons_self ..)), ih (fun z hz => hys z (List.mem_cons_of_mem _ hz))]
      refine this _ fun y hy => ?_
      obtain ⟨n, hn, rfl⟩ := List.mem_map.1 hy
      have := (stops_in row c 0 _ _ _ n hn).2.2
      show n < far; omega
    rw [hj, join_filter, filter_end row c g row.length (q + 1) (by omega) (by omega), bindO]
    by_cases h : q + 1 + runFrom row c (q + 1) = row.length
    · rw [if_pos h]; exact orderedD_one (by show row.length < far; omega)
    · rw [if_neg h]; exact orderedD_nil
  rw [join_single htwo, bindO]
  by_cases hc : row[q]? = some c
  · by_cases h : q + 1 + runFrom row c (q + 1) = row.length
    · rw [if_pos hc, if_pos h, if_pos ⟨hc, h⟩]; exact orderedD_one (by show row.length < far; omega)
    · rw [if_pos hc, if_neg h, if_neg (fun e => h e.2)]; exact orderedD_nil
  · rw [if_neg hc, if_neg (fun e => hc e.1)]; exact orderedD_nil
/-- Where a letter's row reaches the end. -/
theorem run_full {row : List Int} {c : Int} : ∀ {d q : Nat}, row.length - q = d → q ≤ row.length → (q + runFrom row c q = row.length ↔ ∀ j, q ≤ j → j < row.length → row[j]? = some c)
  | 0, q, h, hq => by
    have hr : runFrom row c q = 0 := run_no (by rw [List.getElem?_eq_none (by omega)]; simp)
    rw [hr]
    exact ⟨fun _ j h1 h2 => absurd h2 (by omega), fun _ => by omega⟩
  | d + 1, q, h, hq => by
    by_cases hc : row[q]? = some c
    · have ih := run_full (row := row) (c := c) (d := d) (q := q + 1) (by omega) (by omega)
      rw [run_yes hc]
      constructor
      · intro h1 j h2 h3
        rcases Nat.eq_or_lt_of_le h2 with e | e
        · rw [← e]; exact hc
        · exact ih.1 (by omega) j e h3
      · intro h1
        have := ih.2 (fun j h2 h3 => h1 j (by omega) h3)
        omega
    · rw [run_no hc]
      constructor
      · intro h1; omega
      · intro h1; exact absurd (h1 q (Nat.le_refl _) (by omega)) hc
end Go.Proofs.YtihpfgnigpmihaaGreat
