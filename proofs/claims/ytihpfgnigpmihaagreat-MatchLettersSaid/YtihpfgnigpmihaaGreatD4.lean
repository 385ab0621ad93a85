/- What the plain model answers: letters, one behind the other. -/
import Derived.Test.YtihpfgnigpmihaaGreatD1
set_option linter.unusedVariables false
set_option linter.unusedSimpArgs false
namespace Go.Proofs.YtihpfgnigpmihaaGreat

/-- Do cells stand at a place? -/
def stands (row xs : List Int) (q : Nat) : Prop := (row.drop q).take xs.length = xs
instance (row xs : List Int) (q : Nat) : Decidable (stands row xs q) := inferInstanceAs (Decidable (_ = _))
theorem stands_cons {row : List Int} {c : Int} {cs : List Int} {q : Nat} : stands row (c :: cs) q ↔ row[q]? = some c ∧ stands row cs (q + 1) := by
  unfold stands
  rcases Nat.lt_or_ge q row.length with h | h
  · rw [List.drop_eq_getElem_cons h, List.length_cons, List.take_succ_cons, List.getElem?_eq_getElem h]
    simp
  · rw [List.drop_eq_nil_of_le h, List.getElem?_eq_none h]
    simp
theorem stands_nil (row : List Int) (q : Nat) : stands row [] q := by simp [stands]
theorem stands_fit {row xs : List Int} {q : Nat} (h : stands row xs q) (hq : q ≤ row.length) : q + xs.length ≤ row.length := by
  unfold stands at h
  have := congrArg List.length h
  simp only [List.length_take, List.length_drop] at this
  omega
theorem tell_cells {ns : List Pn} {row : List Int} {g : Spans} (m : Nat) : ∀ (ks : List Nat) (cs : List Int) (q : Nat), ks.length = cs.length → (∀ (i k : Nat), ks[i]? = some k → ∃ nd : Pn, ns[k]? = some nd ∧ nd.kind = 1 ∧ cs[i]? = some nd.cell) → q + ks.length < far →
    tellD (den ns row (m + 1)) ks ⟨q, g⟩ = some (if stands row cs q then [⟨q + ks.length, g⟩] else [])
  | [], [], q, _, _, hq => by rw [tellD, if_pos (stands_nil row q)]; rfl
  | [], c :: cs, q, h, _, _ => by simp at h
  | k :: ks, [], q, h, _, _ => by simp at h
  | k :: ks, c :: cs, q, hl, hn, hq => by
    obtain ⟨nd, h1, h2, h3⟩ := hn 0 k rfl
    have hc : nd.cell = c := by simpa using h3.symm
    simp only [List.length_cons] at hq hl
    have ih := tell_cells (ns := ns) (row := row) (g := g) m ks cs (q + 1) (by omega) (fun i k' hk => by have := hn (i + 1) k' (by simpa using hk); simpa using this) (by omega)
    rw [tellD, den_cell (q := q) h1 h2 (by omega) m, bindO, hc, join_single (fun _ => ih), bindO]
    by_cases h4 : row[q]? = some c
    · by_cases h5 : stands row cs (q + 1)
      · rw [if_pos h4, if_pos h5, if_pos (stands_cons.2 ⟨h4, h5⟩), List.length_cons]
        rw [orderedD_one (by show q + 1 + ks.length < far; omega)]
        congr 3; omega
      · rw [if_pos h4, if_neg h5, if_neg (fun e => h5 (stands_cons.1 e).2)]; exact orderedD_nil
    · rw [if_neg h4, if_neg (fun e => h4 (stands_cons.1 e).1)]; exact orderedD_nil
theorem den_cells {ns : List Pn} {row : List Int} {g : Spans} {i q : Nat} {nd : Pn} {cs : List Int} (hi : ns[i]? = some nd) (hk : nd.kind = 8) (hl : nd.kids.length = cs.length) (hn : ∀ (j k : Nat), nd.kids[j]? = some k → ∃ n0 : Pn, ns[k]? = some n0 ∧ n0.kind = 1 ∧ cs[j]? = some n0.cell)
    (hq : q + cs.length < far) : den ns row 2 ⟨i, 0, q, g⟩ = some (if stands row cs q then [⟨q + cs.length, g⟩] else []) := by
  refine den_if far_pos (by show q < far; omega) (fun _ => hq) ?_
  unfold askD
  simp only [hi, hk]
  show tellD _ nd.kids ⟨q, g⟩ = _
  rw [tell_cells 0 nd.kids cs q hl hn (by omega), hl]
theorem den_letter {ns : List Pn} {row : List Int} {g : Spans} {i q : Nat} {nd : Pn} (hi : ns[i]? = some nd) (hk : nd.kind = 1) (hq : q + 1 < far) : den ns row 1 ⟨i, 0, q, g⟩ = some (if stands row [nd.cell] q then [⟨q + 1, g⟩] else []) := by
  rw [den_cell hi hk hq 0]
  by_cases h : row[q]? = some nd.cell
  · rw [if_pos h, if_pos (stands_cons.2 ⟨h, stands_nil row _⟩)]
  · rw [if_neg h, if_neg (fun e => h (stands_cons.1 e).1)]
theorem den_none {ns : List Pn} {row : List Int} {g : Spans} {i q : Nat} {nd : Pn} (hi : ns[i]? = some nd) (hk : nd.kind = 11) (hq : q < far) : den ns row 1 ⟨i, 0, q, g⟩ = some [⟨q, g⟩] := by
  refine den_mk far_pos hq ?_ (orderedD_one hq)
  unfold askD
  simp only [hi, hk]
  rfl
end Go.Proofs.YtihpfgnigpmihaaGreat
