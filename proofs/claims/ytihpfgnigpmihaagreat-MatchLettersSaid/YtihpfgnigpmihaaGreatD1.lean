/- What the plain model answers: the edges. -/
import Derived.Test.YtihpfgnigpmihaaGreatD0
set_option linter.unusedVariables false
set_option linter.unusedSimpArgs false
namespace Go.Proofs.YtihpfgnigpmihaaGreat

theorem orderedD_nil : orderedD [] = some [] := by simp [orderedD, once, Fine, Falls, far, most]
theorem orderedD_one {x : Res} (h : x.stop < far) : orderedD [x] = some [x] := by
  unfold far at h
  simp [orderedD, once, Fine, Falls, far, most, h]
theorem den_mk {ns : List Pn} {row : List Int} {n : Nat} {s : St} {l rs : List Res} (h1 : s.done < far) (h2 : s.pos < far) (ha : askD (den ns row n) ns row s = some l) (ho : orderedD l = some rs) : den ns row (n + 1) s = some rs := by
  rw [den, if_pos ⟨h1, h2⟩, ha, bindO, ho]
theorem den_if {ns : List Pn} {row : List Int} {n : Nat} {s : St} {c : Prop} [Decidable c] {x : Res} (h1 : s.done < far) (h2 : s.pos < far) (hx : c → x.stop < far) (ha : askD (den ns row n) ns row s = some (if c then [x] else [])) : den ns row (n + 1) s = some (if c then [x] else []) := by
  refine den_mk h1 h2 ha ?_
  by_cases h : c
  · rw [if_pos h]; exact orderedD_one (hx h)
  · rw [if_neg h]; exact orderedD_nil
theorem far_pos : 0 < far := by decide
/-- A beginning, an end, a letter. -/
theorem den_beg {ns : List Pn} {row : List Int} {i q : Nat} {g : Spans} {nd : Pn} (hi : ns[i]? = some nd) (hk : nd.kind = 4) (hq : q < far) (n : Nat) : den ns row (n + 1) ⟨i, 0, q, g⟩ = some (if q = 0 then [⟨q, g⟩] else []) := by
  refine den_if far_pos hq (fun _ => hq) ?_
  unfold askD
  simp only [hi, hk]
  rfl
theorem den_end {ns : List Pn} {row : List Int} {i q : Nat} {g : Spans} {nd : Pn} (hi : ns[i]? = some nd) (hk : nd.kind = 5) (hq : q < far) (n : Nat) : den ns row (n + 1) ⟨i, 0, q, g⟩ = some (if q = row.length then [⟨q, g⟩] else []) := by
  refine den_if far_pos hq (fun _ => hq) ?_
  unfold askD
  simp only [hi, hk]
  rfl
theorem den_cell {ns : List Pn} {row : List Int} {i q : Nat} {g : Spans} {nd : Pn} (hi : ns[i]? = some nd) (hk : nd.kind = 1) (hq : q + 1 < far) (n : Nat) : den ns row (n + 1) ⟨i, 0, q, g⟩ = some (if row[q]? = some nd.cell then [⟨q + 1, g⟩] else []) := by
  refine den_if far_pos (by show q < far; omega) (fun _ => hq) ?_
  unfold askD
  simp only [hi, hk]
  rfl
theorem join_single {f : Res → Option (List Res)} {x : Res} {c : Prop} [Decidable c] {l : List Res} (h : c → f x = some l) : joinO f (if c then [x] else []) = some (if c then l else []) := by
  by_cases hc : c
  · rw [if_pos hc, if_pos hc, joinO, h hc]; simp [bindO, joinO]
  · rw [if_neg hc, if_neg hc]; rfl
/-- A beginning and an end. -/
theorem den_begEnd {ns : List Pn} {row : List Int} {i q : Nat} {g : Spans} {nd n0 n1 : Pn} (hi : ns[i]? = some nd) (hk : nd.kind = 8) (hkids : nd.kids = [0, 1]) (h0 : ns[0]? = some n0) (k0 : n0.kind = 4) (h1 : ns[1]? = some n1) (k1 : n1.kind = 5) (hq : q < far) :
    den ns row 2 ⟨i, 0, q, g⟩ = some (if q = 0 ∧ row.length = 0 then [⟨q, g⟩] else []) := by
  refine den_if far_pos hq (fun _ => hq) ?_
  unfold askD
  simp only [hi, hk, hkids]
  show tellD _ [0, 1] ⟨q, g⟩ = _
  rw [tellD, den_beg h0 k0 hq 0, bindO]
  have h2 : q = 0 → tellD (den ns row 1) [1] ⟨q, g⟩ = some (if q = row.length then [⟨q, g⟩] else []) := fun _ => by
    rw [tellD, den_end h1 k1 hq 0, bindO, join_single (fun _ => rfl), bindO]
    by_cases h : q = row.length
    · rw [if_pos h]; exact orderedD_one hq
    · rw [if_neg h]; exact orderedD_nil
  rw [join_single h2, bindO]
  by_cases hz : q = 0
  · by_cases hl : row.length = 0
    · rw [if_pos hz, if_pos (by omega), if_pos ⟨hz, hl⟩]; exact orderedD_one hq
    · rw [if_pos hz, if_neg (by omega), if_neg (fun h => hl h.2)]; exact orderedD_nil
  · rw [if_neg hz, if_neg (fun h => hz h.1)]; exact orderedD_nil
end Go.Proofs.YtihpfgnigpmihaaGreat
