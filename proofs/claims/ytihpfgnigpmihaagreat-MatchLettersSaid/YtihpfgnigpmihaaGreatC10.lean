/- Appending results; counting them. -/
import Derived.Test.YtihpfgnigpmihaaGreatC9
set_option linter.unusedVariables false
set_option linter.unusedSimpArgs false
set_option maxRecDepth 100000
namespace Go.Proofs.YtihpfgnigpmihaaGreat
open Go

/-- A slice of results of one's own, in a block that no other slice has. -/
def Own (b : Nat) (H : AHeap) (x : Value) (xs : List Res) (o : List Nat) : Prop := (xs = [] ∧ x = .slice none 0 0 ∧ o = []) ∨
  ∃ id, x = .slice (some ⟨id, 0, none⟩) xs.length (unk 21) ∧ H.get id = some (.cells (resCells xs) 56 false) ∧ o = [id] ∧ b ≤ id
theorem Own.keep {b : Nat} {H H' : AHeap} {x : Value} {xs : List Res} {o : List Nat} (h : Own b H x xs o) (hk : ∀ i ∈ o, i < H.next → H'.get i = H.get i) : Own b H' x xs o := by
  rcases h with h | ⟨id, h1, h2, rfl, h4⟩
  · exact .inl h
  · exact .inr ⟨id, h1, by rw [hk id (List.mem_singleton.2 rfl) (AHeap.get_lt h2)]; exact h2, rfl, h4⟩
theorem Own.lt {b : Nat} {H : AHeap} {x : Value} {xs : List Res} {o : List Nat} (h : Own b H x xs o) : ∀ i ∈ o, i < H.next ∧ b ≤ i := by
  rcases h with ⟨_, _, rfl⟩ | ⟨id, h1, h2, rfl, h4⟩
  · intro i hi; cases hi
  · intro i hi; cases List.mem_singleton.1 hi; exact ⟨AHeap.get_lt h2, h4⟩
theorem Own.rows {b : Nat} {H : AHeap} {x : Value} {xs : List Res} {o : List Nat} (h : Own b H x xs o) : Rows H x xs := by
  rcases h with ⟨a, c, rfl⟩ | ⟨id, h1, h2, rfl, h4⟩
  · exact .inl ⟨a, c⟩
  · exact .inr ⟨id, _, h1, .inr rfl, h2⟩
theorem Rows.split {B : AHeap} {v : Value} {rs : List Res} (h : Rows B v rs) : ∃ ra id c, v = .slice ra rs.length c ∧ (rs ≠ [] → ra = some ⟨id, 0, none⟩ ∧ B.get id = some (.cells (resCells rs) 56 false)) := by
  rcases h with ⟨rfl, rfl⟩ | ⟨id, c, h1, h2, h3⟩
  · exact ⟨none, 0, 0, rfl, fun h => absurd rfl h⟩
  · exact ⟨some ⟨id, 0, none⟩, id, c, h1, fun _ => ⟨rfl, h3⟩⟩

theorem resCells_app (xs ys : List Res) : resCells (xs ++ ys) = resCells xs ++ resCells ys := by unfold resCells; rw [List.flatMap_append]
theorem spans_one (v : Spans) : (spans v).all (·.oneCell') = true := rfl
theorem resCells_one : ∀ (xs : List Res), (resCells xs).all (·.oneCell') = true
  | [] => rfl
  | x :: xs => by
    show ((x.cells ++ resCells xs).all _) = true
    rw [List.all_append, resCells_one xs, Bool.and_true]; rfl
theorem res_zero : zeroT Tryz.prog 56 = some (Res.val ⟨0, fun _ => 0⟩) := by kernel_rfl

/-- Results appended to a slice of one's own. -/
theorem append_own {b : Nat} {H : AHeap} {x y : Value} {xs ys : List Res} {o : List Nat} (hx : Own b H x xs o) (hy : Rows H y ys) (hlen : xs.length + ys.length < far) (hb : b ≤ H.next) :
    ∃ v H' o', aappend Tryz.prog H 51 51 x y = some (v, H') ∧ Own b H' v (xs ++ ys) o' ∧ (∀ i ∈ o', i ∈ o ∨ H.next ≤ i) ∧ (∀ i, i < H.next → i ∉ o → H'.get i = H.get i) ∧ H.next ≤ H'.next ∧ H'.rs = H.rs := by
  have hz : (vcells (Res.val ⟨0, fun _ => 0⟩)).length = 21 := rfl
  unfold far at hlen
  have src : asrc Tryz.prog H 51 21 y = some (ys.length, resCells ys) := by
    rcases hy with ⟨rfl, rfl⟩ | ⟨id, c, rfl, _, h3⟩
    · unfold asrc; rw [sl51]; rfl
    · unfold asrc
      rw [sl51]
      simp only
      by_cases h0 : ys.length = 0
      · rw [if_pos h0, h0, List.eq_nil_of_length_eq_zero h0]; rfl
      · rw [if_neg h0, h3]
        have h3' : (List.flatMap Res.cells ys).length = ys.length * 21 := resCells_len ys
        simp only [Nat.zero_add, h3', Nat.le_refl, if_true, List.drop_zero]
        rw [← h3', List.take_length]; rfl
  unfold aappend
  rw [sl51]
  simp only [res_zero, hz]
  rw [if_pos ⟨trivial, by decide⟩, src]
  simp only [resCells_one, if_true]
  rcases hx with ⟨rfl, rfl, rfl⟩ | ⟨id, rfl, h2, rfl, h4⟩
  · unfold aappendTo
    simp only []
    by_cases h0 : ys.length = 0
    · rw [if_pos h0]
      have : ys = [] := List.eq_nil_of_length_eq_zero h0
      subst this
      exact ⟨_, _, [], rfl, .inl ⟨rfl, rfl, rfl⟩, fun i hi => absurd hi List.not_mem_nil, fun i _ _ => rfl, Nat.le_refl _, rfl⟩
    · rw [if_neg h0, if_pos (by simp only [List.length_nil, Nat.zero_add] at hlen; omega)]
      refine ⟨_, _, [H.next], rfl, .inr ⟨H.next, by simp, AHeap.get_push_new _ _, rfl, hb⟩, fun i hi => .inr (by cases List.mem_singleton.1 hi; exact Nat.le_refl _), fun i hi _ => ?_, Nat.le_succ _, rfl⟩
      rw [AHeap.get_push, if_neg (Nat.ne_of_lt hi)]
  · unfold aappendTo
    simp only []
    by_cases h0 : ys.length = 0
    · rw [if_pos h0, if_pos (.inl trivial)]
      have : ys = [] := List.eq_nil_of_length_eq_zero h0
      subst this
      exact ⟨_, _, [id], rfl, .inr ⟨id, by simp, by simpa using h2, rfl, h4⟩, fun i hi => .inl hi, fun i _ _ => rfl, Nat.le_refl _, rfl⟩
    · rw [if_neg h0]
      simp only [h2]
      rw [if_pos (by rw [resCells_len]; omega), if_pos trivial, if_pos ⟨trivial, trivial, by omega⟩]
      refine ⟨_, _, [H.next], rfl, .inr ⟨H.next, by simp, ?_, rfl, hb⟩, fun i hi => .inr (by cases List.mem_singleton.1 hi; exact Nat.le_refl _), fun i hi hn => ?_, Nat.le_succ _, rfl⟩
      · have : ((resCells xs).drop 0).take (xs.length * 21) = resCells xs := by rw [List.drop_zero, ← resCells_len xs, List.take_length]
        show ((H.kill id).push (.cells (((resCells xs).drop 0).take (xs.length * 21) ++ resCells ys) 56 false)).get (H.kill id).next = _
        rw [AHeap.get_push_new, this, resCells_app]
      · show ((H.kill id).push _).get i = _
        rw [AHeap.get_push, if_neg (show i ≠ (H.kill id).next from Nat.ne_of_lt hi), AHeap.get_kill_ne (by simpa using hn)]

/-! ### Counts -/
/-- What a map counts. -/
def Cnt (q : Nat) (H : AHeap) (out : List Res) (k : Nat) : Prop := ∃ (es : List MapEntry) (ck : Nat), H.get q = some (.map es ck) ∧ es.map (·.key) = out.map Res.val ∧ ck = es.length ∧
  ∀ (i : Nat) (e : MapEntry), es[i]? = some e → e.born = i ∧ ∃ c : Nat, e.val = .int .i64 (c : Int) ∧ 1 ≤ c ∧ c ≤ k
theorem Cnt.keep {q : Nat} {H H' : AHeap} {out : List Res} {k : Nat} (h : Cnt q H out k) (hq : H'.get q = H.get q) : Cnt q H' out k := by
  obtain ⟨es, ck, h1, h2⟩ := h; exact ⟨es, ck, hq.trans h1, h2⟩
theorem mt127 : mapT Tryz.prog 127 = some (56, 3) := by kernel_rfl
theorem zero3 : zeroC Tryz.prog 3 = some (.int .i64 0) := by kernel_rfl
theorem same_res (r : Res) : Instr.sameBits 10000 r.val r.val = true := by
  simp [Instr.sameBits, Res.val, Res.cells, spans]
theorem bornAt_idx : ∀ (es : List MapEntry) (i n : Nat), (∀ (j : Nat) (e : MapEntry), es[j]? = some e → e.born = i + j) → n < es.length → bornAt ((i + n : Nat) : Int) es i = some (i + n)
  | [], i, n, _, h => by simp at h
  | e :: es, i, n, hb, h => by
    have h0 := hb 0 e rfl
    rw [bornAt]
    cases n with
    | zero => rw [if_pos (by simp [h0])]; rfl
    | succ n =>
      rw [if_neg (by simp [h0]; omega)]
      have := bornAt_idx es (i + 1) n (fun j e' he => by have := hb (j + 1) e' (by simpa using he); omega) (by simp at h; omega)
      rw [show i + (n + 1) = i + 1 + n from by omega]; exact this
theorem findIn_res (es : List MapEntry) (out : List Res) (x : Res) (h : es.map (·.key) = out.map Res.val) : findIn Tryz.prog 56 x.val es = some (if x ∈ out then some (out.idxOf x) else none) := by
  unfold findIn
  rw [if_pos ⟨fits_res x, check_res x false⟩, findAt_key keyRes x es out 0 h]
  simp
theorem look_res {q : Nat} {H : AHeap} {es : List MapEntry} {ck : Nat} {out : List Res} (hq : H.get q = some (.map es ck)) (h : es.map (·.key) = out.map Res.val) (x : Res) :
    alookup Tryz.prog H 127 (.map (some q)) x.val false = if x ∈ out then (es[out.idxOf x]?).map (·.val) else some (.int .i64 0) := by
  unfold alookup
  simp only [mt127, hq, fits_res, check_res, findAt_key keyRes x es out 0 h, and_self, if_true, Nat.zero_add, zero3]
  by_cases hx : x ∈ out
  · simp only [hx, if_true]
    have hl : out.idxOf x < es.length := by
      have := congrArg List.length h
      simp only [List.length_map] at this
      rw [this]; exact List.idxOf_lt_length_of_mem hx
    rw [List.getElem?_eq_getElem hl]; rfl
  · simp [hx]
/-- An entry counted once more. -/
theorem count_one {q : Nat} {H : AHeap} {out : List Res} {k : Nat} (h : Cnt q H out k) (x : Res) : ∃ (c born : Nat) (H1 H2 : AHeap), (x ∈ out ↔ c ≠ 0) ∧ c ≤ k ∧
    alookup Tryz.prog H 127 (.map (some q)) x.val false = some (.int .i64 (c : Int)) ∧ amapEntry Tryz.prog H 127 (.map (some q)) x.val = some (.tuple #[.int .i64 (c : Int), .int .i64 (born : Int)], H1) ∧
    alookup Tryz.prog H1 127 (.map (some q)) x.val false = some (.int .i64 (c : Int)) ∧ aentryStore H1 (.map (some q)) (.int .i64 (born : Int)) (.int .i64 ((c + 1 : Nat) : Int)) = some H2 ∧
    alookup Tryz.prog H2 127 (.map (some q)) x.val false = some (.int .i64 ((c + 1 : Nat) : Int)) ∧ Cnt q H2 (if x ∈ out then out else out ++ [x]) (k + 1) ∧ (∀ i, i ≠ q → H2.get i = H.get i) ∧ H2.next = H.next ∧ H2.rs = H.rs := by
  obtain ⟨es, ck, hq, hk, rfl, hv⟩ := h
  have hlen : es.length = out.length := by simpa using congrArg List.length hk
  by_cases hx : x ∈ out
  · have hl : out.idxOf x < es.length := by rw [hlen]; exact List.idxOf_lt_length_of_mem hx
    obtain ⟨e, he⟩ : ∃ e, es[out.idxOf x]? = some e := ⟨_, List.getElem?_eq_getElem hl⟩
    obtain ⟨hb, c, hc, hc1, hc2⟩ := hv _ e he
    have hkey : e.key = x.val := by
      have := congrArg (fun l => l[out.idxOf x]?) hk
      simp only [List.getElem?_map, he, Option.map_some, List.getElem?_eq_getElem (List.idxOf_lt_length_of_mem hx), Option.some.injEq, List.getElem_idxOf] at this
      exact this
    have hset : es.set (out.idxOf x) { e with key := x.val } = es := by
      rw [← hkey]
      exact List.ext_getElem? fun i => by
        rw [List.getElem?_set]
        split
        · rename_i hi; rw [← hi, he]
        · rfl
    have g1 : (H.set q (.map es es.length)).get q = some (.map es es.length) := AHeap.get_set_same hq
    have g2 : ((H.set q (.map es es.length)).set q (.map (es.set (out.idxOf x) { e with val := .int .i64 ((c + 1 : Nat) : Int) }) es.length)).get q = some (.map (es.set (out.idxOf x) { e with val := .int .i64 ((c + 1 : Nat) : Int) }) es.length) := AHeap.get_set_same g1
    have hk2 : (es.set (out.idxOf x) { e with val := .int .i64 ((c + 1 : Nat) : Int) }).map (·.key) = out.map Res.val := by
      rw [← hk]
      refine List.ext_getElem? fun i => ?_
      rw [List.getElem?_map, List.getElem?_map, List.getElem?_set]
      split
      · rename_i hi; rw [← hi, he]; rfl
      · rfl
    refine ⟨c, out.idxOf x, H.set q (.map es es.length), (H.set q (.map es es.length)).set q (.map (es.set (out.idxOf x) { e with val := .int .i64 ((c + 1 : Nat) : Int) }) es.length), ⟨fun _ => by omega, fun _ => hx⟩, hc2, ?_, ?_, ?_, ?_, ?_, ?_, ?_, rfl, rfl⟩
    · rw [look_res hq hk, if_pos hx, he]; exact congrArg some hc
    · unfold amapEntry
      simp only [mt127, hq, findIn_res es out x hk, hx, if_true, he, hkey, same_res]
      rw [hset, hc, hb]
    · rw [look_res g1 hk, if_pos hx, he]; exact congrArg some hc
    · unfold aentryStore
      simp only [g1]
      have hbo := bornAt_idx es 0 (out.idxOf x) (fun j e' he' => by rw [(hv j e' he').1]; omega) hl
      rw [Nat.zero_add] at hbo
      simp only [hbo, he]
    · rw [look_res g2 hk2, if_pos hx, List.getElem?_set, if_pos rfl, if_pos hl]; rfl
    · rw [if_pos hx]
      refine ⟨_, _, g2, hk2, by simp, fun i e' he' => ?_⟩
      rw [List.getElem?_set] at he'
      split at he'
      · rename_i hi
        cases he'
        exact ⟨by rw [← hi]; exact hb, c + 1, rfl, by omega, by omega⟩
      · obtain ⟨a, c', b1, b2, b3⟩ := hv i e' he'
        exact ⟨a, c', b1, b2, by omega⟩
    · intro i hi; rw [AHeap.get_set_ne hi, AHeap.get_set_ne hi]
  · have g1 : (H.set q (.map (es ++ [(⟨x.val, .int .i64 0, es.length⟩ : MapEntry)]) (es.length + 1))).get q = some (.map (es ++ [(⟨x.val, .int .i64 0, es.length⟩ : MapEntry)]) (es.length + 1)) := AHeap.get_set_same hq
    have hk1 : (es ++ [(⟨x.val, .int .i64 0, es.length⟩ : MapEntry)]).map (·.key) = (out ++ [x]).map Res.val := by simp [hk]
    have hlast : (es ++ [(⟨x.val, .int .i64 0, es.length⟩ : MapEntry)] : List MapEntry)[es.length]? = some ⟨x.val, .int .i64 0, es.length⟩ := by simp
    have hset : (es ++ [(⟨x.val, .int .i64 0, es.length⟩ : MapEntry)] : List MapEntry).set es.length ⟨x.val, .int .i64 1, es.length⟩ = es ++ [(⟨x.val, .int .i64 1, es.length⟩ : MapEntry)] := by simp
    have g2 : ((H.set q (.map (es ++ [(⟨x.val, .int .i64 0, es.length⟩ : MapEntry)]) (es.length + 1))).set q (.map (es ++ [(⟨x.val, .int .i64 1, es.length⟩ : MapEntry)]) (es.length + 1))).get q = some (.map (es ++ [(⟨x.val, .int .i64 1, es.length⟩ : MapEntry)]) (es.length + 1)) := AHeap.get_set_same g1
    have hk2 : (es ++ [(⟨x.val, .int .i64 1, es.length⟩ : MapEntry)]).map (·.key) = (out ++ [x]).map Res.val := by simp [hk]
    have hidx : (out ++ [x]).idxOf x = es.length := by rw [hlen, List.idxOf_append]; simp [hx]
    refine ⟨0, es.length, H.set q (.map (es ++ [(⟨x.val, .int .i64 0, es.length⟩ : MapEntry)]) (es.length + 1)), (H.set q (.map (es ++ [(⟨x.val, .int .i64 0, es.length⟩ : MapEntry)]) (es.length + 1))).set q (.map (es ++ [(⟨x.val, .int .i64 1, es.length⟩ : MapEntry)]) (es.length + 1)), ⟨fun h => absurd h hx, fun h => absurd rfl h⟩, Nat.zero_le _, ?_, ?_, ?_, ?_, ?_, ?_, ?_, rfl, rfl⟩
    · rw [look_res hq hk, if_neg hx]; rfl
    · unfold amapEntry
      simp only [mt127, hq, findIn_res es out x hk, hx, if_false, zero3]
      rfl
    · rw [look_res g1 hk1, if_pos (by simp), hidx, hlast]; rfl
    · unfold aentryStore
      simp only [g1]
      have hbo := bornAt_idx (es ++ [(⟨x.val, .int .i64 0, es.length⟩ : MapEntry)]) 0 es.length (fun j e' he' => by
        rw [List.getElem?_append] at he'
        split at he'
        · rw [(hv j e' he').1]; omega
        · rename_i hj
          have : j - es.length = 0 := by
            rcases Nat.eq_zero_or_pos (j - es.length) with h | h
            · exact h
            · rw [List.getElem?_eq_none (by simp; omega)] at he'; cases he'
          rw [this] at he'; simp at he'; subst he'; simp only; omega) (by simp)
      rw [Nat.zero_add] at hbo
      simp only [hbo, hlast]
      exact congrArg (fun l => some (AHeap.set _ q (.map l _))) hset
    · rw [look_res g2 hk2, if_pos (by simp), hidx]; simp
    · rw [if_neg hx]
      refine ⟨_, _, g2, hk2, by simp, fun i e' he' => ?_⟩
      rw [List.getElem?_append] at he'
      split at he'
      · obtain ⟨a, c', b1, b2, b3⟩ := hv i e' he'
        exact ⟨a, c', b1, b2, by omega⟩
      · rename_i hj
        have : i - es.length = 0 := by
          rcases Nat.eq_zero_or_pos (i - es.length) with h | h
          · exact h
          · rw [List.getElem?_eq_none (by simp; omega)] at he'; cases he'
        rw [this] at he'; simp at he'; subst he'
        exact ⟨by simp only; omega, 1, rfl, Nat.le_refl _, by omega⟩
    · intro i hi; rw [AHeap.get_set_ne hi, AHeap.get_set_ne hi]
end Go.Proofs.YtihpfgnigpmihaaGreat
