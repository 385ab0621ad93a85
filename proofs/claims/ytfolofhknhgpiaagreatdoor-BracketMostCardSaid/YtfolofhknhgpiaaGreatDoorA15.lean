/- A call that is carried out over a part of a heap, under other numbers. -/
import Derived.Test.YtfolofhknhgpiaaGreatDoorA14
set_option linter.unusedVariables false
set_option linter.unusedSimpArgs false
namespace Go.Proofs.YtfolofhknhgpiaaGreatDoor
open Go

/-! ### Values under other numbers -/
mutual
def ren (ρ : Nat → Nat) : Value → Value
  | .pointer (some a) => .pointer (some ⟨ρ a.block, a.off, a.spot⟩)
  | .slice (some a) n c => .slice (some ⟨ρ a.block, a.off, a.spot⟩) n c
  | .map (some m) => .map (some (ρ m))
  | .func f ⟨x⟩ ⟨y⟩ => .func f ⟨renL ρ x⟩ ⟨renL ρ y⟩
  | .iface t v => .iface t (ren ρ v)
  | .agg ⟨x⟩ => .agg ⟨renL ρ x⟩
  | .tuple ⟨x⟩ => .tuple ⟨renL ρ x⟩
  | v => v
def renL (ρ : Nat → Nat) : List Value → List Value
  | [] => []
  | v :: l => ren ρ v :: renL ρ l
end
theorem renL_map (ρ : Nat → Nat) : ∀ l, renL ρ l = l.map (ren ρ)
  | [] => rfl
  | v :: l => by rw [renL, List.map_cons, renL_map ρ l]
theorem ren_scalar (ρ : Nat → Nat) {v : Value} (h : scalar v = true) : ren ρ v = v := by
  cases v <;> first | rfl | simp [scalar] at h
theorem ren_flat (ρ : Nat → Nat) {v : Value} (h : flat v = true) : ren ρ v = v := by
  cases v with
  | agg cs =>
    obtain ⟨x⟩ := cs
    simp only [flat] at h
    rw [ren, renL_map]
    congr 2
    have : ∀ (l : List Value), l.all scalar = true → l.map (ren ρ) = l := by
      intro l
      induction l with
      | nil => intro _; rfl
      | cons v l ih =>
        intro h
        simp only [List.all_cons, Bool.and_eq_true] at h
        rw [List.map_cons, ren_scalar ρ h.1, ih h.2]
    exact this x h
  | _ => exact ren_scalar ρ h

section
variable {ρ : Nat → Nat} {φ ψ : Plan}
mutual
theorem RV.unren (h : ∀ i l, φ (ρ i) = some l → ψ i = some l) : ∀ (v : Value) {cv : Value}, RV φ (ren ρ v) cv → RV ψ v cv
  | .bool _, _, r => by rw [ren] at r; cases r; exact .bool _; all_goals (intros; contradiction)
  | .int _ _, _, r => by rw [ren] at r; cases r; exact .int _ _; all_goals (intros; contradiction)
  | .float _ _, _, r => by rw [ren] at r; cases r; exact .float _ _; all_goals (intros; contradiction)
  | .complex _ _ _, _, r => by rw [ren] at r; cases r; exact .complex _ _ _; all_goals (intros; contradiction)
  | .string _, _, r => by rw [ren] at r; cases r; exact .string _; all_goals (intros; contradiction)
  | .pointer none, _, r => by rw [ren] at r; cases r; exact .ptrNil; all_goals (intros; rename_i e; cases e)
  | .pointer (some ⟨b, o, s⟩), _, r => by
    rw [ren] at r
    cases r with
    | ptr e => exact .ptr (h _ _ e)
  | .slice none _ _, _, r => by rw [ren] at r; cases r; exact .sliceNil; all_goals (intros; rename_i e; cases e)
  | .slice (some ⟨b, o, s⟩) n c, _, r => by
    rw [ren] at r
    cases r with
    | slice e k => exact .slice (h _ _ e) k
    | sliceDry e k => exact .sliceDry (h _ _ e) k
  | .map none, _, r => by rw [ren] at r; cases r; exact .mapNil; all_goals (intros; rename_i e; cases e)
  | .map (some m), _, r => by
    rw [ren] at r
    cases r with
    | map e => exact .map (h _ _ e)
  | .chan _, _, r => by rw [ren] at r; cases r; all_goals (intros; contradiction)
  | .func f ⟨x⟩ ⟨y⟩, _, r => by
    rw [ren, renL_map, renL_map] at r
    cases r with
    | func fn s1 r1 s2 r2 =>
      refine .func f (by simpa using s1) (fun i a b ha hb => ?_) (by simpa using s2) (fun i a b ha hb => ?_)
      · exact RV.unrenL h x a (List.mem_of_getElem? (by simpa using ha)) (r1 i _ _ (by simp only [List.getElem?_toArray, List.getElem?_map] at ha ⊢; rw [ha]; rfl) hb)
      · exact RV.unrenL h y a (List.mem_of_getElem? (by simpa using ha)) (r2 i _ _ (by simp only [List.getElem?_toArray, List.getElem?_map] at ha ⊢; rw [ha]; rfl) hb)
  | .nilFunc, _, r => by rw [ren] at r; cases r; exact .nilFunc; all_goals (intros; contradiction)
  | .iface t v, _, r => by
    rw [ren] at r
    cases r with
    | iface _ e => exact .iface t (RV.unren h v e)
  | .nilIface, _, r => by rw [ren] at r; cases r; exact .nilIface; all_goals (intros; contradiction)
  | .agg ⟨x⟩, _, r => by
    rw [ren, renL_map] at r
    cases r with
    | agg s1 r1 =>
      refine .agg (by simpa using s1) (fun i a b ha hb => ?_)
      exact RV.unrenL h x a (List.mem_of_getElem? (by simpa using ha)) (r1 i _ _ (by simp only [List.getElem?_toArray, List.getElem?_map] at ha ⊢; rw [ha]; rfl) hb)
  | .tuple ⟨x⟩, _, r => by
    rw [ren, renL_map] at r
    cases r with
    | tuple s1 r1 =>
      refine .tuple (by simpa using s1) (fun i a b ha hb => ?_)
      exact RV.unrenL h x a (List.mem_of_getElem? (by simpa using ha)) (r1 i _ _ (by simp only [List.getElem?_toArray, List.getElem?_map] at ha ⊢; rw [ha]; rfl) hb)
theorem RV.unrenL (h : ∀ i l, φ (ρ i) = some l → ψ i = some l) : ∀ (l : List Value) (x : Value), x ∈ l → ∀ {y : Value}, RV φ (ren ρ x) y → RV ψ x y
  | [], x, hx => by cases hx
  | v :: l, x, hx => by
    intro r
    rcases List.mem_cons.1 hx with e | hx
    · rw [e] at r ⊢; exact RV.unren h v r
    · exact RV.unrenL h l x hx r
end

theorem RV.renamed (h : ∀ i l, φ i = some l → ψ (ρ i) = some l) {v cv : Value} (r : RV φ v cv) : RV ψ (ren ρ v) cv := by
  induction r with
  | bool b => exact .bool b
  | int k n => exact .int k n
  | float k n => exact .float k n
  | complex k m n => exact .complex k m n
  | string s => exact .string s
  | ptrNil => exact .ptrNil
  | ptr e => exact .ptr (h _ _ e)
  | sliceNil => exact .sliceNil
  | slice e k => exact .slice (h _ _ e) k
  | sliceDry e k => exact .sliceDry (h _ _ e) k
  | mapNil => exact .mapNil
  | map e => exact .map (h _ _ e)
  | @func fn f f' c c' s1 r1 s2 r2 i1 i2 =>
    obtain ⟨x⟩ := f; obtain ⟨y⟩ := c
    rw [ren, renL_map, renL_map]
    refine .func fn (by simpa using s1) (fun i a b ha hb => ?_) (by simpa using s2) (fun i a b ha hb => ?_)
    · simp only [List.getElem?_toArray, List.getElem?_map, Option.map_eq_some_iff] at ha
      obtain ⟨u, hu, rfl⟩ := ha
      exact i1 i u b (by simpa using hu) hb
    · simp only [List.getElem?_toArray, List.getElem?_map, Option.map_eq_some_iff] at ha
      obtain ⟨u, hu, rfl⟩ := ha
      exact i2 i u b (by simpa using hu) hb
  | nilFunc => exact .nilFunc
  | iface t _ i => rw [ren]; exact .iface t i
  | nilIface => exact .nilIface
  | @agg xs ys s1 r1 i1 =>
    obtain ⟨x⟩ := xs
    rw [ren, renL_map]
    refine .agg (by simpa using s1) (fun i a b ha hb => ?_)
    simp only [List.getElem?_toArray, List.getElem?_map, Option.map_eq_some_iff] at ha
    obtain ⟨u, hu, rfl⟩ := ha
    exact i1 i u b (by simpa using hu) hb
  | @tuple xs ys s1 r1 i1 =>
    obtain ⟨x⟩ := xs
    rw [ren, renL_map]
    refine .tuple (by simpa using s1) (fun i a b ha hb => ?_)
    simp only [List.getElem?_toArray, List.getElem?_map, Option.map_eq_some_iff] at ha
    obtain ⟨u, hu, rfl⟩ := ha
    exact i1 i u b (by simpa using hu) hb
end

/-! ### Blocks and heaps under other numbers -/
def renE (ρ : Nat → Nat) (e : MapEntry) : MapEntry := { e with val := ren ρ e.val }
def renB (ρ : Nat → Nat) : ABlk → ABlk
  | .cells vs e ro => .cells (vs.map (ren ρ)) e ro
  | .map es ck => .map (es.map (renE ρ)) ck
  | .iter s p => .iter s p
theorem renB_rw (ρ : Nat → Nat) (b : ABlk) : (renB ρ b).rw = b.rw := by cases b <;> rfl
def renEnd (ρ : Nat → Nat) : AEnd → AEnd
  | .ret v => .ret (ren ρ v)
  | .panic v => .panic (ren ρ v)

/-- The small heap stands in the great one. -/
structure Stands (ρ : Nat → Nat) (H B : AHeap) : Prop where
  inj : ∀ i j, ρ i = ρ j → i = j
  low : ∀ i, i < H.next → ρ i < B.next
  high : ∀ i, H.next ≤ i → ρ i = B.next + (i - H.next)
  blks : ∀ i b, H.get i = some b → B.get (ρ i) = some (renB ρ b)
  rs : H.rs = []
  rsB : ∀ i, i < H.next → ρ i ∉ B.rs

/-- What a part's call leaves of the whole. -/
structure Merged (ρ : Nat → Nat) (H B H' B' : AHeap) : Prop where
  next : B'.next = B.next + (H'.next - H.next)
  rs : B'.rs = B.rs
  new : ∀ i, i < H'.next → B'.get (ρ i) = (H'.get i).map (renB ρ)
  old : ∀ j, j < B.next → (∀ i, i < H.next → ρ i ≠ j) → B'.get j = B.get j

/-- What is read alone stands where it stood. -/
def RoOk (H H' : AHeap) : Prop := ∀ i vs e, H'.get i = some (.cells vs e true) → ∃ b, H.get i = some b

/-- The whole, made. -/
def mergeT (ρ : Nat → Nat) (H' : AHeap) : Nat → Tr ABlk → Tr ABlk
  | 0, t => t
  | n + 1, t => (mergeT ρ H' n t).set (ρ n) ((H'.get n).map (renB ρ))
theorem mergeT_new {ρ : Nat → Nat} (inj : ∀ i j, ρ i = ρ j → i = j) (H' : AHeap) (t : Tr ABlk) : ∀ n i, i < n → (mergeT ρ H' n t).get (ρ i) = (H'.get i).map (renB ρ) := by
  intro n
  induction n with
  | zero => intro i h; omega
  | succ n ih =>
    intro i h
    rw [mergeT, Tr.get_set]
    by_cases e : i = n
    · subst e; rw [if_pos rfl]
    · rw [if_neg (fun h => e (inj _ _ h)), ih i (by omega)]
theorem mergeT_old {ρ : Nat → Nat} (H' : AHeap) (t : Tr ABlk) (j : Nat) : ∀ n, (∀ i, i < n → ρ i ≠ j) → (mergeT ρ H' n t).get j = t.get j := by
  intro n
  induction n with
  | zero => intro _; rfl
  | succ n ih =>
    intro h
    rw [mergeT, Tr.get_set, if_neg (fun e => h n (Nat.lt_succ_self n) e.symm), ih (fun i hi => h i (by omega))]
def merge (ρ : Nat → Nat) (H B H' : AHeap) : AHeap := ⟨B.next + (H'.next - H.next), mergeT ρ H' H'.next B.m, B.rs⟩
theorem merge_ok {ρ : Nat → Nat} {H B H' : AHeap} (h : Stands ρ H B) (hn : H.next ≤ H'.next) : Merged ρ H B H' (merge ρ H B H') := by
  refine ⟨rfl, rfl, fun i hi => ?_, fun j hj ho => ?_⟩
  · unfold AHeap.get merge
    simp only
    rw [if_pos, mergeT_new h.inj _ _ _ _ hi]
    · rfl
    · rcases Nat.lt_or_ge i H.next with hl | hl
      · have := h.low i hl; omega
      · rw [h.high i hl]; omega
  · unfold AHeap.get merge
    simp only
    rw [if_pos (by omega), if_pos hj, mergeT_old]
    intro i hi e
    rcases Nat.lt_or_ge i H.next with hl | hl
    · exact ho i hl e
    · have := h.high i hl; omega

section
variable {P : Program} {w0 : World} {fr : Nat → Option Obj} {φ : Plan} {w : World} {ρ : Nat → Nat} {H B : AHeap}

/-- What is of the small heap, and may be written. -/
def Owned (ρ : Nat → Nat) (φ : Plan) (H : AHeap) (c : Nat) : Prop := ∃ i b l, H.get i = some b ∧ b.rw = true ∧ φ (ρ i) = some l ∧ l.blk = c
open Classical in
noncomputable def rest (ρ : Nat → Nat) (φ : Plan) (H : AHeap) (w : World) (c : Nat) : Option Obj := if Owned ρ φ H c then none else w.heap[c]?
theorem rest_none {c : Nat} (h : rest ρ φ H w c = none) (hc : c < w.heap.size) : Owned ρ φ H c := by
  unfold rest at h
  split at h
  · assumption
  · rw [Array.getElem?_eq_getElem hc] at h; cases h
theorem rest_owned {c : Nat} (h : Owned ρ φ H c) : rest ρ φ H w c = none := if_pos h
theorem rest_some {c : Nat} (h : ¬ Owned ρ φ H c) : rest ρ φ H w c = w.heap[c]? := if_neg h
theorem Rel.owned (h : Rel P w0 fr φ B w) (hs : Stands ρ H B) {c : Nat} (ho : Owned ρ φ H c) : fr c = none := by
  obtain ⟨i, b, l, h1, h2, h3, rfl⟩ := ho
  obtain ⟨l', q1, q2⟩ := h.lies _ _ (hs.blks i b h1)
  rw [h3] at q1; cases q1
  exact q2.frame_none (by rw [renB_rw]; exact h2)

theorem Rel.restrict (h : Rel P w0 fr φ B w) (hs : Stands ρ H B) : Rel P w (rest ρ φ H w) (fun i => φ (ρ i)) H w := by
  refine ⟨rfl, rfl, rfl, Nat.le_refl _, fun b o e => ?_, fun i hi => ?_, fun i b hb => ?_, fun i hi => ?_, fun i j b c l k hne e f hb hl hk => ?_⟩
  · unfold rest at e
    split at e
    · cases e
    · exact e
  · exact h.dom _ (by rw [hs.high i hi]; omega)
  · obtain ⟨l, q1, q2⟩ := h.lies _ _ (hs.blks i b hb)
    refine ⟨l, q1, ?_⟩
    cases b with
    | cells vs e ro =>
      obtain ⟨cs, e', z, h1, h2, h3, h4, h5⟩ := q2
      refine ⟨cs, e', z, h1, by simpa using h2, h3, fun j v hv => ?_, fun hr => ?_⟩
      · obtain ⟨cv, a, r⟩ := h4 j (ren ρ v) (by rw [List.getElem?_map, hv]; rfl)
        exact ⟨cv, a, r.unren (fun _ _ e => e) _⟩
      · obtain ⟨a1, a2, a3, a4, a5⟩ := h5 hr
        exact ⟨rest_owned ⟨i, _, l, hb, by simp [ABlk.rw, hr], q1, rfl⟩, a2, a3, a4, a5⟩
    | map es ck =>
      obtain ⟨h0, h1, h2, fs, h3, h4⟩ := q2
      refine ⟨h0, h1, rest_owned ⟨i, _, l, hb, rfl, q1, rfl⟩, fs, h3, by simpa using h4.1, fun j x y hx hy => ?_⟩
      obtain ⟨a, b, c, d⟩ := h4.2 j (renE ρ x) y (by rw [List.getElem?_map, hx]; rfl) hy
      exact ⟨a, b, c, RV.unren (fun _ _ e => e) _ d⟩
    | iter s p =>
      obtain ⟨h0, h1, h2, h3⟩ := q2
      exact ⟨h0, h1, rest_owned ⟨i, _, l, hb, rfl, q1, rfl⟩, h3⟩
  · rw [hs.rs] at hi; cases hi
  · exact h.disj (ρ i) (ρ j) _ _ l k (fun e => hne (hs.inj _ _ e)) (hs.blks i b e) (hs.blks j c f) (by rw [renB_rw]; exact hb) hl hk

open Classical in
noncomputable def planOf (ρ : Nat → Nat) (φ ψ : Plan) : Plan := fun j => match φ j with
  | some l => some l
  | none => if h : ∃ i, ρ i = j then ψ h.choose else none
theorem planOf_le (ρ : Nat → Nat) (φ ψ : Plan) : φ.le (planOf ρ φ ψ) := fun i l e => by unfold planOf; rw [e]
theorem planOf_new (inj : ∀ i j, ρ i = ρ j → i = j) {ψ : Plan} (hle : ∀ i l, φ (ρ i) = some l → ψ i = some l) (i : Nat) : planOf ρ φ ψ (ρ i) = ψ i := by
  unfold planOf
  split
  · rename_i l e; exact (hle i l e).symm
  · have hx : ∃ k, ρ k = ρ i := ⟨i, rfl⟩
    rw [dif_pos hx, inj _ _ hx.choose_spec]
theorem planOf_old {ψ : Plan} {j : Nat} (h : ∀ i, ρ i ≠ j) : planOf ρ φ ψ j = φ j := by
  unfold planOf
  split
  · rename_i l e; exact e.symm
  · rename_i e; rw [dif_neg (fun ⟨i, hi⟩ => h i hi), e]

theorem Rel.restore (h : Rel P w0 fr φ B w) (hs : Stands ρ H B) {ψ : Plan} {H' B' : AHeap} {w' : World} (hle : ∀ i l, φ (ρ i) = some l → ψ i = some l)
    (k : Rel P w (rest ρ φ H w) ψ H' w') (hn : H.next ≤ H'.next) (hro : RoOk H H') (hm : Merged ρ H B H' B') : Rel P w0 fr (planOf ρ φ ψ) B' w' := by
  have pnew := planOf_new (φ := φ) hs.inj hle
  -- the numbers of the whole: of the part, or old
  have kinds : ∀ j b, B'.get j = some b → (∃ i b0, i < H'.next ∧ ρ i = j ∧ H'.get i = some b0 ∧ b = renB ρ b0) ∨ ((∀ i, ρ i ≠ j) ∧ B.get j = some b) := by
    intro j b hb
    by_cases hx : ∃ i, ρ i = j
    · obtain ⟨i, rfl⟩ := hx
      have hi : i < H'.next := by
        rcases Nat.lt_or_ge i H'.next with hi | hi
        · exact hi
        · have := AHeap.get_lt hb
          rw [hm.next, hs.high i (by omega)] at this; omega
      rw [hm.new i hi] at hb
      obtain ⟨b0, h1, h2⟩ := Option.map_eq_some_iff.1 hb
      exact .inl ⟨i, b0, hi, rfl, h1, h2.symm⟩
    · have hx' : ∀ i, ρ i ≠ j := fun i e => hx ⟨i, e⟩
      have hj : j < B.next := by
        rcases Nat.lt_or_ge j B.next with hj | hj
        · exact hj
        · exact absurd (hs.high (H.next + (j - B.next)) (by omega)) (by rw [Nat.add_sub_cancel_left, Nat.add_sub_cancel' hj]; exact hx' _)
      exact .inr ⟨hx', by rw [← hm.old j hj (fun i _ => hx' i)]; exact hb⟩
  -- the part's blocks lie apart from the old ones
  have far : ∀ i b0 l j c l2, H'.get i = some b0 → ψ i = some l → (∀ i, ρ i ≠ j) → B.get j = some c → φ j = some l2 → (b0.rw = true ∨ c.rw = true) → l.blk ≠ l2.blk := by
    intro i b0 l j c l2 h1 h2 h3 h4 h5 h6 he
    obtain ⟨l2', q1, q2⟩ := h.lies j c h4
    rw [h5] at q1; cases q1
    have hlt := q2.lt
    obtain ⟨l', r1, r2⟩ := k.lies i b0 h1
    rw [h2] at r1; cases r1
    by_cases hb : b0.rw = true
    · obtain ⟨i0, b1, l3, s1, s2, s3, s4⟩ := rest_none (r2.frame_none hb) (by omega)
      have := h.disj (ρ i0) j _ _ l3 l2 (h3 i0) (hs.blks i0 b1 s1) h4 (by rw [renB_rw]; exact s2) s3 h5
      exact this (s4.trans he)
    · have hc : c.rw = true := by rcases h6 with h6 | h6; exact absurd h6 hb; exact h6
      cases b0 with
      | cells vs e ro =>
        have hr : ro = true := by cases ro; exact absurd rfl hb; rfl
        subst hr
        obtain ⟨b1, s1⟩ := hro i vs e h1
        obtain ⟨l3, s2, s3⟩ := h.lies _ _ (hs.blks i b1 s1)
        have := hle i l3 s2
        rw [h2] at this; cases this
        exact h.disj j (ρ i) _ _ l2 l (fun e => h3 i e.symm) h4 (hs.blks i b1 s1) hc h5 s2 he.symm
      | map es ck => exact absurd rfl hb
      | iter s p => exact absurd rfl hb
  refine ⟨k.os.trans h.os, k.tape.trans h.tape, k.output.trans h.output, Nat.le_trans h.size k.size, fun b o e => ?_, fun j hj => ?_, fun j b hb => ?_, fun j hj => ?_, fun j j2 b c l l2 hne e f hb hl hk => ?_⟩
  · refine k.frame b o ?_
    rw [rest_some, h.frame b o e]
    intro ho
    rw [h.owned hs ho] at e; cases e
  · rw [hm.next] at hj
    have hd : φ j = none := h.dom j (by omega)
    have := pnew (H.next + (j - B.next))
    rw [hs.high _ (by omega), Nat.add_sub_cancel_left, Nat.add_sub_cancel' (by omega : B.next ≤ j)] at this
    rw [this]
    exact k.dom _ (by omega)
  · rcases kinds j b hb with ⟨i, b0, hi, rfl, h1, rfl⟩ | ⟨h1, h2⟩
    · obtain ⟨l, q1, q2⟩ := k.lies i b0 h1
      refine ⟨l, by rw [pnew]; exact q1, ?_⟩
      have hfr : rest ρ φ H w l.blk = none → fr l.blk = none := fun hr => by
        rcases Nat.lt_or_ge l.blk w.heap.size with hl | hl
        · exact h.owned hs (rest_none hr hl)
        · cases hf : fr l.blk with
          | none => rfl
          | some o => have := h.frame _ _ hf; rw [Array.getElem?_eq_none hl] at this; cases this
      have up : ∀ {v cv : Value}, RV ψ v cv → RV (planOf ρ φ ψ) (ren ρ v) cv := fun r => r.renamed fun i l e => by rw [pnew]; exact e
      cases b0 with
      | cells vs e ro =>
        obtain ⟨cs, e', z, a1, a2, a3, a4, a5⟩ := q2
        refine ⟨cs, e', z, a1, by simpa using a2, a3, fun m v hv => ?_, fun hr => ?_⟩
        · rw [List.getElem?_map] at hv
          obtain ⟨u, hu, rfl⟩ := Option.map_eq_some_iff.1 hv
          obtain ⟨cv, b1, b2⟩ := a4 m u hu
          exact ⟨cv, b1, up b2⟩
        · obtain ⟨b1, b2, b3, b4⟩ := a5 hr
          exact ⟨hfr b1, b2, b3, b4⟩
      | map es ck =>
        obtain ⟨a0, a1, a2, fs, a3, a4⟩ := q2
        refine ⟨a0, a1, hfr a2, fs, a3, by simpa using a4.1, fun m x y hx hy => ?_⟩
        rw [List.getElem?_map] at hx
        obtain ⟨u, hu, rfl⟩ := Option.map_eq_some_iff.1 hx
        obtain ⟨b1, b2, b3, b4⟩ := a4.2 m u y hu hy
        exact ⟨b1, b2, b3, up b4⟩
      | iter s p =>
        obtain ⟨a0, a1, a2, a3⟩ := q2
        exact ⟨a0, a1, hfr a2, a3⟩
    · obtain ⟨l, q1, q2⟩ := h.lies j b h2
      refine ⟨l, planOf_le _ _ _ _ _ q1, q2.keep (planOf_le _ _ _) ?_⟩
      have hlt := q2.lt
      rw [Array.getElem?_eq_getElem hlt]
      refine k.frame _ _ ?_
      rw [rest_some, Array.getElem?_eq_getElem hlt]
      rintro ⟨i0, b1, l3, s1, s2, s3, s4⟩
      exact h.disj (ρ i0) j _ _ l3 l (h1 i0) (hs.blks i0 b1 s1) h2 (by rw [renB_rw]; exact s2) s3 q1 s4
  · rw [hm.rs] at hj
    obtain ⟨a, b, c⟩ := h.resv j hj
    have hx : ∀ i, ρ i ≠ j := fun i e => by
      rcases Nat.lt_or_ge i H.next with hi | hi
      · exact hs.rsB i hi (e ▸ hj)
      · have := hs.high i hi; omega
    exact ⟨by rw [hm.next]; omega, by rw [planOf_old hx]; exact b, by rw [hm.old j a (fun i _ => hx i)]; exact c⟩
  · rcases kinds j b e with ⟨i, b0, hi, rfl, h1, rfl⟩ | ⟨h1, h2⟩
    · rw [pnew] at hl
      rw [renB_rw] at hb
      rcases kinds j2 c f with ⟨i2, c0, hi2, rfl, g1, rfl⟩ | ⟨g1, g2⟩
      · rw [pnew] at hk
        exact k.disj i i2 b0 c0 l l2 (fun e => hne (by rw [e])) h1 g1 hb hl hk
      · rw [planOf_old g1] at hk
        exact far i b0 l j2 c l2 h1 hl g1 g2 hk (.inl hb)
    · rw [planOf_old h1] at hl
      rcases kinds j2 c f with ⟨i2, c0, hi2, rfl, g1, rfl⟩ | ⟨g1, g2⟩
      · rw [pnew] at hk
        exact fun e => far i2 c0 l2 j b l g1 hk h1 h2 hl (.inr hb) e.symm
      · rw [planOf_old g1] at hk
        exact h.disj j j2 b c l l2 hne h2 g2 hb hl hk

/-- A call that is carried out over the part is so carried out over the whole. -/
theorem ACall.frame {f : FuncId} {args : List Value} {Q : AEnd → AHeap → Prop} (hs : Stands ρ H B) (h : ACall P f args H Q) (hq : ∀ ae H', Q ae H' → H.next ≤ H'.next ∧ RoOk H H') :
    ACall P f (args.map (ren ρ)) B fun ae B' => ∃ a0 H', Q a0 H' ∧ ae = renEnd ρ a0 ∧ B' = merge ρ H B H' ∧ Merged ρ H B H' B' := by
  intro w0 fr φ w cs hR hA
  have hA' : RL (fun i => φ (ρ i)) args cs.toList := by
    refine ⟨by simpa using hA.1, fun i x y hx hy => ?_⟩
    exact (hA.2 i (ren ρ x) y (by rw [List.getElem?_map, hx]; rfl) hy).unren (fun _ _ e => e) _
  refine (h w (rest ρ φ H w) _ w cs (hR.restrict hs) hA').mono fun e w' ⟨ae, H', ψ, a, b, c, d⟩ => ?_
  obtain ⟨q1, q2⟩ := hq ae H' d
  have hle : ∀ i l, φ (ρ i) = some l → ψ i = some l := fun i l e => a i l e
  refine ⟨renEnd ρ ae, merge ρ H B H', planOf ρ φ ψ, planOf_le _ _ _, hR.restore hs hle b q1 q2 (merge_ok hs q1), ?_, ae, H', d, rfl, rfl, merge_ok hs q1⟩
  have up : ∀ {v cv : Value}, RV ψ v cv → RV (planOf ρ φ ψ) (ren ρ v) cv := fun r => r.renamed fun i l e => by rw [planOf_new hs.inj hle]; exact e
  cases c with
  | ret r => exact .ret (up r)
  | panic r => exact .panic (up r)
end

/-- The part that stands from a number on; what is more comes behind the whole. -/
def shift (k n m : Nat) (i : Nat) : Nat := if i < n then i + k else m + (i - n)
theorem shift_inj {k n m : Nat} (h : k + n ≤ m) (i j : Nat) (e : shift k n m i = shift k n m j) : i = j := by
  unfold shift at e
  split at e <;> split at e <;> omega
/-- An empty heap stands in each one. -/
theorem Stands.empty (B : AHeap) : Stands (shift 0 0 B.next) AHeap.empty B :=
  ⟨shift_inj (by omega), fun i hi => absurd hi (Nat.not_lt_zero i), fun i _ => by simp [shift, AHeap.empty], fun i b e => by simp [AHeap.get, AHeap.empty] at e, rfl, fun i hi => absurd hi (Nat.not_lt_zero i)⟩
end Go.Proofs.YtfolofhknhgpiaaGreatDoor
