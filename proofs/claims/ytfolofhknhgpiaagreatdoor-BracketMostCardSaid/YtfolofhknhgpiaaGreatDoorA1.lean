/- How a heap's place in a world turns: new blocks, cells written, rows that grow. -/
import Derived.Test.YtfolofhknhgpiaaGreatDoorA0
import Derived.Deep.AppendSrc
set_option linter.unusedVariables false
namespace Go.Proofs.YtfolofhknhgpiaaGreatDoor
open Go

/-! ### Cells written over -/
def over (cs : Array Value) : Nat → List Value → Array Value
  | _, [] => cs
  | o, v :: r => over (cs.setIfInBounds o v) (o + 1) r
theorem over_size : ∀ (vs : List Value) (cs : Array Value) (o : Nat), (over cs o vs).size = cs.size
  | [], _, _ => rfl
  | v :: r, cs, o => by rw [over, over_size r]; simp
theorem over_get : ∀ (vs : List Value) (cs : Array Value) (o j : Nat), o + vs.length ≤ cs.size →
    (over cs o vs)[j]? = if o ≤ j ∧ j < o + vs.length then vs[j - o]? else cs[j]?
  | [], cs, o, j, h => by simp [over]; omega
  | v :: r, cs, o, j, h => by
    simp only [List.length_cons] at h
    rw [over, over_get r _ _ _ (by simp; omega)]
    by_cases h1 : o + 1 ≤ j ∧ j < o + 1 + r.length
    · rw [if_pos h1, if_pos (by simp; omega)]
      obtain ⟨k, rfl⟩ : ∃ k, j = o + 1 + k := ⟨j - (o + 1), by omega⟩
      rw [show o + 1 + k - (o + 1) = k from by omega, show o + 1 + k - o = k + 1 from by omega]; rfl
    · rw [if_neg h1]
      by_cases h2 : j = o
      · subst h2
        rw [if_pos (by simp)]
        simp [Array.getElem?_setIfInBounds]; omega
      · rw [if_neg (by simp; omega), Array.getElem?_setIfInBounds_ne (fun e => h2 e.symm)]

theorem heap_setCells : ∀ (vs : List Value) (w : World) (b o : Nat) (cs : Array Value) (e : TypeId) (z : Nat × Nat), w.heap[b]? = some (.cells cs e z) →
    (w.setCells b o vs).heap[b]? = some (.cells (over cs o vs) e z)
  | [], _, _, _, _, _, _, h => h
  | v :: r, w, b, o, cs, e, z, h => by
    rw [World.setCells, heap_setCells r _ _ _ (cs.setIfInBounds o v) e z]
    · rfl
    · unfold World.setCell
      have hb : b < w.heap.size := by
        rcases Nat.lt_or_ge b w.heap.size with h1 | h1
        · exact h1
        · rw [Array.getElem?_eq_none h1] at h; cases h
      simp [Array.getElem?_modify, h]
theorem heap_setCells_ne : ∀ (vs : List Value) (w : World) (b o i : Nat), i ≠ b → (w.setCells b o vs).heap[i]? = w.heap[i]?
  | [], _, _, _, _, _ => rfl
  | v :: r, w, b, o, i, h => by
    rw [World.setCells, heap_setCells_ne r _ _ _ _ h]
    unfold World.setCell
    simp [Array.getElem?_modify, Ne.symm h]
theorem setCells_same : ∀ (vs : List Value) (w : World) (b o : Nat), (w.setCells b o vs).os = w.os ∧ (w.setCells b o vs).tape = w.tape ∧ (w.setCells b o vs).output = w.output ∧ (w.setCells b o vs).heap.size = w.heap.size
  | [], _, _, _ => ⟨rfl, rfl, rfl, rfl⟩
  | v :: r, w, b, o => by
    obtain ⟨a, c, d, e⟩ := setCells_same r (w.setCell ⟨b, o, none⟩ v) b (o + 1)
    rw [World.setCells]
    exact ⟨a, c, d, e.trans (by unfold World.setCell; simp)⟩

/-- Cells of a list written over. -/
def putCells (vs : List Value) (o : Nat) (news : List Value) : List Value := vs.take o ++ news ++ vs.drop (o + news.length)
theorem putCells_length {vs news : List Value} {o : Nat} (h : o + news.length ≤ vs.length) : (putCells vs o news).length = vs.length := by
  simp [putCells]; omega
theorem putCells_get {vs news : List Value} {o : Nat} (h : o + news.length ≤ vs.length) (j : Nat) :
    (putCells vs o news)[j]? = if o ≤ j ∧ j < o + news.length then news[j - o]? else vs[j]? := by
  unfold putCells
  rw [List.append_assoc]
  by_cases h1 : j < o
  · rw [List.getElem?_append_left (by simp; omega), if_neg (by omega), List.getElem?_take, if_pos h1]
  · rw [List.getElem?_append_right (by simp; omega)]
    have e : (vs.take o).length = o := by simp; omega
    rw [e]
    by_cases h2 : j < o + news.length
    · rw [if_pos ⟨by omega, h2⟩, List.getElem?_append_left (by omega)]
    · rw [if_neg (by omega), List.getElem?_append_right (by omega), List.getElem?_drop]
      congr 1; omega
theorem putCells_one {vs : List Value} {o : Nat} {v : Value} (h : o < vs.length) : putCells vs o [v] = vs.set o v := by
  refine List.ext_getElem? fun j => ?_
  rw [putCells_get (by simp; omega), List.getElem?_set]
  by_cases e : o = j
  · subst e; simp [h]
  · rw [if_neg (by simp; omega), if_neg e]

section
variable {P : Program} {w0 : World} {fr : Nat → Option Obj} {φ : Plan} {H : AHeap} {w : World}

/-! ### New blocks -/
theorem heap_alloc_lt (o : Obj) {i : Nat} (h : i < w.heap.size) : (w.alloc o).heap[i]? = w.heap[i]? := by
  unfold World.alloc; simp [Array.getElem?_push, Nat.ne_of_lt h]
theorem heap_alloc_new' (o : Obj) : (w.alloc o).heap[w.heap.size]? = some o := by
  unfold World.alloc; simp

theorem Rel.fresh (h : Rel P w0 fr φ H w) : fr w.heap.size = none := by
  cases hf : fr w.heap.size with
  | none => rfl
  | some o => have := h.frame _ _ hf; simp at this

theorem Rel.next_none (h : Rel P w0 fr φ H w) : φ H.next = none := h.dom _ (Nat.le_refl _)

/-- A block of the world that no abstract block is. -/
theorem Rel.garbage (h : Rel P w0 fr φ H w) (o : Obj) : Rel P w0 fr φ H (w.alloc o) := by
  refine ⟨h.os, h.tape, h.output, ?_, fun b p e => ?_, h.dom, fun i b e => ?_, h.resv, h.disj⟩
  · have := h.size; unfold World.alloc; simp; omega
  · have := h.frame b p e
    rw [heap_alloc_lt]
    · exact this
    · rcases Nat.lt_or_ge b w.heap.size with h1 | h1
      · exact h1
      · rw [Array.getElem?_eq_none h1] at this; cases this
  · obtain ⟨l, p, q⟩ := h.lies i b e
    exact ⟨l, p, q.keep (Plan.le_refl φ) (heap_alloc_lt o q.lt)⟩

/-- An abstract block more, at a place that no other one has. -/
theorem Rel.adopt (h : Rel P w0 fr φ H w) (b : ABlk) (l : Loc) (hl : Lies P fr (φ.put H.next l) w l b)
    (hd : ∀ j c k, H.get j = some c → φ j = some k → (b.rw = true ∨ c.rw = true) → apart l k ∧ apart k l) : Rel P w0 fr (φ.put H.next l) (H.push b) w := by
  have hle := Plan.le_put h.next_none l
  refine ⟨h.os, h.tape, h.output, h.size, h.frame, fun i hi => ?_, fun i c e => ?_, fun i hi => ?_, fun i j c d k m hne e f hb hk hm => ?_⟩
  · rw [AHeap.next_push] at hi
    unfold Plan.put
    rw [if_neg (by omega)]
    exact h.dom i (by omega)
  · rw [AHeap.get_push] at e
    split at e
    · rename_i hi; subst hi; cases e
      exact ⟨l, by simp [Plan.put], hl⟩
    · obtain ⟨k, p, q⟩ := h.lies i c e
      exact ⟨k, hle _ _ p, q.keep hle rfl⟩
  · obtain ⟨a, b, c⟩ := h.resv i hi
    have hne : i ≠ H.next := Nat.ne_of_lt a
    refine ⟨Nat.lt_succ_of_lt a, by unfold Plan.put; rw [if_neg hne]; exact b, by rw [AHeap.get_push, if_neg hne]; exact c⟩
  · rw [AHeap.get_push] at e f
    unfold Plan.put at hk hm
    split at e
    · rename_i hi; subst hi; cases e
      rw [if_pos rfl] at hk; cases hk
      rw [if_neg (Ne.symm hne)] at f hm
      exact (hd j d m f hm (.inl hb)).1
    · rename_i hi
      rw [if_neg hi] at hk
      split at f
      · rename_i hj; subst hj; cases f
        rw [if_pos rfl] at hm; cases hm
        exact (hd i c k e hk (.inr hb)).2
      · rename_i hj
        rw [if_neg hj] at hm
        exact h.disj i j c d k m hne e f hb hk hm

/-- A new block of the world, which is a new abstract one. -/
theorem Rel.alloc (h : Rel P w0 fr φ H w) (o : Obj) (b : ABlk) (l : Loc) (hb : l.blk = w.heap.size) (hl : ∀ ψ : Plan, φ.le ψ → Lies P fr ψ (w.alloc o) l b) :
    Rel P w0 fr (φ.put H.next l) (H.push b) (w.alloc o) := by
  refine (h.garbage o).adopt b l (hl _ (Plan.le_put h.next_none l)) fun j c k hj hk _ => ?_
  obtain ⟨k', p, q⟩ := h.lies j c hj
  rw [hk] at p; cases p
  have := q.lt
  exact ⟨by unfold apart; omega, by unfold apart; omega⟩

/-- A number kept. -/
theorem Rel.keep (h : Rel P w0 fr φ H w) : Rel P w0 fr φ H.keep w := by
  have hg : ∀ i b, H.keep.get i = some b → H.get i = some b := fun i b e => by
    rw [AHeap.get_keep] at e
    split at e
    · cases e
    · exact e
  refine ⟨h.os, h.tape, h.output, h.size, h.frame, fun i hi => h.dom i (Nat.le_of_succ_le hi), fun i b e => h.lies i b (hg i b e), fun i hi => ?_, fun i j b c l k hne e f hb hl hk => h.disj i j b c l k hne (hg i b e) (hg j c f) hb hl hk⟩
  rcases List.mem_cons.1 hi with rfl | hi
  · exact ⟨Nat.lt_succ_self _, h.next_none, by rw [AHeap.get_keep, if_pos rfl]⟩
  · obtain ⟨a, b, c⟩ := h.resv i hi
    exact ⟨Nat.lt_succ_of_lt a, b, by rw [AHeap.get_keep, if_neg (Nat.ne_of_lt a)]; exact c⟩
/-- A new block under a number that was kept. -/
theorem Rel.fill (h : Rel P w0 fr φ H w) {i : Nat} (hi : i ∈ H.rs) (o : Obj) (b : ABlk) (l : Loc) (hb : l.blk = w.heap.size) (hl : ∀ ψ : Plan, φ.le ψ → Lies P fr ψ (w.alloc o) l b) :
    Rel P w0 fr (φ.put i l) (H.fill i b) (w.alloc o) ∧ φ.le (φ.put i l) := by
  obtain ⟨a, hn, c⟩ := h.resv i hi
  have hle := Plan.le_put hn l
  have g := h.garbage o
  have hap : ∀ j c k, H.get j = some c → φ j = some k → apart l k ∧ apart k l := fun j c k hj hk => by
    obtain ⟨k', p, q⟩ := h.lies j c hj
    rw [hk] at p; cases p
    have := q.lt
    exact ⟨by unfold apart; omega, by unfold apart; omega⟩
  refine ⟨⟨g.os, g.tape, g.output, g.size, g.frame, fun j hj => ?_, fun j c e => ?_, fun j hj => ?_, fun j k c d m n hne e f hb hm hn => ?_⟩, hle⟩
  · have hji : j ≠ i := by rintro rfl; exact absurd (show H.next ≤ j from hj) (by omega)
    unfold Plan.put; rw [if_neg hji]; exact h.dom j hj
  · rw [AHeap.get_fill a] at e
    split at e
    · rename_i e1; subst e1; cases e
      exact ⟨l, by simp [Plan.put], hl _ hle⟩
    · obtain ⟨k, p, q⟩ := g.lies j c e
      exact ⟨k, hle _ _ p, q.keep hle rfl⟩
  · have hj' : j ∈ H.rs ∧ j ≠ i := by simpa [AHeap.fill] using hj
    obtain ⟨p, q, r⟩ := h.resv j hj'.1
    exact ⟨p, by unfold Plan.put; rw [if_neg hj'.2]; exact q, by rw [AHeap.get_fill a, if_neg hj'.2]; exact r⟩
  · rw [AHeap.get_fill a] at e f
    unfold Plan.put at hm hn
    split at e
    · rename_i e1; subst e1; cases e
      rw [if_pos rfl] at hm; cases hm
      rw [if_neg (Ne.symm hne)] at f hn
      exact (hap k _ n f hn).1
    · rename_i e1
      rw [if_neg e1] at hm
      split at f
      · rename_i e2; subst e2; cases f
        rw [if_pos rfl] at hn; cases hn
        exact (hap j _ m e hm).2
      · rename_i e2
        rw [if_neg e2] at hn
        exact g.disj j k c d m n hne e f hb hm hn

theorem Lies.newCells (ψ : Plan) {vs : List Value} {e : TypeId} {cs : Array Value} {n : Nat} (hf : fr w.heap.size = none) (hr : ∀ (j : Nat) (v : Value), vs[j]? = some v → ∃ cv, cs[j]? = some cv ∧ RV ψ v cv)
    (hn : vs.length ≤ cs.size) (hx : n = cs.size) : Lies P fr ψ (w.alloc (.cells cs e)) ⟨w.heap.size, 0, n, P.cellsOf e⟩ (.cells vs e false) := by
  subst hx
  refine ⟨cs, e, (0, 0), heap_alloc_new' _, hn, by simp, fun j v hv => by simpa using hr j v hv, fun _ => ⟨hf, rfl, rfl, fun j _ hj => ?_, Nat.zero_mod _⟩⟩
  simp at hj

theorem Rel.newCells (h : Rel P w0 fr φ H w) {vs cs : List Value} (e : TypeId) (hr : RL φ vs cs) :
    Rel P w0 fr (φ.put H.next ⟨w.heap.size, 0, cs.length, P.cellsOf e⟩) (H.push (.cells vs e false)) (w.alloc (.cells cs.toArray e)) :=
  h.alloc _ _ _ rfl fun ψ hψ => Lies.newCells ψ h.fresh (fun j v hv => let ⟨y, a, b⟩ := hr.get hv; ⟨y, by simpa using a, b.mono hψ⟩) (by simp [hr.1]) (by simp)

/-! ### Cells written -/
theorem Rel.write_kill (h : Rel P w0 fr φ H w) {i : Nat} {vs : List Value} {e : TypeId} {l : Loc} (hi : H.get i = some (.cells vs e false)) (hp : φ i = some l)
    {o : Nat} {news : List Value} (ho : o + news.length ≤ l.ext) : Rel P w0 fr φ (H.kill i) (w.setCells l.blk (l.base + o) news) := by
  obtain ⟨l', p, q⟩ := h.lies i _ hi
  rw [hp] at p; cases p
  obtain ⟨cs, e', z, h1, h2, h3, h4, h5⟩ := q
  obtain ⟨h5, h6, h7, h8, h9⟩ := h5 rfl
  obtain ⟨s1, s2, s3, s4⟩ := setCells_same news w l.blk (l.base + o)
  have hk := h.kill i
  refine ⟨s1.trans h.os, s2.trans h.tape, s3.trans h.output, by rw [s4]; exact h.size, fun b p hb => ?_, h.dom, fun j b hj => ?_, hk.resv, hk.disj⟩
  · rw [heap_setCells_ne]
    · exact h.frame b p hb
    · rintro rfl; rw [h5] at hb; cases hb
  · obtain ⟨k, hk1, hk2⟩ := hk.lies j b hj
    refine ⟨k, hk1, ?_⟩
    by_cases hne : k.blk = l.blk
    · rw [AHeap.get_kill] at hj
      split at hj
      · cases hj
      · rename_i hji
        have ap := h.disj i j _ _ l k (Ne.symm hji) hi hj rfl hp hk1
        exact absurd hne.symm ap
    · exact hk2.keep (Plan.le_refl φ) (heap_setCells_ne _ _ _ _ _ hne)

theorem Rel.write (h : Rel P w0 fr φ H w) {i : Nat} {vs : List Value} {e : TypeId} {l : Loc} (hi : H.get i = some (.cells vs e false)) (hp : φ i = some l)
    {o : Nat} {news cnews : List Value} (hr : RL φ news cnews) (ho : o + news.length ≤ vs.length) :
    Rel P w0 fr φ (H.set i (.cells (putCells vs o news) e false)) (w.setCells l.blk (l.base + o) cnews) := by
  obtain ⟨l', p, q⟩ := h.lies i _ hi
  rw [hp] at p; cases p
  have q0 := q
  obtain ⟨cs, e', z, h1, h2, h3, h4, h5⟩ := q
  have h5' := h5
  obtain ⟨h5, h6, h7, h8, h9⟩ := h5 rfl
  have hK := h.write_kill hi hp (o := o) (news := cnews) (by rw [← hr.1]; omega)
  have hx := heap_setCells cnews w l.blk (l.base + o) cs e' z h1
  refine ⟨hK.os, hK.tape, hK.output, hK.size, hK.frame, h.dom, fun j b hj => ?_, fun j hj => ?_, fun j k b c m n hne ej ek hb hm hn => ?_⟩
  · by_cases hji : j = i
    · subst hji
      rw [AHeap.get_set_same hi] at hj; cases hj
      refine ⟨l, hp, _, e', z, hx, by rw [putCells_length ho]; exact h2, by rw [over_size]; exact h3, fun m v hv => ?_, h5'⟩
      rw [putCells_get ho] at hv
      rw [over_get _ _ _ _ (by rw [← hr.1]; omega)]
      by_cases hm : o ≤ m ∧ m < o + news.length
      · rw [if_pos hm] at hv
        obtain ⟨y, a, b⟩ := hr.get hv
        refine ⟨y, ?_, b⟩
        rw [if_pos (by rw [← hr.1]; omega), show l.base + m - (l.base + o) = m - o from by omega]; exact a
      · rw [if_neg hm] at hv
        rw [if_neg (by rw [← hr.1]; omega)]
        exact h4 m v hv
    · rw [AHeap.get_set_ne hji] at hj
      exact hK.lies j b (by rw [AHeap.get_kill_ne hji]; exact hj)
  · obtain ⟨a, b, c⟩ := h.resv j hj
    refine ⟨a, b, ?_⟩
    rw [AHeap.get_set_ne (by rintro rfl; rw [hi] at c; cases c)]
    exact c
  · have key : ∀ x y, (H.set i (.cells (putCells vs o news) e false)).get x = some y → ∃ y', H.get x = some y' ∧ y'.rw = y.rw := fun x y hxy => by
      by_cases hxi : x = i
      · subst hxi; rw [AHeap.get_set_same hi] at hxy; cases hxy; exact ⟨_, hi, rfl⟩
      · rw [AHeap.get_set_ne hxi] at hxy; exact ⟨y, hxy, rfl⟩
    obtain ⟨b', eb, rb⟩ := key _ _ ej
    obtain ⟨c', ec, rc⟩ := key _ _ ek
    exact h.disj j k b' c' m n hne eb ec (rb.trans hb) hm hn

/-- A row that grows where it lies: what it was is gone. -/
theorem Rel.grow (h : Rel P w0 fr φ H w) {i : Nat} {vs : List Value} {e : TypeId} {l : Loc} (hi : H.get i = some (.cells vs e false)) (hp : φ i = some l)
    {o n : Nat} {news cnews : List Value} (hr : RL φ news cnews) (hv : o + n ≤ vs.length) (ho : o + n + news.length ≤ l.ext) (hos : o % l.esz = 0) :
    Rel P w0 fr (φ.put H.next ⟨l.blk, l.base + o, l.ext - o, l.esz⟩) ((H.kill i).push (.cells ((vs.drop o).take n ++ news) e false)) (w.setCells l.blk (l.base + (o + n)) cnews) := by
  obtain ⟨l', p, q⟩ := h.lies i _ hi
  rw [hp] at p; cases p
  obtain ⟨cs, e', z, h1, h2, h3, h4, h5⟩ := q
  obtain ⟨h5, h6, h7, h8, h9⟩ := h5 rfl
  have hK := h.write_kill hi hp (o := o + n) (news := cnews) (by rw [← hr.1]; omega)
  have hx := heap_setCells cnews w l.blk (l.base + (o + n)) cs e' z h1
  have hle := Plan.le_put h.next_none ⟨l.blk, l.base + o, l.ext - o, l.esz⟩
  have hlen : ((vs.drop o).take n).length = n := by simp; omega
  refine hK.adopt _ _ ⟨_, e', z, hx, ?_, ?_, fun m v hm => ?_, fun _ => ⟨h5, h6, h7, fun j hj => ?_, by
    simp only
    rw [Nat.add_mod, h9, hos]; simp⟩⟩ fun j c k hj hk _ => ?_
  · simp only [List.length_append, hlen]; omega
  · rw [over_size]; simp; omega
  · rw [over_get _ _ _ _ (by rw [← hr.1]; omega)]
    simp only
    by_cases hmn : m < n
    · rw [List.getElem?_append_left (by omega), List.getElem?_take, if_pos hmn, List.getElem?_drop] at hm
      rw [if_neg (by omega)]
      obtain ⟨cv, a, b⟩ := h4 _ _ hm
      exact ⟨cv, by rw [show l.base + o + m = l.base + (o + m) from by omega]; exact a, b.mono hle⟩
    · rw [List.getElem?_append_right (by omega), hlen] at hm
      obtain ⟨y, a, b⟩ := hr.get hm
      have hlt : m - n < news.length := by
        rcases Nat.lt_or_ge (m - n) news.length with h | h
        · exact h
        · rw [List.getElem?_eq_none h] at hm; cases hm
      rw [if_pos (by rw [← hr.1]; omega), show l.base + o + m - (l.base + (o + n)) = m - n from by omega]
      exact ⟨y, a, b.mono hle⟩
  · have := h8 (o + j) (by simp at hj; omega)
    simp only; rwa [show l.base + o + j = l.base + (o + j) from by omega]
  · have hji : j ≠ i := by
      rintro rfl; rw [AHeap.get_kill, if_pos rfl] at hj; cases hj
    rw [AHeap.get_kill_ne hji] at hj
    have ap := h.disj i j _ _ l k (Ne.symm hji) hi hj rfl hp hk
    unfold apart at ap ⊢
    exact ⟨ap, ap.symm⟩

/-! ### What is read -/
theorem Rel.cells (h : Rel P w0 fr φ H w) {i : Nat} {vs : List Value} {e : TypeId} {ro : Bool} (hi : H.get i = some (.cells vs e ro)) :
    ∃ l, φ i = some l ∧ vs.length ≤ l.ext ∧ (∀ j v, vs[j]? = some v → ∃ cv, w.cell? ⟨l.blk, l.base + j, none⟩ = some cv ∧ RV φ v cv) ∧
      (ro = false → P.cellsOf e = l.esz ∧ (∀ j, j < l.ext → (w.cell? ⟨l.blk, l.base + j, none⟩).isSome = true ∧ w.frozen? ⟨l.blk, l.base + j, none⟩ = false)) := by
  obtain ⟨l, p, cs, e', z, h1, h2, h3, h4, h5⟩ := h.lies i _ hi
  refine ⟨l, p, h2, fun j v hv => ?_, fun hr => ⟨(h5 hr).2.2.1, fun j hj => ⟨?_, ?_⟩⟩⟩
  · obtain ⟨cv, a, b⟩ := h4 j v hv
    exact ⟨cv, by simp [World.cell?, h1, a], b⟩
  · simp only [World.cell?, h1]
    simp [Array.getElem?_eq_getElem (show l.base + j < cs.size by omega)]
  · have := (h5 hr).2.2.2.1 j hj
    simp only [World.frozen?, h1]
    cases hd : (decide (z.1 ≤ l.base + j) && decide (l.base + j < z.2)) with
    | false => rfl
    | true => simp only [Bool.and_eq_true, decide_eq_true_eq] at hd; exact (this hd).elim

/-- So many cells from a place on. -/
theorem Rel.range (h : Rel P w0 fr φ H w) {i : Nat} {vs : List Value} {e : TypeId} {ro : Bool} (hi : H.get i = some (.cells vs e ro)) {l : Loc} (hp : φ i = some l) {o n : Nat} (hn : o + n ≤ vs.length) :
    ∃ cs : List Value, RL φ ((vs.drop o).take n) cs ∧ cs.length = n ∧ ∀ j v, cs[j]? = some v → w.cell? ⟨l.blk, l.base + o + j, none⟩ = some v := by
  obtain ⟨l', p, h1, h2, h3⟩ := h.cells hi
  rw [hp] at p; cases p
  have key : ∀ n, o + n ≤ vs.length → ∃ cs : List Value, RL φ ((vs.drop o).take n) cs ∧ cs.length = n ∧ ∀ j v, cs[j]? = some v → w.cell? ⟨l.blk, l.base + o + j, none⟩ = some v := by
    intro n
    induction n with
    | zero => intro _; exact ⟨[], by simp; exact RL.nil φ, rfl, fun j v hv => by simp at hv⟩
    | succ n ih =>
      intro hn
      obtain ⟨cs, a, b, c⟩ := ih (by omega)
      obtain ⟨cv, d, r⟩ := h2 (o + n) vs[o + n] (List.getElem?_eq_getElem (by omega))
      refine ⟨cs ++ [cv], ?_, by simp [b], fun j v hv => ?_⟩
      · rw [List.take_succ_eq_append_getElem (by simp; omega)]
        refine a.append ((RL.nil φ).cons ?_)
        simpa using r
      · by_cases hj : j < n
        · rw [List.getElem?_append_left (by omega)] at hv
          exact c j v hv
        · rw [List.getElem?_append_right (by omega), b] at hv
          have hj0 : j = n := by
            cases hjn : j - n with
            | zero => omega
            | succ m => rw [hjn] at hv; simp at hv
          subst hj0
          simp at hv; subst hv
          rw [Nat.add_assoc]; exact d
  exact key n hn
end
end Go.Proofs.YtfolofhknhgpiaaGreatDoor
