/- The nodes of a tree; match.one. -/
import Derived.Test.YtihpfgnigpmihaaGreatC2
set_option linter.unusedVariables false
set_option linter.unusedSimpArgs false
set_option maxRecDepth 100000
namespace Go.Proofs.YtihpfgnigpmihaaGreat
open Go

/-- A node: its kind, its cell, what set it has, its group, from how many times to how many, and its kids. -/
structure Nd where
  kind : Nat
  cell : Int
  neg : Bool
  s1 : Value
  s2 : Value
  grp : Int
  lo : Nat
  hi : Int
  kids : Value
  kl : List Nat
  h1 : s1.oneCell' = true
  h2 : s2.oneCell' = true
  h3 : kids.oneCell' = true
def Nd.cells (n : Nd) : List Value := [.int .u8 (n.kind : Int), .int .i32 n.cell, .bool n.neg, n.s1, n.s2, .int .i64 n.grp, .int .i64 (n.lo : Int), .int .i64 n.hi, n.kids]
def Nd.pn (n : Nd) : Pn := ⟨n.kind, n.cell, n.lo, n.hi, n.kl⟩
def nodeCells (ns : List Nd) : List Value := ns.flatMap Nd.cells
theorem flatMap_drop {α β : Type} (f : α → List β) (m : Nat) (hf : ∀ x, (f x).length = m) : ∀ (l : List α) (i : Nat), (l.flatMap f).drop (i * m) = (l.drop i).flatMap f
  | l, 0 => by simp
  | [], i + 1 => by simp
  | x :: l, i + 1 => by
    rw [List.flatMap_cons, List.drop_succ_cons, ← flatMap_drop f m hf l i, Nat.add_mul, Nat.one_mul, Nat.add_comm, ← List.drop_drop]
    congr 1
    rw [List.drop_append_of_le_length (Nat.le_of_eq (hf _).symm), List.drop_of_length_le (Nat.le_of_eq (hf _)), List.nil_append]
theorem flatMap_part {α β : Type} (f : α → List β) (m : Nat) (hf : ∀ x, (f x).length = m) {l : List α} {i : Nat} {x : α} (h : l[i]? = some x) : ((l.flatMap f).drop (i * m)).take m = f x := by
  obtain ⟨hi, rfl⟩ := List.getElem?_eq_some_iff.1 h
  rw [flatMap_drop f m hf, List.drop_eq_getElem_cons hi, List.flatMap_cons, List.take_append_of_le_length (Nat.le_of_eq (hf _).symm), List.take_of_length_le (Nat.le_of_eq (hf _))]
theorem flatMap_cell {α β : Type} (f : α → List β) (m : Nat) (hf : ∀ x, (f x).length = m) {l : List α} {i : Nat} {x : α} (h : l[i]? = some x) {j : Nat} (hj : j < m) : (l.flatMap f)[i * m + j]? = (f x)[j]? := by
  rw [← flatMap_part f m hf h, List.getElem?_take, if_pos hj, List.getElem?_drop]
theorem flatMap_len {α β : Type} (f : α → List β) (m : Nat) (hf : ∀ x, (f x).length = m) : ∀ (l : List α), (l.flatMap f).length = l.length * m
  | [] => by simp
  | x :: l => by rw [List.flatMap_cons, List.length_append, hf, flatMap_len f m hf l, List.length_cons, Nat.add_mul, Nat.one_mul, Nat.add_comm]
theorem node_cell {ns : List Nd} {i : Nat} {x : Nd} (h : ns[i]? = some x) {j : Nat} (hj : j < 9) : (nodeCells ns)[0 + i * 9 + j]? = x.cells[j]? := by
  rw [Nat.zero_add]; exact flatMap_cell Nd.cells 9 (fun _ => rfl) h hj

theorem indexAddr_ok {P : Program} {t e s b : Nat} (hs : sliceT P t = some (e, s, b)) {k : IntKind} {B o len c i : Nat} (h : i < len) : aindexAddr P t (.slice (some ⟨B, o, none⟩) len c) (.int k (i : Int)) = some (.pointer (some ⟨B, o + i * s, none⟩)) := by
  unfold aindexAddr
  simp only [hs]
  rw [if_pos ⟨by omega, by omega⟩]
  simp

/-- A greater heap: what was is unchanged, one block apart. -/
structure Grow (K : Nat) (B B' : AHeap) : Prop where
  next : B.next ≤ B'.next
  old : ∀ i, i < B.next → i ≠ K → B'.get i = B.get i
  rs : B'.rs = B.rs
theorem Grow.refl (K : Nat) (B : AHeap) : Grow K B B := ⟨Nat.le_refl _, fun _ _ _ => rfl, rfl⟩
theorem Grow.trans {K : Nat} {A B C : AHeap} (h : Grow K A B) (k : Grow K B C) : Grow K A C :=
  ⟨Nat.le_trans h.next k.next, fun i hi hk => by rw [k.old i (Nat.lt_of_lt_of_le hi h.next) hk, h.old i hi hk], k.rs.trans h.rs⟩
theorem Ext.grow {B B' : AHeap} (h : Ext B B') (K : Nat) : Grow K B B' := ⟨h.next, fun i hi _ => h.old i hi, h.rs⟩
theorem Grow.get {K : Nat} {B B' : AHeap} (h : Grow K B B') {i : Nat} {b : ABlk} (e : B.get i = some b) (hk : i ≠ K) : B'.get i = some b := by
  rw [h.old i (AHeap.get_lt e) hk]; exact e
theorem Grow.set {K : Nat} {A B : AHeap} (h : Grow K A B) {i : Nat} (hi : A.next ≤ i ∨ i = K) (b : ABlk) : Grow K A (B.set i b) :=
  ⟨h.next, fun j hj hk => by rw [AHeap.get_set_ne (by rcases hi with hi | hi; omega; exact fun e => hk (e.trans hi))]; exact h.old j hj hk, h.rs⟩
theorem Grow.kill {K : Nat} {A B : AHeap} (h : Grow K A B) {i : Nat} (hi : A.next ≤ i) : Grow K A (B.kill i) :=
  ⟨h.next, fun j hj hk => by rw [AHeap.get_kill_ne (by omega)]; exact h.old j hj hk, h.rs⟩
theorem Grow.push {K : Nat} {A B : AHeap} (h : Grow K A B) (b : ABlk) : Grow K A (B.push b) := h.trans ((Ext.push B b).grow K)

/-- A slice of results that is none of one's own. -/
def RowsP (pv : List Nat) (B : AHeap) (v : Value) (rs : List Res) : Prop := (rs = [] ∧ v = .slice none 0 0) ∨
  ∃ id c, v = .slice (some ⟨id, 0, none⟩) rs.length c ∧ (c = rs.length ∨ c = unk 21) ∧ B.get id = some (.cells (rs.flatMap Res.cells) 56 false) ∧ id ∉ pv
theorem RowsP.rows {pv : List Nat} {B : AHeap} {v : Value} {rs : List Res} (h : RowsP pv B v rs) : Rows B v rs := by
  rcases h with h | ⟨id, c, h1, h2, h3, h4⟩
  · exact .inl h
  · exact .inr ⟨id, c, h1, h2, h3⟩
theorem RowsP.weak {pv qv : List Nat} (hq : ∀ i ∈ qv, i ∈ pv) {B : AHeap} {v : Value} {rs : List Res} (h : RowsP pv B v rs) : RowsP qv B v rs := by
  rcases h with h | ⟨id, c, h1, h2, h3, h4⟩
  · exact .inl h
  · exact .inr ⟨id, c, h1, h2, h3, fun h => h4 (hq _ h)⟩
theorem RowsP.keep {pv : List Nat} {B B' : AHeap} (hg : ∀ i b, i ∉ pv → B.get i = some (.cells b 56 false) → B'.get i = some (.cells b 56 false)) {v : Value} {rs : List Res} (h : RowsP pv B v rs) : RowsP pv B' v rs := by
  rcases h with h | ⟨id, c, h1, h2, h3, h4⟩
  · exact .inl h
  · exact .inr ⟨id, c, h1, h2, hg _ _ h4 h3, h4⟩

/-- What is kept: states and their results; the blocks are none of one's own. -/
def Memo (ns : List Nd) (row : List Int) (K : Nat) (pv : List Nat) (B : AHeap) : Prop := ∃ es ck ks, B.get K = some (.map es ck) ∧ es.map (·.key) = List.map St.val ks ∧
  ∀ e ∈ es, ∃ s rs n, e.key = St.val s ∧ den (ns.map Nd.pn) row n s = some rs ∧ RowsP pv B e.val rs
theorem Memo.weak {ns : List Nd} {row : List Int} {K : Nat} {pv qv : List Nat} {B : AHeap} (hq : ∀ i ∈ qv, i ∈ pv) (h : Memo ns row K pv B) : Memo ns row K qv B := by
  obtain ⟨es, ck, ks, h1, h2, h3⟩ := h
  exact ⟨es, ck, ks, h1, h2, fun e he => let ⟨s, rs, n, a, b, c⟩ := h3 e he; ⟨s, rs, n, a, b, c.weak hq⟩⟩
theorem Memo.keep {ns : List Nd} {row : List Int} {K : Nat} {pv : List Nat} {B B' : AHeap} (hK : B'.get K = B.get K) (hg : ∀ i b, i ∉ pv → B.get i = some (.cells b 56 false) → B'.get i = some (.cells b 56 false)) (h : Memo ns row K pv B) : Memo ns row K pv B' := by
  obtain ⟨es, ck, ks, h1, h2, h3⟩ := h
  exact ⟨es, ck, ks, hK.trans h1, h2, fun e he => let ⟨s, rs, n, a, b, c⟩ := h3 e he; ⟨s, rs, n, a, b, c.keep hg⟩⟩
theorem Memo.lt {ns : List Nd} {row : List Int} {K : Nat} {pv : List Nat} {B : AHeap} (h : Memo ns row K pv B) : K < B.next := by
  obtain ⟨es, ck, ks, h1, _⟩ := h; exact AHeap.get_lt h1
/-- A new block of one's own. -/
theorem Memo.push {ns : List Nd} {row : List Int} {K : Nat} {pv : List Nat} {B : AHeap} (h : Memo ns row K pv B) (b : ABlk) : Memo ns row K (B.next :: pv) (B.push b) := by
  have hk := h.lt
  obtain ⟨es, ck, ks, h1, h2, h3⟩ := h
  refine ⟨es, ck, ks, AHeap.get_push_old h1, h2, fun e he => ?_⟩
  obtain ⟨s, rs, n, a, b', c⟩ := h3 e he
  refine ⟨s, rs, n, a, b', ?_⟩
  rcases c with c | ⟨id, c, q1, q2, q3, q4⟩
  · exact .inl c
  · refine .inr ⟨id, c, q1, q2, AHeap.get_push_old q3, fun hm => ?_⟩
    rcases List.mem_cons.1 hm with hm | hm
    · have := AHeap.get_lt q3; omega
    · exact q4 hm
/-- A write to a block of one's own. -/
theorem Memo.set {ns : List Nd} {row : List Int} {K : Nat} {pv : List Nat} {B : AHeap} (h : Memo ns row K pv B) {i : Nat} (hi : i ∈ pv) (hK : i ≠ K) (b : ABlk) : Memo ns row K pv (B.set i b) :=
  h.keep (AHeap.get_set_ne (fun e => hK e.symm)) (fun j c hj hc => by rw [AHeap.get_set_ne (fun e : j = i => hj (e ▸ hi))]; exact hc)
theorem Memo.kill {ns : List Nd} {row : List Int} {K : Nat} {pv : List Nat} {B : AHeap} (h : Memo ns row K pv B) {i : Nat} (hi : i ∈ pv) (hK : i ≠ K) : Memo ns row K pv (B.kill i) :=
  h.keep (AHeap.get_kill_ne (fun e => hK e.symm)) (fun j c hj hc => by rw [AHeap.get_kill_ne (fun e : j = i => hj (e ▸ hi))]; exact hc)
theorem Memo.ext {ns : List Nd} {row : List Int} {K : Nat} {pv : List Nat} {B B' : AHeap} (h : Memo ns row K pv B) (x : Ext B B') : Memo ns row K pv B' :=
  h.keep (x.old _ h.lt) (fun j c _ hc => x.get hc)

def KidsAt (B : AHeap) (nd : Nd) : Prop := (nd.kids = .slice none 0 0 ∧ nd.kl = []) ∨ ∃ kb kc, nd.kids = .slice (some ⟨kb, 0, none⟩) nd.kl.length kc ∧ B.get kb = some (.cells (nd.kl.map fun (k : Nat) => .int .i64 (k : Int)) 3 false)
/-- The kinds' functions. -/
def askEntries : List MapEntry := [⟨.int .u8 1, .func (.func 25) #[] #[], 0⟩, ⟨.int .u8 2, .func (.func 26) #[] #[], 1⟩, ⟨.int .u8 3, .func (.func 27) #[] #[], 2⟩, ⟨.int .u8 4, .func (.func 28) #[] #[], 3⟩, ⟨.int .u8 5, .func (.func 29) #[] #[], 4⟩,
  ⟨.int .u8 11, .func (.func 30) #[] #[], 5⟩, ⟨.int .u8 6, .func (.func 31) #[] #[], 6⟩, ⟨.int .u8 7, .func (.func 32) #[] #[], 7⟩, ⟨.int .u8 8, .func (.func 33) #[] #[], 8⟩, ⟨.int .u8 9, .func (.func 34) #[] #[], 9⟩, ⟨.int .u8 10, .func (.func 35) #[] #[], 10⟩]

/-- Where the engine's things are. -/
structure Pl where
  M : Nat
  N : Nat
  R : Nat
  K : Nat
  F : Nat
  nc : Nat
  groups : Int
  rc : Nat
  ra : Option Addr
/-- What the engine reads: the matcher, the nodes, the row, the kids. -/
structure Eng (B : AHeap) (p : Pl) (ns : List Nd) (row : List Int) : Prop where
  mat : B.get p.M = some (.cells (matCells (.slice (some ⟨p.N, 0, none⟩) ns.length p.nc) p.groups (.slice p.ra row.length p.rc) p.K p.F) 77 false)
  nodes : B.get p.N = some (.cells (nodeCells ns) 44 false)
  rowAt : row ≠ [] → p.ra = some ⟨p.R, 0, none⟩ ∧ ∃ e ro, B.get p.R = some (.cells (row.map fun c => .int .i32 c) e ro)
  funs : ∃ ck, B.get p.F = some (.map askEntries ck)
  fk : p.F ≠ p.K
  kids : ∀ nd ∈ ns, KidsAt B nd
  long : row.length < far
  many : ns.length < far
  klong : ∀ nd ∈ ns, nd.kl.length < far
theorem Eng.grow {B B' : AHeap} {p : Pl} {ns : List Nd} {row : List Int} {pv : List Nat} (h : Eng B p ns row) (hm : Memo ns row p.K pv B) (g : Grow p.K B B') : Eng B' p ns row := by
  obtain ⟨es, ck, ks, h1, _⟩ := hm
  have ne : ∀ {i vs e ro}, B.get i = some (.cells vs e ro) → i ≠ p.K := fun hi e => by rw [e, h1] at hi; cases hi
  refine ⟨g.get h.mat (ne h.mat), g.get h.nodes (ne h.nodes), fun hr => ?_, ?_, h.fk, fun nd hnd => ?_, h.long, h.many, h.klong⟩
  · obtain ⟨a, e, ro, b⟩ := h.rowAt hr
    exact ⟨a, e, ro, g.get b (ne b)⟩
  · obtain ⟨ck, hf⟩ := h.funs; exact ⟨ck, g.get hf h.fk⟩
  · rcases h.kids nd hnd with k | ⟨kb, kc, k1, k2⟩
    · exact .inl k
    · exact .inr ⟨kb, kc, k1, g.get k2 (ne k2)⟩
theorem Eng.ext {B B' : AHeap} {p : Pl} {ns : List Nd} {row : List Int} (h : Eng B p ns row) (g : Ext B B') : Eng B' p ns row := by
  refine ⟨g.get h.mat, g.get h.nodes, fun hr => ?_, ?_, h.fk, fun nd hnd => ?_, h.long, h.many, h.klong⟩
  · obtain ⟨a, e, ro, b⟩ := h.rowAt hr
    exact ⟨a, e, ro, g.get b⟩
  · obtain ⟨ck, hf⟩ := h.funs; exact ⟨ck, g.get hf⟩
  · rcases h.kids nd hnd with k | ⟨kb, kc, k1, k2⟩
    · exact .inl k
    · exact .inr ⟨kb, kc, k1, g.get k2⟩

/-- What a call tells: results, with what is kept in order. -/
def Tells (p : Pl) (ns : List Nd) (row : List Int) (pv : List Nat) (B : AHeap) (rs : List Res) : AEnd → AHeap → Prop := fun e B' =>
  ∃ v, e = .ret v ∧ Grow p.K B B' ∧ Memo ns row p.K pv B' ∧ RowsP pv B' v rs
def mp (p : Pl) : Value := .pointer (some ⟨p.M, 0, none⟩)
/-- Results, by the fuel n. -/
def ResSpec (ns : List Nd) (row : List Int) (n : Nat) : Prop := ∀ (p : Pl) (pv : List Nat) (B : AHeap) (s : St) (rs : List Res), Eng B p ns row → Memo ns row p.K pv B → (∀ i ∈ pv, i < B.next) →
  den (ns.map Nd.pn) row n s = some rs → ACall Tryz.prog 36 [mp p, s.val] B (Tells p ns row pv B rs)
/-- From a call that keeps all that was. -/
theorem tells_ext {p : Pl} {ns : List Nd} {row : List Int} {pv : List Nat} {B : AHeap} {rs : List Res} (hM : Memo ns row p.K pv B) (hpv : ∀ i ∈ pv, i < B.next) {f : FuncId} {args : List Value}
    (h : ACall Tryz.prog f args B fun e B' => ∃ v, e = .ret v ∧ Ext B B' ∧ Rows B' v rs ∧ (∀ a n c, v = .slice (some a) n c → B.next ≤ a.block)) : ACall Tryz.prog f args B (Tells p ns row pv B rs) := by
  refine h.mono ?_
  rintro e B' ⟨v, rfl, hx, hr, hn⟩
  refine ⟨v, rfl, hx.grow _, hM.ext hx, ?_⟩
  rcases hr with hr | ⟨id, c, h1, h2, h3⟩
  · exact .inl hr
  · exact .inr ⟨id, c, h1, h2, h3, fun hm => by have := hn _ _ _ h1; have := hpv _ hm; simp only at *; omega⟩
end Go.Proofs.YtihpfgnigpmihaaGreat
