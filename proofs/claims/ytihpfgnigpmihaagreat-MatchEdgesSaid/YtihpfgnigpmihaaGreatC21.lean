/- MatchEdges. -/
import Derived.Test.YtihpfgnigpmihaaGreatC20
import Derived.Test.YtihpfgnigpmihaaGreatD1
set_option linter.unusedVariables false
set_option linter.unusedSimpArgs false
set_option maxRecDepth 100000
namespace Go.Proofs.YtihpfgnigpmihaaGreat
open Go

def begL : List NdR := [⟨4, 0, 0, 0, 0, none, []⟩]
theorem of_beg (B : AHeap) : ACall Tryz.prog begFact.1 begFact.2.1 B fun e B' => ∃ N ns, e = .ret (.agg #[.slice (some ⟨N, 0, none⟩) ns.length 4611686018427387913, .int .i64 0]) ∧ Ext B B' ∧ Tree B' N 4611686018427387913 ns ∧ ns.map Nd.pn = begL.map NdR.pn := by
  have e1 : begFact.2.2.1 = .agg #[.slice (some ⟨0, 0, none⟩) begL.length 4611686018427387913, .int .i64 0] := by kernel_rfl
  have e2 : begFact.2.2.2 = layout begL [] := by kernel_rfl
  have g := begFact_gives
  rw [e1, e2] at g
  exact g.tree (by kernel_rfl) (by decide) (by kernel_rfl) (by kernel_rfl) (by kernel_rfl) (by kernel_rfl) (by kernel_rfl) B
def endL : List NdR := [⟨5, 0, 0, 0, 0, none, []⟩]
theorem of_end (B : AHeap) : ACall Tryz.prog endFact.1 endFact.2.1 B fun e B' => ∃ N ns, e = .ret (.agg #[.slice (some ⟨N, 0, none⟩) ns.length 4611686018427387913, .int .i64 0]) ∧ Ext B B' ∧ Tree B' N 4611686018427387913 ns ∧ ns.map Nd.pn = endL.map NdR.pn := by
  have e1 : endFact.2.2.1 = .agg #[.slice (some ⟨0, 0, none⟩) endL.length 4611686018427387913, .int .i64 0] := by kernel_rfl
  have e2 : endFact.2.2.2 = layout endL [] := by kernel_rfl
  have g := endFact_gives
  rw [e1, e2] at g
  exact g.tree (by kernel_rfl) (by decide) (by kernel_rfl) (by kernel_rfl) (by kernel_rfl) (by kernel_rfl) (by kernel_rfl) B
def begEndL : List NdR := [⟨4, 0, 0, 0, 0, none, []⟩, ⟨5, 0, 0, 0, 0, none, []⟩, ⟨8, 0, 0, 0, 0, some (1, 4611686018427387905), [0, 1]⟩]
theorem of_begEnd (B : AHeap) : ACall Tryz.prog begEndFact.1 begEndFact.2.1 B fun e B' => ∃ N ns, e = .ret (.agg #[.slice (some ⟨N, 0, none⟩) ns.length 4611686018427387913, .int .i64 0]) ∧ Ext B B' ∧ Tree B' N 4611686018427387913 ns ∧ ns.map Nd.pn = begEndL.map NdR.pn := by
  have e1 : begEndFact.2.2.1 = .agg #[.slice (some ⟨0, 0, none⟩) begEndL.length 4611686018427387913, .int .i64 0] := by kernel_rfl
  have e2 : begEndFact.2.2.2 = layout begEndL [[0, 1]] := by kernel_rfl
  have g := begEndFact_gives
  rw [e1, e2] at g
  exact g.tree (by kernel_rfl) (by decide) (by kernel_rfl) (by kernel_rfl) (by kernel_rfl) (by kernel_rfl) (by kernel_rfl) B

theorem conv_u8 {k : Nat} (hk : k < 256) : aconv Tryz.prog 5 3 (.int .u8 (k : Int)) = some (.int .i64 ((k : Nat) : Int)) := by
  have h : aconv Tryz.prog 5 3 (.int .u8 (k : Int)) = some (.int .i64 (IntKind.i64.wrap (k : Int))) := by kernel_rfl
  rw [h, wrap_id (by omega) (by omega)]
theorem eq_bools (b : Bool) : aeqv Tryz.prog .eql 4 (.bool b) (.bool b) = some (.bool true) := by cases b <;> kernel_rfl

theorem found_beg {start len : Nat} {e : AEnd} {B : AHeap} (h : Found (fun q => if q = 0 then [⟨q, minus 10⟩] else []) start len e B) : ∃ sv, e = .ret (.tuple #[sv, .bool (decide (start = 0))]) := by
  rcases h with ⟨q, x, l, j, h1, h2, h3, _, rfl, _⟩ | ⟨h1, rfl⟩
  · by_cases hq : q = 0
    · exact ⟨_, by rw [decide_eq_true (by omega)]⟩
    · simp only [if_neg hq] at h3; cases h3
  · by_cases hs : start = 0
    · have := h1 0 (by omega) (Nat.zero_le _)
      simp at this
    · exact ⟨_, by rw [decide_eq_false hs]⟩
theorem found_end {start len : Nat} {e : AEnd} {B : AHeap} (h : Found (fun q => if q = len then [⟨q, minus 10⟩] else []) start len e B) : ∃ sv, e = .ret (.tuple #[sv, .bool (decide (start ≤ len))]) ∧
    (start ≤ len → ∃ j c, sv = .slice (some ⟨j, 0, none⟩) 1 c ∧ B.get j = some (.cells [.int .i64 ((len : Nat) : Int), .int .i64 ((len : Nat) : Int)] 35 false)) := by
  rcases h with ⟨q, x, l, j, h1, h2, h3, _, rfl, h4⟩ | ⟨h1, rfl⟩
  · by_cases hq : q = len
    · subst hq
      simp only [if_true] at h3
      cases h3
      exact ⟨_, by rw [decide_eq_true h1], fun _ => ⟨j, _, rfl, h4⟩⟩
    · simp only [if_neg hq] at h3; cases h3
  · by_cases hs : start ≤ len
    · have := h1 len hs (Nat.le_refl _)
      simp at this
    · exact ⟨_, by rw [decide_eq_false hs], fun h => absurd h hs⟩
theorem found_both {len : Nat} {e : AEnd} {B : AHeap} (h : Found (fun q => if q = 0 ∧ len = 0 then [⟨q, minus 10⟩] else []) 0 len e B) : ∃ sv, e = .ret (.tuple #[sv, .bool (decide (len = 0))]) := by
  rcases h with ⟨q, x, l, j, h1, h2, h3, _, rfl, _⟩ | ⟨h1, rfl⟩
  · by_cases hq : q = 0 ∧ len = 0
    · exact ⟨_, by rw [decide_eq_true hq.2]⟩
    · simp only [if_neg hq] at h3; cases h3
  · by_cases hs : len = 0
    · have := h1 0 (Nat.le_refl _) (Nat.zero_le _)
      simp [hs] at this
    · exact ⟨_, by rw [decide_eq_false hs]⟩
theorem eq_span {x y : Operand} (a b : Int) : aagg Tryz.prog .eql 35 x y (.agg #[.int .i64 a, .int .i64 b]) (.agg #[.int .i64 a, .int .i64 b]) = some (.bool true) := by rw [agg35]; simp

theorem edges_spec {B : AHeap} {da : Option Addr} {dc D k : Nat} {ds : List Nat} (hk : k < 256) (h256 : ∀ z ∈ ds, z < 256) (hd : ds ≠ [] → da = some ⟨D, 0, none⟩ ∧ ∃ e ro, B.get D = some (.cells (ds.map fun (z : Nat) => .int .u8 (z : Int)) e ro)) :
    ACall Tryz.prog 4 [.slice da ds.length dc, .int .u8 (k : Int)] B fun e B' => e = .ret (.bool true) ∧ Ext B B' := by
  refine ACall.walk (fn := Tryz.f4) (c := bodyOf Tryz.prog 4) (by kernel_rfl) (by kernel_rfl) (by kernel_rfl) ?_
  refine AWp.seq' (by kernel_rfl) (AWp.region' (by kernel_rfl) ?_)
  refine AOps.run (n := 83) [] [0] [] (cs := []) (by kernel_rfl) (by kernel_rfl) (by kernel_rfl) ?_ ?_
  · intro x hx; cases hx
  show AWp _ _ _ _ _
  refine AWp.view [(0, .slice da ds.length dc), (1, .int .u8 (k : Int))] (by kernel_rfl) ?_
  refine AWp.seq' (by kernel_rfl) (AWp.region' (by kernel_rfl) ?_)
  refine AOps.run (n := 83) [] [0] [1, 2] (cs := []) (by kernel_rfl) (by kernel_rfl) (by kernel_rfl) ?_ ?_
  · intro x hx; cases hx
  refine AOps.call (n := 83) 1 [2] 7 [.slice da ds.length dc, .int .i64 ((30 : Nat) : Int)] (by kernel_rfl) rfl (by kernel_rfl) (by kernel_rfl) (by kernel_rfl) (by kernel_rfl) (by kernel_rfl) (cells_spec h256 (by decide) hd) ?_
  rintro e B1 ⟨ra, R, rc, rfl, hx1, hrow⟩
  refine ⟨_, rfl, ?_⟩
  generalize hrd : (ds.take 30).map cellOf = row at hrow ⊢
  have hlen : row.length ≤ 30 := by rw [← hrd]; simp; omega
  have hfar : row.length < far := Nat.lt_of_le_of_lt hlen (by decide)
  refine AOps.run (n := 83) [] [2] [] (cs := []) (by kernel_rfl) (by kernel_rfl) (by kernel_rfl) ?_ ?_
  · intro x hx; cases hx
  show AWp _ _ _ _ _
  refine AWp.view [(1, .int .u8 (k : Int)), (5, .slice ra row.length rc)] (by kernel_rfl) ?_
  refine AWp.seq' (by kernel_rfl) (AWp.region' (by kernel_rfl) ?_)
  refine AOps.run (n := 83) [(1, .val (.int .i64 ((k : Nat) : Int))), (4, .val (.int .i64 ((row.length + 2 : Nat) : Int))), (5, .val (.int .i64 ((k % (row.length + 2) : Nat) : Int)))] [0, 1, 2, 3, 4, 5, 6] [] (cs := [.some (aconv Tryz.prog 5 3 (.int .u8 (k : Int))) (.int .i64 ((k : Nat) : Int)), .some (some (.int .i64 (IntKind.i64.wrap ((row.length : Int) + ((2 : Nat) : Int))))) (.int .i64 ((row.length + 2 : Nat) : Int)), .some (anum .rem .i64 .i64 (k : Int) ((row.length + 2 : Nat) : Int)) (.int .i64 ((k % (row.length + 2) : Nat) : Int))]) (by kernel_rfl) (by kernel_rfl) (by kernel_rfl) ?_ ?_
  · intro x hx
    simp only [List.mem_cons, List.not_mem_nil, or_false] at hx
    rcases hx with rfl | rfl | rfl
    · exact conv_u8 hk
    · exact congrArg (fun x => some (Value.int .i64 x)) (wrap_add (by omega))
    · exact rem_ok .i64 k _ (by omega)
  show AWp _ _ _ _ _
  generalize k % (row.length + 2) = start
  refine AWp.view [(5, .slice ra row.length rc), (6, .int .i64 ((start : Nat) : Int))] (by kernel_rfl) ?_
  have hrow := fun hr => (⟨(hrow hr).1, (hrow hr).2.1, (hrow hr).2.2⟩ : ra = some ⟨R, 0, none⟩ ∧ B.next ≤ R ∧ B1.get R = some (.cells (row.map fun c => .int .i32 c) 25 false))
  refine AWp.seq' (by kernel_rfl) (AWp.region' (by kernel_rfl) ?_)
  refine AOps.call (n := 83) 0 [1, 2, 3, 4, 5, 6, 7, 8] 9 [.string ⟨#[94]⟩] (by kernel_rfl) rfl (by kernel_rfl) (by kernel_rfl) (by kernel_rfl) (by kernel_rfl) (by kernel_rfl) (of_beg _) ?_
  rintro e B2 ⟨N, ns, rfl, hx2, hT, hp⟩
  refine ⟨_, rfl, ?_⟩
  refine AOps.run (n := 83) [] [1, 2] [3, 4, 5, 6, 7, 8] (cs := []) (by kernel_rfl) (by kernel_rfl) (by kernel_rfl) ?_ ?_
  · intro x hx; cases hx
  refine AOps.call (n := 83) 3 [4, 5, 6, 7, 8] 8 [.agg #[.slice (some ⟨N, 0, none⟩) ns.length 4611686018427387913, .int .i64 0], .slice ra row.length rc, .int .i64 ((start : Nat) : Int), .pointer none] (by kernel_rfl) rfl (by kernel_rfl) (by kernel_rfl) (by kernel_rfl) (by kernel_rfl) (by kernel_rfl) (tree_find (by decide) (by decide) hT hp (fun hr => ⟨(hrow hr).1, 25, false, hx2.get (hrow hr).2.2⟩) hfar (start := start) (fun q => if q = 0 then [⟨q, minus 10⟩] else []) (fun q _ hq => ⟨1, den_beg rfl rfl (by omega) 0⟩)) ?_
  rintro e B3 ⟨hx3, hF⟩
  obtain ⟨s1, rfl⟩ := found_beg hF
  refine ⟨_, rfl, ?_⟩
  refine AOps.run (n := 83) [] [4, 5, 6, 7, 8] [] (cs := []) (by kernel_rfl) (by kernel_rfl) (by kernel_rfl) ?_ ?_
  · intro x hx; cases hx
  show AWp _ _ _ _ _
  refine AWp.view [(5, .slice ra row.length rc), (6, .int .i64 ((start : Nat) : Int)), (8, .bool (decide (start = 0)))] (by kernel_rfl) ?_
  have hrow : row ≠ [] → ra = some ⟨R, 0, none⟩ ∧ B.next ≤ R ∧ B3.get R = some (.cells (row.map fun c => .int .i32 c) 25 false) := fun hr => ⟨(hrow hr).1, (hrow hr).2.1, (hx2.trans hx3).get (hrow hr).2.2⟩
  have hxA : Ext B B3 := (hx1.trans hx2).trans hx3
  clear hF hT hp hx1 hx2 hx3 s1
  clear N ns B2
  refine AWp.seq' (by kernel_rfl) (AWp.region' (by kernel_rfl) ?_)
  refine AOps.call (n := 83) 0 [1, 2, 3, 4, 5, 6, 7, 8] 9 [.string ⟨#[36]⟩] (by kernel_rfl) rfl (by kernel_rfl) (by kernel_rfl) (by kernel_rfl) (by kernel_rfl) (by kernel_rfl) (of_end _) ?_
  rintro e B2 ⟨N, ns, rfl, hx2, hT, hp⟩
  refine ⟨_, rfl, ?_⟩
  refine AOps.run (n := 83) [] [1, 2] [3, 4, 5, 6, 7, 8] (cs := []) (by kernel_rfl) (by kernel_rfl) (by kernel_rfl) ?_ ?_
  · intro x hx; cases hx
  refine AOps.call (n := 83) 3 [4, 5, 6, 7, 8] 8 [.agg #[.slice (some ⟨N, 0, none⟩) ns.length 4611686018427387913, .int .i64 0], .slice ra row.length rc, .int .i64 ((start : Nat) : Int), .pointer none] (by kernel_rfl) rfl (by kernel_rfl) (by kernel_rfl) (by kernel_rfl) (by kernel_rfl) (by kernel_rfl) (tree_find (by decide) (by decide) hT hp (fun hr => ⟨(hrow hr).1, 25, false, hx2.get (hrow hr).2.2⟩) hfar (start := start) (fun q => if q = row.length then [⟨q, minus 10⟩] else []) (fun q _ hq => ⟨1, den_end rfl rfl (by omega) 0⟩)) ?_
  rintro e B3 ⟨hx3, hF⟩
  obtain ⟨s2, rfl, hs2⟩ := found_end hF
  refine ⟨_, rfl, ?_⟩
  refine AOps.run (n := 83) [] [4, 5, 6, 7, 8] [] (cs := []) (by kernel_rfl) (by kernel_rfl) (by kernel_rfl) ?_ ?_
  · intro x hx; cases hx
  show AWp _ _ _ _ _
  refine AWp.view [(5, .slice ra row.length rc), (6, .int .i64 ((start : Nat) : Int)), (8, .bool (decide (start = 0))), (9, s2), (10, .bool (decide (start ≤ row.length)))] (by kernel_rfl) ?_
  have hrow2 : row ≠ [] → ra = some ⟨R, 0, none⟩ ∧ B.next ≤ R ∧ B3.get R = some (.cells (row.map fun c => .int .i32 c) 25 false) := fun hr => ⟨(hrow hr).1, (hrow hr).2.1, (hx2.trans hx3).get (hrow hr).2.2⟩
  have hxB := hxA.trans (hx2.trans hx3)
  clear hF hT hp hx2 hx3 hrow hxA
  rename_i Bq _
  have hrow := hrow2
  refine AWp.seq' (by kernel_rfl) (AWp.region' (by kernel_rfl) ?_)
  refine AOps.call (n := 83) 0 [1, 2, 3, 4, 5, 6, 7] 9 [.string ⟨#[94, 36]⟩] (by kernel_rfl) rfl (by kernel_rfl) (by kernel_rfl) (by kernel_rfl) (by kernel_rfl) (by kernel_rfl) (of_begEnd _) ?_
  rintro e B2 ⟨N, ns, rfl, hx2, hT, hp⟩
  refine ⟨_, rfl, ?_⟩
  refine AOps.run (n := 83) [] [1] [2, 3, 4, 5, 6, 7] (cs := []) (by kernel_rfl) (by kernel_rfl) (by kernel_rfl) ?_ ?_
  · intro x hx; cases hx
  refine AOps.call (n := 83) 2 [3, 4, 5, 6, 7] 8 [.agg #[.slice (some ⟨N, 0, none⟩) ns.length 4611686018427387913, .int .i64 0], .slice ra row.length rc, .int .i64 0, .pointer none] (by kernel_rfl) rfl (by kernel_rfl) (by kernel_rfl) (by kernel_rfl) (by kernel_rfl) (by kernel_rfl) (tree_find (by decide) (by decide) hT hp (fun hr => ⟨(hrow hr).1, 25, false, hx2.get (hrow hr).2.2⟩) hfar (start := 0) (fun q => if q = 0 ∧ row.length = 0 then [⟨q, minus 10⟩] else []) (fun q _ hq => ⟨2, den_begEnd rfl rfl rfl rfl rfl rfl rfl (by omega)⟩)) ?_
  rintro e B3 ⟨hx3, hF⟩
  obtain ⟨s3, rfl⟩ := found_both hF
  refine ⟨_, rfl, ?_⟩
  refine AOps.run (n := 83) [] [3, 4, 5, 6, 7] [] (cs := []) (by kernel_rfl) (by kernel_rfl) (by kernel_rfl) ?_ ?_
  · intro x hx; cases hx
  show AWp _ _ _ _ _
  refine AWp.view [(5, .slice ra row.length rc), (6, .int .i64 ((start : Nat) : Int)), (8, .bool (decide (start = 0))), (9, s2), (10, .bool (decide (start ≤ row.length))), (12, .bool (decide (row.length = 0)))] (by kernel_rfl) ?_
  have hx23 := hx2.trans hx3
  have hxC := hxB.trans hx23
  refine AWp.seq' (by kernel_rfl) (AWp.region' (by kernel_rfl) ?_)
  refine AOps.call (n := 83) 0 [1, 2, 3, 4, 5, 6, 7, 8, 9, 10, 11, 12, 13, 14, 15, 16, 17, 18, 19, 20, 21, 22, 23, 24, 25, 26, 27, 28, 29, 30, 31, 32, 33, 34, 35, 36, 37, 38, 39, 40, 41, 42] 10 [] (by kernel_rfl) rfl (by kernel_rfl) (by kernel_rfl) (by kernel_rfl) (by kernel_rfl) (by kernel_rfl) (known_at _) ?_
  rintro e B4 ⟨rfl, rfl⟩
  refine ⟨_, rfl, ?_⟩
  by_cases hle : start ≤ row.length
  · rw [decide_eq_true hle]
    obtain ⟨j, c, rfl, hj⟩ := hs2 hle
    have hj := hx23.get hj
    refine AOps.run (n := 83) [(4, .val (.bool (decide (start = 0)))), (5, .val (.bool true)), (12, .val (.bool true)), (25, .blk ([.int .i64 ((row.length : Nat) : Int), .int .i64 ((row.length : Nat) : Int)])), (31, .val (.bool true)), (39, .val (.bool (decide (row.length = 0)))), (40, .val (.bool true))] [1, 2, 3, 4, 5, 6, 7, 8, 9, 10, 11, 12, 13, 14, 15, 16, 17, 18, 19, 20, 21, 22, 23, 24, 25, 26, 27, 28, 29, 30, 31, 32, 33, 34, 35, 36, 37, 38, 39, 40, 41, 42] [] (cs := [.some (some (.bool (decide ((start : Int) = 0)))) (.bool (decide (start = 0))), .some (aeqv Tryz.prog .eql 4 (.bool (decide (start = 0))) (.bool (decide (start = 0)))) (.bool true), .some (some (.bool (decide ((start : Int) ≤ (row.length : Int))))) (.bool true), .blk (j) ([.int .i64 ((row.length : Nat) : Int), .int .i64 ((row.length : Nat) : Int)]), .some (aagg Tryz.prog .eql 35 (.tmp 66) (.tmp 71) (.agg #[.int .i64 ((row.length : Nat) : Int), .int .i64 ((row.length : Nat) : Int)]) (.agg #[.int .i64 ((row.length : Nat) : Int), .int .i64 ((row.length : Nat) : Int)])) (.bool true), .some (some (.bool (decide ((row.length : Int) = 0)))) (.bool (decide (row.length = 0))), .some (aeqv Tryz.prog .eql 4 (.bool (decide (row.length = 0))) (.bool (decide (row.length = 0)))) (.bool true)]) (by kernel_rfl) (by kernel_rfl) (by kernel_rfl) ?_ ?_
    · intro x hx
      simp only [List.mem_cons, List.not_mem_nil, or_false] at hx
      rcases hx with rfl | rfl | rfl | rfl | rfl | rfl | rfl
      · exact congrArg (fun b => some (Value.bool b)) (decide_eq_decide.2 (by omega))
      · exact eq_bools _
      · exact congrArg (fun b => some (Value.bool b)) (decide_eq_true (by omega))
      · exact ⟨35, false, hj⟩
      · exact eq_span _ _
      · exact congrArg (fun b => some (Value.bool b)) (decide_eq_decide.2 (by omega))
      · exact eq_bools _
    show AWp _ _ _ _ _
    refine AWp.view [(4, .bool true)] (by kernel_rfl) ?_
    exact AWp.ret' (by kernel_rfl) ⟨[.bool true], by kernel_rfl, rfl, hxC⟩
  · rw [decide_eq_false hle]
    refine AOps.run (n := 83) [(4, .val (.bool (decide (start = 0)))), (5, .val (.bool true)), (12, .val (.bool false)), (39, .val (.bool (decide (row.length = 0)))), (40, .val (.bool true))] [1, 2, 3, 4, 5, 6, 7, 8, 9, 10, 11, 12, 13, 14, 15, 16, 17, 18, 19, 20, 21, 22, 23, 24, 25, 26, 27, 28, 29, 30, 31, 32, 33, 34, 35, 36, 37, 38, 39, 40, 41, 42] [] (cs := [.some (some (.bool (decide ((start : Int) = 0)))) (.bool (decide (start = 0))), .some (aeqv Tryz.prog .eql 4 (.bool (decide (start = 0))) (.bool (decide (start = 0)))) (.bool true), .some (some (.bool (decide ((start : Int) ≤ (row.length : Int))))) (.bool false), .some (some (.bool (decide ((row.length : Int) = 0)))) (.bool (decide (row.length = 0))), .some (aeqv Tryz.prog .eql 4 (.bool (decide (row.length = 0))) (.bool (decide (row.length = 0)))) (.bool true)]) (by kernel_rfl) (by kernel_rfl) (by kernel_rfl) ?_ ?_
    · intro x hx
      simp only [List.mem_cons, List.not_mem_nil, or_false] at hx
      rcases hx with rfl | rfl | rfl | rfl | rfl
      · exact congrArg (fun b => some (Value.bool b)) (decide_eq_decide.2 (by omega))
      · exact eq_bools _
      · exact congrArg (fun b => some (Value.bool b)) (decide_eq_false (by omega))
      · exact congrArg (fun b => some (Value.bool b)) (decide_eq_decide.2 (by omega))
      · exact eq_bools _
    show AWp _ _ _ _ _
    refine AWp.view [(4, .bool true)] (by kernel_rfl) ?_
    exact AWp.ret' (by kernel_rfl) ⟨[.bool true], by kernel_rfl, rfl, hxC⟩
end Go.Proofs.YtihpfgnigpmihaaGreat
