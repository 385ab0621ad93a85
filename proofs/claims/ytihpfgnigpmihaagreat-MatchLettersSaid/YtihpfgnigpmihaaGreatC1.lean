/- match.begin, end. -/
import Derived.Test.YtihpfgnigpmihaaGreatC0
set_option linter.unusedVariables false
set_option linter.unusedSimpArgs false
set_option maxRecDepth 100000
namespace Go.Proofs.YtihpfgnigpmihaaGreat
open Go

theorem cast_zero (a : Nat) : ((a : Int) = 0) = (a = 0) := by rw [eq_iff_iff]; omega
theorem cast_eq (a b : Nat) : ((a : Int) = (b : Int)) = (a = b) := by rw [eq_iff_iff]; omega

theorem begin_spec (m : Value) (s : St) (hp : s.pos < far) (B : AHeap) : ACall Tryz.prog 28 [m, s.val] B fun e B' =>
    ∃ v, e = .ret v ∧ Ext B B' ∧ Rows B' v (if s.pos = 0 then [⟨s.pos, s.g⟩] else []) ∧ ∀ a n c, v = .slice (some a) n c → B.next ≤ a.block := by
  refine ACall.walk (fn := Tryz.f28) (c := bodyOf Tryz.prog 28) (by kernel_rfl) (by kernel_rfl) (by kernel_rfl) ?_
  refine AWp.seq' (by kernel_rfl) (AWp.region' (by kernel_rfl) ?_)
  -- the state in a variable of its own
  refine AOps.write (n := 10) 0 [1] (.pointer (some ⟨B.next, 0, none⟩)) (B.push (.cells s.cells 79 false)) (by kernel_rfl) rfl (by kernel_rfl) (by kernel_rfl) (by kernel_rfl) (by kernel_rfl) ?_
  refine AOps.run (n := 10) [] [1] [] (cs := []) rfl (by kernel_rfl) (by kernel_rfl) (by intro x hx; cases hx) ?_
  show AWp _ _ _ _ _
  refine AWp.view [(0, m), (3, .pointer (some ⟨B.next, 0, none⟩)), (4, .slice none 0 0)] (by kernel_rfl) ?_
  refine AWp.seq' (by kernel_rfl) (AWp.region' (by kernel_rfl) ?_)
  refine AOps.run (n := 10) [(0, .blk s.cells), (2, .blk s.cells)] [0, 1, 2, 3] [4, 5] (cs := [.blk B.next s.cells, .blk B.next s.cells]) (by kernel_rfl) (by kernel_rfl) (by kernel_rfl) ?_ ?_
  · intro x hx
    simp only [List.mem_cons, List.not_mem_nil, or_false, or_self] at hx
    subst hx
    exact ⟨79, false, AHeap.get_push_new _ _⟩
  refine AOps.call (n := 10) 4 [5] 49 [s.val, .int .i64 0, .bool (decide ((s.pos : Int) = 0))] rfl rfl (by kernel_rfl) (by kernel_rfl) (by kernel_rfl) (by kernel_rfl) (by kernel_rfl) (here_spec s 0 _ (by unfold far at hp; omega) _) ?_
  rintro e B' ⟨v, rfl, hx, hr, hn⟩
  refine ⟨v, rfl, ?_⟩
  refine AOps.run (n := 10) [] [5] [] (cs := []) rfl (by kernel_rfl) (by kernel_rfl) (by intro x hx; cases hx) ?_
  show AWp _ _ _ _ _
  refine AWp.view [(4, v)] (by kernel_rfl) ?_
  exact AWp.ret' (by kernel_rfl) ⟨[v], by kernel_rfl, v, rfl, (Ext.push _ _).trans hx, by simpa [cast_zero, cast_eq] using hr, fun a n c e => by have := hn a n c e; simp only [AHeap.push] at this; omega⟩

/-- The matcher's cells: the tree, the row of cells, no folding, what is kept, the kinds' functions. -/
def matCells (nodes : Value) (groups : Int) (row : Value) (memo funcs : Nat) : List Value := [nodes, .int .i64 groups, row, .pointer none, .map (some memo), .map (some funcs)]

theorem end_spec {M : Nat} {nodes : Value} {groups : Int} {ra : Option Addr} {len cap memo funcs : Nat} (s : St) (hp : s.pos < far) (B : AHeap) (hM : B.get M = some (.cells (matCells nodes groups (.slice ra len cap) memo funcs) 77 false)) :
    ACall Tryz.prog 29 [.pointer (some ⟨M, 0, none⟩), s.val] B fun e B' =>
    ∃ v, e = .ret v ∧ Ext B B' ∧ Rows B' v (if s.pos = len then [⟨s.pos, s.g⟩] else []) ∧ ∀ a n c, v = .slice (some a) n c → B.next ≤ a.block := by
  refine ACall.walk (fn := Tryz.f29) (c := bodyOf Tryz.prog 29) (by kernel_rfl) (by kernel_rfl) (by kernel_rfl) ?_
  refine AWp.seq' (by kernel_rfl) (AWp.region' (by kernel_rfl) ?_)
  refine AOps.write (n := 15) 0 [1] (.pointer (some ⟨B.next, 0, none⟩)) (B.push (.cells s.cells 79 false)) (by kernel_rfl) rfl (by kernel_rfl) (by kernel_rfl) (by kernel_rfl) (by kernel_rfl) ?_
  refine AOps.run (n := 15) [] [1] [] (cs := []) rfl (by kernel_rfl) (by kernel_rfl) (by intro x hx; cases hx) ?_
  show AWp _ _ _ _ _
  refine AWp.view [(0, .pointer (some ⟨M, 0, none⟩)), (3, .pointer (some ⟨B.next, 0, none⟩)), (4, .slice none 0 0)] (by kernel_rfl) ?_
  refine AWp.seq' (by kernel_rfl) (AWp.draw' mixed (.leaf [0, 1, 2, 3, 4, 5, 6, 7, 8, 9, 10]) (by kernel_rfl) (by kernel_rfl) ⟨by kernel_rfl, ?_⟩)
  have hk : keeps (B.push (.cells s.cells 79 false)) (opsOf (fst (snd (bodyOf Tryz.prog 29)))).toList = B.push (.cells s.cells 79 false) := by kernel_rfl
  rw [hk]
  refine AOps.run (n := 15) [(0, .blk s.cells), (2, .blk s.cells), (6, .blk (matCells nodes groups (.slice ra len cap) memo funcs))] [0, 1, 2, 3, 4, 5, 6, 7, 8] [9, 10]
    (cs := [.blk B.next s.cells, .blk B.next s.cells, .blk M (matCells nodes groups (.slice ra len cap) memo funcs)]) (by kernel_rfl) (by kernel_rfl) (by kernel_rfl) ?_ ?_
  · intro x hx
    simp only [List.mem_cons, List.not_mem_nil, or_false] at hx
    rcases hx with rfl | rfl | rfl
    · exact ⟨79, false, AHeap.get_push_new _ _⟩
    · exact ⟨79, false, AHeap.get_push_new _ _⟩
    · exact ⟨77, false, AHeap.get_push_old hM⟩
  refine AOps.call (n := 15) 9 [10] 49 [s.val, .int .i64 0, .bool (decide ((s.pos : Int) = (len : Int)))] rfl rfl (by kernel_rfl) (by kernel_rfl) (by kernel_rfl) (by kernel_rfl) (by kernel_rfl) (here_spec s 0 _ (by unfold far at hp; omega) _) ?_
  rintro e B' ⟨v, rfl, hx, hr, hn⟩
  refine ⟨v, rfl, ?_⟩
  refine AOps.run (n := 15) [] [10] [] (cs := []) rfl (by kernel_rfl) (by kernel_rfl) (by intro x hx; cases hx) ?_
  show AWp _ _ _ _ _
  refine AWp.view [(4, v)] (by kernel_rfl) ?_
  exact AWp.ret' (by kernel_rfl) ⟨[v], by kernel_rfl, v, rfl, (Ext.push _ _).trans hx, by simpa [cast_zero, cast_eq] using hr, fun a n c e => by have := hn a n c e; simp only [AHeap.push] at this; omega⟩
end Go.Proofs.YtihpfgnigpmihaaGreat
