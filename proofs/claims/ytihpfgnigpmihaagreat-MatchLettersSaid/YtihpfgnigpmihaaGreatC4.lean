/- match.one. -/
import Derived.Test.YtihpfgnigpmihaaGreatC3
set_option linter.unusedVariables false
set_option linter.unusedSimpArgs false
set_option maxRecDepth 100000
namespace Go.Proofs.YtihpfgnigpmihaaGreat
open Go

theorem apart_one {vs : List Value} {o : Nat} {v : Value} (h : vs[o]? = some v) : apart' vs o 1 false = some v := by unfold apart'; exact h

theorem one_spec {p : Pl} {ns : List Nd} {row : List Int} {B : AHeap} (hE : Eng B p ns row) {i q d : Nat} {g : Spans} {nd : Nd} (hq : q < far) (hi : ns[i]? = some nd) :
    ACall Tryz.prog 25 [mp p, St.val ⟨i, d, q, g⟩] B fun e B' =>
    ∃ v, e = .ret v ∧ Ext B B' ∧ Rows B' v (if row[q]? = some nd.cell then [⟨q + 1, g⟩] else []) ∧ ∀ a n c, v = .slice (some a) n c → B.next ≤ a.block := by
  have hil : i < ns.length := (List.getElem?_eq_some_iff.1 hi).1
  let s : St := ⟨i, d, q, g⟩
  let mc := matCells (.slice (some ⟨p.N, 0, none⟩) ns.length p.nc) p.groups (.slice p.ra row.length p.rc) p.K p.F
  let B1 := B.push (.cells s.cells 79 false)
  have hM : ∀ (vs : List Value), vs = mc → ∃ e ro, B1.get p.M = some (.cells vs e ro) := fun vs h => ⟨77, false, by rw [h]; exact AHeap.get_push_old hE.mat⟩
  have hS : ∀ (vs : List Value), vs = s.cells → ∃ e ro, B1.get B.next = some (.cells vs e ro) := fun vs h => ⟨79, false, by rw [h]; exact AHeap.get_push_new _ _⟩
  have hN : ∀ (vs : List Value), vs = nodeCells ns → ∃ e ro, B1.get p.N = some (.cells vs e ro) := fun vs h => ⟨44, false, by rw [h]; exact AHeap.get_push_old hE.nodes⟩
  refine ACall.walk (fn := Tryz.f25) (c := bodyOf Tryz.prog 25) (by kernel_rfl) (by kernel_rfl) (by kernel_rfl) ?_
  refine AWp.seq' (by kernel_rfl) (AWp.region' (by kernel_rfl) ?_)
  refine AOps.write (n := 40) 0 [1] (.pointer (some ⟨B.next, 0, none⟩)) (B1) (by kernel_rfl) rfl (by kernel_rfl) (by kernel_rfl) (by kernel_rfl) (by kernel_rfl) ?_
  refine AOps.run (n := 40) [] [1] [] (cs := []) (by kernel_rfl) (by kernel_rfl) (by kernel_rfl) ?_ ?_
  · intro x hx; cases hx
  show AWp _ _ _ _ _
  refine AWp.view [(0, mp p), (3, .pointer (some ⟨B.next, 0, none⟩)), (4, .slice none 0 0)] (by kernel_rfl) ?_
  have hk : keeps B1 (opsOf (fst (snd (bodyOf Tryz.prog 25)))).toList = B1 := by kernel_rfl
  by_cases hlt : q < row.length
  · obtain ⟨ch, hch⟩ : ∃ ch, row[q]? = some ch := ⟨_, List.getElem?_eq_getElem hlt⟩
    obtain ⟨hra, er, ror, hRow⟩ := hE.rowAt (fun e => by rw [e] at hlt; exact absurd hlt (Nat.not_lt_zero _))
    have hR : ∀ (vs : List Value), vs = row.map (fun c => .int .i32 c) → ∃ e ro, B1.get p.R = some (.cells vs e ro) := fun vs h => ⟨er, ror, by rw [h]; exact AHeap.get_push_old hRow⟩
    have hs29 : sliceT Tryz.prog 29 = some (44, 9, 112) := by kernel_rfl
    have hs23 : sliceT Tryz.prog 23 = some (25, 1, 4) := by kernel_rfl
    refine AWp.seq' (by kernel_rfl) (AWp.draw' mixed (.split 0 32 (.leaf [0, 1, 2, 3, 4, 5, 6, 7, 8, 9, 10, 11, 12, 13, 14, 15, 16, 17, 18, 19, 20, 21, 22, 23, 24, 25, 26, 27, 28, 29, 30, 31, 32, 33, 34, 35]) (.leaf [1, 2, 3, 4, 5, 6, 7, 8, 9, 10, 11, 12, 13, 14, 15, 16, 17, 18, 19, 20, 21, 22, 23, 24, 25, 26, 27, 28, 29, 30, 31, 32, 0, 33, 34, 35])) (by kernel_rfl) (by kernel_rfl) ⟨by kernel_rfl, ⟨by kernel_rfl, ?_⟩, ⟨by kernel_rfl, ?_⟩⟩)
    · rw [hk]
      refine AOps.run (n := 40) [(0, .blk (s.cells)), (2, .blk (s.cells)), (6, .blk (mc)), (8, .val (.bool true)), (14, .blk (mc)), (16, .blk (s.cells)), (17, .val (.pointer (some ⟨p.N, 0 + i * 9, none⟩))), (19, .part (nodeCells ns) (.int .i32 nd.cell)), (23, .blk (mc)), (25, .blk (s.cells)), (26, .val (.pointer (some ⟨p.R, 0 + q * 1, none⟩))), (27, .part (row.map fun c => .int .i32 c) (.int .i32 ch)), (31, .blk (mc))] [0, 1, 2, 3, 4, 5, 6, 7, 8, 9, 10, 11, 12, 13, 14, 15, 16, 17, 18, 19, 20, 21, 22, 23, 24, 25, 26, 27, 28, 29, 30, 31] [32, 33, 34, 35] (cs := [.blk (B.next) (s.cells), .blk (B.next) (s.cells), .blk (p.M) (mc), .some (some (.bool (decide ((q : Int) < (row.length : Int))))) (.bool true), .blk (p.M) (mc), .blk (B.next) (s.cells), .some (aindexAddr Tryz.prog 29 (.slice (some ⟨p.N, 0, none⟩) ns.length p.nc) (.int .i64 i)) (.pointer (some ⟨p.N, 0 + i * 9, none⟩)), .blk (p.N) (nodeCells ns), .some (apart' (nodeCells ns) (0 + i * 9 + 1) 1 false) (.int .i32 nd.cell), .blk (p.M) (mc), .blk (B.next) (s.cells), .some (aindexAddr Tryz.prog 23 (.slice p.ra row.length p.rc) (.int .i64 q)) (.pointer (some ⟨p.R, 0 + q * 1, none⟩)), .blk (p.R) (row.map fun c => .int .i32 c), .some (apart' (row.map fun c => .int .i32 c) (0 + q * 1) 1 false) (.int .i32 ch), .blk (p.M) (mc)]) (by kernel_rfl) (by kernel_rfl) (by kernel_rfl) ?_ ?_
      · intro x hx
        simp only [List.mem_cons, List.not_mem_nil, or_false] at hx
        rcases hx with rfl | rfl | rfl | rfl | rfl | rfl | rfl | rfl | rfl | rfl | rfl | rfl | rfl | rfl | rfl
        · exact hS _ rfl
        · exact hS _ rfl
        · exact hM _ rfl
        · exact congrArg (fun b => some (Value.bool b)) (decide_eq_true (by omega))
        · exact hM _ rfl
        · exact hS _ rfl
        · exact indexAddr_ok hs29 hil
        · exact hN _ rfl
        · exact apart_one (node_cell hi (by decide))
        · exact hM _ rfl
        · exact hS _ rfl
        · rw [hra]; exact indexAddr_ok hs23 hlt
        · exact hR _ rfl
        · exact apart_one (by simp [hch])
        · exact hM _ rfl
      refine AOps.call (n := 40) 32 [33, 34, 35] 50 [.int .i32 nd.cell, .int .i32 ch, .pointer none] (by kernel_rfl) rfl (by kernel_rfl) (by kernel_rfl) (by kernel_rfl) (by kernel_rfl) (by kernel_rfl) (alike_spec nd.cell ch _) ?_
      rintro e B2 ⟨rfl, rfl⟩
      refine ⟨_, rfl, ?_⟩
      refine AOps.run (n := 40) [] [33] [34, 35] (cs := []) (by kernel_rfl) (by kernel_rfl) (by kernel_rfl) ?_ ?_
      · intro x hx; cases hx
      refine AOps.call (n := 40) 34 [35] 49 [s.val, .int .i64 1, .bool (decide (nd.cell = ch))] (by kernel_rfl) rfl (by kernel_rfl) (by kernel_rfl) (by kernel_rfl) (by kernel_rfl) (by kernel_rfl) (here_spec s 1 (decide (nd.cell = ch)) (by show q + 1 < _; unfold far at hq; omega) _) ?_
      rintro e B2 ⟨v, rfl, hx, hr, hn⟩
      refine ⟨v, rfl, ?_⟩
      refine AOps.run (n := 40) [] [35] [] (cs := []) (by kernel_rfl) (by kernel_rfl) (by kernel_rfl) ?_ ?_
      · intro x hx; cases hx
      show AWp _ _ _ _ _
      refine AWp.view [(4, v)] (by kernel_rfl) ?_
      exact AWp.ret' (by kernel_rfl) ⟨[v], by kernel_rfl, v, rfl, (Ext.push _ _).trans hx, by simpa [hch, eq_comm] using hr, fun a n c e => by have := hn a n c e; simp only [B1, AHeap.push] at this; omega⟩
    · rw [hk]
      refine AOps.run (n := 40) [(2, .blk (s.cells)), (6, .blk (mc)), (8, .val (.bool true)), (14, .blk (mc)), (16, .blk (s.cells)), (17, .val (.pointer (some ⟨p.N, 0 + i * 9, none⟩))), (19, .part (nodeCells ns) (.int .i32 nd.cell)), (23, .blk (mc)), (25, .blk (s.cells)), (26, .val (.pointer (some ⟨p.R, 0 + q * 1, none⟩))), (27, .part (row.map fun c => .int .i32 c) (.int .i32 ch)), (31, .blk (mc))] [1, 2, 3, 4, 5, 6, 7, 8, 9, 10, 11, 12, 13, 14, 15, 16, 17, 18, 19, 20, 21, 22, 23, 24, 25, 26, 27, 28, 29, 30, 31] [32, 0, 33, 34, 35] (cs := [.blk (B.next) (s.cells), .blk (p.M) (mc), .some (some (.bool (decide ((q : Int) < (row.length : Int))))) (.bool true), .blk (p.M) (mc), .blk (B.next) (s.cells), .some (aindexAddr Tryz.prog 29 (.slice (some ⟨p.N, 0, none⟩) ns.length p.nc) (.int .i64 i)) (.pointer (some ⟨p.N, 0 + i * 9, none⟩)), .blk (p.N) (nodeCells ns), .some (apart' (nodeCells ns) (0 + i * 9 + 1) 1 false) (.int .i32 nd.cell), .blk (p.M) (mc), .blk (B.next) (s.cells), .some (aindexAddr Tryz.prog 23 (.slice p.ra row.length p.rc) (.int .i64 q)) (.pointer (some ⟨p.R, 0 + q * 1, none⟩)), .blk (p.R) (row.map fun c => .int .i32 c), .some (apart' (row.map fun c => .int .i32 c) (0 + q * 1) 1 false) (.int .i32 ch), .blk (p.M) (mc)]) (by kernel_rfl) (by kernel_rfl) (by kernel_rfl) ?_ ?_
      · intro x hx
        simp only [List.mem_cons, List.not_mem_nil, or_false] at hx
        rcases hx with rfl | rfl | rfl | rfl | rfl | rfl | rfl | rfl | rfl | rfl | rfl | rfl | rfl | rfl
        · exact hS _ rfl
        · exact hM _ rfl
        · exact congrArg (fun b => some (Value.bool b)) (decide_eq_true (by omega))
        · exact hM _ rfl
        · exact hS _ rfl
        · exact indexAddr_ok hs29 hil
        · exact hN _ rfl
        · exact apart_one (node_cell hi (by decide))
        · exact hM _ rfl
        · exact hS _ rfl
        · rw [hra]; exact indexAddr_ok hs23 hlt
        · exact hR _ rfl
        · exact apart_one (by simp [hch])
        · exact hM _ rfl
      refine AOps.call (n := 40) 32 [0, 33, 34, 35] 50 [.int .i32 nd.cell, .int .i32 ch, .pointer none] (by kernel_rfl) rfl (by kernel_rfl) (by kernel_rfl) (by kernel_rfl) (by kernel_rfl) (by kernel_rfl) (alike_spec nd.cell ch _) ?_
      rintro e B2 ⟨rfl, rfl⟩
      refine ⟨_, rfl, ?_⟩
      refine AOps.run (n := 40) [(0, .blk (s.cells))] [0, 33] [34, 35] (cs := [.blk (B.next) (s.cells)]) (by kernel_rfl) (by kernel_rfl) (by kernel_rfl) ?_ ?_
      · intro x hx
        simp only [List.mem_cons, List.not_mem_nil, or_false] at hx
        subst hx
        exact hS _ rfl
      refine AOps.call (n := 40) 34 [35] 49 [s.val, .int .i64 1, .bool (decide (nd.cell = ch))] (by kernel_rfl) rfl (by kernel_rfl) (by kernel_rfl) (by kernel_rfl) (by kernel_rfl) (by kernel_rfl) (here_spec s 1 (decide (nd.cell = ch)) (by show q + 1 < _; unfold far at hq; omega) _) ?_
      rintro e B2 ⟨v, rfl, hx, hr, hn⟩
      refine ⟨v, rfl, ?_⟩
      refine AOps.run (n := 40) [] [35] [] (cs := []) (by kernel_rfl) (by kernel_rfl) (by kernel_rfl) ?_ ?_
      · intro x hx; cases hx
      show AWp _ _ _ _ _
      refine AWp.view [(4, v)] (by kernel_rfl) ?_
      exact AWp.ret' (by kernel_rfl) ⟨[v], by kernel_rfl, v, rfl, (Ext.push _ _).trans hx, by simpa [hch, eq_comm] using hr, fun a n c e => by have := hn a n c e; simp only [B1, AHeap.push] at this; omega⟩
  · have hnone : row[q]? = none := List.getElem?_eq_none (by omega)
    refine AWp.seq' (by kernel_rfl) (AWp.draw' mixed (.split 0 32 (.leaf [0, 1, 2, 3, 4, 5, 6, 7, 8, 9, 10, 11, 12, 13, 14, 15, 16, 17, 18, 19, 20, 21, 22, 23, 24, 25, 26, 27, 28, 29, 30, 31, 32, 33, 34, 35]) (.leaf [1, 2, 3, 4, 5, 6, 7, 8, 9, 10, 11, 12, 13, 14, 15, 16, 17, 18, 19, 20, 21, 22, 23, 24, 25, 26, 27, 28, 29, 30, 31, 32, 0, 33, 34, 35])) (by kernel_rfl) (by kernel_rfl) ⟨by kernel_rfl, ⟨by kernel_rfl, ?_⟩, ⟨by kernel_rfl, ?_⟩⟩)
    · rw [hk]
      refine AOps.run (n := 40) [(0, .blk (s.cells)), (2, .blk (s.cells)), (6, .blk (mc)), (8, .val (.bool false))] [0, 1, 2, 3, 4, 5, 6, 7, 8, 9, 10, 11, 12, 13, 14, 15, 16, 17, 18, 19, 20, 21, 22, 23, 24, 25, 26, 27, 28, 29, 30, 31, 32, 33] [34, 35] (cs := [.blk (B.next) (s.cells), .blk (B.next) (s.cells), .blk (p.M) (mc), .some (some (.bool (decide ((q : Int) < (row.length : Int))))) (.bool false)]) (by kernel_rfl) (by kernel_rfl) (by kernel_rfl) ?_ ?_
      · intro x hx
        simp only [List.mem_cons, List.not_mem_nil, or_false] at hx
        rcases hx with rfl | rfl | rfl | rfl
        · exact hS _ rfl
        · exact hS _ rfl
        · exact hM _ rfl
        · exact congrArg (fun b => some (Value.bool b)) (decide_eq_false (by omega))
      refine AOps.call (n := 40) 34 [35] 49 [s.val, .int .i64 1, .bool false] (by kernel_rfl) rfl (by kernel_rfl) (by kernel_rfl) (by kernel_rfl) (by kernel_rfl) (by kernel_rfl) (here_spec s 1 false (by show q + 1 < _; unfold far at hq; omega) _) ?_
      rintro e B2 ⟨v, rfl, hx, hr, hn⟩
      refine ⟨v, rfl, ?_⟩
      refine AOps.run (n := 40) [] [35] [] (cs := []) (by kernel_rfl) (by kernel_rfl) (by kernel_rfl) ?_ ?_
      · intro x hx; cases hx
      show AWp _ _ _ _ _
      refine AWp.view [(4, v)] (by kernel_rfl) ?_
      exact AWp.ret' (by kernel_rfl) ⟨[v], by kernel_rfl, v, rfl, (Ext.push _ _).trans hx, by simpa [hnone, eq_comm] using hr, fun a n c e => by have := hn a n c e; simp only [B1, AHeap.push] at this; omega⟩
    · rw [hk]
      refine AOps.run (n := 40) [(2, .blk (s.cells)), (6, .blk (mc)), (8, .val (.bool false)), (0, .blk (s.cells))] [1, 2, 3, 4, 5, 6, 7, 8, 9, 10, 11, 12, 13, 14, 15, 16, 17, 18, 19, 20, 21, 22, 23, 24, 25, 26, 27, 28, 29, 30, 31, 32, 0, 33] [34, 35] (cs := [.blk (B.next) (s.cells), .blk (p.M) (mc), .some (some (.bool (decide ((q : Int) < (row.length : Int))))) (.bool false), .blk (B.next) (s.cells)]) (by kernel_rfl) (by kernel_rfl) (by kernel_rfl) ?_ ?_
      · intro x hx
        simp only [List.mem_cons, List.not_mem_nil, or_false] at hx
        rcases hx with rfl | rfl | rfl | rfl
        · exact hS _ rfl
        · exact hM _ rfl
        · exact congrArg (fun b => some (Value.bool b)) (decide_eq_false (by omega))
        · exact hS _ rfl
      refine AOps.call (n := 40) 34 [35] 49 [s.val, .int .i64 1, .bool false] (by kernel_rfl) rfl (by kernel_rfl) (by kernel_rfl) (by kernel_rfl) (by kernel_rfl) (by kernel_rfl) (here_spec s 1 false (by show q + 1 < _; unfold far at hq; omega) _) ?_
      rintro e B2 ⟨v, rfl, hx, hr, hn⟩
      refine ⟨v, rfl, ?_⟩
      refine AOps.run (n := 40) [] [35] [] (cs := []) (by kernel_rfl) (by kernel_rfl) (by kernel_rfl) ?_ ?_
      · intro x hx; cases hx
      show AWp _ _ _ _ _
      refine AWp.view [(4, v)] (by kernel_rfl) ?_
      exact AWp.ret' (by kernel_rfl) ⟨[v], by kernel_rfl, v, rfl, (Ext.push _ _).trans hx, by simpa [hnone, eq_comm] using hr, fun a n c e => by have := hn a n c e; simp only [B1, AHeap.push] at this; omega⟩
end Go.Proofs.YtihpfgnigpmihaaGreat
