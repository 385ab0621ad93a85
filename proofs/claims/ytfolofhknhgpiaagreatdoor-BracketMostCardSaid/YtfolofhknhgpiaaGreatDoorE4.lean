/- locale.ordered of an order of single cells. -/
import Derived.Test.YtfolofhknhgpiaaGreatDoorE3
set_option linter.unusedVariables false
set_option linter.unusedSimpArgs false
set_option maxRecDepth 100000
namespace Go.Proofs.YtfolofhknhgpiaaGreatDoor
open Go

theorem apart_third {vs : List Value} {off : Nat} {a b c : Value} (h : apart' vs off 3 true = some (.agg #[a, b, c])) : vs[off + 2]? = some c := by
  unfold apart' at h
  simp only [if_true] at h
  split at h
  · have h1 := Value.agg.inj (Option.some.inj h)
    have h2 : (vs.drop off).take 3 = [a, b, c] := by simpa using congrArg Array.toList h1
    have h3 : ((vs.drop off).take 3)[2]? = some c := by rw [h2]; rfl
    rw [List.getElem?_take, if_pos (by decide), List.getElem?_drop] at h3
    exact h3
  · cases h
/-- The names' counts after so many rounds. -/
def names : Nat → ABlk
  | 0 => .map [] 0
  | j + 1 => .map [⟨.string ⟨#[]⟩, .int .i64 ((j + 1 : Nat) : Int), 0⟩] 1
theorem map94 : mapT Tryz.prog 94 = some (9, 3) := by kernel_rfl
theorem names_look {B : AHeap} {M j : Nat} (h : B.get M = some (names j)) : alookup Tryz.prog B 94 (.map (some M)) (.string ⟨#[]⟩) false = some (.int .i64 ((j : Nat) : Int)) := by
  unfold alookup
  simp only [map94, h]
  cases j with
  | zero => kernel_rfl
  | succ j => kernel_rfl
theorem names_put {B : AHeap} {M j : Nat} (h : B.get M = some (names j)) : amapUpdate Tryz.prog B 94 (.map (some M)) (.string ⟨#[]⟩) (.int .i64 ((j + 1 : Nat) : Int)) = some (B.set M (names (j + 1))) := by
  unfold amapUpdate
  simp only [map94, h]
  cases j with
  | zero => kernel_rfl
  | succ j => kernel_rfl

theorem ordered_spec {B : AHeap} {OB n c : Nat} (h : OrderAt B OB n) (hn : n ≤ 128) : ACall Tryz.prog 53 [.slice (some ⟨OB, 0, none⟩) n c] B fun e B' => Ext B B' ∧ e = .ret (.bool true) := by
  refine ACall.walk (fn := Tryz.f53) (c := bodyOf Tryz.prog 53) (by kernel_rfl) (by kernel_rfl) (by kernel_rfl) ?_
  refine AWp.seq' (by kernel_rfl) (AWp.region' (by kernel_rfl) ?_)
  refine AOps.run (n := 84) [] [0] [] (cs := []) (by kernel_rfl) (by kernel_rfl) (by kernel_rfl) ?_ ?_
  · intro x hx; cases hx
  show AWp _ _ _ _ _
  refine AWp.view [(0, .slice (some ⟨OB, 0, none⟩) n c)] (by kernel_rfl) ?_
  refine AWp.seq' (by kernel_rfl) (AWp.region' (by kernel_rfl) ?_)
  refine AOps.write (n := 84) 0 [1] (.map (some B.next)) (B.push (names 0)) (by kernel_rfl) rfl (by kernel_rfl) (by kernel_rfl) (by kernel_rfl) (by kernel_rfl) ?_
  refine AOps.run (n := 84) [] [1] [] (cs := []) (by kernel_rfl) (by kernel_rfl) (by kernel_rfl) ?_ ?_
  · intro x hx; cases hx
  show AWp _ _ _ _ _
  refine AWp.view [(0, .slice (some ⟨OB, 0, none⟩) n c), (3, .map (some B.next))] (by kernel_rfl) ?_
  refine AWp.seq' (by kernel_rfl) ?_
  refine AWp.seq' (by kernel_rfl) (AWp.region' (by kernel_rfl) ?_)
  refine AOps.run (n := 84) [] [0, 1, 2] [] (cs := []) (by kernel_rfl) (by kernel_rfl) (by kernel_rfl) ?_ ?_
  · intro x hx; cases hx
  show AWp _ _ _ _ _
  refine AWp.view [(0, .slice (some ⟨OB, 0, none⟩) n c), (3, .map (some B.next)), (8, .slice (some ⟨OB, 0, none⟩) n c), (9, .int .i64 ((n : Nat) : Int)), (10, .int .i64 ((0 : Nat) : Int))] (by kernel_rfl) ?_
  refine AWp.block' (id := 0) (by kernel_rfl) ?_
  refine AWp.loop' (by kernel_rfl) (N := n - 0) (fun μ E H => ∃ j : Nat, μ = n - j ∧ j ≤ n ∧ AEnv.le (envOf 84 (mkE [(0, .slice (some ⟨OB, 0, none⟩) n c), (3, .map (some B.next)), (8, .slice (some ⟨OB, 0, none⟩) n c), (9, .int .i64 ((n : Nat) : Int)), (10, .int .i64 ((j : Nat) : Int))])) E ∧ Ext B H ∧ H.get B.next = some (names j))
    ⟨0, rfl, Nat.zero_le _, AEnv.le_refl _, Ext.push _ _, AHeap.get_push_new _ _⟩ ?_
  rintro μ E H ⟨j, rfl, hj, hE, hx, hM⟩
  refine AWp.env hE ?_
  by_cases hjn : j < n
  · skip
    refine AWp.seq' (by kernel_rfl) (AWp.region' (by kernel_rfl) ?_)
    refine AOps.run (n := 84) [(0, .val (.bool true))] [0] [] (cs := [.some (some (.bool (decide (((j : Nat) : Int) < ((n : Nat) : Int))))) (.bool true)]) (by kernel_rfl) (by kernel_rfl) (by kernel_rfl) ?_ ?_
    · intro x hx
      simp only [List.mem_cons, List.not_mem_nil, or_false] at hx
      subst hx
      exact congrArg (fun b => some (Value.bool b)) (decide_eq_true (by omega))
    show AWp _ _ _ _ _
    refine AWp.view [(0, .slice (some ⟨OB, 0, none⟩) n c), (3, .map (some B.next)), (8, .slice (some ⟨OB, 0, none⟩) n c), (9, .int .i64 ((n : Nat) : Int)), (10, .int .i64 ((j : Nat) : Int)), (11, .bool true)] (by kernel_rfl) ?_
    refine AWp.seq' (by kernel_rfl) (AWp.condT (c := .tmp 11) (by kernel_rfl) (by kernel_rfl) ?_)
    refine AWp.skip' (by kernel_rfl) ?_
    show AWp _ _ _ _ _
    refine AWp.view [(0, .slice (some ⟨OB, 0, none⟩) n c), (3, .map (some B.next)), (8, .slice (some ⟨OB, 0, none⟩) n c), (9, .int .i64 ((n : Nat) : Int)), (10, .int .i64 ((j : Nat) : Int))] (by kernel_rfl) ?_
    refine AWp.seq' (by kernel_rfl) (AWp.block' (id := 1) (by kernel_rfl) ?_)
    obtain ⟨vs, ro, hO, hel⟩ := h.ext hx
    obtain ⟨X, cx, e1, r1, hap, hX⟩ := hel j hjn
    refine AWp.seq' (by kernel_rfl) (AWp.region' (by kernel_rfl) ?_)
    refine AOps.run (n := 84) [(1, .val (.pointer (some ⟨OB, 0 + j * 3, none⟩))), (2, .part (vs) (.agg #[.string ⟨#[]⟩, .slice (some ⟨X, 0, none⟩) 1 cx, .int .i64 ((j : Nat) : Int)]))] [0, 1, 2] [3, 4, 5] (cs := [.some (aindexAddr Tryz.prog 25 (.slice (some ⟨OB, 0, none⟩) n c) (.int .i64 ((j : Nat) : Int))) (.pointer (some ⟨OB, 0 + j * 3, none⟩)), .blk (OB) (vs), .some (apart' vs (0 + j * 3) 3 true) (.agg #[.string ⟨#[]⟩, .slice (some ⟨X, 0, none⟩) 1 cx, .int .i64 ((j : Nat) : Int)])]) (by kernel_rfl) (by kernel_rfl) (by kernel_rfl) ?_ ?_
    · intro x hx
      simp only [List.mem_cons, List.not_mem_nil, or_false] at hx
      rcases hx with rfl | rfl | rfl
      · exact indexAddr_ok sl25 hjn
      · exact ⟨_, _, hO⟩
      · exact hap
    refine AOps.write (n := 84) 3 [4, 5] (.pointer (some ⟨H.next, 0, none⟩)) (H.push (.cells [.string ⟨#[]⟩, .slice none 0 0, .int .i64 0] 73 false)) (by kernel_rfl) rfl (by kernel_rfl) (by kernel_rfl) (by kernel_rfl) (by kernel_rfl) ?_
    refine AOps.run (n := 84) [] [4] [5] (cs := []) (by kernel_rfl) (by kernel_rfl) (by kernel_rfl) ?_ ?_
    · intro x hx; cases hx
    refine AOps.store (n := 84) 5 [] (t := 73) (v := .agg #[.string ⟨#[]⟩, .slice (some ⟨X, 0, none⟩) 1 cx, .int .i64 ((j : Nat) : Int)]) (b := H.next) (off := 0) (vs := [.string ⟨#[]⟩, .slice none 0 0, .int .i64 0]) (e := 73) (vs2 := [.string ⟨#[]⟩, .slice (some ⟨X, 0, none⟩) 1 cx, .int .i64 ((j : Nat) : Int)]) (by kernel_rfl) rfl (by kernel_rfl) (by kernel_rfl) (by kernel_rfl) (AHeap.get_push_new _ _) (by kernel_rfl) (by kernel_rfl) ?_
    show AWp _ _ _ _ _
    obtain ⟨b1, b2, b3⟩ := boxed H (.cells [.string ⟨#[]⟩, .slice none 0 0, .int .i64 0] 73 false) (.cells [.string ⟨#[]⟩, .slice (some ⟨X, 0, none⟩) 1 cx, .int .i64 ((j : Nat) : Int)] 73 false)
    generalize (H.push (.cells [.string ⟨#[]⟩, .slice none 0 0, .int .i64 0] 73 false)).set H.next (.cells [.string ⟨#[]⟩, .slice (some ⟨X, 0, none⟩) 1 cx, .int .i64 ((j : Nat) : Int)] 73 false) = H1 at b1 b2 ⊢
    refine AWp.view [(0, .slice (some ⟨OB, 0, none⟩) n c), (3, .map (some B.next)), (8, .slice (some ⟨OB, 0, none⟩) n c), (9, .int .i64 ((n : Nat) : Int)), (10, .int .i64 ((j : Nat) : Int)), (4, .int .i64 ((j : Nat) : Int)), (5, .pointer (some ⟨H.next, 0, none⟩))] (by kernel_rfl) ?_
    refine AWp.seq' (by kernel_rfl) (AWp.region' (by kernel_rfl) ?_)
    refine AOps.run (n := 84) [(1, .blk ([.string ⟨#[]⟩, .slice (some ⟨X, 0, none⟩) 1 cx, .int .i64 ((j : Nat) : Int)])), (6, .blk ([.string ⟨#[]⟩, .slice (some ⟨X, 0, none⟩) 1 cx, .int .i64 ((j : Nat) : Int)])), (8, .blk ([.int .i32 (j : Int)]))] [0, 1, 2, 3, 4, 5, 6, 7, 8] [9, 10, 11, 12, 13, 14, 15, 16] (cs := [.blk (H.next) ([.string ⟨#[]⟩, .slice (some ⟨X, 0, none⟩) 1 cx, .int .i64 ((j : Nat) : Int)]), .blk (H.next) ([.string ⟨#[]⟩, .slice (some ⟨X, 0, none⟩) 1 cx, .int .i64 ((j : Nat) : Int)]), .blk (X) ([.int .i32 (j : Int)])]) (by kernel_rfl) (by kernel_rfl) (by kernel_rfl) ?_ ?_
    · intro x hx
      simp only [List.mem_cons, List.not_mem_nil, or_false] at hx
      rcases hx with rfl | rfl | rfl
      · exact ⟨_, _, b2⟩
      · exact ⟨_, _, b2⟩
      · exact ⟨_, _, b1.get hX⟩
    refine AOps.call (n := 84) 9 [10, 11, 12, 13, 14, 15, 16] 48 [.int .i32 (j : Int)] (by kernel_rfl) rfl (by kernel_rfl) (by kernel_rfl) (by kernel_rfl) (by kernel_rfl) (by kernel_rfl) (scalar_spec (by omega) H1) ?_
    rintro e H2 ⟨c1, rfl⟩
    refine ⟨_, rfl, ?_⟩
    have d2 := c1.get b2
    have hx2 := (hx.trans b1).trans c1
    have hM2 := c1.get (b1.get hM)
    have hX2 := c1.get (b1.get hX)
    refine AOps.run (n := 84) [(13, .blk ([.string ⟨#[]⟩, .slice (some ⟨X, 0, none⟩) 1 cx, .int .i64 ((j : Nat) : Int)]))] [10, 11, 12, 13, 14, 15, 16] [] (cs := [.blk (H.next) ([.string ⟨#[]⟩, .slice (some ⟨X, 0, none⟩) 1 cx, .int .i64 ((j : Nat) : Int)])]) (by kernel_rfl) (by kernel_rfl) (by kernel_rfl) ?_ ?_
    · intro x hx
      simp only [List.mem_cons, List.not_mem_nil, or_false] at hx
      subst hx
      exact ⟨_, _, d2⟩
    show AWp _ _ _ _ _
    refine AWp.view [(0, .slice (some ⟨OB, 0, none⟩) n c), (3, .map (some B.next)), (8, .slice (some ⟨OB, 0, none⟩) n c), (9, .int .i64 ((n : Nat) : Int)), (10, .int .i64 ((j : Nat) : Int)), (4, .int .i64 ((j : Nat) : Int)), (5, .pointer (some ⟨H.next, 0, none⟩)), (6, .bool true)] (by kernel_rfl) ?_
    refine AWp.seq' (by kernel_rfl) (AWp.region' (by kernel_rfl) ?_)
    refine AOps.run (n := 84) [(2, .blk ([.string ⟨#[]⟩, .slice (some ⟨X, 0, none⟩) 1 cx, .int .i64 ((j : Nat) : Int)])), (3, .raw (.int .i64 ((j : Nat) : Int))), (4, .val (.int .i64 ((j + 1 : Nat) : Int)))] [0, 1, 2, 3, 4] [5] (cs := [.blk (H.next) ([.string ⟨#[]⟩, .slice (some ⟨X, 0, none⟩) 1 cx, .int .i64 ((j : Nat) : Int)]), .look 94 (.map (some B.next)) (.string ⟨#[]⟩) false (.int .i64 ((j : Nat) : Int)), .some (some (.int .i64 (IntKind.i64.wrap (((j : Nat) : Int) + ((1 : Nat) : Int))))) (.int .i64 ((j + 1 : Nat) : Int))]) (by kernel_rfl) (by kernel_rfl) (by kernel_rfl) ?_ ?_
    · intro x hx
      simp only [List.mem_cons, List.not_mem_nil, or_false] at hx
      rcases hx with rfl | rfl | rfl
      · exact ⟨_, _, d2⟩
      · exact names_look hM2
      · exact congrArg (fun x => some (Value.int .i64 x)) (wrap_add (by omega))
    refine AOps.mapUpdate (n := 84) 5 [] (t := 94) (m := .map (some B.next)) (k := .string ⟨#[]⟩) (x := .int .i64 ((j + 1 : Nat) : Int)) (H' := H2.set B.next (names (j + 1))) (by kernel_rfl) rfl (by kernel_rfl) (by kernel_rfl) (by kernel_rfl) (names_put hM2) ?_
    show AWp _ _ _ _ _
    have hM3 : (H2.set B.next (names (j + 1))).get B.next = some (names (j + 1)) := AHeap.get_set_same hM2
    have hx3 : Ext B (H2.set B.next (names (j + 1))) := hx2.set_new (Nat.le_refl _) _
    have hlt : B.next < H.next := AHeap.get_lt hM
    have d3 : (H2.set B.next (names (j + 1))).get H.next = some (.cells [.string ⟨#[]⟩, .slice (some ⟨X, 0, none⟩) 1 cx, .int .i64 ((j : Nat) : Int)] 73 false) := by rw [AHeap.get_set_ne (by omega)]; exact d2
    have hXl : X < H.next := AHeap.get_lt hX
    have hO3 := h.ext hx3
    obtain ⟨vs3, ro3, hO4, hel3⟩ := hO3
    have hXs : (H2.set B.next (names (j + 1))).get X = some (.cells [.int .i32 (j : Int)] e1 r1) := by
      have hne : X ≠ B.next := fun e => by rw [e, hM] at hX; cases j <;> simp [names] at hX
      rw [AHeap.get_set_ne hne]; exact hX2
    generalize H2.set B.next (names (j + 1)) = H3 at hM3 hx3 d3 hO4 hel3 hXs ⊢
    refine AWp.view [(0, .slice (some ⟨OB, 0, none⟩) n c), (3, .map (some B.next)), (8, .slice (some ⟨OB, 0, none⟩) n c), (9, .int .i64 ((n : Nat) : Int)), (10, .int .i64 ((j : Nat) : Int)), (4, .int .i64 ((j : Nat) : Int)), (5, .pointer (some ⟨H.next, 0, none⟩)), (6, .bool true)] (by kernel_rfl) ?_
    refine AWp.block' (id := 2) (by kernel_rfl) ?_
    refine AWp.seq' (by kernel_rfl) ?_
    refine AWp.seq' (by kernel_rfl) (AWp.region' (by kernel_rfl) ?_)
    refine AOps.run (n := 84) [] [0, 1, 2, 3, 4, 5, 6, 7] [] (cs := []) (by kernel_rfl) (by kernel_rfl) (by kernel_rfl) ?_ ?_
    · intro x hx; cases hx
    show AWp _ _ _ _ _
    refine AWp.view [(0, .slice (some ⟨OB, 0, none⟩) n c), (3, .map (some B.next)), (8, .slice (some ⟨OB, 0, none⟩) n c), (9, .int .i64 ((n : Nat) : Int)), (10, .int .i64 ((j : Nat) : Int)), (4, .int .i64 ((j : Nat) : Int)), (5, .pointer (some ⟨H.next, 0, none⟩)), (6, .bool true), (36, .bool false)] (by kernel_rfl) ?_
    refine AWp.condF (c := .tmp 36) (by kernel_rfl) (by kernel_rfl) ?_
    refine AWp.seq' (by kernel_rfl) (AWp.region' (by kernel_rfl) ?_)
    refine AOps.run (n := 84) [(2, .blk ([.string ⟨#[]⟩, .slice (some ⟨X, 0, none⟩) 1 cx, .int .i64 ((j : Nat) : Int)]))] [0, 1, 2] [3, 4, 5, 6] (cs := [.blk (H.next) ([.string ⟨#[]⟩, .slice (some ⟨X, 0, none⟩) 1 cx, .int .i64 ((j : Nat) : Int)])]) (by kernel_rfl) (by kernel_rfl) (by kernel_rfl) ?_ ?_
    · intro x hx
      simp only [List.mem_cons, List.not_mem_nil, or_false] at hx
      subst hx
      exact ⟨_, _, d3⟩
    refine AOps.call (n := 84) 3 [4, 5, 6] 85 [.slice (some ⟨OB, 0, none⟩) n c, .slice (some ⟨X, 0, none⟩) 1 cx] (by kernel_rfl) rfl (by kernel_rfl) (by kernel_rfl) (by kernel_rfl) (by kernel_rfl) (by kernel_rfl) (place_spec (h.ext hx3) (by omega) hjn hXs) ?_
    rintro e H4 ⟨f1, rfl⟩
    refine ⟨_, rfl, ?_⟩
    refine AOps.run (n := 84) [(5, .val (.bool false))] [4, 5, 6] [] (cs := [.some (some (.bool (!decide (((j : Nat) : Int) = ((j : Nat) : Int))))) (.bool false)]) (by kernel_rfl) (by kernel_rfl) (by kernel_rfl) ?_ ?_
    · intro x hx
      simp only [List.mem_cons, List.not_mem_nil, or_false] at hx
      subst hx
      simp [Cond.holds]
    show AWp _ _ _ _ _
    refine AWp.view [(0, .slice (some ⟨OB, 0, none⟩) n c), (3, .map (some B.next)), (8, .slice (some ⟨OB, 0, none⟩) n c), (9, .int .i64 ((n : Nat) : Int)), (10, .int .i64 ((j : Nat) : Int)), (4, .int .i64 ((j : Nat) : Int)), (5, .pointer (some ⟨H.next, 0, none⟩)), (6, .bool true), (36, .bool false)] (by kernel_rfl) ?_
    refine AWp.condF (c := .tmp 36) (by kernel_rfl) (by kernel_rfl) ?_
    refine AWp.region' (by kernel_rfl) ?_
    refine AOps.run (n := 84) [] [0, 1, 2, 3, 4, 5, 6, 7, 8, 9] [] (cs := []) (by kernel_rfl) (by kernel_rfl) (by kernel_rfl) ?_ ?_
    · intro x hx; cases hx
    show AWp _ _ _ _ _
    refine AWp.view [(0, .slice (some ⟨OB, 0, none⟩) n c), (3, .map (some B.next)), (8, .slice (some ⟨OB, 0, none⟩) n c), (9, .int .i64 ((n : Nat) : Int)), (10, .int .i64 ((j : Nat) : Int)), (4, .int .i64 ((j : Nat) : Int)), (5, .pointer (some ⟨H.next, 0, none⟩)), (6, .bool true), (36, .bool false)] (by kernel_rfl) ?_
    refine AWp.condF (c := .tmp 36) (by kernel_rfl) (by kernel_rfl) ?_
    have d4 := f1.get d3
    have hO5 := f1.get hO4
    have hM4 := f1.get hM3
    obtain ⟨X2, cx2, e2, r2, hap2, _⟩ := hel3 j hjn
    have hc2 : vs3[0 + j * 3 + 2]? = some (.int .i64 ((j : Nat) : Int)) := apart_third hap2
    refine AWp.seq' (by kernel_rfl) (AWp.draw' mixed (.leaf [0, 1, 2, 3, 4, 5, 6, 7, 8, 9, 10, 11, 12, 13, 14, 15, 16, 17, 18, 19, 20]) (by kernel_rfl) (by kernel_rfl) ⟨by kernel_rfl, ?_⟩)
    have hk : keeps H4 (opsOf (fst (snd (snd (fst (snd (snd (snd (fst (fst (snd (snd (fst (fst (snd (fst (snd (snd (bodyOf Tryz.prog 53))))))))))))))))))).toList = H4 := by kernel_rfl
    rw [hk]
    refine AOps.run (n := 84) [(1, .blk ([.string ⟨#[]⟩, .slice (some ⟨X, 0, none⟩) 1 cx, .int .i64 ((j : Nat) : Int)])), (2, .val (.bool false)), (5, .blk ([.string ⟨#[]⟩, .slice (some ⟨X, 0, none⟩) 1 cx, .int .i64 ((j : Nat) : Int)])), (7, .val (.bool false)), (12, .blk ([.string ⟨#[]⟩, .slice (some ⟨X, 0, none⟩) 1 cx, .int .i64 ((j : Nat) : Int)])), (13, .val (.pointer (some ⟨OB, 0 + j * 3, none⟩))), (15, .part (vs3) (.int .i64 ((j : Nat) : Int))), (17, .blk ([.string ⟨#[]⟩, .slice (some ⟨X, 0, none⟩) 1 cx, .int .i64 ((j : Nat) : Int)])), (18, .val (.bool false))] [0, 1, 2, 3, 4, 5, 6, 7, 8, 9, 10, 11, 12, 13, 14, 15, 16, 17, 18, 19, 20] [] (cs := [.blk (H.next) ([.string ⟨#[]⟩, .slice (some ⟨X, 0, none⟩) 1 cx, .int .i64 ((j : Nat) : Int)]), .some (some (.bool (decide (((j : Nat) : Int) < 0)))) (.bool false), .blk (H.next) ([.string ⟨#[]⟩, .slice (some ⟨X, 0, none⟩) 1 cx, .int .i64 ((j : Nat) : Int)]), .some (some (.bool (decide (((j : Nat) : Int) > ((j : Nat) : Int))))) (.bool false), .blk (H.next) ([.string ⟨#[]⟩, .slice (some ⟨X, 0, none⟩) 1 cx, .int .i64 ((j : Nat) : Int)]), .some (aindexAddr Tryz.prog 25 (.slice (some ⟨OB, 0, none⟩) n c) (.int .i64 ((j : Nat) : Int))) (.pointer (some ⟨OB, 0 + j * 3, none⟩)), .blk (OB) (vs3), .some (apart' vs3 (0 + j * 3 + 2) 1 false) (.int .i64 ((j : Nat) : Int)), .blk (H.next) ([.string ⟨#[]⟩, .slice (some ⟨X, 0, none⟩) 1 cx, .int .i64 ((j : Nat) : Int)]), .some (some (.bool (!decide (((j : Nat) : Int) = ((j : Nat) : Int))))) (.bool false)]) (by kernel_rfl) (by kernel_rfl) (by kernel_rfl) ?_ ?_
    · intro x hx
      simp only [List.mem_cons, List.not_mem_nil, or_false] at hx
      rcases hx with rfl | rfl | rfl | rfl | rfl | rfl | rfl | rfl | rfl | rfl
      · exact ⟨_, _, d4⟩
      · exact congrArg (fun b => some (Value.bool b)) (decide_eq_false (by omega))
      · exact ⟨_, _, d4⟩
      · simp [Cond.holds]
      · exact ⟨_, _, d4⟩
      · exact indexAddr_ok sl25 hjn
      · exact ⟨_, _, hO5⟩
      · exact hc2
      · exact ⟨_, _, d4⟩
      · simp [Cond.holds]
    show AWp _ _ _ _ _
    refine AWp.view [(0, .slice (some ⟨OB, 0, none⟩) n c), (3, .map (some B.next)), (8, .slice (some ⟨OB, 0, none⟩) n c), (9, .int .i64 ((n : Nat) : Int)), (10, .int .i64 ((j : Nat) : Int)), (4, .int .i64 ((j : Nat) : Int)), (5, .pointer (some ⟨H.next, 0, none⟩)), (6, .bool true), (59, .bool false)] (by kernel_rfl) ?_
    refine AWp.condF (c := .tmp 59) (by kernel_rfl) (by kernel_rfl) ?_
    refine AWp.skip' (by kernel_rfl) ?_
    show AWp _ _ _ _ _
    refine AWp.view [(0, .slice (some ⟨OB, 0, none⟩) n c), (3, .map (some B.next)), (8, .slice (some ⟨OB, 0, none⟩) n c), (9, .int .i64 ((n : Nat) : Int)), (10, .int .i64 ((j : Nat) : Int))] (by kernel_rfl) ?_
    refine AWp.region' (by kernel_rfl) ?_
    refine AOps.run (n := 84) [(0, .val (.int .i64 ((j + 1 : Nat) : Int)))] [0, 1] [] (cs := [.some (some (.int .i64 (IntKind.i64.wrap (((j : Nat) : Int) + ((1 : Nat) : Int))))) (.int .i64 ((j + 1 : Nat) : Int))]) (by kernel_rfl) (by kernel_rfl) (by kernel_rfl) ?_ ?_
    · intro x hx
      simp only [List.mem_cons, List.not_mem_nil, or_false] at hx
      subst hx
      exact congrArg (fun x => some (Value.int .i64 x)) (wrap_add (by omega))
    exact ⟨n - (j + 1), by omega, j + 1, rfl, hjn, mkE_le [(0, .slice (some ⟨OB, 0, none⟩) n c), (3, .map (some B.next)), (8, .slice (some ⟨OB, 0, none⟩) n c), (9, .int .i64 ((n : Nat) : Int)), (10, .int .i64 ((j + 1 : Nat) : Int))] (by kernel_rfl), hx3.trans f1, hM4⟩
  · skip
    refine AWp.seq' (by kernel_rfl) (AWp.region' (by kernel_rfl) ?_)
    refine AOps.run (n := 84) [(0, .val (.bool false))] [0] [] (cs := [.some (some (.bool (decide (((j : Nat) : Int) < ((n : Nat) : Int))))) (.bool false)]) (by kernel_rfl) (by kernel_rfl) (by kernel_rfl) ?_ ?_
    · intro x hx
      simp only [List.mem_cons, List.not_mem_nil, or_false] at hx
      subst hx
      exact congrArg (fun b => some (Value.bool b)) (decide_eq_false (by omega))
    show AWp _ _ _ _ _
    refine AWp.view [(0, .slice (some ⟨OB, 0, none⟩) n c), (3, .map (some B.next)), (11, .bool false)] (by kernel_rfl) ?_
    refine AWp.seq' (by kernel_rfl) (AWp.condF (c := .tmp 11) (by kernel_rfl) (by kernel_rfl) ?_)
    refine AWp.exit' (id := 0) (by kernel_rfl) ?_
    show AWp _ _ _ _ _
    refine AWp.view [(0, .slice (some ⟨OB, 0, none⟩) n c), (3, .map (some B.next))] (by kernel_rfl) ?_
    refine AWp.seq' (by kernel_rfl) (AWp.region' (by kernel_rfl) ?_)
    refine AOps.run (n := 84) [(2, .val (.bool true))] [0, 1, 2, 3] [] (cs := [.some (some (.bool (decide (((n : Nat) : Int) ≤ 500)))) (.bool true)]) (by kernel_rfl) (by kernel_rfl) (by kernel_rfl) ?_ ?_
    · intro x hx
      simp only [List.mem_cons, List.not_mem_nil, or_false] at hx
      subst hx
      exact congrArg (fun b => some (Value.bool b)) (decide_eq_true (by omega))
    show AWp _ _ _ _ _
    refine AWp.view [(2, .bool true)] (by kernel_rfl) ?_
    exact AWp.ret' (by kernel_rfl) ⟨[.bool true], by kernel_rfl, hx, rfl⟩
end Go.Proofs.YtfolofhknhgpiaaGreatDoor
