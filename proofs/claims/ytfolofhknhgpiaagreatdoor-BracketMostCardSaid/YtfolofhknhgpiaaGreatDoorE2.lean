/- Where an element of one cell stands in an order: IndexFunc and place. -/
import Derived.Test.YtfolofhknhgpiaaGreatDoorE1
set_option linter.unusedVariables false
set_option linter.unusedSimpArgs false
set_option maxRecDepth 100000
namespace Go.Proofs.YtfolofhknhgpiaaGreatDoor
open Go

theorem wrap_id {n : Int} (h1 : -9223372036854775808 ≤ n) (h2 : n < 9223372036854775808) : IntKind.i64.wrap n = n := by
  unfold IntKind.wrap
  have hb : IntKind.i64.bits = 64 := rfl
  have hs : IntKind.i64.signed = true := rfl
  simp only [hb, hs, Bool.true_and]
  split
  · rename_i h; simp at h; omega
  · rename_i h; simp at h; omega
theorem wrap_add {a b : Nat} (h : a + b < 4611686018427387904) : IntKind.i64.wrap ((a : Int) + (b : Int)) = ((a + b : Nat) : Int) := by
  rw [wrap_id (by omega) (by omega)]; omega

theorem indexAddr_ok {P : Program} {t e s b : Nat} (hs : sliceT P t = some (e, s, b)) {k : IntKind} {B o len c i : Nat} (h : i < len) : aindexAddr P t (.slice (some ⟨B, o, none⟩) len c) (.int k (i : Int)) = some (.pointer (some ⟨B, o + i * s, none⟩)) := by
  unfold aindexAddr
  simp only [hs]
  rw [if_pos ⟨by omega, by omega⟩]
  simp


theorem sl25 : sliceT Tryz.prog 25 = some (73, 3, 48) := by kernel_rfl

/-- An order of so many single cells: the j-th element is the cell j. -/
def OrderAt (B : AHeap) (OB n : Nat) : Prop := ∃ vs ro, B.get OB = some (.cells vs 73 ro) ∧ ∀ j, j < n → ∃ X cx e r, apart' vs (0 + j * 3) 3 true = some (.agg #[.string ⟨#[]⟩, .slice (some ⟨X, 0, none⟩) 1 cx, .int .i64 ((j : Nat) : Int)]) ∧ B.get X = some (.cells [.int .i32 (j : Int)] e r)
theorem OrderAt.ext {B B' : AHeap} {OB n : Nat} (h : OrderAt B OB n) (x : Ext B B') : OrderAt B' OB n := by
  obtain ⟨vs, ro, h1, h2⟩ := h
  refine ⟨vs, ro, x.get h1, fun j hj => ?_⟩
  obtain ⟨X, cx, e, r, a, b⟩ := h2 j hj
  exact ⟨X, cx, e, r, a, x.get b⟩

theorem indexFunc {B : AHeap} {OB n c C Y cy i : Nat} {e2 e3 : TypeId} {r2 r3 : Bool} (h : OrderAt B OB n) (hn : n < 100000) (hi : i < n) (hY : B.get Y = some (.cells [.int .i32 (i : Int)] e2 r2))
    (hC : B.get C = some (.cells [.slice (some ⟨Y, 0, none⟩) 1 cy] e3 r3)) :
    ACall Tryz.prog 109 [.slice (some ⟨OB, 0, none⟩) n c, .func (.func 110) #[] #[.pointer (some ⟨C, 0, none⟩)]] B fun e B' => Ext B B' ∧ e = .ret (.int .i64 ((i : Nat) : Int)) := by
  refine ACall.walk (fn := Tryz.f109) (c := bodyOf Tryz.prog 109) (by kernel_rfl) (by kernel_rfl) (by kernel_rfl) ?_
  refine AWp.seq' (by kernel_rfl) (AWp.region' (by kernel_rfl) ?_)
  refine AOps.run (n := 19) [] [0] [] (cs := []) (by kernel_rfl) (by kernel_rfl) (by kernel_rfl) ?_ ?_
  · intro x hx; cases hx
  show AWp _ _ _ _ _
  refine AWp.view [(0, .slice (some ⟨OB, 0, none⟩) n c), (1, .func (.func 110) #[] #[.pointer (some ⟨C, 0, none⟩)])] (by kernel_rfl) ?_
  refine AWp.seq' (by kernel_rfl) ?_
  refine AWp.seq' (by kernel_rfl) (AWp.region' (by kernel_rfl) ?_)
  refine AOps.run (n := 19) [] [0, 1, 2] [] (cs := []) (by kernel_rfl) (by kernel_rfl) (by kernel_rfl) ?_ ?_
  · intro x hx; cases hx
  show AWp _ _ _ _ _
  refine AWp.view [(0, .slice (some ⟨OB, 0, none⟩) n c), (1, .func (.func 110) #[] #[.pointer (some ⟨C, 0, none⟩)]), (7, .int .i64 ((n : Nat) : Int)), (8, .int .i64 ((0 : Nat) : Int))] (by kernel_rfl) ?_
  refine AWp.block' (id := 0) (by kernel_rfl) ?_
  refine AWp.loop' (by kernel_rfl) (N := n - 0) (fun μ E H => ∃ j : Nat, μ = n - j ∧ j ≤ i ∧ AEnv.le (envOf 19 (mkE [(0, .slice (some ⟨OB, 0, none⟩) n c), (1, .func (.func 110) #[] #[.pointer (some ⟨C, 0, none⟩)]), (7, .int .i64 ((n : Nat) : Int)), (8, .int .i64 ((j : Nat) : Int))])) E ∧ Ext B H)
    ⟨0, rfl, Nat.zero_le _, AEnv.le_refl _, Ext.refl _⟩ ?_
  rintro μ E H ⟨j, rfl, hj, hE, hx⟩
  refine AWp.env hE ?_
  have hjn : j < n := Nat.lt_of_le_of_lt hj hi
  refine AWp.seq' (by kernel_rfl) (AWp.region' (by kernel_rfl) ?_)
  refine AOps.run (n := 19) [(0, .val (.bool true))] [0] [] (cs := [.some (some (.bool (decide (((j : Nat) : Int) < ((n : Nat) : Int))))) (.bool true)]) (by kernel_rfl) (by kernel_rfl) (by kernel_rfl) ?_ ?_
  · intro x hx
    simp only [List.mem_cons, List.not_mem_nil, or_false] at hx
    subst hx
    exact congrArg (fun b => some (Value.bool b)) (decide_eq_true (by omega))
  show AWp _ _ _ _ _
  refine AWp.view [(0, .slice (some ⟨OB, 0, none⟩) n c), (1, .func (.func 110) #[] #[.pointer (some ⟨C, 0, none⟩)]), (7, .int .i64 ((n : Nat) : Int)), (8, .int .i64 ((j : Nat) : Int)), (9, .bool true)] (by kernel_rfl) ?_
  refine AWp.seq' (by kernel_rfl) (AWp.condT (c := .tmp 9) (by kernel_rfl) (by kernel_rfl) ?_)
  refine AWp.skip' (by kernel_rfl) ?_
  show AWp _ _ _ _ _
  refine AWp.view [(0, .slice (some ⟨OB, 0, none⟩) n c), (1, .func (.func 110) #[] #[.pointer (some ⟨C, 0, none⟩)]), (7, .int .i64 ((n : Nat) : Int)), (8, .int .i64 ((j : Nat) : Int))] (by kernel_rfl) ?_
  refine AWp.seq' (by kernel_rfl) (AWp.block' (id := 1) (by kernel_rfl) ?_)
  refine AWp.seq' (by kernel_rfl) (AWp.region' (by kernel_rfl) ?_)
  refine AOps.run (n := 19) [] [0, 1] [] (cs := []) (by kernel_rfl) (by kernel_rfl) (by kernel_rfl) ?_ ?_
  · intro x hx; cases hx
  show AWp _ _ _ _ _
  refine AWp.view [(0, .slice (some ⟨OB, 0, none⟩) n c), (1, .func (.func 110) #[] #[.pointer (some ⟨C, 0, none⟩)]), (7, .int .i64 ((n : Nat) : Int)), (8, .int .i64 ((j : Nat) : Int)), (5, .int .i64 ((j : Nat) : Int))] (by kernel_rfl) ?_
  obtain ⟨vs, ro, hO, hel⟩ := h.ext hx
  obtain ⟨X, cx, e, r, hap, hX⟩ := hel j hjn
  refine AWp.seq' (by kernel_rfl) (AWp.region' (by kernel_rfl) ?_)
  refine AOps.run (n := 19) [(3, .val (.pointer (some ⟨OB, 0 + j * 3, none⟩))), (4, .part (vs) (.agg #[.string ⟨#[]⟩, .slice (some ⟨X, 0, none⟩) 1 cx, .int .i64 ((j : Nat) : Int)]))] [0, 1, 2, 3, 4] [5] (cs := [.some (aindexAddr Tryz.prog 25 (.slice (some ⟨OB, 0, none⟩) n c) (.int .i64 ((j : Nat) : Int))) (.pointer (some ⟨OB, 0 + j * 3, none⟩)), .blk (OB) (vs), .some (apart' vs (0 + j * 3) 3 true) (.agg #[.string ⟨#[]⟩, .slice (some ⟨X, 0, none⟩) 1 cx, .int .i64 ((j : Nat) : Int)])]) (by kernel_rfl) (by kernel_rfl) (by kernel_rfl) ?_ ?_
  · intro x hx
    simp only [List.mem_cons, List.not_mem_nil, or_false] at hx
    rcases hx with rfl | rfl | rfl
    · exact indexAddr_ok sl25 hjn
    · exact ⟨_, _, hO⟩
    · exact hap
  refine AOps.call (n := 19) 5 [] 110 [.agg #[.string ⟨#[]⟩, .slice (some ⟨X, 0, none⟩) 1 cx, .int .i64 ((j : Nat) : Int)], .pointer (some ⟨C, 0, none⟩)] (by kernel_rfl) rfl (by kernel_rfl) (by kernel_rfl) (by kernel_rfl) (by kernel_rfl) (by kernel_rfl) (place1 hX (hx.get hY) (hx.get hC)) ?_
  rintro e B2 ⟨hx2, rfl⟩
  refine ⟨_, rfl, ?_⟩
  refine AOps.run (n := 19) [] [] [] (cs := []) (by kernel_rfl) (by kernel_rfl) (by kernel_rfl) ?_ ?_
  · intro x hx; cases hx
  show AWp _ _ _ _ _
  by_cases hji : j = i
  · subst hji
    refine AWp.view [(0, .slice (some ⟨OB, 0, none⟩) n c), (1, .func (.func 110) #[] #[.pointer (some ⟨C, 0, none⟩)]), (7, .int .i64 ((n : Nat) : Int)), (8, .int .i64 ((j : Nat) : Int)), (5, .int .i64 ((j : Nat) : Int)), (16, .bool true)] (by rw [decide_eq_true rfl]; kernel_rfl) ?_
    refine AWp.condT (c := .tmp 16) (by kernel_rfl) (by kernel_rfl) ?_
    refine AWp.seq' (by kernel_rfl) (AWp.region' (by kernel_rfl) ?_)
    refine AOps.run (n := 19) [] [0, 1] [] (cs := []) (by kernel_rfl) (by kernel_rfl) (by kernel_rfl) ?_ ?_
    · intro x hx; cases hx
    show AWp _ _ _ _ _
    refine AWp.view [(4, .int .i64 ((j : Nat) : Int))] (by kernel_rfl) ?_
    exact AWp.ret' (by kernel_rfl) ⟨[.int .i64 ((j : Nat) : Int)], by kernel_rfl, hx.trans hx2, rfl⟩
  · refine AWp.view [(0, .slice (some ⟨OB, 0, none⟩) n c), (1, .func (.func 110) #[] #[.pointer (some ⟨C, 0, none⟩)]), (7, .int .i64 ((n : Nat) : Int)), (8, .int .i64 ((j : Nat) : Int)), (5, .int .i64 ((j : Nat) : Int)), (16, .bool false)] (by rw [decide_eq_false (by omega)]; kernel_rfl) ?_
    refine AWp.condF (c := .tmp 16) (by kernel_rfl) (by kernel_rfl) ?_
    refine AWp.skip' (by kernel_rfl) ?_
    show AWp _ _ _ _ _
    refine AWp.view [(0, .slice (some ⟨OB, 0, none⟩) n c), (1, .func (.func 110) #[] #[.pointer (some ⟨C, 0, none⟩)]), (7, .int .i64 ((n : Nat) : Int)), (8, .int .i64 ((j : Nat) : Int))] (by kernel_rfl) ?_
    refine AWp.region' (by kernel_rfl) ?_
    refine AOps.run (n := 19) [(0, .val (.int .i64 ((j + 1 : Nat) : Int)))] [0, 1] [] (cs := [.some (some (.int .i64 (IntKind.i64.wrap (((j : Nat) : Int) + ((1 : Nat) : Int))))) (.int .i64 ((j + 1 : Nat) : Int))]) (by kernel_rfl) (by kernel_rfl) (by kernel_rfl) ?_ ?_
    · intro x hx
      simp only [List.mem_cons, List.not_mem_nil, or_false] at hx
      subst hx
      exact congrArg (fun x => some (Value.int .i64 x)) (wrap_add (by omega))
    exact ⟨n - (j + 1), by omega, j + 1, rfl, by omega, mkE_le [(0, .slice (some ⟨OB, 0, none⟩) n c), (1, .func (.func 110) #[] #[.pointer (some ⟨C, 0, none⟩)]), (7, .int .i64 ((n : Nat) : Int)), (8, .int .i64 ((j + 1 : Nat) : Int))] (by kernel_rfl), hx.trans hx2⟩

theorem place_spec {B : AHeap} {OB n c Y cy i : Nat} {e2 : TypeId} {r2 : Bool} (h : OrderAt B OB n) (hn : n < 100000) (hi : i < n) (hY : B.get Y = some (.cells [.int .i32 (i : Int)] e2 r2)) :
    ACall Tryz.prog 85 [.slice (some ⟨OB, 0, none⟩) n c, .slice (some ⟨Y, 0, none⟩) 1 cy] B fun e B' => Ext B B' ∧ e = .ret (.int .i64 ((i : Nat) : Int)) := by
  refine ACall.walk (fn := Tryz.f85) (c := bodyOf Tryz.prog 85) (by kernel_rfl) (by kernel_rfl) (by kernel_rfl) ?_
  refine AWp.seq' (by kernel_rfl) (AWp.region' (by kernel_rfl) ?_)
  refine AOps.write (n := 8) 0 [1] (.pointer (some ⟨B.next, 0, none⟩)) (B.push (.cells [.slice (some ⟨Y, 0, none⟩) 1 cy] 39 false)) (by kernel_rfl) rfl (by kernel_rfl) (by kernel_rfl) (by kernel_rfl) (by kernel_rfl) ?_
  refine AOps.run (n := 8) [] [1] [] (cs := []) (by kernel_rfl) (by kernel_rfl) (by kernel_rfl) ?_ ?_
  · intro x hx; cases hx
  show AWp _ _ _ _ _
  have hS : (B.push (.cells [.slice (some ⟨Y, 0, none⟩) 1 cy] 39 false)).get B.next = some (.cells [.slice (some ⟨Y, 0, none⟩) 1 cy] 39 false) := AHeap.get_push_new _ _
  have hx0 : Ext B (B.push (.cells [.slice (some ⟨Y, 0, none⟩) 1 cy] 39 false)) := Ext.push _ _
  generalize B.push (.cells [.slice (some ⟨Y, 0, none⟩) 1 cy] 39 false) = B1 at hS hx0 ⊢
  refine AWp.view [(0, .slice (some ⟨OB, 0, none⟩) n c), (3, .pointer (some ⟨B.next, 0, none⟩))] (by kernel_rfl) ?_
  refine AWp.seq' (by kernel_rfl) (AWp.region' (by kernel_rfl) ?_)
  refine AOps.run (n := 8) [] [0, 1] [2, 3] (cs := []) (by kernel_rfl) (by kernel_rfl) (by kernel_rfl) ?_ ?_
  · intro x hx; cases hx
  refine AOps.call (n := 8) 2 [3] 109 [.slice (some ⟨OB, 0, none⟩) n c, .func (.func 110) #[] #[.pointer (some ⟨B.next, 0, none⟩)]] (by kernel_rfl) rfl (by kernel_rfl) (by kernel_rfl) (by kernel_rfl) (by kernel_rfl) (by kernel_rfl) (indexFunc (h.ext hx0) hn hi (hx0.get hY) hS) ?_
  rintro e H ⟨hx, rfl⟩
  refine ⟨_, rfl, ?_⟩
  refine AOps.run (n := 8) [] [3] [] (cs := []) (by kernel_rfl) (by kernel_rfl) (by kernel_rfl) ?_ ?_
  · intro x hx; cases hx
  show AWp _ _ _ _ _
  refine AWp.view [(4, .int .i64 ((i : Nat) : Int))] (by kernel_rfl) ?_
  exact AWp.ret' (by kernel_rfl) ⟨[.int .i64 ((i : Nat) : Int)], by kernel_rfl, hx0.trans hx, rfl⟩
end Go.Proofs.YtfolofhknhgpiaaGreatDoor
