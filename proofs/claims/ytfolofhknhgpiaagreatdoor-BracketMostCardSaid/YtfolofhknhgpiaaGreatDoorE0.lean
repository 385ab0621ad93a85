/- slices.Equal of two slices of one cell. -/
import Derived.Test.YtfolofhknhgpiaaGreatDoorB0
import Derived.Test.YtfolofhknhgpiaaGreatDoorA21
set_option linter.unusedVariables false
set_option linter.unusedSimpArgs false
set_option maxRecDepth 100000
namespace Go.Proofs.YtfolofhknhgpiaaGreatDoor
open Go

theorem equal1 {B : AHeap} {X Y cx cy : Nat} {x y : Int} {e1 e2 : TypeId} {r1 r2 : Bool} (hX : B.get X = some (.cells [.int .i32 x] e1 r1)) (hY : B.get Y = some (.cells [.int .i32 y] e2 r2)) :
    ACall Tryz.prog 111 [.slice (some ⟨X, 0, none⟩) 1 cx, .slice (some ⟨Y, 0, none⟩) 1 cy] B fun e B' => B' = B ∧ e = .ret (.bool (decide (x = y))) := by
  refine ACall.walk (fn := Tryz.f111) (c := bodyOf Tryz.prog 111) (by kernel_rfl) (by kernel_rfl) (by kernel_rfl) ?_
  refine AWp.seq' (by kernel_rfl) (AWp.region' (by kernel_rfl) ?_)
  refine AOps.run (n := 26) [] [0] [] (cs := []) (by kernel_rfl) (by kernel_rfl) (by kernel_rfl) ?_ ?_
  · intro x hx; cases hx
  show AWp _ _ _ _ _
  refine AWp.view [(0, .slice (some ⟨X, 0, none⟩) 1 cx), (1, .slice (some ⟨Y, 0, none⟩) 1 cy)] (by kernel_rfl) ?_
  refine AWp.seq' (by kernel_rfl) ?_
  refine AWp.seq' (by kernel_rfl) (AWp.region' (by kernel_rfl) ?_)
  refine AOps.run (n := 26) [] [0, 1, 2, 3, 4] [] (cs := []) (by kernel_rfl) (by kernel_rfl) (by kernel_rfl) ?_ ?_
  · intro x hx; cases hx
  show AWp _ _ _ _ _
  refine AWp.view [(0, .slice (some ⟨X, 0, none⟩) 1 cx), (1, .slice (some ⟨Y, 0, none⟩) 1 cy), (10, .bool false)] (by kernel_rfl) ?_
  refine AWp.condF (c := .tmp 10) (by kernel_rfl) (by kernel_rfl) ?_
  refine AWp.skip' (by kernel_rfl) ?_
  show AWp _ _ _ _ _
  refine AWp.view [(0, .slice (some ⟨X, 0, none⟩) 1 cx), (1, .slice (some ⟨Y, 0, none⟩) 1 cy)] (by kernel_rfl) ?_
  refine AWp.seq' (by kernel_rfl) ?_
  refine AWp.seq' (by kernel_rfl) (AWp.region' (by kernel_rfl) ?_)
  refine AOps.run (n := 26) [] [0, 1, 2] [] (cs := []) (by kernel_rfl) (by kernel_rfl) (by kernel_rfl) ?_ ?_
  · intro x hx; cases hx
  show AWp _ _ _ _ _
  refine AWp.view [(0, .slice (some ⟨X, 0, none⟩) 1 cx), (1, .slice (some ⟨Y, 0, none⟩) 1 cy), (12, .int .i64 1), (13, .int .i64 0)] (by kernel_rfl) ?_
  refine AWp.block' (id := 0) (by kernel_rfl) ?_
  refine AWp.loop' (by kernel_rfl) (N := 1) (fun μ E H => H = B ∧ ((μ = 1 ∧ AEnv.le (envOf 26 (mkE [(0, .slice (some ⟨X, 0, none⟩) 1 cx), (1, .slice (some ⟨Y, 0, none⟩) 1 cy), (12, .int .i64 1), (13, .int .i64 0)])) E) ∨ (μ = 0 ∧ x = y ∧ AEnv.le (envOf 26 (mkE [(0, .slice (some ⟨X, 0, none⟩) 1 cx), (1, .slice (some ⟨Y, 0, none⟩) 1 cy), (12, .int .i64 1), (13, .int .i64 1)])) E)))
    ⟨rfl, .inl ⟨rfl, AEnv.le_refl _⟩⟩ ?_
  rintro μ E H ⟨rfl, ⟨rfl, hE⟩ | ⟨rfl, hxy, hE⟩⟩ <;> refine AWp.env hE ?_
  · skip
    refine AWp.seq' (by kernel_rfl) (AWp.region' (by kernel_rfl) ?_)
    refine AOps.run (n := 26) [] [0] [] (cs := []) (by kernel_rfl) (by kernel_rfl) (by kernel_rfl) ?_ ?_
    · intro x hx; cases hx
    show AWp _ _ _ _ _
    refine AWp.view [(0, .slice (some ⟨X, 0, none⟩) 1 cx), (1, .slice (some ⟨Y, 0, none⟩) 1 cy), (12, .int .i64 1), (13, .int .i64 0), (14, .bool true)] (by kernel_rfl) ?_
    refine AWp.seq' (by kernel_rfl) (AWp.condT (c := .tmp 14) (by kernel_rfl) (by kernel_rfl) ?_)
    refine AWp.skip' (by kernel_rfl) ?_
    show AWp _ _ _ _ _
    refine AWp.view [(0, .slice (some ⟨X, 0, none⟩) 1 cx), (1, .slice (some ⟨Y, 0, none⟩) 1 cy), (12, .int .i64 1), (13, .int .i64 0)] (by kernel_rfl) ?_
    refine AWp.seq' (by kernel_rfl) (AWp.block' (id := 1) (by kernel_rfl) ?_)
    refine AWp.seq' (by kernel_rfl) (AWp.region' (by kernel_rfl) ?_)
    refine AOps.run (n := 26) [] [0, 1] [] (cs := []) (by kernel_rfl) (by kernel_rfl) (by kernel_rfl) ?_ ?_
    · intro x hx; cases hx
    show AWp _ _ _ _ _
    refine AWp.view [(0, .slice (some ⟨X, 0, none⟩) 1 cx), (1, .slice (some ⟨Y, 0, none⟩) 1 cy), (12, .int .i64 1), (13, .int .i64 0), (5, .int .i64 0)] (by kernel_rfl) ?_
    by_cases hxy : x = y
    · skip
      refine AWp.seq' (by kernel_rfl) (AWp.draw' mixed (.leaf [0, 1, 2, 3, 4, 5, 6, 7, 8]) (by kernel_rfl) (by kernel_rfl) ⟨by kernel_rfl, ?_⟩)
      have hk : keeps H (opsOf (fst (snd (fst (fst (snd (snd (fst (fst (snd (fst (snd (snd (bodyOf Tryz.prog 111)))))))))))))).toList = H := by kernel_rfl
      rw [hk]
      refine AOps.run (n := 26) [(3, .blk ([.int .i32 x])), (7, .blk ([.int .i32 y])), (8, .val (.bool false))] [0, 1, 2, 3, 4, 5, 6, 7, 8] [] (cs := [.blk (X) ([.int .i32 x]), .blk (Y) ([.int .i32 y]), .some (some (.bool (!decide (x = y)))) (.bool false)]) (by kernel_rfl) (by kernel_rfl) (by kernel_rfl) ?_ ?_
      · intro x hx
        simp only [List.mem_cons, List.not_mem_nil, or_false] at hx
        rcases hx with rfl | rfl | rfl
        · exact ⟨_, _, hX⟩
        · exact ⟨_, _, hY⟩
        · rw [decide_eq_true hxy]; rfl
      show AWp _ _ _ _ _
      refine AWp.view [(0, .slice (some ⟨X, 0, none⟩) 1 cx), (1, .slice (some ⟨Y, 0, none⟩) 1 cy), (12, .int .i64 1), (13, .int .i64 0), (5, .int .i64 0), (24, .bool false)] (by kernel_rfl) ?_
      refine AWp.condF (c := .tmp 24) (by kernel_rfl) (by kernel_rfl) ?_
      refine AWp.skip' (by kernel_rfl) ?_
      show AWp _ _ _ _ _
      refine AWp.view [(0, .slice (some ⟨X, 0, none⟩) 1 cx), (1, .slice (some ⟨Y, 0, none⟩) 1 cy), (12, .int .i64 1), (13, .int .i64 0)] (by kernel_rfl) ?_
      refine AWp.region' (by kernel_rfl) ?_
      refine AOps.run (n := 26) [] [0, 1] [] (cs := []) (by kernel_rfl) (by kernel_rfl) (by kernel_rfl) ?_ ?_
      · intro x hx; cases hx
      exact ⟨0, by decide, rfl, .inr ⟨rfl, hxy, mkE_le [(0, .slice (some ⟨X, 0, none⟩) 1 cx), (1, .slice (some ⟨Y, 0, none⟩) 1 cy), (12, .int .i64 1), (13, .int .i64 1)] (by kernel_rfl)⟩⟩
    · skip
      refine AWp.seq' (by kernel_rfl) (AWp.draw' mixed (.leaf [0, 1, 2, 3, 4, 5, 6, 7, 8]) (by kernel_rfl) (by kernel_rfl) ⟨by kernel_rfl, ?_⟩)
      have hk : keeps H (opsOf (fst (snd (fst (fst (snd (snd (fst (fst (snd (fst (snd (snd (bodyOf Tryz.prog 111)))))))))))))).toList = H := by kernel_rfl
      rw [hk]
      refine AOps.run (n := 26) [(3, .blk ([.int .i32 x])), (7, .blk ([.int .i32 y])), (8, .val (.bool true))] [0, 1, 2, 3, 4, 5, 6, 7, 8] [] (cs := [.blk (X) ([.int .i32 x]), .blk (Y) ([.int .i32 y]), .some (some (.bool (!decide (x = y)))) (.bool true)]) (by kernel_rfl) (by kernel_rfl) (by kernel_rfl) ?_ ?_
      · intro x hx
        simp only [List.mem_cons, List.not_mem_nil, or_false] at hx
        rcases hx with rfl | rfl | rfl
        · exact ⟨_, _, hX⟩
        · exact ⟨_, _, hY⟩
        · rw [decide_eq_false hxy]; rfl
      show AWp _ _ _ _ _
      refine AWp.view [(0, .slice (some ⟨X, 0, none⟩) 1 cx), (1, .slice (some ⟨Y, 0, none⟩) 1 cy), (12, .int .i64 1), (13, .int .i64 0), (5, .int .i64 0), (24, .bool true)] (by kernel_rfl) ?_
      refine AWp.condT (c := .tmp 24) (by kernel_rfl) (by kernel_rfl) ?_
      refine AWp.seq' (by kernel_rfl) (AWp.region' (by kernel_rfl) ?_)
      refine AOps.run (n := 26) [] [0] [] (cs := []) (by kernel_rfl) (by kernel_rfl) (by kernel_rfl) ?_ ?_
      · intro x hx; cases hx
      show AWp _ _ _ _ _
      refine AWp.view [(4, .bool false)] (by kernel_rfl) ?_
      exact AWp.ret' (by kernel_rfl) ⟨[.bool false], by kernel_rfl, rfl, by rw [decide_eq_false hxy]; rfl⟩
  · skip
    refine AWp.seq' (by kernel_rfl) (AWp.region' (by kernel_rfl) ?_)
    refine AOps.run (n := 26) [] [0] [] (cs := []) (by kernel_rfl) (by kernel_rfl) (by kernel_rfl) ?_ ?_
    · intro x hx; cases hx
    show AWp _ _ _ _ _
    refine AWp.view [(0, .slice (some ⟨X, 0, none⟩) 1 cx), (1, .slice (some ⟨Y, 0, none⟩) 1 cy), (12, .int .i64 1), (13, .int .i64 1), (14, .bool false)] (by kernel_rfl) ?_
    refine AWp.seq' (by kernel_rfl) (AWp.condF (c := .tmp 14) (by kernel_rfl) (by kernel_rfl) ?_)
    refine AWp.exit' (id := 0) (by kernel_rfl) ?_
    show AWp _ _ _ _ _
    refine AWp.view [(0, .slice (some ⟨X, 0, none⟩) 1 cx), (1, .slice (some ⟨Y, 0, none⟩) 1 cy)] (by kernel_rfl) ?_
    refine AWp.seq' (by kernel_rfl) (AWp.region' (by kernel_rfl) ?_)
    refine AOps.run (n := 26) [] [0] [] (cs := []) (by kernel_rfl) (by kernel_rfl) (by kernel_rfl) ?_ ?_
    · intro x hx; cases hx
    show AWp _ _ _ _ _
    refine AWp.view [(4, .bool true)] (by kernel_rfl) ?_
    exact AWp.ret' (by kernel_rfl) ⟨[.bool true], by kernel_rfl, rfl, by rw [decide_eq_true hxy]; rfl⟩
end Go.Proofs.YtfolofhknhgpiaaGreatDoor
