/- ref01.Compare, Same, Find. -/
import Derived.Test.YtihpfgnigpmihaaGreatC25
import Derived.Test.YtihpfgnigpmihaaGreatD4
set_option linter.unusedVariables false
set_option linter.unusedSimpArgs false
set_option maxRecDepth 100000
namespace Go.Proofs.YtihpfgnigpmihaaGreat
open Go

/-- A row of cells in a heap. -/
def IsR (B : AHeap) (ra : Option Addr) (xs : List Int) : Prop := xs ≠ [] → ∃ R o vs e ro, ra = some ⟨R, o, none⟩ ∧ B.get R = some (.cells vs e ro) ∧ ∀ (j : Nat) (x : Int), xs[j]? = some x → vs[o + j]? = some (.int .i32 x)
theorem IsR.ext {B B' : AHeap} {ra : Option Addr} {xs : List Int} (h : IsR B ra xs) (x : Ext B B') : IsR B' ra xs := fun hne => by
  obtain ⟨R, o, vs, e, ro, h1, h2, h3⟩ := h hne
  exact ⟨R, o, vs, e, ro, h1, x.get h2, h3⟩
theorem IsR.at {B : AHeap} {ra : Option Addr} {xs : List Int} (h : IsR B ra xs) {i : Nat} {x : Int} (hx : xs[i]? = some x) : ∃ R o vs e ro, ra = some ⟨R, o, none⟩ ∧ B.get R = some (.cells vs e ro) ∧ vs[o + i * 1]? = some (.int .i32 x) := by
  obtain ⟨R, o, vs, e, ro, h1, h2, h3⟩ := h (fun e => by rw [e] at hx; simp at hx)
  exact ⟨R, o, vs, e, ro, h1, h2, by rw [Nat.mul_one]; exact h3 i x hx⟩
theorem OwnG.isR {b : Nat} {H : AHeap} {v : Value} {xs : List Int} {o : List Nat} (h : OwnG cellElt b H v xs o) : ∃ ra rc, v = .slice ra xs.length rc ∧ IsR H ra xs ∧ ((xs = [] ∧ ra = none ∧ rc = 0) ∨ ∃ id, ra = some ⟨id, 0, none⟩ ∧ rc = unk 1) := by
  rcases h with ⟨rfl, rfl, _⟩ | ⟨id, rfl, h2, _, h4⟩
  · exact ⟨none, 0, rfl, fun h => absurd rfl h, .inl ⟨rfl, rfl, rfl⟩⟩
  · refine ⟨some ⟨id, 0, none⟩, unk 1, rfl, fun _ => ⟨id, 0, _, _, _, rfl, h2, fun j x hx => ?_⟩, .inr ⟨id, rfl, rfl⟩⟩
    rw [cell_enc, Nat.zero_add, List.getElem?_map, hx]; rfl
theorem sl23 : sliceT Tryz.prog 23 = some (25, 1, 4) := by kernel_rfl

theorem compare_spec {B : AHeap} {ra sa : Option Addr} {rc sc : Nat} {xs ys : List Int} (hx : IsR B ra xs) (hy : IsR B sa ys) (hxl : xs.length < far) (hyl : ys.length < far) :
    ACall Tryz.prog 43 [.slice ra xs.length rc, .slice sa ys.length sc] B fun e B' => B' = B ∧ ∃ c : Int, e = .ret (.int .i64 c) ∧ (c = 0 ↔ xs = ys) := by
  unfold far at hxl hyl
  refine ACall.walk (fn := Tryz.f43) (c := bodyOf Tryz.prog 43) (by kernel_rfl) (by kernel_rfl) (by kernel_rfl) ?_
  refine AWp.seq' (by kernel_rfl) (AWp.region' (by kernel_rfl) ?_)
  refine AOps.run (n := 46) [] [0] [] (cs := []) (by kernel_rfl) (by kernel_rfl) (by kernel_rfl) ?_ ?_
  · intro x hx; cases hx
  show AWp _ _ _ _ _
  refine AWp.view [(0, .slice ra xs.length rc), (1, .slice sa ys.length sc)] (by kernel_rfl) ?_
  refine AWp.seq' (by kernel_rfl) ?_
  refine AWp.seq' (by kernel_rfl) (AWp.region' (by kernel_rfl) ?_)
  refine AOps.run (n := 46) [] [0] [] (cs := []) (by kernel_rfl) (by kernel_rfl) (by kernel_rfl) ?_ ?_
  · intro x hx; cases hx
  show AWp _ _ _ _ _
  refine AWp.view [(0, .slice ra xs.length rc), (1, .slice sa ys.length sc), (5, .int .i64 ((0 : Nat) : Int))] (by kernel_rfl) ?_
  refine AWp.block' (id := 0) (by kernel_rfl) ?_
  refine AWp.loop' (by kernel_rfl) (N := xs.length - 0) (fun μ E H => ∃ i : Nat, μ = xs.length - i ∧ i ≤ xs.length ∧ i ≤ ys.length ∧ AEnv.le (envOf 46 (mkE [(0, .slice ra xs.length rc), (1, .slice sa ys.length sc), (5, .int .i64 ((i : Nat) : Int))])) E ∧ H = B ∧ ∀ j, j < i → xs[j]? = ys[j]?) ⟨0, rfl, Nat.zero_le _, Nat.zero_le _, AEnv.le_refl _, rfl, fun j h => absurd h (Nat.not_lt_zero j)⟩ ?_
  rintro μ E H ⟨i, rfl, hi1, hi2, hE, rfl, heq⟩
  refine AWp.env hE ?_
  by_cases hlt1 : i < xs.length
  · by_cases hlt2 : i < ys.length
    · obtain ⟨x, hx1⟩ : ∃ x, xs[i]? = some x := ⟨_, List.getElem?_eq_getElem hlt1⟩
      obtain ⟨y, hy1⟩ : ∃ y, ys[i]? = some y := ⟨_, List.getElem?_eq_getElem hlt2⟩
      obtain ⟨R, o, vs, e0, ro, hra, hR, hv⟩ := hx.at hx1
      obtain ⟨S, o2, ws, e1, ro2, hsa, hS, hw⟩ := hy.at hy1
      refine AWp.seq' (by kernel_rfl) ?_
      refine AWp.seq' (by kernel_rfl) (AWp.region' (by kernel_rfl) ?_)
      refine AOps.run (n := 46) [(3, .val (.bool true)), (8, .val (.bool true))] [0, 1, 2, 3, 4, 5, 6, 7, 8, 9] [] (cs := [.some (some (.bool (decide (((i : Nat) : Int) < ((xs.length : Nat) : Int))))) (.bool true), .some (some (.bool (decide (((i : Nat) : Int) < ((ys.length : Nat) : Int))))) (.bool true)]) (by kernel_rfl) (by kernel_rfl) (by kernel_rfl) ?_ ?_
      · intro x hx
        simp only [List.mem_cons, List.not_mem_nil, or_false] at hx
        rcases hx with rfl | rfl
        · exact congrArg (fun b => some (Value.bool b)) (decide_eq_true (by omega))
        · exact congrArg (fun b => some (Value.bool b)) (decide_eq_true (by omega))
      show AWp _ _ _ _ _
      refine AWp.view [(0, .slice ra xs.length rc), (1, .slice sa ys.length sc), (5, .int .i64 ((i : Nat) : Int)), (15, .bool true)] (by kernel_rfl) ?_
      refine AWp.condT (c := .tmp 15) (by kernel_rfl) (by kernel_rfl) ?_
      refine AWp.skip' (by kernel_rfl) ?_
      show AWp _ _ _ _ _
      refine AWp.seq' (by kernel_rfl) (AWp.block' (id := 1) (by kernel_rfl) ?_)
      have hne : x ≠ y → xs ≠ ys := fun h e => h (by rw [e, hy1] at hx1; exact (Option.some.inj hx1).symm)
      rcases Int.lt_trichotomy x y with hlt | hxy | hgt
      · skip
        refine AWp.seq' (by kernel_rfl) ?_
        refine AWp.seq' (by kernel_rfl) (AWp.draw' mixed (.leaf [0, 1, 2, 3, 4, 5, 6, 7, 8]) (by kernel_rfl) (by kernel_rfl) ⟨by kernel_rfl, ?_⟩)
        have hk1 : keeps H (opsOf (fst (fst (fst (fst (snd (fst (fst (snd (fst (snd (bodyOf Tryz.prog 43)))))))))))).toList = H := by kernel_rfl
        rw [hk1]
        refine AOps.run (n := 46) [(2, .val (.pointer (some ⟨R, o + i * 1, none⟩))), (3, .part (vs) (.int .i32 x)), (6, .val (.pointer (some ⟨S, o2 + i * 1, none⟩))), (7, .part (ws) (.int .i32 y)), (8, .val (.bool true))] [0, 1, 2, 3, 4, 5, 6, 7, 8] [] (cs := [.some (aindexAddr Tryz.prog 23 (.slice ra xs.length rc) (.int .i64 ((i : Nat) : Int))) (.pointer (some ⟨R, o + i * 1, none⟩)), .blk (R) (vs), .some (apart' vs (o + i * 1) 1 false) (.int .i32 x), .some (aindexAddr Tryz.prog 23 (.slice sa ys.length sc) (.int .i64 ((i : Nat) : Int))) (.pointer (some ⟨S, o2 + i * 1, none⟩)), .blk (S) (ws), .some (apart' ws (o2 + i * 1) 1 false) (.int .i32 y), .some (some (.bool (decide (x < y)))) (.bool true)]) (by kernel_rfl) (by kernel_rfl) (by kernel_rfl) ?_ ?_
        · intro x hx
          simp only [List.mem_cons, List.not_mem_nil, or_false] at hx
          rcases hx with rfl | rfl | rfl | rfl | rfl | rfl | rfl
          · rw [hra]; exact indexAddr_ok sl23 hlt1
          · exact ⟨e0, ro, hR⟩
          · exact apart_one hv
          · rw [hsa]; exact indexAddr_ok sl23 hlt2
          · exact ⟨e1, ro2, hS⟩
          · exact apart_one hw
          · exact congrArg (fun b => some (Value.bool b)) (decide_eq_true hlt)
        show AWp _ _ _ _ _
        refine AWp.view [(0, .slice ra xs.length rc), (1, .slice sa ys.length sc), (5, .int .i64 ((i : Nat) : Int)), (26, .bool true)] (by kernel_rfl) ?_
        refine AWp.condT (c := .tmp 26) (by kernel_rfl) (by kernel_rfl) ?_
        refine AWp.seq' (by kernel_rfl) (AWp.region' (by kernel_rfl) ?_)
        refine AOps.run (n := 46) [] [0] [] (cs := []) (by kernel_rfl) (by kernel_rfl) (by kernel_rfl) ?_ ?_
        · intro x hx; cases hx
        show AWp _ _ _ _ _
        refine AWp.view [(4, .int .i64 (-1))] (by kernel_rfl) ?_
        exact AWp.ret' (by kernel_rfl) ⟨[.int .i64 (-1)], by kernel_rfl, rfl, -1, rfl, fun h => absurd h (by decide), fun h => absurd h (hne (by omega))⟩
      · skip
        refine AWp.seq' (by kernel_rfl) ?_
        refine AWp.seq' (by kernel_rfl) (AWp.draw' mixed (.leaf [0, 1, 2, 3, 4, 5, 6, 7, 8]) (by kernel_rfl) (by kernel_rfl) ⟨by kernel_rfl, ?_⟩)
        have hk1 : keeps H (opsOf (fst (fst (fst (fst (snd (fst (fst (snd (fst (snd (bodyOf Tryz.prog 43)))))))))))).toList = H := by kernel_rfl
        rw [hk1]
        refine AOps.run (n := 46) [(2, .val (.pointer (some ⟨R, o + i * 1, none⟩))), (3, .part (vs) (.int .i32 x)), (6, .val (.pointer (some ⟨S, o2 + i * 1, none⟩))), (7, .part (ws) (.int .i32 y)), (8, .val (.bool false))] [0, 1, 2, 3, 4, 5, 6, 7, 8] [] (cs := [.some (aindexAddr Tryz.prog 23 (.slice ra xs.length rc) (.int .i64 ((i : Nat) : Int))) (.pointer (some ⟨R, o + i * 1, none⟩)), .blk (R) (vs), .some (apart' vs (o + i * 1) 1 false) (.int .i32 x), .some (aindexAddr Tryz.prog 23 (.slice sa ys.length sc) (.int .i64 ((i : Nat) : Int))) (.pointer (some ⟨S, o2 + i * 1, none⟩)), .blk (S) (ws), .some (apart' ws (o2 + i * 1) 1 false) (.int .i32 y), .some (some (.bool (decide (x < y)))) (.bool false)]) (by kernel_rfl) (by kernel_rfl) (by kernel_rfl) ?_ ?_
        · intro x hx
          simp only [List.mem_cons, List.not_mem_nil, or_false] at hx
          rcases hx with rfl | rfl | rfl | rfl | rfl | rfl | rfl
          · rw [hra]; exact indexAddr_ok sl23 hlt1
          · exact ⟨e0, ro, hR⟩
          · exact apart_one hv
          · rw [hsa]; exact indexAddr_ok sl23 hlt2
          · exact ⟨e1, ro2, hS⟩
          · exact apart_one hw
          · exact congrArg (fun b => some (Value.bool b)) (decide_eq_false (by omega))
        show AWp _ _ _ _ _
        refine AWp.view [(0, .slice ra xs.length rc), (1, .slice sa ys.length sc), (5, .int .i64 ((i : Nat) : Int)), (26, .bool false)] (by kernel_rfl) ?_
        refine AWp.condF (c := .tmp 26) (by kernel_rfl) (by kernel_rfl) ?_
        refine AWp.skip' (by kernel_rfl) ?_
        show AWp _ _ _ _ _
        refine AWp.view [(0, .slice ra xs.length rc), (1, .slice sa ys.length sc), (5, .int .i64 ((i : Nat) : Int))] (by kernel_rfl) ?_
        refine AWp.seq' (by kernel_rfl) (AWp.draw' mixed (.leaf [0, 1, 2, 3, 4, 5, 6, 7, 8]) (by kernel_rfl) (by kernel_rfl) ⟨by kernel_rfl, ?_⟩)
        have hk2 : keeps H (opsOf (fst (snd (fst (fst (snd (fst (fst (snd (fst (snd (bodyOf Tryz.prog 43)))))))))))).toList = H := by kernel_rfl
        rw [hk2]
        refine AOps.run (n := 46) [(2, .val (.pointer (some ⟨R, o + i * 1, none⟩))), (3, .part (vs) (.int .i32 x)), (6, .val (.pointer (some ⟨S, o2 + i * 1, none⟩))), (7, .part (ws) (.int .i32 y)), (8, .val (.bool false))] [0, 1, 2, 3, 4, 5, 6, 7, 8] [] (cs := [.some (aindexAddr Tryz.prog 23 (.slice ra xs.length rc) (.int .i64 ((i : Nat) : Int))) (.pointer (some ⟨R, o + i * 1, none⟩)), .blk (R) (vs), .some (apart' vs (o + i * 1) 1 false) (.int .i32 x), .some (aindexAddr Tryz.prog 23 (.slice sa ys.length sc) (.int .i64 ((i : Nat) : Int))) (.pointer (some ⟨S, o2 + i * 1, none⟩)), .blk (S) (ws), .some (apart' ws (o2 + i * 1) 1 false) (.int .i32 y), .some (some (.bool (decide (x > y)))) (.bool false)]) (by kernel_rfl) (by kernel_rfl) (by kernel_rfl) ?_ ?_
        · intro x hx
          simp only [List.mem_cons, List.not_mem_nil, or_false] at hx
          rcases hx with rfl | rfl | rfl | rfl | rfl | rfl | rfl
          · rw [hra]; exact indexAddr_ok sl23 hlt1
          · exact ⟨e0, ro, hR⟩
          · exact apart_one hv
          · rw [hsa]; exact indexAddr_ok sl23 hlt2
          · exact ⟨e1, ro2, hS⟩
          · exact apart_one hw
          · exact congrArg (fun b => some (Value.bool b)) (decide_eq_false (by omega))
        show AWp _ _ _ _ _
        refine AWp.view [(0, .slice ra xs.length rc), (1, .slice sa ys.length sc), (5, .int .i64 ((i : Nat) : Int)), (35, .bool false)] (by kernel_rfl) ?_
        refine AWp.condF (c := .tmp 35) (by kernel_rfl) (by kernel_rfl) ?_
        refine AWp.skip' (by kernel_rfl) ?_
        show AWp _ _ _ _ _
        refine AWp.view [(0, .slice ra xs.length rc), (1, .slice sa ys.length sc), (5, .int .i64 ((i : Nat) : Int))] (by kernel_rfl) ?_
        refine AWp.region' (by kernel_rfl) ?_
        refine AOps.run (n := 46) [(1, .val (.int .i64 ((i + 1 : Nat) : Int)))] [0, 1, 2] [] (cs := [.some (some (.int .i64 (IntKind.i64.wrap (((i : Nat) : Int) + ((1 : Nat) : Int))))) (.int .i64 ((i + 1 : Nat) : Int))]) (by kernel_rfl) (by kernel_rfl) (by kernel_rfl) ?_ ?_
        · intro x hx
          simp only [List.mem_cons, List.not_mem_nil, or_false] at hx
          subst hx
          exact congrArg (fun x => some (Value.int .i64 x)) (wrap_add (by omega))
        exact ⟨xs.length - (i + 1), by omega, i + 1, rfl, hlt1, hlt2, mkE_le [(0, .slice ra xs.length rc), (1, .slice sa ys.length sc), (5, .int .i64 ((i + 1 : Nat) : Int))] (by kernel_rfl), rfl, fun j hj => by
          rcases Nat.lt_or_ge j i with h | h
          · exact heq j h
          · rw [show j = i from by omega, hx1, hy1, hxy]⟩
      · skip
        refine AWp.seq' (by kernel_rfl) ?_
        refine AWp.seq' (by kernel_rfl) (AWp.draw' mixed (.leaf [0, 1, 2, 3, 4, 5, 6, 7, 8]) (by kernel_rfl) (by kernel_rfl) ⟨by kernel_rfl, ?_⟩)
        have hk1 : keeps H (opsOf (fst (fst (fst (fst (snd (fst (fst (snd (fst (snd (bodyOf Tryz.prog 43)))))))))))).toList = H := by kernel_rfl
        rw [hk1]
        refine AOps.run (n := 46) [(2, .val (.pointer (some ⟨R, o + i * 1, none⟩))), (3, .part (vs) (.int .i32 x)), (6, .val (.pointer (some ⟨S, o2 + i * 1, none⟩))), (7, .part (ws) (.int .i32 y)), (8, .val (.bool false))] [0, 1, 2, 3, 4, 5, 6, 7, 8] [] (cs := [.some (aindexAddr Tryz.prog 23 (.slice ra xs.length rc) (.int .i64 ((i : Nat) : Int))) (.pointer (some ⟨R, o + i * 1, none⟩)), .blk (R) (vs), .some (apart' vs (o + i * 1) 1 false) (.int .i32 x), .some (aindexAddr Tryz.prog 23 (.slice sa ys.length sc) (.int .i64 ((i : Nat) : Int))) (.pointer (some ⟨S, o2 + i * 1, none⟩)), .blk (S) (ws), .some (apart' ws (o2 + i * 1) 1 false) (.int .i32 y), .some (some (.bool (decide (x < y)))) (.bool false)]) (by kernel_rfl) (by kernel_rfl) (by kernel_rfl) ?_ ?_
        · intro x hx
          simp only [List.mem_cons, List.not_mem_nil, or_false] at hx
          rcases hx with rfl | rfl | rfl | rfl | rfl | rfl | rfl
          · rw [hra]; exact indexAddr_ok sl23 hlt1
          · exact ⟨e0, ro, hR⟩
          · exact apart_one hv
          · rw [hsa]; exact indexAddr_ok sl23 hlt2
          · exact ⟨e1, ro2, hS⟩
          · exact apart_one hw
          · exact congrArg (fun b => some (Value.bool b)) (decide_eq_false (by omega))
        show AWp _ _ _ _ _
        refine AWp.view [(0, .slice ra xs.length rc), (1, .slice sa ys.length sc), (5, .int .i64 ((i : Nat) : Int)), (26, .bool false)] (by kernel_rfl) ?_
        refine AWp.condF (c := .tmp 26) (by kernel_rfl) (by kernel_rfl) ?_
        refine AWp.skip' (by kernel_rfl) ?_
        show AWp _ _ _ _ _
        refine AWp.view [(0, .slice ra xs.length rc), (1, .slice sa ys.length sc), (5, .int .i64 ((i : Nat) : Int))] (by kernel_rfl) ?_
        refine AWp.seq' (by kernel_rfl) (AWp.draw' mixed (.leaf [0, 1, 2, 3, 4, 5, 6, 7, 8]) (by kernel_rfl) (by kernel_rfl) ⟨by kernel_rfl, ?_⟩)
        have hk2 : keeps H (opsOf (fst (snd (fst (fst (snd (fst (fst (snd (fst (snd (bodyOf Tryz.prog 43)))))))))))).toList = H := by kernel_rfl
        rw [hk2]
        refine AOps.run (n := 46) [(2, .val (.pointer (some ⟨R, o + i * 1, none⟩))), (3, .part (vs) (.int .i32 x)), (6, .val (.pointer (some ⟨S, o2 + i * 1, none⟩))), (7, .part (ws) (.int .i32 y)), (8, .val (.bool true))] [0, 1, 2, 3, 4, 5, 6, 7, 8] [] (cs := [.some (aindexAddr Tryz.prog 23 (.slice ra xs.length rc) (.int .i64 ((i : Nat) : Int))) (.pointer (some ⟨R, o + i * 1, none⟩)), .blk (R) (vs), .some (apart' vs (o + i * 1) 1 false) (.int .i32 x), .some (aindexAddr Tryz.prog 23 (.slice sa ys.length sc) (.int .i64 ((i : Nat) : Int))) (.pointer (some ⟨S, o2 + i * 1, none⟩)), .blk (S) (ws), .some (apart' ws (o2 + i * 1) 1 false) (.int .i32 y), .some (some (.bool (decide (x > y)))) (.bool true)]) (by kernel_rfl) (by kernel_rfl) (by kernel_rfl) ?_ ?_
        · intro x hx
          simp only [List.mem_cons, List.not_mem_nil, or_false] at hx
          rcases hx with rfl | rfl | rfl | rfl | rfl | rfl | rfl
          · rw [hra]; exact indexAddr_ok sl23 hlt1
          · exact ⟨e0, ro, hR⟩
          · exact apart_one hv
          · rw [hsa]; exact indexAddr_ok sl23 hlt2
          · exact ⟨e1, ro2, hS⟩
          · exact apart_one hw
          · exact congrArg (fun b => some (Value.bool b)) (decide_eq_true hgt)
        show AWp _ _ _ _ _
        refine AWp.view [(0, .slice ra xs.length rc), (1, .slice sa ys.length sc), (5, .int .i64 ((i : Nat) : Int)), (35, .bool true)] (by kernel_rfl) ?_
        refine AWp.condT (c := .tmp 35) (by kernel_rfl) (by kernel_rfl) ?_
        refine AWp.seq' (by kernel_rfl) (AWp.region' (by kernel_rfl) ?_)
        refine AOps.run (n := 46) [] [0] [] (cs := []) (by kernel_rfl) (by kernel_rfl) (by kernel_rfl) ?_ ?_
        · intro x hx; cases hx
        show AWp _ _ _ _ _
        refine AWp.view [(4, .int .i64 1)] (by kernel_rfl) ?_
        exact AWp.ret' (by kernel_rfl) ⟨[.int .i64 1], by kernel_rfl, rfl, 1, rfl, fun h => absurd h (by decide), fun h => absurd h (hne (by omega))⟩
    · have hge : i = ys.length := by omega
      refine AWp.seq' (by kernel_rfl) ?_
      refine AWp.seq' (by kernel_rfl) (AWp.region' (by kernel_rfl) ?_)
      refine AOps.run (n := 46) [(3, .val (.bool true)), (8, .val (.bool false))] [0, 1, 2, 3, 4, 5, 6, 7, 8, 9] [] (cs := [.some (some (.bool (decide (((i : Nat) : Int) < ((xs.length : Nat) : Int))))) (.bool true), .some (some (.bool (decide (((i : Nat) : Int) < ((ys.length : Nat) : Int))))) (.bool false)]) (by kernel_rfl) (by kernel_rfl) (by kernel_rfl) ?_ ?_
      · intro x hx
        simp only [List.mem_cons, List.not_mem_nil, or_false] at hx
        rcases hx with rfl | rfl
        · exact congrArg (fun b => some (Value.bool b)) (decide_eq_true (by omega))
        · exact congrArg (fun b => some (Value.bool b)) (decide_eq_false (by omega))
      show AWp _ _ _ _ _
      refine AWp.view [(0, .slice ra xs.length rc), (1, .slice sa ys.length sc), (15, .bool false)] (by kernel_rfl) ?_
      refine AWp.condF (c := .tmp 15) (by kernel_rfl) (by kernel_rfl) ?_
      refine AWp.exit' (id := 0) (by kernel_rfl) ?_
      show AWp _ _ _ _ _
      refine AWp.view [(0, .slice ra xs.length rc), (1, .slice sa ys.length sc)] (by kernel_rfl) ?_
      refine AWp.seq' (by kernel_rfl) ?_
      refine AWp.seq' (by kernel_rfl) (AWp.region' (by kernel_rfl) ?_)
      refine AOps.run (n := 46) [(4, .val (.bool false))] [0, 1, 2, 3, 4] [] (cs := [.some (some (.bool (decide (((xs.length : Nat) : Int) < ((ys.length : Nat) : Int))))) (.bool false)]) (by kernel_rfl) (by kernel_rfl) (by kernel_rfl) ?_ ?_
      · intro x hx
        simp only [List.mem_cons, List.not_mem_nil, or_false] at hx
        subst hx
        exact congrArg (fun b => some (Value.bool b)) (decide_eq_false (by omega))
      show AWp _ _ _ _ _
      refine AWp.view [(0, .slice ra xs.length rc), (1, .slice sa ys.length sc), (40, .bool false)] (by kernel_rfl) ?_
      refine AWp.condF (c := .tmp 40) (by kernel_rfl) (by kernel_rfl) ?_
      refine AWp.skip' (by kernel_rfl) ?_
      show AWp _ _ _ _ _
      refine AWp.view [(0, .slice ra xs.length rc), (1, .slice sa ys.length sc)] (by kernel_rfl) ?_
      refine AWp.seq' (by kernel_rfl) ?_
      refine AWp.seq' (by kernel_rfl) (AWp.region' (by kernel_rfl) ?_)
      refine AOps.run (n := 46) [(4, .val (.bool true))] [0, 1, 2, 3, 4] [] (cs := [.some (some (.bool (decide (((xs.length : Nat) : Int) > ((ys.length : Nat) : Int))))) (.bool true)]) (by kernel_rfl) (by kernel_rfl) (by kernel_rfl) ?_ ?_
      · intro x hx
        simp only [List.mem_cons, List.not_mem_nil, or_false] at hx
        subst hx
        exact congrArg (fun b => some (Value.bool b)) (decide_eq_true (by omega))
      show AWp _ _ _ _ _
      refine AWp.view [(0, .slice ra xs.length rc), (1, .slice sa ys.length sc), (45, .bool true)] (by kernel_rfl) ?_
      refine AWp.condT (c := .tmp 45) (by kernel_rfl) (by kernel_rfl) ?_
      refine AWp.seq' (by kernel_rfl) (AWp.region' (by kernel_rfl) ?_)
      refine AOps.run (n := 46) [] [0] [] (cs := []) (by kernel_rfl) (by kernel_rfl) (by kernel_rfl) ?_ ?_
      · intro x hx; cases hx
      show AWp _ _ _ _ _
      refine AWp.view [(4, .int .i64 1)] (by kernel_rfl) ?_
      exact AWp.ret' (by kernel_rfl) ⟨[.int .i64 1], by kernel_rfl, rfl, 1, rfl, fun h => absurd h (by decide), fun h => absurd (congrArg List.length h) (by omega)⟩
  · have hge : i = xs.length := by omega
    refine AWp.seq' (by kernel_rfl) ?_
    refine AWp.seq' (by kernel_rfl) (AWp.region' (by kernel_rfl) ?_)
    refine AOps.run (n := 46) [(3, .val (.bool false))] [0, 1, 2, 3, 4, 5, 6, 7, 8, 9] [] (cs := [.some (some (.bool (decide (((i : Nat) : Int) < ((xs.length : Nat) : Int))))) (.bool false)]) (by kernel_rfl) (by kernel_rfl) (by kernel_rfl) ?_ ?_
    · intro x hx
      simp only [List.mem_cons, List.not_mem_nil, or_false] at hx
      subst hx
      exact congrArg (fun b => some (Value.bool b)) (decide_eq_false (by omega))
    show AWp _ _ _ _ _
    refine AWp.view [(0, .slice ra xs.length rc), (1, .slice sa ys.length sc), (15, .bool false)] (by kernel_rfl) ?_
    refine AWp.condF (c := .tmp 15) (by kernel_rfl) (by kernel_rfl) ?_
    refine AWp.exit' (id := 0) (by kernel_rfl) ?_
    show AWp _ _ _ _ _
    refine AWp.view [(0, .slice ra xs.length rc), (1, .slice sa ys.length sc)] (by kernel_rfl) ?_
    refine AWp.seq' (by kernel_rfl) ?_
    rcases Nat.eq_or_lt_of_le hi2 with he | hl
    · skip
      refine AWp.seq' (by kernel_rfl) (AWp.region' (by kernel_rfl) ?_)
      refine AOps.run (n := 46) [(4, .val (.bool false))] [0, 1, 2, 3, 4] [] (cs := [.some (some (.bool (decide (((xs.length : Nat) : Int) < ((ys.length : Nat) : Int))))) (.bool false)]) (by kernel_rfl) (by kernel_rfl) (by kernel_rfl) ?_ ?_
      · intro x hx
        simp only [List.mem_cons, List.not_mem_nil, or_false] at hx
        subst hx
        exact congrArg (fun b => some (Value.bool b)) (decide_eq_false (by omega))
      show AWp _ _ _ _ _
      refine AWp.view [(0, .slice ra xs.length rc), (1, .slice sa ys.length sc), (40, .bool false)] (by kernel_rfl) ?_
      refine AWp.condF (c := .tmp 40) (by kernel_rfl) (by kernel_rfl) ?_
      refine AWp.skip' (by kernel_rfl) ?_
      show AWp _ _ _ _ _
      refine AWp.view [(0, .slice ra xs.length rc), (1, .slice sa ys.length sc)] (by kernel_rfl) ?_
      refine AWp.seq' (by kernel_rfl) ?_
      refine AWp.seq' (by kernel_rfl) (AWp.region' (by kernel_rfl) ?_)
      refine AOps.run (n := 46) [(4, .val (.bool false))] [0, 1, 2, 3, 4] [] (cs := [.some (some (.bool (decide (((xs.length : Nat) : Int) > ((ys.length : Nat) : Int))))) (.bool false)]) (by kernel_rfl) (by kernel_rfl) (by kernel_rfl) ?_ ?_
      · intro x hx
        simp only [List.mem_cons, List.not_mem_nil, or_false] at hx
        subst hx
        exact congrArg (fun b => some (Value.bool b)) (decide_eq_false (by omega))
      show AWp _ _ _ _ _
      refine AWp.view [(0, .slice ra xs.length rc), (1, .slice sa ys.length sc), (45, .bool false)] (by kernel_rfl) ?_
      refine AWp.condF (c := .tmp 45) (by kernel_rfl) (by kernel_rfl) ?_
      refine AWp.skip' (by kernel_rfl) ?_
      show AWp _ _ _ _ _
      refine AWp.view [(0, .slice ra xs.length rc), (1, .slice sa ys.length sc)] (by kernel_rfl) ?_
      refine AWp.seq' (by kernel_rfl) (AWp.region' (by kernel_rfl) ?_)
      refine AOps.run (n := 46) [] [0] [] (cs := []) (by kernel_rfl) (by kernel_rfl) (by kernel_rfl) ?_ ?_
      · intro x hx; cases hx
      show AWp _ _ _ _ _
      refine AWp.view [(4, .int .i64 0)] (by kernel_rfl) ?_
      exact AWp.ret' (by kernel_rfl) ⟨[.int .i64 0], by kernel_rfl, rfl, 0, rfl, fun _ => List.ext_getElem? fun j => by
        rcases Nat.lt_or_ge j i with h | h
        · exact heq j h
        · rw [List.getElem?_eq_none (by omega), List.getElem?_eq_none (by omega)], fun _ => rfl⟩
    · skip
      refine AWp.seq' (by kernel_rfl) (AWp.region' (by kernel_rfl) ?_)
      refine AOps.run (n := 46) [(4, .val (.bool true))] [0, 1, 2, 3, 4] [] (cs := [.some (some (.bool (decide (((xs.length : Nat) : Int) < ((ys.length : Nat) : Int))))) (.bool true)]) (by kernel_rfl) (by kernel_rfl) (by kernel_rfl) ?_ ?_
      · intro x hx
        simp only [List.mem_cons, List.not_mem_nil, or_false] at hx
        subst hx
        exact congrArg (fun b => some (Value.bool b)) (decide_eq_true (by omega))
      show AWp _ _ _ _ _
      refine AWp.view [(0, .slice ra xs.length rc), (1, .slice sa ys.length sc), (40, .bool true)] (by kernel_rfl) ?_
      refine AWp.condT (c := .tmp 40) (by kernel_rfl) (by kernel_rfl) ?_
      refine AWp.seq' (by kernel_rfl) (AWp.region' (by kernel_rfl) ?_)
      refine AOps.run (n := 46) [] [0] [] (cs := []) (by kernel_rfl) (by kernel_rfl) (by kernel_rfl) ?_ ?_
      · intro x hx; cases hx
      show AWp _ _ _ _ _
      refine AWp.view [(4, .int .i64 (-1))] (by kernel_rfl) ?_
      exact AWp.ret' (by kernel_rfl) ⟨[.int .i64 (-1)], by kernel_rfl, rfl, -1, rfl, fun h => absurd h (by decide), fun h => absurd (congrArg List.length h) (by omega)⟩
theorem same_spec {B : AHeap} {ra sa : Option Addr} {rc sc : Nat} {xs ys : List Int} (hx : IsR B ra xs) (hy : IsR B sa ys) (hxl : xs.length < far) (hyl : ys.length < far) :
    ACall Tryz.prog 19 [.slice ra xs.length rc, .slice sa ys.length sc] B fun e B' => B' = B ∧ e = .ret (.bool (decide (xs = ys))) := by
  refine ACall.walk (fn := Tryz.f19) (c := bodyOf Tryz.prog 19) (by kernel_rfl) (by kernel_rfl) (by kernel_rfl) ?_
  refine AWp.seq' (by kernel_rfl) (AWp.region' (by kernel_rfl) ?_)
  refine AOps.run (n := 9) [] [0] [] (cs := []) (by kernel_rfl) (by kernel_rfl) (by kernel_rfl) ?_ ?_
  · intro x hx; cases hx
  show AWp _ _ _ _ _
  refine AWp.view [(0, .slice ra xs.length rc), (1, .slice sa ys.length sc)] (by kernel_rfl) ?_
  refine AWp.seq' (by kernel_rfl) (AWp.region' (by kernel_rfl) ?_)
  refine AOps.run (n := 9) [] [0, 1] [2, 3, 4] (cs := []) (by kernel_rfl) (by kernel_rfl) (by kernel_rfl) ?_ ?_
  · intro x hx; cases hx
  refine AOps.call (n := 9) 2 [3, 4] 43 [.slice ra xs.length rc, .slice sa ys.length sc] (by kernel_rfl) rfl (by kernel_rfl) (by kernel_rfl) (by kernel_rfl) (by kernel_rfl) (by kernel_rfl) (compare_spec hx hy hxl hyl) ?_
  rintro e B' ⟨rfl, c, rfl, hc⟩
  refine ⟨_, rfl, ?_⟩
  refine AOps.run (n := 9) [(3, .val (.bool (decide (xs = ys))))] [3, 4] [] (cs := [.some (some (.bool (decide (c = 0)))) (.bool (decide (xs = ys)))]) (by kernel_rfl) (by kernel_rfl) (by kernel_rfl) ?_ ?_
  · intro x hx
    simp only [List.mem_cons, List.not_mem_nil, or_false] at hx
    subst hx
    exact congrArg (fun b => some (Value.bool b)) (decide_eq_decide.2 hc)
  show AWp _ _ _ _ _
  refine AWp.view [(4, .bool (decide (xs = ys)))] (by kernel_rfl) ?_
  exact AWp.ret' (by kernel_rfl) ⟨[.bool (decide (xs = ys))], by kernel_rfl, rfl, rfl⟩
theorem sub_row {B : AHeap} {ra : Option Addr} {rc : Nat} {row : List Int} {i n : Nat} (hx : IsR B ra row) (hform : (row = [] ∧ ra = none ∧ rc = 0) ∨ ∃ id, ra = some ⟨id, 0, none⟩ ∧ rc = unk 1) (hfit : i + n ≤ row.length) :
    ∃ ta tc, aslice Tryz.prog 23 (.slice ra row.length rc) (some (.int .i64 ((i : Nat) : Int))) (some (.int .i64 ((i + n : Nat) : Int))) none = some (.slice ta ((row.drop i).take n).length tc) ∧ IsR B ta ((row.drop i).take n) := by
  have htl : ((row.drop i).take n).length = n := by simp; omega
  rcases hform with ⟨rfl, rfl, rfl⟩ | ⟨id, rfl, rfl⟩
  · have h0 : i = 0 ∧ n = 0 := by simp at hfit; omega
    obtain ⟨rfl, rfl⟩ := h0
    refine ⟨none, 0, ?_, fun h => absurd (by simp) h⟩
    unfold aslice
    simp only [sl23, List.length_nil]
    rfl
  · refine ⟨some ⟨id, 0 + i * 1, none⟩, unk 1, ?_, fun hne => ?_⟩
    · unfold aslice
      simp only [sl23]
      unfold asliceOf
      rw [if_neg (by unfold unk big; omega), if_pos ⟨rfl, rfl⟩]
      have hb : abounds row.length row.length (some (.int .i64 ((i : Nat) : Int))) (some (.int .i64 ((i + n : Nat) : Int))) none = some (i, i + n, row.length) := by
        unfold abounds abound
        simp only []
        rw [if_pos (by omega)]
        simp only [Int.toNat_natCast]
        rw [if_pos (by omega)]
      simp only [hb, htl]
      congr 2; omega
    · obtain ⟨R, o, vs, e, ro, h1, h2, h3⟩ := hx (fun e => by rw [e] at hne; simp at hne)
      cases h1
      refine ⟨id, 0 + i * 1, vs, e, ro, rfl, h2, fun j x hj => ?_⟩
      rw [List.getElem?_take] at hj
      split at hj
      · rw [List.getElem?_drop] at hj
        have := h3 (i + j) x hj
        rwa [show 0 + i * 1 + j = 0 + (i + j) from by omega]
      · cases hj
theorem find01_spec {B : AHeap} {ra sa : Option Addr} {rc sc start : Nat} {row xs : List Int} (hx : IsR B ra row) (hform : (row = [] ∧ ra = none ∧ rc = 0) ∨ ∃ id, ra = some ⟨id, 0, none⟩ ∧ rc = unk 1) (hy : IsR B sa xs) (hxl : row.length < far) (hyl : xs.length < far) :
    ACall Tryz.prog 11 [.slice ra row.length rc, .slice sa xs.length sc, .int .i64 (start : Int)] B fun e B' => B' = B ∧ ∃ r : Int, e = .ret (.int .i64 r) ∧
      ((∃ i : Nat, start ≤ i ∧ stands row xs i ∧ i + xs.length ≤ row.length ∧ (∀ j, start ≤ j → j < i → ¬ stands row xs j) ∧ r = (i : Int)) ∨ ((∀ j, start ≤ j → j ≤ row.length → ¬ stands row xs j) ∧ r = -1)) := by
  have hxl' := hxl
  unfold far at hxl'
  have hyl' := hyl
  unfold far at hyl'
  refine ACall.walk (fn := Tryz.f11) (c := bodyOf Tryz.prog 11) (by kernel_rfl) (by kernel_rfl) (by kernel_rfl) ?_
  refine AWp.seq' (by kernel_rfl) (AWp.region' (by kernel_rfl) ?_)
  refine AOps.run (n := 29) [] [0] [] (cs := []) (by kernel_rfl) (by kernel_rfl) (by kernel_rfl) ?_ ?_
  · intro x hx; cases hx
  show AWp _ _ _ _ _
  refine AWp.view [(0, .slice ra row.length rc), (1, .slice sa xs.length sc), (2, .int .i64 ((start : Nat) : Int))] (by kernel_rfl) ?_
  refine AWp.seq' (by kernel_rfl) ?_
  refine AWp.seq' (by kernel_rfl) (AWp.region' (by kernel_rfl) ?_)
  refine AOps.run (n := 29) [(1, .val (.int .i64 ((start : Nat) : Int)))] [0, 1, 2] [] (cs := [.some (abuiltin Tryz.prog .max [3, 3] 3 [.int .i64 ((start : Nat) : Int), .int .i64 0]) (.int .i64 ((start : Nat) : Int))]) (by kernel_rfl) (by kernel_rfl) (by kernel_rfl) ?_ ?_
  · intro x hx
    simp only [List.mem_cons, List.not_mem_nil, or_false] at hx
    subst hx
    exact max_ok _
  show AWp _ _ _ _ _
  refine AWp.view [(0, .slice ra row.length rc), (1, .slice sa xs.length sc), (7, .int .i64 ((start : Nat) : Int))] (by kernel_rfl) ?_
  refine AWp.block' (id := 0) (by kernel_rfl) ?_
  refine AWp.loop' (by kernel_rfl) (N := row.length + 1 - start) (fun μ E H => ∃ i : Nat, μ = row.length + 1 - i ∧ start ≤ i ∧ i ≤ max start (row.length + 1) ∧ AEnv.le (envOf 29 (mkE [(0, .slice ra row.length rc), (1, .slice sa xs.length sc), (7, .int .i64 ((i : Nat) : Int))])) E ∧ H = B ∧ ∀ j, start ≤ j → j < i → ¬ stands row xs j) ⟨start, rfl, Nat.le_refl _, Nat.le_max_left _ _, AEnv.le_refl _, rfl, fun j h1 h2 => absurd h1 (by omega)⟩ ?_
  rintro μ E H ⟨i, rfl, hi1, hi2, hE, rfl, hno⟩
  refine AWp.env hE ?_
  refine AWp.seq' (by kernel_rfl) ?_
  refine AWp.seq' (by kernel_rfl) (AWp.region' (by kernel_rfl) ?_)
  refine AOps.run (n := 29) [(5, .val (.int .i64 ((row.length : Int) - (xs.length : Int)))), (6, .val (.bool (decide (((i : Nat) : Int) ≤ (row.length : Int) - (xs.length : Int)))))] [0, 1, 2, 3, 4, 5, 6] [] (cs := [.some (some (.int .i64 (IntKind.i64.wrap ((row.length : Int) - (xs.length : Int))))) (.int .i64 ((row.length : Int) - (xs.length : Int))), .some (some (.bool (decide (((i : Nat) : Int) ≤ (row.length : Int) - (xs.length : Int))))) (.bool (decide (((i : Nat) : Int) ≤ (row.length : Int) - (xs.length : Int))))]) (by kernel_rfl) (by kernel_rfl) (by kernel_rfl) ?_ ?_
  · intro x hx
    simp only [List.mem_cons, List.not_mem_nil, or_false] at hx
    rcases hx with rfl | rfl
    · exact congrArg (fun x => some (Value.int .i64 x)) (wrap_id (by omega) (by omega))
    · rfl
  show AWp _ _ _ _ _
  refine AWp.view [(0, .slice ra row.length rc), (1, .slice sa xs.length sc), (7, .int .i64 ((i : Nat) : Int)), (16, .bool (decide (((i : Nat) : Int) ≤ (row.length : Int) - (xs.length : Int))))] (by kernel_rfl) ?_
  refine AWp.cond_ (c := .tmp 16) (t := decide (((i : Nat) : Int) ≤ (row.length : Int) - (xs.length : Int))) (by kernel_rfl) (by kernel_rfl) (fun hT => ?_) (fun hF => ?_)
  · have hfit : i + xs.length ≤ row.length := by have := of_decide_eq_true hT; omega
    obtain ⟨ta, tc, hsl, hti⟩ := sub_row hx hform hfit
    have htl : ((row.drop i).take xs.length).length = xs.length := by simp; omega
    refine AWp.skip' (by kernel_rfl) ?_
    show AWp _ _ _ _ _
    refine AWp.seq' (by kernel_rfl) (AWp.block' (id := 1) (by kernel_rfl) ?_)
    refine AWp.seq' (by kernel_rfl) (AWp.region' (by kernel_rfl) ?_)
    refine AOps.run (n := 29) [(5, .val (.int .i64 ((i + xs.length : Nat) : Int))), (6, .val (.slice ta ((row.drop i).take xs.length).length tc))] [0, 1, 2, 3, 4, 5, 6, 7] [8] (cs := [.some (some (.int .i64 (IntKind.i64.wrap (((i : Nat) : Int) + ((xs.length : Nat) : Int))))) (.int .i64 ((i + xs.length : Nat) : Int)), .some (aslice Tryz.prog 23 (.slice ra row.length rc) (some (.int .i64 ((i : Nat) : Int))) (some (.int .i64 ((i + xs.length : Nat) : Int))) none) (.slice ta ((row.drop i).take xs.length).length tc)]) (by kernel_rfl) (by kernel_rfl) (by kernel_rfl) ?_ ?_
    · intro x hx
      simp only [List.mem_cons, List.not_mem_nil, or_false] at hx
      rcases hx with rfl | rfl
      · exact congrArg (fun x => some (Value.int .i64 x)) (wrap_add (by omega))
      · exact hsl
    refine AOps.call (n := 29) 8 [] 19 [.slice ta ((row.drop i).take xs.length).length tc, .slice sa xs.length sc] (by kernel_rfl) rfl (by kernel_rfl) (by kernel_rfl) (by kernel_rfl) (by kernel_rfl) (by kernel_rfl) (same_spec hti hy (by rw [htl]; exact hyl) hyl) ?_
    rintro e B' ⟨rfl, rfl⟩
    refine ⟨_, rfl, ?_⟩
    show AWp _ _ _ _ _
    refine AWp.view [(0, .slice ra row.length rc), (1, .slice sa xs.length sc), (7, .int .i64 ((i : Nat) : Int)), (27, .bool (decide ((row.drop i).take xs.length = xs)))] (by kernel_rfl) ?_
    refine AWp.cond_ (c := .tmp 27) (t := decide ((row.drop i).take xs.length = xs)) (by kernel_rfl) (by kernel_rfl) (fun hT => ?_) (fun hF => ?_)
    · have hs : stands row xs i := of_decide_eq_true hT
      refine AWp.seq' (by kernel_rfl) (AWp.region' (by kernel_rfl) ?_)
      refine AOps.run (n := 29) [] [0, 1] [] (cs := []) (by kernel_rfl) (by kernel_rfl) (by kernel_rfl) ?_ ?_
      · intro x hx; cases hx
      show AWp _ _ _ _ _
      refine AWp.view [(6, .int .i64 ((i : Nat) : Int))] (by kernel_rfl) ?_
      exact AWp.ret' (by kernel_rfl) ⟨[.int .i64 ((i : Nat) : Int)], by kernel_rfl, rfl, (i : Int), rfl, .inl ⟨i, hi1, hs, hfit, hno, rfl⟩⟩
    · have hs : ¬ stands row xs i := of_decide_eq_false hF
      refine AWp.skip' (by kernel_rfl) ?_
      show AWp _ _ _ _ _
      refine AWp.view [(0, .slice ra row.length rc), (1, .slice sa xs.length sc), (7, .int .i64 ((i : Nat) : Int))] (by kernel_rfl) ?_
      refine AWp.region' (by kernel_rfl) ?_
      refine AOps.run (n := 29) [(1, .val (.int .i64 ((i + 1 : Nat) : Int)))] [0, 1, 2] [] (cs := [.some (some (.int .i64 (IntKind.i64.wrap (((i : Nat) : Int) + ((1 : Nat) : Int))))) (.int .i64 ((i + 1 : Nat) : Int))]) (by kernel_rfl) (by kernel_rfl) (by kernel_rfl) ?_ ?_
      · intro x hx
        simp only [List.mem_cons, List.not_mem_nil, or_false] at hx
        subst hx
        exact congrArg (fun x => some (Value.int .i64 x)) (wrap_add (by omega))
      exact ⟨row.length + 1 - (i + 1), by omega, i + 1, rfl, by omega, by omega, mkE_le [(0, .slice ra row.length rc), (1, .slice sa xs.length sc), (7, .int .i64 ((i + 1 : Nat) : Int))] (by kernel_rfl), rfl, fun j h1 h2 => by
        rcases Nat.lt_or_ge j i with h | h
        · exact hno j h1 h
        · rw [show j = i from by omega]; exact hs⟩
  · have hgt : row.length < i + xs.length := by have := of_decide_eq_false hF; omega
    refine AWp.exit' (id := 0) (by kernel_rfl) ?_
    show AWp _ _ _ _ _
    refine AWp.view [] (by kernel_rfl) ?_
    refine AWp.seq' (by kernel_rfl) (AWp.region' (by kernel_rfl) ?_)
    refine AOps.run (n := 29) [] [0] [] (cs := []) (by kernel_rfl) (by kernel_rfl) (by kernel_rfl) ?_ ?_
    · intro x hx; cases hx
    show AWp _ _ _ _ _
    refine AWp.view [(6, .int .i64 (-1))] (by kernel_rfl) ?_
    exact AWp.ret' (by kernel_rfl) ⟨[.int .i64 (-1)], by kernel_rfl, rfl, -1, rfl, .inr ⟨fun j h1 h2 hs => by
      rcases Nat.lt_or_ge j i with h | h
      · exact hno j h1 h hs
      · have := stands_fit hs h2; omega, rfl⟩⟩
end Go.Proofs.YtihpfgnigpmihaaGreat
