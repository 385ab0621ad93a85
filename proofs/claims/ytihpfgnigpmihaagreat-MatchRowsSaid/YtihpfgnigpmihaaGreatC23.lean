/- MatchRows. -/
import Derived.Test.YtihpfgnigpmihaaGreatC20
import Derived.Test.YtihpfgnigpmihaaGreatB1
import Derived.Test.YtihpfgnigpmihaaGreatD3
set_option linter.unusedVariables false
set_option linter.unusedSimpArgs false
set_option maxRecDepth 100000
namespace Go.Proofs.YtihpfgnigpmihaaGreat
open Go

theorem conv_u8 {k : Nat} (hk : k < 256) : aconv Tryz.prog 5 3 (.int .u8 (k : Int)) = some (.int .i64 ((k : Nat) : Int)) := by
  have h : aconv Tryz.prog 5 3 (.int .u8 (k : Int)) = some (.int .i64 (IntKind.i64.wrap (k : Int))) := by kernel_rfl
  rw [h, wrap_id (by omega) (by omega)]
theorem Found.split {W : Nat → List Res} {start len : Nat} {e : AEnd} {B : AHeap} (h : Found W start len e B) : ∃ sv b, e = .ret (.tuple #[sv, .bool b]) ∧
    (b = true → ∃ q x l j, start ≤ q ∧ q ≤ len ∧ W q = x :: l ∧ (∀ i, start ≤ i → i < q → W i = []) ∧ sv = .slice (some ⟨j, 0, none⟩) 1 (unk 2) ∧ B.get j = some (.cells [.int .i64 ((q : Nat) : Int), .int .i64 ((x.stop : Nat) : Int)] 35 false)) ∧
    (b = false → ∀ i, start ≤ i → i ≤ len → W i = []) := by
  rcases h with ⟨q, x, l, j, h1, h2, h3, h4, rfl, h5⟩ | ⟨h1, rfl⟩
  · exact ⟨_, true, rfl, fun _ => ⟨q, x, l, j, h1, h2, h3, h4, rfl, h5⟩, (fun h => by cases h)⟩
  · exact ⟨_, false, rfl, (fun h => by cases h), fun _ => h1⟩
theorem run_at {row : List Int} {c : Int} : ∀ {n p : Nat}, (∀ j, j < n → row[p + j]? = some c) → row[p + n]? ≠ some c → runFrom row c p = n
  | 0, p, _, h => run_no (by simpa using h)
  | n + 1, p, hall, h => by
    rw [run_yes (by simpa using hall 0 (Nat.succ_pos n)), run_at (n := n) (p := p + 1) (fun j hj => by have := hall (j + 1) (by omega); rwa [show p + 1 + j = p + (j + 1) from by omega]) (by rwa [show p + 1 + n = p + (n + 1) from by omega])]
theorem eq_span {x y : Operand} (a b : Int) : aagg Tryz.prog .eql 35 x y (.agg #[.int .i64 a, .int .i64 b]) (.agg #[.int .i64 a, .int .i64 b]) = some (.bool true) := by rw [agg35]; simp

def starL : List NdR := [⟨1, 97, 0, 0, 0, none, []⟩, ⟨10, 0, 0, 0, -1, some (1, 1), [0]⟩]
theorem of_star (B : AHeap) : ACall Tryz.prog starFact.1 starFact.2.1 B fun e B' => ∃ N ns, e = .ret (.agg #[.slice (some ⟨N, 0, none⟩) ns.length 4611686018427387913, .int .i64 0]) ∧ Ext B B' ∧ Tree B' N 4611686018427387913 ns ∧ ns.map Nd.pn = starL.map NdR.pn := by
  have e1 : starFact.2.2.1 = .agg #[.slice (some ⟨0, 0, none⟩) starL.length 4611686018427387913, .int .i64 0] := by kernel_rfl
  have e2 : starFact.2.2.2 = layout starL [[0]] := by kernel_rfl
  have g := starFact_gives
  rw [e1, e2] at g
  exact g.tree (by kernel_rfl) (by decide) (by kernel_rfl) (by kernel_rfl) (by kernel_rfl) (by kernel_rfl) (by kernel_rfl) B
def plusL : List NdR := [⟨1, 97, 0, 0, 0, none, []⟩, ⟨1, 97, 0, 0, 0, none, []⟩, ⟨10, 0, 0, 0, -1, some (1, 1), [1]⟩, ⟨5, 0, 0, 0, 0, none, []⟩, ⟨8, 0, 0, 0, 0, some (2, 4611686018427387905), [0, 2, 3]⟩]
theorem of_plus (B : AHeap) : ACall Tryz.prog plusFact.1 plusFact.2.1 B fun e B' => ∃ N ns, e = .ret (.agg #[.slice (some ⟨N, 0, none⟩) ns.length 4611686018427387913, .int .i64 0]) ∧ Ext B B' ∧ Tree B' N 4611686018427387913 ns ∧ ns.map Nd.pn = plusL.map NdR.pn := by
  have e1 : plusFact.2.2.1 = .agg #[.slice (some ⟨0, 0, none⟩) plusL.length 4611686018427387913, .int .i64 0] := by kernel_rfl
  have e2 : plusFact.2.2.2 = layout plusL [[1], [0, 2, 3]] := by kernel_rfl
  have g := plusFact_gives
  rw [e1, e2] at g
  exact g.tree (by kernel_rfl) (by decide) (by kernel_rfl) (by kernel_rfl) (by kernel_rfl) (by kernel_rfl) (by kernel_rfl) B

theorem rows_spec {B : AHeap} {da : Option Addr} {dc D k : Nat} {ds : List Nat} (hk : k < 256) (h256 : ∀ z ∈ ds, z < 256) (hd : ds ≠ [] → da = some ⟨D, 0, none⟩ ∧ ∃ e ro, B.get D = some (.cells (ds.map fun (z : Nat) => .int .u8 (z : Int)) e ro)) :
    ACall Tryz.prog 3 [.slice da ds.length dc, .int .u8 (k : Int)] B fun e B' => e = .ret (.bool true) ∧ Ext B B' := by
  refine ACall.walk (fn := Tryz.f3) (c := bodyOf Tryz.prog 3) (by kernel_rfl) (by kernel_rfl) (by kernel_rfl) ?_
  refine AWp.seq' (by kernel_rfl) (AWp.region' (by kernel_rfl) ?_)
  refine AOps.run (n := 108) [] [0] [] (cs := []) (by kernel_rfl) (by kernel_rfl) (by kernel_rfl) ?_ ?_
  · intro x hx; cases hx
  show AWp _ _ _ _ _
  refine AWp.view [(0, .slice da ds.length dc), (1, .int .u8 ((k : Nat) : Int))] (by kernel_rfl) ?_
  refine AWp.seq' (by kernel_rfl) (AWp.region' (by kernel_rfl) ?_)
  refine AOps.run (n := 108) [] [0] [1, 2] (cs := []) (by kernel_rfl) (by kernel_rfl) (by kernel_rfl) ?_ ?_
  · intro x hx; cases hx
  refine AOps.call (n := 108) 1 [2] 7 [.slice da ds.length dc, .int .i64 ((40 : Nat) : Int)] (by kernel_rfl) rfl (by kernel_rfl) (by kernel_rfl) (by kernel_rfl) (by kernel_rfl) (by kernel_rfl) (cells_spec h256 (by decide) hd) ?_
  rintro e B1 ⟨ra, R, rc, rfl, hx1, hrow⟩
  refine ⟨_, rfl, ?_⟩
  generalize hrd : (ds.take 40).map cellOf = row at hrow ⊢
  have hlen : row.length ≤ 40 := by rw [← hrd]; simp; omega
  have hfar : row.length < far := Nat.lt_of_le_of_lt hlen (by decide)
  have hmost : row.length + 2 ≤ most := Nat.le_trans (Nat.add_le_add_right hlen 2) (by decide)
  refine AOps.run (n := 108) [] [2] [] (cs := []) (by kernel_rfl) (by kernel_rfl) (by kernel_rfl) ?_ ?_
  · intro x hx; cases hx
  show AWp _ _ _ _ _
  refine AWp.view [(1, .int .u8 ((k : Nat) : Int)), (5, .slice ra row.length rc)] (by kernel_rfl) ?_
  refine AWp.seq' (by kernel_rfl) (AWp.region' (by kernel_rfl) ?_)
  refine AOps.run (n := 108) [(1, .val (.int .i64 ((k : Nat) : Int))), (4, .val (.int .i64 ((row.length + 1 : Nat) : Int))), (5, .val (.int .i64 ((k % (row.length + 1) : Nat) : Int)))] [0, 1, 2, 3, 4, 5, 6] [] (cs := [.some (aconv Tryz.prog 5 3 (.int .u8 (k : Int))) (.int .i64 ((k : Nat) : Int)), .some (some (.int .i64 (IntKind.i64.wrap (((row.length : Nat) : Int) + ((1 : Nat) : Int))))) (.int .i64 ((row.length + 1 : Nat) : Int)), .some (anum .rem .i64 .i64 (k : Int) ((row.length + 1 : Nat) : Int)) (.int .i64 ((k % (row.length + 1) : Nat) : Int))]) (by kernel_rfl) (by kernel_rfl) (by kernel_rfl) ?_ ?_
  · intro x hx
    simp only [List.mem_cons, List.not_mem_nil, or_false] at hx
    rcases hx with rfl | rfl | rfl
    · exact conv_u8 hk
    · exact congrArg (fun x => some (Value.int .i64 x)) (wrap_add (by omega))
    · exact rem_ok .i64 k _ (by omega)
  have hat : k % (row.length + 1) ≤ row.length := Nat.le_of_lt_succ (Nat.mod_lt _ (Nat.succ_pos _))
  show AWp _ _ _ _ _
  generalize k % (row.length + 1) = at0 at hat ⊢
  refine AWp.view [(5, .slice ra row.length rc), (6, .int .i64 ((at0 : Nat) : Int))] (by kernel_rfl) ?_
  refine AWp.seq' (by kernel_rfl) (AWp.region' (by kernel_rfl) ?_)
  refine AOps.run (n := 108) [] [0, 1] [] (cs := []) (by kernel_rfl) (by kernel_rfl) (by kernel_rfl) ?_ ?_
  · intro x hx; cases hx
  show AWp _ _ _ _ _
  refine AWp.view [(5, .slice ra row.length rc), (6, .int .i64 ((at0 : Nat) : Int)), (7, .int .i64 ((at0 : Nat) : Int))] (by kernel_rfl) ?_
  have hrowE : ∀ {H : AHeap}, Ext B1 H → row ≠ [] → ra = some ⟨R, 0, none⟩ ∧ H.get R = some (.cells (row.map fun c => .int .i32 c) 25 false) := fun hx hr => ⟨(hrow hr).1, hx.get (hrow hr).2.2⟩
  refine AWp.seq' (by kernel_rfl) (AWp.block' (id := 0) (by kernel_rfl) ?_)
  refine AWp.loop' (by kernel_rfl) (N := row.length - at0) (fun m E H => ∃ n : Nat, m = row.length - n ∧ at0 ≤ n ∧ n ≤ row.length ∧ AEnv.le (envOf 108 (mkE [(5, .slice ra row.length rc), (6, .int .i64 ((at0 : Nat) : Int)), (7, .int .i64 ((n : Nat) : Int))])) E ∧ H = B1 ∧ ∀ j, at0 ≤ j → j < n → row[j]? = some 97)
    ⟨at0, rfl, Nat.le_refl _, hat, AEnv.le_refl _, rfl, fun i h1 h2 => absurd h1 (by omega)⟩ ?_
  rintro m E H ⟨n, rfl, hn0, hn1, hEn, rfl, hall⟩
  refine AWp.env hEn ?_
  by_cases hin : row[n]? = some 97
  · have hlt : n < row.length := (List.getElem?_eq_some_iff.1 hin).1
    obtain ⟨hra, hRow⟩ := hrowE (Ext.refl _) (fun e => by rw [e] at hlt; simp at hlt)
    obtain ⟨ch, hch⟩ : ∃ ch, row[n]? = some ch := ⟨97, hin⟩
    have hc : ch = 97 := by rw [hch] at hin; exact Option.some.inj hin
    refine AWp.seq' (by kernel_rfl) ?_
    refine AWp.seq' (by kernel_rfl) (AWp.region' (by kernel_rfl) ?_)
    refine AOps.run (n := 108) [(3, .val (.bool true)), (7, .val (.pointer (some ⟨R, 0 + (n) * 1, none⟩))), (8, .part (row.map fun c => .int .i32 c) (.int .i32 ch)), (9, .val (.bool true))] [0, 1, 2, 3, 4, 5, 6, 7, 8, 9, 10] [] (cs := [.some (some (.bool (decide (((n : Nat) : Int) < ((row.length : Nat) : Int))))) (.bool true), .some (aindexAddr Tryz.prog 23 (.slice ra row.length rc) (.int .i64 ((n : Nat) : Int))) (.pointer (some ⟨R, 0 + (n) * 1, none⟩)), .blk (R) (row.map fun c => .int .i32 c), .some (apart' (row.map fun c => .int .i32 c) (0 + (n) * 1) 1 false) (.int .i32 ch), .some (some (.bool (decide (ch = 97)))) (.bool true)]) (by kernel_rfl) (by kernel_rfl) (by kernel_rfl) ?_ ?_
    · intro x hx
      simp only [List.mem_cons, List.not_mem_nil, or_false] at hx
      rcases hx with rfl | rfl | rfl | rfl | rfl
      · exact congrArg (fun b => some (Value.bool b)) (decide_eq_true (by omega))
      · rw [hra]; exact indexAddr_ok (by kernel_rfl : sliceT Tryz.prog 23 = some (25, 1, 4)) (by omega)
      · exact ⟨25, false, hRow⟩
      · exact apart_one (by simp [hch])
      · exact congrArg (fun b => some (Value.bool b)) (decide_eq_true hc)
    show AWp _ _ _ _ _
    refine AWp.view [(5, .slice ra row.length rc), (6, .int .i64 ((at0 : Nat) : Int)), (7, .int .i64 ((n : Nat) : Int)), (32, .bool true)] (by kernel_rfl) ?_
    refine AWp.condT (c := .tmp 32) (by kernel_rfl) (by kernel_rfl) ?_
    refine AWp.skip' (by kernel_rfl) ?_
    show AWp _ _ _ _ _
    refine AWp.block' (id := 1) (by kernel_rfl) ?_
    refine AWp.region' (by kernel_rfl) ?_
    refine AOps.run (n := 108) [(1, .val (.int .i64 ((n + 1 : Nat) : Int)))] [0, 1, 2] [] (cs := [.some (some (.int .i64 (IntKind.i64.wrap (((n : Nat) : Int) + ((1 : Nat) : Int))))) (.int .i64 ((n + 1 : Nat) : Int))]) (by kernel_rfl) (by kernel_rfl) (by kernel_rfl) ?_ ?_
    · intro x hx
      simp only [List.mem_cons, List.not_mem_nil, or_false] at hx
      subst hx
      exact congrArg (fun x => some (Value.int .i64 x)) (wrap_add (by omega))
    exact ⟨row.length - (n + 1), by omega, n + 1, rfl, by omega, hlt, mkE_le [(5, .slice ra row.length rc), (6, .int .i64 ((at0 : Nat) : Int)), (7, .int .i64 ((n + 1 : Nat) : Int))] (by kernel_rfl), rfl, fun j h1 h2 => by
      rcases Nat.lt_or_ge j n with h | h
      · exact hall j h1 h
      · rw [show j = n from by omega]; exact hin⟩
  have hrun : runFrom row 97 at0 = n - at0 := run_at (n := n - at0) (fun j hj => hall (at0 + j) (by omega) (by omega)) (by rw [show at0 + (n - at0) = n from by omega]; exact hin)
  refine AWp.seq' (by kernel_rfl) ?_
  refine AWp.mono (Q := fun e E2 H2 => e = .exit 0 ∧ AEnv.le (envOf 108 (mkE [(5, .slice ra row.length rc), (6, .int .i64 ((at0 : Nat) : Int)), (7, .int .i64 ((n : Nat) : Int))])) E2 ∧ H2 = H) ?_ ?_
  · rcases Nat.lt_or_ge n row.length with hlt | hge
    · obtain ⟨ch, hch⟩ : ∃ ch, row[n]? = some ch := ⟨_, List.getElem?_eq_getElem hlt⟩
      obtain ⟨hra, hRow⟩ := hrowE (Ext.refl _) (fun e => by rw [e] at hlt; simp at hlt)
      have hc : ¬ ch = 97 := fun e => hin (by rw [hch, e])
      refine AWp.seq' (by kernel_rfl) (AWp.region' (by kernel_rfl) ?_)
      refine AOps.run (n := 108) [(3, .val (.bool true)), (7, .val (.pointer (some ⟨R, 0 + (n) * 1, none⟩))), (8, .part (row.map fun c => .int .i32 c) (.int .i32 ch)), (9, .val (.bool false))] [0, 1, 2, 3, 4, 5, 6, 7, 8, 9, 10] [] (cs := [.some (some (.bool (decide (((n : Nat) : Int) < ((row.length : Nat) : Int))))) (.bool true), .some (aindexAddr Tryz.prog 23 (.slice ra row.length rc) (.int .i64 ((n : Nat) : Int))) (.pointer (some ⟨R, 0 + (n) * 1, none⟩)), .blk (R) (row.map fun c => .int .i32 c), .some (apart' (row.map fun c => .int .i32 c) (0 + (n) * 1) 1 false) (.int .i32 ch), .some (some (.bool (decide (ch = 97)))) (.bool false)]) (by kernel_rfl) (by kernel_rfl) (by kernel_rfl) ?_ ?_
      · intro x hx
        simp only [List.mem_cons, List.not_mem_nil, or_false] at hx
        rcases hx with rfl | rfl | rfl | rfl | rfl
        · exact congrArg (fun b => some (Value.bool b)) (decide_eq_true (by omega))
        · rw [hra]; exact indexAddr_ok (by kernel_rfl : sliceT Tryz.prog 23 = some (25, 1, 4)) (by omega)
        · exact ⟨25, false, hRow⟩
        · exact apart_one (by simp [hch])
        · exact congrArg (fun b => some (Value.bool b)) (decide_eq_false hc)
      show AWp _ _ _ _ _
      refine AWp.view [(5, .slice ra row.length rc), (6, .int .i64 ((at0 : Nat) : Int)), (7, .int .i64 ((n : Nat) : Int)), (32, .bool false)] (by kernel_rfl) ?_
      refine AWp.condF (c := .tmp 32) (by kernel_rfl) (by kernel_rfl) ?_
      refine AWp.exit' (id := 0) (by kernel_rfl) ?_
      exact ⟨rfl, mkE_le [(5, .slice ra row.length rc), (6, .int .i64 ((at0 : Nat) : Int)), (7, .int .i64 ((n : Nat) : Int))] (by kernel_rfl), rfl⟩
    · skip
      refine AWp.seq' (by kernel_rfl) (AWp.region' (by kernel_rfl) ?_)
      refine AOps.run (n := 108) [(3, .val (.bool false))] [0, 1, 2, 3, 4, 5, 6, 7, 8, 9, 10] [] (cs := [.some (some (.bool (decide (((n : Nat) : Int) < ((row.length : Nat) : Int))))) (.bool false)]) (by kernel_rfl) (by kernel_rfl) (by kernel_rfl) ?_ ?_
      · intro x hx
        simp only [List.mem_cons, List.not_mem_nil, or_false] at hx
        subst hx
        exact congrArg (fun b => some (Value.bool b)) (decide_eq_false (by omega))
      show AWp _ _ _ _ _
      refine AWp.view [(5, .slice ra row.length rc), (6, .int .i64 ((at0 : Nat) : Int)), (7, .int .i64 ((n : Nat) : Int)), (32, .bool false)] (by kernel_rfl) ?_
      refine AWp.condF (c := .tmp 32) (by kernel_rfl) (by kernel_rfl) ?_
      refine AWp.exit' (id := 0) (by kernel_rfl) ?_
      exact ⟨rfl, mkE_le [(5, .slice ra row.length rc), (6, .int .i64 ((at0 : Nat) : Int)), (7, .int .i64 ((n : Nat) : Int))] (by kernel_rfl), rfl⟩
  rintro e E2 H2 ⟨rfl, hE2, rfl⟩
  show AWp _ _ _ _ _
  refine AWp.env hE2 ?_
  clear hE2 hEn hin hall
  refine AWp.seq' (by kernel_rfl) (AWp.region' (by kernel_rfl) ?_)
  refine AOps.call (n := 108) 0 [1, 2, 3, 4, 5, 6, 7, 8] 9 [.string ⟨#[97, 42]⟩] (by kernel_rfl) rfl (by kernel_rfl) (by kernel_rfl) (by kernel_rfl) (by kernel_rfl) (by kernel_rfl) (of_star _) ?_
  rintro e B2 ⟨N, ns, rfl, hx2, hT, hp⟩
  refine ⟨_, rfl, ?_⟩
  refine AOps.run (n := 108) [] [1, 2] [3, 4, 5, 6, 7, 8] (cs := []) (by kernel_rfl) (by kernel_rfl) (by kernel_rfl) ?_ ?_
  · intro x hx; cases hx
  refine AOps.call (n := 108) 3 [4, 5, 6, 7, 8] 8 [.agg #[.slice (some ⟨N, 0, none⟩) ns.length 4611686018427387913, .int .i64 0], .slice ra row.length rc, .int .i64 ((at0 : Nat) : Int), .pointer none] (by kernel_rfl) rfl (by kernel_rfl) (by kernel_rfl) (by kernel_rfl) (by kernel_rfl) (by kernel_rfl) (tree_find (by decide) (by decide) hT hp (fun hr => ⟨(hrowE hx2 hr).1, 25, false, (hrowE hx2 hr).2⟩) hfar (start := at0) (fun q => resOf (minus 10) (stops row 97 0 row.length 0 q)) (fun q _ hq => ⟨_, den_star (ns := starL.map NdR.pn) (i := 1) rfl rfl rfl rfl (by decide) rfl rfl (by unfold far; omega) row.length q (by omega) (by omega) (by unfold far; omega) (by assumption)⟩)) ?_
  rintro e B3 ⟨hx3, hF⟩
  obtain ⟨j1, rfl, hj1⟩ : ∃ j, e = .ret (.tuple #[.slice (some ⟨j, 0, none⟩) 1 (unk 2), .bool true]) ∧ B3.get j = some (.cells [.int .i64 ((at0 : Nat) : Int), .int .i64 ((n : Nat) : Int)] 35 false) := by
    have hhead := stops_head row 97 0 row.length 0 at0
    rw [if_pos (Nat.zero_le _), hrun] at hhead
    obtain ⟨l0, hl0⟩ := hhead
    rcases hF with ⟨q, x, l, j, h1, h2, h3, h4, rfl, h5⟩ | ⟨h1, rfl⟩
    · have hq : q = at0 := by
        rcases Nat.lt_or_ge at0 q with h | h
        · have := h4 at0 (Nat.le_refl _) h
          simp only [resOf, hl0, List.map_cons] at this; cases this
        · omega
      subst hq
      have hs : x.stop = n := by simp only [resOf, hl0, List.map_cons, List.cons.injEq] at h3; rw [← h3.1]; show q + min (n - q) row.length = n; omega
      exact ⟨j, rfl, by rw [← hs]; exact h5⟩
    · have := h1 at0 (Nat.le_refl _) hat
      simp only [resOf, hl0, List.map_cons] at this; cases this
  refine ⟨_, rfl, ?_⟩
  refine AOps.run (n := 108) [] [4, 5, 6, 7, 8] [] (cs := []) (by kernel_rfl) (by kernel_rfl) (by kernel_rfl) ?_ ?_
  · intro x hx; cases hx
  show AWp _ _ _ _ _
  refine AWp.view [(5, .slice ra row.length rc), (6, .int .i64 ((at0 : Nat) : Int)), (7, .int .i64 ((n : Nat) : Int)), (8, .slice (some ⟨j1, 0, none⟩) 1 (unk 2)), (9, .bool true)] (by kernel_rfl) ?_
  have hxA := hx2.trans hx3
  clear hF hT hp
  clear N ns
  refine AWp.seq' (by kernel_rfl) (AWp.region' (by kernel_rfl) ?_)
  refine AOps.call (n := 108) 0 [1, 2, 3, 4, 5, 6, 7] 9 [.string ⟨#[97, 97, 42, 36]⟩] (by kernel_rfl) rfl (by kernel_rfl) (by kernel_rfl) (by kernel_rfl) (by kernel_rfl) (by kernel_rfl) (of_plus _) ?_
  rintro e B4 ⟨N, ns, rfl, hx4, hT, hp⟩
  refine ⟨_, rfl, ?_⟩
  refine AOps.run (n := 108) [] [1] [2, 3, 4, 5, 6, 7] (cs := []) (by kernel_rfl) (by kernel_rfl) (by kernel_rfl) ?_ ?_
  · intro x hx; cases hx
  refine AOps.call (n := 108) 2 [3, 4, 5, 6, 7] 8 [.agg #[.slice (some ⟨N, 0, none⟩) ns.length 4611686018427387913, .int .i64 0], .slice ra row.length rc, .int .i64 0, .pointer none] (by kernel_rfl) rfl (by kernel_rfl) (by kernel_rfl) (by kernel_rfl) (by kernel_rfl) (by kernel_rfl) (tree_find (by decide) (by decide) hT hp (fun hr => ⟨(hrowE (hxA.trans hx4) hr).1, 25, false, (hrowE (hxA.trans hx4) hr).2⟩) hfar (start := 0) (fun q => if row[q]? = some 97 ∧ q + 1 + runFrom row 97 (q + 1) = row.length then [⟨row.length, minus 10⟩] else []) (fun q _ hq => ⟨_, den_plus (ns := plusL.map NdR.pn) (i := 4) rfl rfl rfl rfl rfl rfl rfl rfl rfl rfl rfl rfl rfl (by decide) rfl rfl hmost hq⟩)) ?_
  rintro e B5 ⟨hx5, hF⟩
  obtain ⟨sv, fb, rfl, hyes, hno⟩ := hF.split
  refine ⟨_, rfl, ?_⟩
  refine AOps.run (n := 108) [] [3, 4, 5, 6, 7] [] (cs := []) (by kernel_rfl) (by kernel_rfl) (by kernel_rfl) ?_ ?_
  · intro x hx; cases hx
  show AWp _ _ _ _ _
  refine AWp.view [(5, .slice ra row.length rc), (6, .int .i64 ((at0 : Nat) : Int)), (7, .int .i64 ((n : Nat) : Int)), (8, .slice (some ⟨j1, 0, none⟩) 1 (unk 2)), (9, .bool true), (10, sv), (11, .bool fb)] (by kernel_rfl) ?_
  have hx45 := hx4.trans hx5
  have hrow5 := fun hr => hrowE (hxA.trans hx45) hr
  have hj5 := hx45.get hj1
  have hxB : Ext B B5 := hx1.trans (hxA.trans hx45)
  clear hF hT hp hrowE hrow hj1
  refine AWp.seq' (by kernel_rfl) (AWp.region' (by kernel_rfl) ?_)
  refine AOps.run (n := 108) [] [0, 1, 2] [] (cs := []) (by kernel_rfl) (by kernel_rfl) (by kernel_rfl) ?_ ?_
  · intro x hx; cases hx
  show AWp _ _ _ _ _
  refine AWp.view [(5, .slice ra row.length rc), (6, .int .i64 ((at0 : Nat) : Int)), (7, .int .i64 ((n : Nat) : Int)), (8, .slice (some ⟨j1, 0, none⟩) 1 (unk 2)), (9, .bool true), (10, sv), (11, .bool fb), (12, .int .i64 ((row.length : Nat) : Int))] (by kernel_rfl) ?_
  refine AWp.seq' (by kernel_rfl) (AWp.block' (id := 2) (by kernel_rfl) ?_)
  refine AWp.loop' (by kernel_rfl) (N := row.length) (fun m E H => ∃ f : Nat, f = m ∧ f ≤ row.length ∧ AEnv.le (envOf 108 (mkE [(5, .slice ra row.length rc), (6, .int .i64 ((at0 : Nat) : Int)), (7, .int .i64 ((n : Nat) : Int)), (8, .slice (some ⟨j1, 0, none⟩) 1 (unk 2)), (9, .bool true), (10, sv), (11, .bool fb), (12, .int .i64 ((f : Nat) : Int))])) E ∧ H = B5 ∧ ∀ j, f ≤ j → j < row.length → row[j]? = some 97)
    ⟨row.length, rfl, Nat.le_refl _, AEnv.le_refl _, rfl, fun i h1 h2 => absurd h1 (by omega)⟩ ?_
  rintro m E H ⟨f, rfl, hf1, hEf, rfl, hall⟩
  refine AWp.env hEf ?_
  by_cases hin : 0 < f ∧ row[f - 1]? = some 97
  · obtain ⟨hf0, hin⟩ := hin
    obtain ⟨hra, hRow⟩ := hrow5 (fun e => by rw [e] at hin; simp at hin)
    obtain ⟨ch, hch⟩ : ∃ ch, row[f - 1]? = some ch := ⟨97, hin⟩
    have hc : ch = 97 := by rw [hch] at hin; exact Option.some.inj hin
    refine AWp.seq' (by kernel_rfl) ?_
    refine AWp.seq' (by kernel_rfl) (AWp.region' (by kernel_rfl) ?_)
    refine AOps.run (n := 108) [(1, .val (.bool true)), (5, .val (.int .i64 ((f - 1 : Nat) : Int))), (6, .val (.pointer (some ⟨R, 0 + (f - 1) * 1, none⟩))), (7, .part (row.map fun c => .int .i32 c) (.int .i32 ch)), (8, .val (.bool true))] [0, 1, 2, 3, 4, 5, 6, 7, 8, 9] [] (cs := [.some (some (.bool (decide (((f : Nat) : Int) > ((0 : Nat) : Int))))) (.bool true), .some (some (.int .i64 (IntKind.i64.wrap (((f : Nat) : Int) - ((1 : Nat) : Int))))) (.int .i64 ((f - 1 : Nat) : Int)), .some (aindexAddr Tryz.prog 23 (.slice ra row.length rc) (.int .i64 ((f - 1 : Nat) : Int))) (.pointer (some ⟨R, 0 + (f - 1) * 1, none⟩)), .blk (R) (row.map fun c => .int .i32 c), .some (apart' (row.map fun c => .int .i32 c) (0 + (f - 1) * 1) 1 false) (.int .i32 ch), .some (some (.bool (decide (ch = 97)))) (.bool true)]) (by kernel_rfl) (by kernel_rfl) (by kernel_rfl) ?_ ?_
    · intro x hx
      simp only [List.mem_cons, List.not_mem_nil, or_false] at hx
      rcases hx with rfl | rfl | rfl | rfl | rfl | rfl
      · exact congrArg (fun b => some (Value.bool b)) (decide_eq_true (by omega))
      · exact congrArg (fun x => some (Value.int .i64 x)) (wrap_sub (by omega) (by omega))
      · rw [hra]; exact indexAddr_ok (by kernel_rfl : sliceT Tryz.prog 23 = some (25, 1, 4)) (by omega)
      · exact ⟨25, false, hRow⟩
      · exact apart_one (by simp [hch])
      · exact congrArg (fun b => some (Value.bool b)) (decide_eq_true hc)
    show AWp _ _ _ _ _
    refine AWp.view [(5, .slice ra row.length rc), (6, .int .i64 ((at0 : Nat) : Int)), (7, .int .i64 ((n : Nat) : Int)), (8, .slice (some ⟨j1, 0, none⟩) 1 (unk 2)), (9, .bool true), (10, sv), (11, .bool fb), (12, .int .i64 ((f : Nat) : Int)), (59, .bool true)] (by kernel_rfl) ?_
    refine AWp.condT (c := .tmp 59) (by kernel_rfl) (by kernel_rfl) ?_
    refine AWp.skip' (by kernel_rfl) ?_
    show AWp _ _ _ _ _
    refine AWp.block' (id := 3) (by kernel_rfl) ?_
    refine AWp.region' (by kernel_rfl) ?_
    refine AOps.run (n := 108) [(1, .val (.int .i64 ((f - 1 : Nat) : Int)))] [0, 1, 2] [] (cs := [.some (some (.int .i64 (IntKind.i64.wrap (((f : Nat) : Int) - ((1 : Nat) : Int))))) (.int .i64 ((f - 1 : Nat) : Int))]) (by kernel_rfl) (by kernel_rfl) (by kernel_rfl) ?_ ?_
    · intro x hx
      simp only [List.mem_cons, List.not_mem_nil, or_false] at hx
      subst hx
      exact congrArg (fun x => some (Value.int .i64 x)) (wrap_sub (by omega) (by omega))
    exact ⟨f - 1, by omega, f - 1, rfl, by omega, mkE_le [(5, .slice ra row.length rc), (6, .int .i64 ((at0 : Nat) : Int)), (7, .int .i64 ((n : Nat) : Int)), (8, .slice (some ⟨j1, 0, none⟩) 1 (unk 2)), (9, .bool true), (10, sv), (11, .bool fb), (12, .int .i64 ((f - 1 : Nat) : Int))] (by kernel_rfl), rfl, fun j h1 h2 => by
      rcases Nat.lt_or_ge j f with h | h
      · rw [show j = f - 1 from by omega]; exact hin
      · exact hall j h h2⟩
  refine AWp.seq' (by kernel_rfl) ?_
  refine AWp.mono (Q := fun e E2 H2 => e = .exit 2 ∧ AEnv.le (envOf 108 (mkE [(5, .slice ra row.length rc), (6, .int .i64 ((at0 : Nat) : Int)), (7, .int .i64 ((n : Nat) : Int)), (8, .slice (some ⟨j1, 0, none⟩) 1 (unk 2)), (9, .bool true), (10, sv), (11, .bool fb), (12, .int .i64 ((f : Nat) : Int))])) E2 ∧ H2 = H) ?_ ?_
  · rcases Nat.eq_zero_or_pos f with h0 | hf0
    · skip
      refine AWp.seq' (by kernel_rfl) (AWp.region' (by kernel_rfl) ?_)
      refine AOps.run (n := 108) [(1, .val (.bool false))] [0, 1, 2, 3, 4, 5, 6, 7, 8, 9] [] (cs := [.some (some (.bool (decide (((f : Nat) : Int) > ((0 : Nat) : Int))))) (.bool false)]) (by kernel_rfl) (by kernel_rfl) (by kernel_rfl) ?_ ?_
      · intro x hx
        simp only [List.mem_cons, List.not_mem_nil, or_false] at hx
        subst hx
        exact congrArg (fun b => some (Value.bool b)) (decide_eq_false (by omega))
      show AWp _ _ _ _ _
      refine AWp.view [(5, .slice ra row.length rc), (6, .int .i64 ((at0 : Nat) : Int)), (7, .int .i64 ((n : Nat) : Int)), (8, .slice (some ⟨j1, 0, none⟩) 1 (unk 2)), (9, .bool true), (10, sv), (11, .bool fb), (12, .int .i64 ((f : Nat) : Int)), (59, .bool false)] (by kernel_rfl) ?_
      refine AWp.condF (c := .tmp 59) (by kernel_rfl) (by kernel_rfl) ?_
      refine AWp.exit' (id := 2) (by kernel_rfl) ?_
      exact ⟨rfl, mkE_le [(5, .slice ra row.length rc), (6, .int .i64 ((at0 : Nat) : Int)), (7, .int .i64 ((n : Nat) : Int)), (8, .slice (some ⟨j1, 0, none⟩) 1 (unk 2)), (9, .bool true), (10, sv), (11, .bool fb), (12, .int .i64 ((f : Nat) : Int))] (by kernel_rfl), rfl⟩
    · obtain ⟨ch, hch⟩ : ∃ ch, row[f - 1]? = some ch := ⟨_, List.getElem?_eq_getElem (by omega)⟩
      obtain ⟨hra, hRow⟩ := hrow5 (fun e => by rw [e] at hf1; simp at hf1; omega)
      have hc : ¬ ch = 97 := fun e => hin ⟨hf0, by rw [hch, e]⟩
      refine AWp.seq' (by kernel_rfl) (AWp.region' (by kernel_rfl) ?_)
      refine AOps.run (n := 108) [(1, .val (.bool true)), (5, .val (.int .i64 ((f - 1 : Nat) : Int))), (6, .val (.pointer (some ⟨R, 0 + (f - 1) * 1, none⟩))), (7, .part (row.map fun c => .int .i32 c) (.int .i32 ch)), (8, .val (.bool false))] [0, 1, 2, 3, 4, 5, 6, 7, 8, 9] [] (cs := [.some (some (.bool (decide (((f : Nat) : Int) > ((0 : Nat) : Int))))) (.bool true), .some (some (.int .i64 (IntKind.i64.wrap (((f : Nat) : Int) - ((1 : Nat) : Int))))) (.int .i64 ((f - 1 : Nat) : Int)), .some (aindexAddr Tryz.prog 23 (.slice ra row.length rc) (.int .i64 ((f - 1 : Nat) : Int))) (.pointer (some ⟨R, 0 + (f - 1) * 1, none⟩)), .blk (R) (row.map fun c => .int .i32 c), .some (apart' (row.map fun c => .int .i32 c) (0 + (f - 1) * 1) 1 false) (.int .i32 ch), .some (some (.bool (decide (ch = 97)))) (.bool false)]) (by kernel_rfl) (by kernel_rfl) (by kernel_rfl) ?_ ?_
      · intro x hx
        simp only [List.mem_cons, List.not_mem_nil, or_false] at hx
        rcases hx with rfl | rfl | rfl | rfl | rfl | rfl
        · exact congrArg (fun b => some (Value.bool b)) (decide_eq_true (by omega))
        · exact congrArg (fun x => some (Value.int .i64 x)) (wrap_sub (by omega) (by omega))
        · rw [hra]; exact indexAddr_ok (by kernel_rfl : sliceT Tryz.prog 23 = some (25, 1, 4)) (by omega)
        · exact ⟨25, false, hRow⟩
        · exact apart_one (by simp [hch])
        · exact congrArg (fun b => some (Value.bool b)) (decide_eq_false hc)
      show AWp _ _ _ _ _
      refine AWp.view [(5, .slice ra row.length rc), (6, .int .i64 ((at0 : Nat) : Int)), (7, .int .i64 ((n : Nat) : Int)), (8, .slice (some ⟨j1, 0, none⟩) 1 (unk 2)), (9, .bool true), (10, sv), (11, .bool fb), (12, .int .i64 ((f : Nat) : Int)), (59, .bool false)] (by kernel_rfl) ?_
      refine AWp.condF (c := .tmp 59) (by kernel_rfl) (by kernel_rfl) ?_
      refine AWp.exit' (id := 2) (by kernel_rfl) ?_
      exact ⟨rfl, mkE_le [(5, .slice ra row.length rc), (6, .int .i64 ((at0 : Nat) : Int)), (7, .int .i64 ((n : Nat) : Int)), (8, .slice (some ⟨j1, 0, none⟩) 1 (unk 2)), (9, .bool true), (10, sv), (11, .bool fb), (12, .int .i64 ((f : Nat) : Int))] (by kernel_rfl), rfl⟩
  rintro e E2 H2 ⟨rfl, hE2, rfl⟩
  show AWp _ _ _ _ _
  refine AWp.env hE2 ?_
  have hW : ∀ q, q ≤ row.length → ((row[q]? = some 97 ∧ q + 1 + runFrom row 97 (q + 1) = row.length) ↔ (f ≤ q ∧ q < row.length)) := fun q hq => by
    constructor
    · rintro ⟨h1, h2⟩
      have hql : q < row.length := (List.getElem?_eq_some_iff.1 h1).1
      refine ⟨Nat.le_of_not_lt fun hlt => hin ⟨by omega, ?_⟩, hql⟩
      have h3 := (run_full (row := row) (c := 97) rfl (show q + 1 ≤ row.length from hql)).1 h2
      rcases Nat.eq_or_lt_of_le (show q ≤ f - 1 from by omega) with e | e
      · rw [← e]; exact h1
      · exact h3 (f - 1) e (by omega)
    · rintro ⟨h1, h2⟩
      exact ⟨hall q h1 h2, (run_full (row := row) (c := 97) rfl (show q + 1 ≤ row.length from h2)).2 (fun j h3 h4 => hall j (by omega) h4)⟩
  by_cases hfl : f < row.length
  · have hb : fb = true := by
      cases fb with
      | true => rfl
      | false =>
        have := hno rfl f (Nat.zero_le _) hf1
        simp only [(hW f hf1).2 ⟨Nat.le_refl _, hfl⟩, and_self, if_true] at this; cases this
    subst hb
    obtain ⟨q, x, l, j2, _, hq2, hq3, hq4, rfl, hj2⟩ := hyes rfl
    have hqc : row[q]? = some 97 ∧ q + 1 + runFrom row 97 (q + 1) = row.length := by
      by_cases h : row[q]? = some 97 ∧ q + 1 + runFrom row 97 (q + 1) = row.length
      · exact h
      · simp only [h, if_false] at hq3; cases hq3
    have hqf : q = f := by
      have h1 := ((hW q hq2).1 hqc).1
      rcases Nat.eq_or_lt_of_le h1 with e | e
      · exact e.symm
      · have := hq4 f (Nat.zero_le _) e
        simp only [(hW f hf1).2 ⟨Nat.le_refl _, hfl⟩, and_self, if_true] at this; cases this
    subst hqf
    simp only [hqc, and_self, if_true, List.cons.injEq] at hq3
    have hst : x.stop = row.length := by rw [← hq3.1]
    rw [hst] at hj2
    refine AWp.view [(5, .slice ra row.length rc), (6, .int .i64 ((at0 : Nat) : Int)), (7, .int .i64 ((n : Nat) : Int)), (8, .slice (some ⟨j1, 0, none⟩) 1 (unk 2)), (9, .bool true), (10, .slice (some ⟨j2, 0, none⟩) 1 (unk 2)), (11, .bool true), (12, .int .i64 ((q : Nat) : Int))] (by kernel_rfl) ?_
    refine AWp.seq' (by kernel_rfl) ?_
    refine AWp.seq' (by kernel_rfl) (AWp.region' (by kernel_rfl) ?_)
    refine AOps.run (n := 108) [] [0, 1, 2, 3, 4, 5, 6, 7, 8, 9, 10] [] (cs := []) (by kernel_rfl) (by kernel_rfl) (by kernel_rfl) ?_ ?_
    · intro x hx; cases hx
    show AWp _ _ _ _ _
    refine AWp.view [(5, .slice ra row.length rc), (6, .int .i64 ((at0 : Nat) : Int)), (7, .int .i64 ((n : Nat) : Int)), (8, .slice (some ⟨j1, 0, none⟩) 1 (unk 2)), (9, .bool true), (10, .slice (some ⟨j2, 0, none⟩) 1 (unk 2)), (11, .bool true), (12, .int .i64 ((q : Nat) : Int)), (72, .bool false)] (by kernel_rfl) ?_
    refine AWp.condF (c := .tmp 72) (by kernel_rfl) (by kernel_rfl) ?_
    refine AWp.skip' (by kernel_rfl) ?_
    show AWp _ _ _ _ _
    refine AWp.view [(5, .slice ra row.length rc), (6, .int .i64 ((at0 : Nat) : Int)), (7, .int .i64 ((n : Nat) : Int)), (8, .slice (some ⟨j1, 0, none⟩) 1 (unk 2)), (9, .bool true), (10, .slice (some ⟨j2, 0, none⟩) 1 (unk 2)), (11, .bool true), (12, .int .i64 ((q : Nat) : Int))] (by kernel_rfl) ?_
    refine AWp.seq' (by kernel_rfl) (AWp.region' (by kernel_rfl) ?_)
    refine AOps.call (n := 108) 0 [1, 2, 3, 4, 5, 6, 7, 8, 9, 10, 11, 12, 13, 14, 15, 16, 17, 18, 19, 20, 21, 22, 23, 24, 25, 26, 27, 28, 29, 30, 31, 32, 33, 34, 35] 10 [] (by kernel_rfl) rfl (by kernel_rfl) (by kernel_rfl) (by kernel_rfl) (by kernel_rfl) (by kernel_rfl) (known_at _) ?_
    rintro e B6 ⟨rfl, rfl⟩
    refine ⟨_, rfl, ?_⟩
    refine AOps.run (n := 108) [(7, .blk ([.int .i64 ((at0 : Nat) : Int), .int .i64 ((n : Nat) : Int)])), (11, .val (.bool true)), (18, .val (.bool true)), (27, .blk ([.int .i64 ((q : Nat) : Int), .int .i64 ((row.length : Nat) : Int)])), (32, .val (.bool true))] [1, 2, 3, 4, 5, 6, 7, 8, 9, 10, 11, 12, 13, 14, 15, 16, 17, 18, 19, 20, 21, 22, 23, 24, 25, 26, 27, 28, 29, 30, 31, 32, 33, 34, 35] [] (cs := [.blk (j1) ([.int .i64 ((at0 : Nat) : Int), .int .i64 ((n : Nat) : Int)]), .some (aagg Tryz.prog .eql 35 (.tmp 80) (.tmp 83) (.agg #[.int .i64 ((at0 : Nat) : Int), .int .i64 ((n : Nat) : Int)]) (.agg #[.int .i64 ((at0 : Nat) : Int), .int .i64 ((n : Nat) : Int)])) (.bool true), .some (some (.bool (decide (((q : Nat) : Int) < ((row.length : Nat) : Int))))) (.bool true), .blk (j2) ([.int .i64 ((q : Nat) : Int), .int .i64 ((row.length : Nat) : Int)]), .some (aagg Tryz.prog .eql 35 (.tmp 100) (.tmp 104) (.agg #[.int .i64 ((q : Nat) : Int), .int .i64 ((row.length : Nat) : Int)]) (.agg #[.int .i64 ((q : Nat) : Int), .int .i64 ((row.length : Nat) : Int)])) (.bool true)]) (by kernel_rfl) (by kernel_rfl) (by kernel_rfl) ?_ ?_
    · intro x hx
      simp only [List.mem_cons, List.not_mem_nil, or_false] at hx
      rcases hx with rfl | rfl | rfl | rfl | rfl
      · exact ⟨35, false, hj5⟩
      · exact eq_span _ _
      · exact congrArg (fun b => some (Value.bool b)) (decide_eq_true (by omega))
      · exact ⟨35, false, hj2⟩
      · exact eq_span _ _
    show AWp _ _ _ _ _
    refine AWp.view [(4, .bool true)] (by kernel_rfl) ?_
    exact AWp.ret' (by kernel_rfl) ⟨[.bool true], by kernel_rfl, rfl, hxB⟩
  · have hb : fb = false := by
      cases fb with
      | false => rfl
      | true =>
        obtain ⟨q, x, l, j2, _, hq2, hq3, _⟩ := hyes rfl
        by_cases h : row[q]? = some 97 ∧ q + 1 + runFrom row 97 (q + 1) = row.length
        · have := (hW q hq2).1 h; omega
        · simp only [h, if_false] at hq3; cases hq3
    subst hb
    refine AWp.view [(5, .slice ra row.length rc), (6, .int .i64 ((at0 : Nat) : Int)), (7, .int .i64 ((n : Nat) : Int)), (8, .slice (some ⟨j1, 0, none⟩) 1 (unk 2)), (9, .bool true), (10, sv), (11, .bool false), (12, .int .i64 ((f : Nat) : Int))] (by kernel_rfl) ?_
    refine AWp.seq' (by kernel_rfl) ?_
    refine AWp.seq' (by kernel_rfl) (AWp.region' (by kernel_rfl) ?_)
    refine AOps.run (n := 108) [] [0, 1, 2, 3, 4, 5, 6, 7, 8, 9, 10] [] (cs := []) (by kernel_rfl) (by kernel_rfl) (by kernel_rfl) ?_ ?_
    · intro x hx; cases hx
    show AWp _ _ _ _ _
    refine AWp.view [(5, .slice ra row.length rc), (6, .int .i64 ((at0 : Nat) : Int)), (7, .int .i64 ((n : Nat) : Int)), (8, .slice (some ⟨j1, 0, none⟩) 1 (unk 2)), (9, .bool true), (10, sv), (11, .bool false), (12, .int .i64 ((f : Nat) : Int)), (72, .bool false)] (by kernel_rfl) ?_
    refine AWp.condF (c := .tmp 72) (by kernel_rfl) (by kernel_rfl) ?_
    refine AWp.skip' (by kernel_rfl) ?_
    show AWp _ _ _ _ _
    refine AWp.view [(5, .slice ra row.length rc), (6, .int .i64 ((at0 : Nat) : Int)), (7, .int .i64 ((n : Nat) : Int)), (8, .slice (some ⟨j1, 0, none⟩) 1 (unk 2)), (9, .bool true), (10, sv), (11, .bool false), (12, .int .i64 ((f : Nat) : Int))] (by kernel_rfl) ?_
    refine AWp.seq' (by kernel_rfl) (AWp.region' (by kernel_rfl) ?_)
    refine AOps.call (n := 108) 0 [1, 2, 3, 4, 5, 6, 7, 8, 9, 10, 11, 12, 13, 14, 15, 16, 17, 18, 19, 20, 21, 22, 23, 24, 25, 26, 27, 28, 29, 30, 31, 32, 33, 34, 35] 10 [] (by kernel_rfl) rfl (by kernel_rfl) (by kernel_rfl) (by kernel_rfl) (by kernel_rfl) (by kernel_rfl) (known_at _) ?_
    rintro e B6 ⟨rfl, rfl⟩
    refine ⟨_, rfl, ?_⟩
    refine AOps.run (n := 108) [(7, .blk ([.int .i64 ((at0 : Nat) : Int), .int .i64 ((n : Nat) : Int)])), (11, .val (.bool true)), (18, .val (.bool false))] [1, 2, 3, 4, 5, 6, 7, 8, 9, 10, 11, 12, 13, 14, 15, 16, 17, 18, 19, 20, 21, 22, 23, 24, 25, 26, 27, 28, 29, 30, 31, 32, 33, 34, 35] [] (cs := [.blk (j1) ([.int .i64 ((at0 : Nat) : Int), .int .i64 ((n : Nat) : Int)]), .some (aagg Tryz.prog .eql 35 (.tmp 80) (.tmp 83) (.agg #[.int .i64 ((at0 : Nat) : Int), .int .i64 ((n : Nat) : Int)]) (.agg #[.int .i64 ((at0 : Nat) : Int), .int .i64 ((n : Nat) : Int)])) (.bool true), .some (some (.bool (decide (((f : Nat) : Int) < ((row.length : Nat) : Int))))) (.bool false)]) (by kernel_rfl) (by kernel_rfl) (by kernel_rfl) ?_ ?_
    · intro x hx
      simp only [List.mem_cons, List.not_mem_nil, or_false] at hx
      rcases hx with rfl | rfl | rfl
      · exact ⟨35, false, hj5⟩
      · exact eq_span _ _
      · exact congrArg (fun b => some (Value.bool b)) (decide_eq_false (by omega))
    show AWp _ _ _ _ _
    refine AWp.view [(4, .bool true)] (by kernel_rfl) ?_
    exact AWp.ret' (by kernel_rfl) ⟨[.bool true], by kernel_rfl, rfl, hxB⟩
end Go.Proofs.YtihpfgnigpmihaaGreat
