/- Stable sort of a short list that is in order. -/
import Derived.Test.YtihpfgnigpmihaaGreatC8
set_option linter.unusedVariables false
set_option linter.unusedSimpArgs false
set_option maxRecDepth 100000
namespace Go.Proofs.YtihpfgnigpmihaaGreat
open Go

theorem stable_spec {rs : List Res} (hs : Fine rs) {ra : Option Addr} {id c : Nat} {B : AHeap} (hv : rs ≠ [] → ra = some ⟨id, 0, none⟩ ∧ B.get id = some (.cells (resCells rs) 56 false)) :
    ACall Tryz.prog 91 [.slice ra rs.length c, .int .i64 (rs.length : Int), .func (.func 72) #[] #[]] B fun e B' => e = .ret (.tuple #[]) ∧ Ext B B' := by
  have hlen : rs.length ≤ 20 := hs.2.2
  refine ACall.walk (fn := Tryz.f91) (c := bodyOf Tryz.prog 91) (by kernel_rfl) (by kernel_rfl) (by kernel_rfl) ?_
  refine AWp.seq' (by kernel_rfl) (AWp.region' (by kernel_rfl) ?_)
  refine AOps.run (n := 63) [] [0] [] (cs := []) (by kernel_rfl) (by kernel_rfl) (by kernel_rfl) ?_ ?_
  · intro x hx; cases hx
  show AWp _ _ _ _ _
  refine AWp.view [(0, .slice ra rs.length c), (1, .int .i64 (rs.length : Int)), (2, .func (.func 72) #[] #[]), (6, .int .i64 ((20 : Nat) : Int))] (by kernel_rfl) ?_
  refine AWp.seq' (by kernel_rfl) (AWp.region' (by kernel_rfl) ?_)
  refine AOps.run (n := 63) [] [0, 1, 2] [] (cs := []) (by kernel_rfl) (by kernel_rfl) (by kernel_rfl) ?_ ?_
  · intro x hx; cases hx
  show AWp _ _ _ _ _
  refine AWp.view [(0, .slice ra rs.length c), (1, .int .i64 (rs.length : Int)), (2, .func (.func 72) #[] #[]), (6, .int .i64 ((20 : Nat) : Int)), (7, .int .i64 ((0 : Nat) : Int)), (8, .int .i64 ((20 : Nat) : Int))] (by kernel_rfl) ?_
  refine AWp.seq' (by kernel_rfl) (AWp.block' (id := 0) (by kernel_rfl) ?_)
  refine AWp.loop' (by kernel_rfl) (N := rs.length - 0) (fun m E H => ∃ a : Nat, m = rs.length - a ∧ a ≤ rs.length ∧ AEnv.le (envOf 63 (mkE [(0, .slice ra rs.length c), (1, .int .i64 (rs.length : Int)), (2, .func (.func 72) #[] #[]), (6, .int .i64 ((20 : Nat) : Int)), (7, .int .i64 ((a : Nat) : Int)), (8, .int .i64 ((a + 20 : Nat) : Int))])) E ∧ Ext B H) ⟨0, rfl, Nat.zero_le _, AEnv.le_refl _, Ext.refl B⟩ ?_
  rintro m E H ⟨a, rfl, ha, hE, hx⟩
  refine AWp.env hE ?_
  refine AWp.seq' (by kernel_rfl) ?_
  refine AWp.seq' (by kernel_rfl) (AWp.region' (by kernel_rfl) ?_)
  refine AOps.run (n := 63) [(2, .val (.bool (decide (((a + 20 : Nat) : Int) ≤ (rs.length : Int)))))] [0, 1, 2] [] (cs := [.some (some (.bool (decide (((a + 20 : Nat) : Int) ≤ (rs.length : Int))))) (.bool (decide (((a + 20 : Nat) : Int) ≤ (rs.length : Int))))]) (by kernel_rfl) (by kernel_rfl) (by kernel_rfl) ?_ ?_
  · intro x hx
    simp only [List.mem_cons, List.not_mem_nil, or_false] at hx
    subst hx
    rfl
  show AWp _ _ _ _ _
  refine AWp.view [(0, .slice ra rs.length c), (1, .int .i64 (rs.length : Int)), (2, .func (.func 72) #[] #[]), (6, .int .i64 ((20 : Nat) : Int)), (7, .int .i64 ((a : Nat) : Int)), (8, .int .i64 ((a + 20 : Nat) : Int)), (13, .bool (decide (((a + 20 : Nat) : Int) ≤ (rs.length : Int))))] (by kernel_rfl) ?_
  refine AWp.cond_ (c := .tmp 13) (t := decide (((a + 20 : Nat) : Int) ≤ (rs.length : Int))) (by kernel_rfl) (by kernel_rfl) (fun hT => ?_) (fun hF => ?_)
  · have hlt : a + 20 ≤ rs.length := by have := of_decide_eq_true hT; omega
    refine AWp.skip' (by kernel_rfl) ?_
    show AWp _ _ _ _ _
    refine AWp.block' (id := 1) (by kernel_rfl) ?_
    refine AWp.seq' (by kernel_rfl) (AWp.region' (by kernel_rfl) ?_)
    refine AOps.run (n := 63) [] [0, 1, 2, 3] [4] (cs := []) (by kernel_rfl) (by kernel_rfl) (by kernel_rfl) ?_ ?_
    · intro x hx; cases hx
    refine AOps.call (n := 63) 4 [] 113 [.slice ra rs.length c, .int .i64 ((a : Nat) : Int), .int .i64 ((a + 20 : Nat) : Int), .func (.func 72) #[] #[]] (by kernel_rfl) rfl (by kernel_rfl) (by kernel_rfl) (by kernel_rfl) (by kernel_rfl) (by kernel_rfl) (insertion_spec hs (fun hr => ⟨(hv hr).1, hx.get (hv hr).2⟩) hlt (by unfold far; omega)) ?_
    rintro e H2 ⟨rfl, hx2⟩
    refine ⟨_, rfl, ?_⟩
    show AWp _ _ _ _ _
    refine AWp.view [(0, .slice ra rs.length c), (1, .int .i64 (rs.length : Int)), (2, .func (.func 72) #[] #[]), (6, .int .i64 ((20 : Nat) : Int)), (7, .int .i64 ((a : Nat) : Int)), (8, .int .i64 ((a + 20 : Nat) : Int))] (by kernel_rfl) ?_
    refine AWp.seq' (by kernel_rfl) (AWp.region' (by kernel_rfl) ?_)
    refine AOps.run (n := 63) [] [0, 1] [] (cs := []) (by kernel_rfl) (by kernel_rfl) (by kernel_rfl) ?_ ?_
    · intro x hx; cases hx
    show AWp _ _ _ _ _
    refine AWp.view [(0, .slice ra rs.length c), (1, .int .i64 (rs.length : Int)), (2, .func (.func 72) #[] #[]), (6, .int .i64 ((20 : Nat) : Int)), (7, .int .i64 ((a + 20 : Nat) : Int)), (8, .int .i64 ((a + 20 : Nat) : Int))] (by kernel_rfl) ?_
    refine AWp.region' (by kernel_rfl) ?_
    refine AOps.run (n := 63) [(2, .val (.int .i64 ((a + 20 + 20 : Nat) : Int)))] [0, 1, 2, 3] [] (cs := [.some (some (.int .i64 (IntKind.i64.wrap (((a + 20 : Nat) : Int) + ((20 : Nat) : Int))))) (.int .i64 ((a + 20 + 20 : Nat) : Int))]) (by kernel_rfl) (by kernel_rfl) (by kernel_rfl) ?_ ?_
    · intro x hx
      simp only [List.mem_cons, List.not_mem_nil, or_false] at hx
      subst hx
      exact congrArg (fun x => some (Value.int .i64 x)) (wrap_add (by omega))
    exact ⟨rs.length - (a + 20), by omega, a + 20, rfl, hlt, mkE_le [(0, .slice ra rs.length c), (1, .int .i64 (rs.length : Int)), (2, .func (.func 72) #[] #[]), (6, .int .i64 ((20 : Nat) : Int)), (7, .int .i64 ((a + 20 : Nat) : Int)), (8, .int .i64 ((a + 20 + 20 : Nat) : Int))] (by kernel_rfl), hx.trans hx2⟩
  · refine AWp.exit' (id := 0) (by kernel_rfl) ?_
    show AWp _ _ _ _ _
    refine AWp.view [(0, .slice ra rs.length c), (1, .int .i64 (rs.length : Int)), (2, .func (.func 72) #[] #[]), (6, .int .i64 ((20 : Nat) : Int)), (7, .int .i64 ((a : Nat) : Int)), (8, .int .i64 ((a + 20 : Nat) : Int))] (by kernel_rfl) ?_
    refine AWp.seq' (by kernel_rfl) (AWp.region' (by kernel_rfl) ?_)
    refine AOps.run (n := 63) [] [0, 1, 2, 3] [4] (cs := []) (by kernel_rfl) (by kernel_rfl) (by kernel_rfl) ?_ ?_
    · intro x hx; cases hx
    refine AOps.call (n := 63) 4 [] 113 [.slice ra rs.length c, .int .i64 ((a : Nat) : Int), .int .i64 (rs.length : Int), .func (.func 72) #[] #[]] (by kernel_rfl) rfl (by kernel_rfl) (by kernel_rfl) (by kernel_rfl) (by kernel_rfl) (by kernel_rfl) (insertion_spec hs (fun hr => ⟨(hv hr).1, hx.get (hv hr).2⟩) (Nat.le_refl _) (by unfold far; omega)) ?_
    rintro e H2 ⟨rfl, hx2⟩
    refine ⟨_, rfl, ?_⟩
    show AWp _ _ _ _ _
    refine AWp.view [(0, .slice ra rs.length c), (1, .int .i64 (rs.length : Int)), (2, .func (.func 72) #[] #[]), (6, .int .i64 ((20 : Nat) : Int)), (7, .int .i64 ((a : Nat) : Int)), (8, .int .i64 ((a + 20 : Nat) : Int))] (by kernel_rfl) ?_
    refine AWp.block' (id := 2) (by kernel_rfl) ?_
    refine AWp.loop1 (by kernel_rfl) ?_
    refine AWp.seq' (by kernel_rfl) ?_
    refine AWp.seq' (by kernel_rfl) (AWp.region' (by kernel_rfl) ?_)
    refine AOps.run (n := 63) [(2, .val (.bool false))] [0, 1, 2] [] (cs := [.some (some (.bool (decide (((20 : Nat) : Int) < (rs.length : Int))))) (.bool false)]) (by kernel_rfl) (by kernel_rfl) (by kernel_rfl) ?_ ?_
    · intro x hx
      simp only [List.mem_cons, List.not_mem_nil, or_false] at hx
      subst hx
      exact congrArg (fun b => some (Value.bool b)) (decide_eq_false (by omega))
    show AWp _ _ _ _ _
    refine AWp.view [(30, .bool false)] (by kernel_rfl) ?_
    refine AWp.condF (c := .tmp 30) (by kernel_rfl) (by kernel_rfl) ?_
    refine AWp.exit' (id := 2) (by kernel_rfl) ?_
    exact ⟨[], by kernel_rfl, rfl, hx.trans hx2⟩
theorem sort_spec {rs : List Res} (hs : Fine rs) {ra : Option Addr} {id c : Nat} {B : AHeap} (hv : rs ≠ [] → ra = some ⟨id, 0, none⟩ ∧ B.get id = some (.cells (resCells rs) 56 false)) :
    ACall Tryz.prog 71 [.slice ra rs.length c, .func (.func 72) #[] #[]] B fun e B' => e = .ret (.tuple #[]) ∧ Ext B B' := by
  refine ACall.walk (fn := Tryz.f71) (c := bodyOf Tryz.prog 71) (by kernel_rfl) (by kernel_rfl) (by kernel_rfl) ?_
  refine AWp.region' (by kernel_rfl) ?_
  refine AOps.run (n := 9) [] [0, 1, 2, 3] [4] (cs := []) (by kernel_rfl) (by kernel_rfl) (by kernel_rfl) ?_ ?_
  · intro x hx; cases hx
  refine AOps.call (n := 9) 4 [] 91 [.slice ra rs.length c, .int .i64 (rs.length : Int), .func (.func 72) #[] #[]] (by kernel_rfl) rfl (by kernel_rfl) (by kernel_rfl) (by kernel_rfl) (by kernel_rfl) (by kernel_rfl) (stable_spec hs hv) ?_
  rintro e H2 ⟨rfl, hx2⟩
  exact ⟨_, rfl, [], by kernel_rfl, rfl, hx2⟩
end Go.Proofs.YtihpfgnigpmihaaGreat
