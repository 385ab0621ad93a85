/- Stable sort of a list that is in order. -/
import Derived.Test.YtihpfgnigpmihaaGreatC8
set_option linter.unusedVariables false
set_option linter.unusedSimpArgs false
set_option maxRecDepth 100000
namespace Go.Proofs.YtihpfgnigpmihaaGreat
open Go

theorem wrap_sub {a b : Nat} (h : b ≤ a) (h2 : a < 4611686018427387904) : IntKind.i64.wrap ((a : Int) - (b : Int)) = ((a - b : Nat) : Int) := by
  rw [wrap_id (by omega) (by omega)]; omega
theorem wrap_u64 {n : Int} (h1 : 0 ≤ n) (h2 : n < 9223372036854775808) : IntKind.u64.wrap n = n := by
  unfold IntKind.wrap
  have hb : IntKind.u64.bits = 64 := rfl
  have hs : IntKind.u64.signed = false := rfl
  simp only [hb, hs, Bool.false_and]
  simp
  omega
theorem conv_to_u64 {k : Nat} (hk : k < 4611686018427387904) : aconv Tryz.prog 3 115 (.int .i64 ((k : Nat) : Int)) = some (.int .u64 ((k : Nat) : Int)) := by
  have h : aconv Tryz.prog 3 115 (.int .i64 ((k : Nat) : Int)) = some (.int .u64 (IntKind.u64.wrap (k : Int))) := by kernel_rfl
  rw [h, wrap_u64 (by omega) (by omega)]
theorem conv_of_u64 {k : Nat} (hk : k < 4611686018427387904) : aconv Tryz.prog 115 3 (.int .u64 ((k : Nat) : Int)) = some (.int .i64 ((k : Nat) : Int)) := by
  have h : aconv Tryz.prog 115 3 (.int .u64 ((k : Nat) : Int)) = some (.int .i64 (IntKind.i64.wrap (k : Int))) := by kernel_rfl
  rw [h, wrap_id (by omega) (by omega)]
theorem half_u64 (k : Nat) : anum .shr .u64 .u64 ((k : Nat) : Int) 1 = some (.int .u64 ((k / 2 : Nat) : Int)) := by
  have h : anum .shr .u64 .u64 ((k : Nat) : Int) 1 = some (.int .u64 (((k : Nat) : Int).fdiv 2)) := by kernel_rfl
  rw [h]
  congr 2
  rw [Int.fdiv_eq_ediv_of_nonneg _ (by decide)]
  omega

theorem sym_spec {rs : List Res} (hs : Fine rs) {ra : Option Addr} {id c : Nat} : ∀ (d a m b : Nat), b - a = d → a < m → m < b → b ≤ rs.length → ∀ (B : AHeap), (rs ≠ [] → ra = some ⟨id, 0, none⟩ ∧ B.get id = some (.cells (resCells rs) 56 false)) →
    ACall Tryz.prog 114 [.slice ra rs.length c, .int .i64 (a : Int), .int .i64 (m : Int), .int .i64 (b : Int), .func (.func 72) #[] #[]] B fun e B' => e = .ret (.tuple #[]) ∧ Ext B B' := by
  have hlen : rs.length < far := Nat.lt_of_le_of_lt hs.2.2 (by decide)
  unfold far at hlen
  intro d
  induction d using Nat.strongRecOn with
  | _ d ihd =>
  intro a m b hd ham hmb hbl B hv
  have ih : ∀ a' m' b', b' - a' < b - a → a' < m' → m' < b' → b' ≤ rs.length → ∀ (B : AHeap), (rs ≠ [] → ra = some ⟨id, 0, none⟩ ∧ B.get id = some (.cells (resCells rs) 56 false)) →
      ACall Tryz.prog 114 [.slice ra rs.length c, .int .i64 (a' : Int), .int .i64 (m' : Int), .int .i64 (b' : Int), .func (.func 72) #[] #[]] B fun e B' => e = .ret (.tuple #[]) ∧ Ext B B' :=
    fun a' m' b' h => ihd (b' - a') (hd ▸ h) a' m' b' rfl
  obtain ⟨hra, hB⟩ := hv (fun e => by rw [e] at hbl; simp at hbl; omega)
  refine ACall.walk (fn := Tryz.f114) (c := bodyOf Tryz.prog 114) (by kernel_rfl) (by kernel_rfl) (by kernel_rfl) ?_
  refine AWp.seq' (by kernel_rfl) ?_
  refine AWp.seq' (by kernel_rfl) (AWp.region' (by kernel_rfl) ?_)
  refine AOps.run (n := 220) [(2, .val (.int .i64 ((m - a : Nat) : Int))), (3, .val (.bool (decide (((m - a : Nat) : Int) = ((1 : Nat) : Int)))))] [0, 1, 2, 3] [] (cs := [.some (some (.int .i64 (IntKind.i64.wrap (((m : Nat) : Int) - ((a : Nat) : Int))))) (.int .i64 ((m - a : Nat) : Int)), .some (some (.bool (decide (((m - a : Nat) : Int) = ((1 : Nat) : Int))))) (.bool (decide (((m - a : Nat) : Int) = ((1 : Nat) : Int))))]) (by kernel_rfl) (by kernel_rfl) (by kernel_rfl) ?_ ?_
  · intro x hx
    simp only [List.mem_cons, List.not_mem_nil, or_false] at hx
    rcases hx with rfl | rfl
    · exact congrArg (fun x => some (Value.int .i64 x)) (wrap_sub (by omega) (by omega))
    · rfl
  show AWp _ _ _ _ _
  refine AWp.view [(0, .slice ra rs.length c), (1, .int .i64 ((a : Nat) : Int)), (2, .int .i64 ((m : Nat) : Int)), (3, .int .i64 ((b : Nat) : Int)), (4, .func (.func 72) #[] #[]), (28, .bool (decide (((m - a : Nat) : Int) = ((1 : Nat) : Int))))] (by kernel_rfl) ?_
  refine AWp.cond_ (c := .tmp 28) (t := decide (((m - a : Nat) : Int) = ((1 : Nat) : Int))) (by kernel_rfl) (by kernel_rfl) (fun hT => ?_) (fun hF => ?_)
  · have hm1 : m = a + 1 := by have := of_decide_eq_true hT; omega
    refine AWp.seq' (by kernel_rfl) (AWp.region' (by kernel_rfl) ?_)
    refine AOps.run (n := 220) [] [0, 1] [] (cs := []) (by kernel_rfl) (by kernel_rfl) (by kernel_rfl) ?_ ?_
    · intro x hx; cases hx
    show AWp _ _ _ _ _
    refine AWp.view [(0, .slice ra rs.length c), (1, .int .i64 ((a : Nat) : Int)), (2, .int .i64 ((m : Nat) : Int)), (3, .int .i64 ((b : Nat) : Int)), (4, .func (.func 72) #[] #[]), (10, .int .i64 ((m : Nat) : Int))] (by kernel_rfl) ?_
    refine AWp.seq' (by kernel_rfl) (AWp.region' (by kernel_rfl) ?_)
    refine AOps.run (n := 220) [] [0, 1] [] (cs := []) (by kernel_rfl) (by kernel_rfl) (by kernel_rfl) ?_ ?_
    · intro x hx; cases hx
    show AWp _ _ _ _ _
    refine AWp.view [(0, .slice ra rs.length c), (1, .int .i64 ((a : Nat) : Int)), (2, .int .i64 ((m : Nat) : Int)), (3, .int .i64 ((b : Nat) : Int)), (4, .func (.func 72) #[] #[]), (10, .int .i64 ((m : Nat) : Int)), (11, .int .i64 ((b : Nat) : Int))] (by kernel_rfl) ?_
    refine AWp.seq' (by kernel_rfl) (AWp.block' (id := 0) (by kernel_rfl) ?_)
    refine AWp.loop' (by kernel_rfl) (N := b) (fun μ E H => ∃ j : Nat, j = μ ∧ m ≤ j ∧ j ≤ b ∧ AEnv.le (envOf 220 (mkE [(0, .slice ra rs.length c), (1, .int .i64 ((a : Nat) : Int)), (2, .int .i64 ((m : Nat) : Int)), (3, .int .i64 ((b : Nat) : Int)), (4, .func (.func 72) #[] #[]), (10, .int .i64 ((m : Nat) : Int)), (11, .int .i64 ((j : Nat) : Int))])) E ∧ Ext B H) ⟨b, rfl, by omega, Nat.le_refl _, AEnv.le_refl _, Ext.refl B⟩ ?_
    rintro μ E H ⟨j, rfl, hj1, hj2, hE, hx⟩
    refine AWp.env hE ?_
    refine AWp.seq' (by kernel_rfl) ?_
    refine AWp.seq' (by kernel_rfl) (AWp.region' (by kernel_rfl) ?_)
    refine AOps.run (n := 220) [(2, .val (.bool (decide (((m : Nat) : Int) < ((j : Nat) : Int)))))] [0, 1, 2] [] (cs := [.some (some (.bool (decide (((m : Nat) : Int) < ((j : Nat) : Int))))) (.bool (decide (((m : Nat) : Int) < ((j : Nat) : Int))))]) (by kernel_rfl) (by kernel_rfl) (by kernel_rfl) ?_ ?_
    · intro x hx
      simp only [List.mem_cons, List.not_mem_nil, or_false] at hx
      subst hx
      rfl
    show AWp _ _ _ _ _
    refine AWp.view [(0, .slice ra rs.length c), (1, .int .i64 ((a : Nat) : Int)), (2, .int .i64 ((m : Nat) : Int)), (3, .int .i64 ((b : Nat) : Int)), (4, .func (.func 72) #[] #[]), (10, .int .i64 ((m : Nat) : Int)), (11, .int .i64 ((j : Nat) : Int)), (33, .bool (decide (((m : Nat) : Int) < ((j : Nat) : Int))))] (by kernel_rfl) ?_
    refine AWp.cond_ (c := .tmp 33) (t := decide (((m : Nat) : Int) < ((j : Nat) : Int))) (by kernel_rfl) (by kernel_rfl) (fun hT => ?_) (fun hF => ?_)
    · have hlt : m < j := by have := of_decide_eq_true hT; omega
      refine AWp.skip' (by kernel_rfl) ?_
      show AWp _ _ _ _ _
      refine AWp.block' (id := 1) (by kernel_rfl) ?_
      refine AWp.seq' (by kernel_rfl) (AWp.region' (by kernel_rfl) ?_)
      refine AOps.run (n := 220) [(2, .val (.int .i64 ((m + j : Nat) : Int))), (3, .val (.int .u64 ((m + j : Nat) : Int))), (4, .val (.int .u64 (((m + j) / 2 : Nat) : Int))), (5, .val (.int .i64 (((m + j) / 2 : Nat) : Int)))] [0, 1, 2, 3, 4, 5, 6] [] (cs := [.some (some (.int .i64 (IntKind.i64.wrap (((m : Nat) : Int) + ((j : Nat) : Int))))) (.int .i64 ((m + j : Nat) : Int)), .some (aconv Tryz.prog 3 115 (.int .i64 ((m + j : Nat) : Int))) (.int .u64 ((m + j : Nat) : Int)), .some (anum .shr .u64 .u64 ((m + j : Nat) : Int) 1) (.int .u64 (((m + j) / 2 : Nat) : Int)), .some (aconv Tryz.prog 115 3 (.int .u64 (((m + j) / 2 : Nat) : Int))) (.int .i64 (((m + j) / 2 : Nat) : Int))]) (by kernel_rfl) (by kernel_rfl) (by kernel_rfl) ?_ ?_
      · intro x hx
        simp only [List.mem_cons, List.not_mem_nil, or_false] at hx
        rcases hx with rfl | rfl | rfl | rfl
        · exact congrArg (fun x => some (Value.int .i64 x)) (wrap_add (by omega))
        · exact conv_to_u64 (by omega)
        · exact half_u64 _
        · exact conv_of_u64 (by omega)
      show AWp _ _ _ _ _
      have hh1 : m ≤ (m + j) / 2 ∧ (m + j) / 2 < j := by omega
      generalize (m + j) / 2 = h at hh1 ⊢
      refine AWp.view [(0, .slice ra rs.length c), (1, .int .i64 ((a : Nat) : Int)), (2, .int .i64 ((m : Nat) : Int)), (3, .int .i64 ((b : Nat) : Int)), (4, .func (.func 72) #[] #[]), (10, .int .i64 ((m : Nat) : Int)), (11, .int .i64 ((j : Nat) : Int)), (12, .int .i64 ((h : Nat) : Int))] (by kernel_rfl) ?_
      obtain ⟨x, hx1⟩ : ∃ x, rs[h]? = some x := ⟨_, List.getElem?_eq_getElem (by omega)⟩
      obtain ⟨y, hy1⟩ : ∃ y, rs[a]? = some y := ⟨_, List.getElem?_eq_getElem (by omega)⟩
      have hD : ∀ (vs : List Value), vs = resCells rs → ∃ e ro, H.get id = some (.cells vs e ro) := fun vs h => ⟨56, false, by rw [h]; exact hx.get hB⟩
      refine AWp.seq' (by kernel_rfl) (AWp.draw' mixed (.leaf [0, 1, 2, 3, 4, 5, 6, 7, 8, 9, 10]) (by kernel_rfl) (by kernel_rfl) ⟨by kernel_rfl, ?_⟩)
      have hkp : keeps H (opsOf (fst (snd (fst (snd (fst (fst (fst (snd (snd (fst (snd (fst (bodyOf Tryz.prog 114)))))))))))))).toList = H := by kernel_rfl
      rw [hkp]
      clear hkp
      refine AOps.run (n := 220) [(3, .val (.pointer (some ⟨id, 0 + (h) * 21, none⟩))), (4, .part (resCells rs) (x.val)), (7, .val (.pointer (some ⟨id, 0 + (a) * 21, none⟩))), (8, .part (resCells rs) (y.val))] [0, 1, 2, 3, 4, 5, 6, 7, 8] [9, 10] (cs := [.some (aindexAddr Tryz.prog 51 (.slice ra rs.length c) (.int .i64 ((h : Nat) : Int))) (.pointer (some ⟨id, 0 + (h) * 21, none⟩)), .blk (id) (resCells rs), .some (apart' (resCells rs) (0 + (h) * 21) 21 true) (x.val), .some (aindexAddr Tryz.prog 51 (.slice ra rs.length c) (.int .i64 ((a : Nat) : Int))) (.pointer (some ⟨id, 0 + (a) * 21, none⟩)), .blk (id) (resCells rs), .some (apart' (resCells rs) (0 + (a) * 21) 21 true) (y.val)]) (by kernel_rfl) (by kernel_rfl) (by kernel_rfl) ?_ ?_
      · intro x hx
        simp only [List.mem_cons, List.not_mem_nil, or_false] at hx
        rcases hx with rfl | rfl | rfl | rfl | rfl | rfl
        · rw [hra]; exact indexAddr_ok sl51 (by omega)
        · exact hD _ rfl
        · exact res_part hx1
        · rw [hra]; exact indexAddr_ok sl51 (by omega)
        · exact hD _ rfl
        · exact res_part hy1
      refine AOps.call (n := 220) 9 [10] 72 [x.val, y.val] (by kernel_rfl) rfl (by kernel_rfl) (by kernel_rfl) (by kernel_rfl) (by kernel_rfl) (by kernel_rfl) (cmp_spec x y H) ?_
      rintro e H2 ⟨rfl, hx2⟩
      refine ⟨_, rfl, ?_⟩
      refine AOps.run (n := 220) [(10, .val (.bool false))] [10] [] (cs := [.some (some (.bool (decide (IntKind.i64.wrap ((y.stop : Int) - (x.stop : Int)) < 0)))) (.bool false)]) (by kernel_rfl) (by kernel_rfl) (by kernel_rfl) ?_ ?_
      · intro x hx
        simp only [List.mem_cons, List.not_mem_nil, or_false] at hx
        subst hx
        exact congrArg (fun b => some (Value.bool b)) (decide_eq_false (hs.cmp (by omega) hy1 hx1))
      show AWp _ _ _ _ _
      refine AWp.view [(0, .slice ra rs.length c), (1, .int .i64 ((a : Nat) : Int)), (2, .int .i64 ((m : Nat) : Int)), (3, .int .i64 ((b : Nat) : Int)), (4, .func (.func 72) #[] #[]), (10, .int .i64 ((m : Nat) : Int)), (11, .int .i64 ((j : Nat) : Int)), (12, .int .i64 ((h : Nat) : Int)), (50, .bool false)] (by kernel_rfl) ?_
      refine AWp.condF (c := .tmp 50) (by kernel_rfl) (by kernel_rfl) ?_
      refine AWp.region' (by kernel_rfl) ?_
      refine AOps.run (n := 220) [] [0, 1] [] (cs := []) (by kernel_rfl) (by kernel_rfl) (by kernel_rfl) ?_ ?_
      · intro x hx; cases hx
      exact ⟨h, by omega, h, rfl, by omega, by omega, mkE_le [(0, .slice ra rs.length c), (1, .int .i64 ((a : Nat) : Int)), (2, .int .i64 ((m : Nat) : Int)), (3, .int .i64 ((b : Nat) : Int)), (4, .func (.func 72) #[] #[]), (10, .int .i64 ((m : Nat) : Int)), (11, .int .i64 ((h : Nat) : Int))] (by kernel_rfl), hx.trans hx2⟩
    · have hge : j = m := by have := of_decide_eq_false hF; omega
      subst hge
      refine AWp.exit' (id := 0) (by kernel_rfl) ?_
      show AWp _ _ _ _ _
      refine AWp.view [(0, .slice ra rs.length c), (1, .int .i64 ((a : Nat) : Int)), (2, .int .i64 ((j : Nat) : Int)), (3, .int .i64 ((b : Nat) : Int)), (4, .func (.func 72) #[] #[]), (10, .int .i64 ((j : Nat) : Int))] (by kernel_rfl) ?_
      refine AWp.seq' (by kernel_rfl) ?_
      refine AWp.seq' (by kernel_rfl) (AWp.region' (by kernel_rfl) ?_)
      refine AOps.run (n := 220) [] [0, 1] [] (cs := []) (by kernel_rfl) (by kernel_rfl) (by kernel_rfl) ?_ ?_
      · intro x hx; cases hx
      show AWp _ _ _ _ _
      refine AWp.view [(0, .slice ra rs.length c), (1, .int .i64 ((a : Nat) : Int)), (2, .int .i64 ((j : Nat) : Int)), (3, .int .i64 ((b : Nat) : Int)), (4, .func (.func 72) #[] #[]), (10, .int .i64 ((j : Nat) : Int)), (13, .int .i64 ((a : Nat) : Int))] (by kernel_rfl) ?_
      refine AWp.block' (id := 2) (by kernel_rfl) ?_
      refine AWp.loop1 (by kernel_rfl) ?_
      refine AWp.seq' (by kernel_rfl) ?_
      refine AWp.seq' (by kernel_rfl) (AWp.region' (by kernel_rfl) ?_)
      refine AOps.run (n := 220) [(2, .val (.int .i64 ((j - 1 : Nat) : Int))), (3, .val (.bool false))] [0, 1, 2, 3] [] (cs := [.some (some (.int .i64 (IntKind.i64.wrap (((j : Nat) : Int) - ((1 : Nat) : Int))))) (.int .i64 ((j - 1 : Nat) : Int)), .some (some (.bool (decide (((a : Nat) : Int) < ((j - 1 : Nat) : Int))))) (.bool false)]) (by kernel_rfl) (by kernel_rfl) (by kernel_rfl) ?_ ?_
      · intro x hx
        simp only [List.mem_cons, List.not_mem_nil, or_false] at hx
        rcases hx with rfl | rfl
        · exact congrArg (fun x => some (Value.int .i64 x)) (wrap_sub (by omega) (by omega))
        · exact congrArg (fun b => some (Value.bool b)) (decide_eq_false (by omega))
      show AWp _ _ _ _ _
      refine AWp.view [(58, .bool false)] (by kernel_rfl) ?_
      refine AWp.condF (c := .tmp 58) (by kernel_rfl) (by kernel_rfl) ?_
      refine AWp.exit' (id := 2) (by kernel_rfl) ?_
      show AWp _ _ _ _ _
      exact AWp.ret' (by kernel_rfl) ⟨[], by kernel_rfl, rfl, hx⟩
  · have hm1 : m ≠ a + 1 := fun e => by have := of_decide_eq_false hF; omega
    refine AWp.skip' (by kernel_rfl) ?_
    show AWp _ _ _ _ _
    refine AWp.view [(0, .slice ra rs.length c), (1, .int .i64 ((a : Nat) : Int)), (2, .int .i64 ((m : Nat) : Int)), (3, .int .i64 ((b : Nat) : Int)), (4, .func (.func 72) #[] #[])] (by kernel_rfl) ?_
    refine AWp.seq' (by kernel_rfl) ?_
    refine AWp.seq' (by kernel_rfl) (AWp.region' (by kernel_rfl) ?_)
    refine AOps.run (n := 220) [(2, .val (.int .i64 ((b - m : Nat) : Int))), (3, .val (.bool (decide (((b - m : Nat) : Int) = ((1 : Nat) : Int)))))] [0, 1, 2, 3] [] (cs := [.some (some (.int .i64 (IntKind.i64.wrap (((b : Nat) : Int) - ((m : Nat) : Int))))) (.int .i64 ((b - m : Nat) : Int)), .some (some (.bool (decide (((b - m : Nat) : Int) = ((1 : Nat) : Int))))) (.bool (decide (((b - m : Nat) : Int) = ((1 : Nat) : Int))))]) (by kernel_rfl) (by kernel_rfl) (by kernel_rfl) ?_ ?_
    · intro x hx
      simp only [List.mem_cons, List.not_mem_nil, or_false] at hx
      rcases hx with rfl | rfl
      · exact congrArg (fun x => some (Value.int .i64 x)) (wrap_sub (by omega) (by omega))
      · rfl
    show AWp _ _ _ _ _
    refine AWp.view [(0, .slice ra rs.length c), (1, .int .i64 ((a : Nat) : Int)), (2, .int .i64 ((m : Nat) : Int)), (3, .int .i64 ((b : Nat) : Int)), (4, .func (.func 72) #[] #[]), (80, .bool (decide (((b - m : Nat) : Int) = ((1 : Nat) : Int))))] (by kernel_rfl) ?_
    refine AWp.cond_ (c := .tmp 80) (t := decide (((b - m : Nat) : Int) = ((1 : Nat) : Int))) (by kernel_rfl) (by kernel_rfl) (fun hT => ?_) (fun hF => ?_)
    · have hb1 : b = m + 1 := by have := of_decide_eq_true hT; omega
      refine AWp.seq' (by kernel_rfl) (AWp.region' (by kernel_rfl) ?_)
      refine AOps.run (n := 220) [] [0, 1] [] (cs := []) (by kernel_rfl) (by kernel_rfl) (by kernel_rfl) ?_ ?_
      · intro x hx; cases hx
      show AWp _ _ _ _ _
      refine AWp.view [(0, .slice ra rs.length c), (1, .int .i64 ((a : Nat) : Int)), (2, .int .i64 ((m : Nat) : Int)), (3, .int .i64 ((b : Nat) : Int)), (4, .func (.func 72) #[] #[]), (14, .int .i64 ((a : Nat) : Int))] (by kernel_rfl) ?_
      refine AWp.seq' (by kernel_rfl) (AWp.region' (by kernel_rfl) ?_)
      refine AOps.run (n := 220) [] [0, 1] [] (cs := []) (by kernel_rfl) (by kernel_rfl) (by kernel_rfl) ?_ ?_
      · intro x hx; cases hx
      show AWp _ _ _ _ _
      refine AWp.view [(0, .slice ra rs.length c), (1, .int .i64 ((a : Nat) : Int)), (2, .int .i64 ((m : Nat) : Int)), (3, .int .i64 ((b : Nat) : Int)), (4, .func (.func 72) #[] #[]), (14, .int .i64 ((a : Nat) : Int)), (15, .int .i64 ((m : Nat) : Int))] (by kernel_rfl) ?_
      refine AWp.seq' (by kernel_rfl) (AWp.block' (id := 4) (by kernel_rfl) ?_)
      refine AWp.loop' (by kernel_rfl) (N := m - a) (fun μ E H => ∃ i : Nat, μ = m - i ∧ a ≤ i ∧ i ≤ m ∧ AEnv.le (envOf 220 (mkE [(0, .slice ra rs.length c), (1, .int .i64 ((a : Nat) : Int)), (2, .int .i64 ((m : Nat) : Int)), (3, .int .i64 ((b : Nat) : Int)), (4, .func (.func 72) #[] #[]), (14, .int .i64 ((i : Nat) : Int)), (15, .int .i64 ((m : Nat) : Int))])) E ∧ Ext B H) ⟨a, rfl, Nat.le_refl _, by omega, AEnv.le_refl _, Ext.refl B⟩ ?_
      rintro μ E H ⟨i, rfl, hi1, hi2, hE, hx⟩
      refine AWp.env hE ?_
      refine AWp.seq' (by kernel_rfl) ?_
      refine AWp.seq' (by kernel_rfl) (AWp.region' (by kernel_rfl) ?_)
      refine AOps.run (n := 220) [(2, .val (.bool (decide (((i : Nat) : Int) < ((m : Nat) : Int)))))] [0, 1, 2] [] (cs := [.some (some (.bool (decide (((i : Nat) : Int) < ((m : Nat) : Int))))) (.bool (decide (((i : Nat) : Int) < ((m : Nat) : Int))))]) (by kernel_rfl) (by kernel_rfl) (by kernel_rfl) ?_ ?_
      · intro x hx
        simp only [List.mem_cons, List.not_mem_nil, or_false] at hx
        subst hx
        rfl
      show AWp _ _ _ _ _
      refine AWp.view [(0, .slice ra rs.length c), (1, .int .i64 ((a : Nat) : Int)), (2, .int .i64 ((m : Nat) : Int)), (3, .int .i64 ((b : Nat) : Int)), (4, .func (.func 72) #[] #[]), (14, .int .i64 ((i : Nat) : Int)), (15, .int .i64 ((m : Nat) : Int)), (85, .bool (decide (((i : Nat) : Int) < ((m : Nat) : Int))))] (by kernel_rfl) ?_
      refine AWp.cond_ (c := .tmp 85) (t := decide (((i : Nat) : Int) < ((m : Nat) : Int))) (by kernel_rfl) (by kernel_rfl) (fun hT => ?_) (fun hF => ?_)
      · have hlt : i < m := by have := of_decide_eq_true hT; omega
        refine AWp.skip' (by kernel_rfl) ?_
        show AWp _ _ _ _ _
        refine AWp.block' (id := 5) (by kernel_rfl) ?_
        refine AWp.seq' (by kernel_rfl) (AWp.region' (by kernel_rfl) ?_)
        refine AOps.run (n := 220) [(2, .val (.int .i64 ((i + m : Nat) : Int))), (3, .val (.int .u64 ((i + m : Nat) : Int))), (4, .val (.int .u64 (((i + m) / 2 : Nat) : Int))), (5, .val (.int .i64 (((i + m) / 2 : Nat) : Int)))] [0, 1, 2, 3, 4, 5, 6] [] (cs := [.some (some (.int .i64 (IntKind.i64.wrap (((i : Nat) : Int) + ((m : Nat) : Int))))) (.int .i64 ((i + m : Nat) : Int)), .some (aconv Tryz.prog 3 115 (.int .i64 ((i + m : Nat) : Int))) (.int .u64 ((i + m : Nat) : Int)), .some (anum .shr .u64 .u64 ((i + m : Nat) : Int) 1) (.int .u64 (((i + m) / 2 : Nat) : Int)), .some (aconv Tryz.prog 115 3 (.int .u64 (((i + m) / 2 : Nat) : Int))) (.int .i64 (((i + m) / 2 : Nat) : Int))]) (by kernel_rfl) (by kernel_rfl) (by kernel_rfl) ?_ ?_
        · intro x hx
          simp only [List.mem_cons, List.not_mem_nil, or_false] at hx
          rcases hx with rfl | rfl | rfl | rfl
          · exact congrArg (fun x => some (Value.int .i64 x)) (wrap_add (by omega))
          · exact conv_to_u64 (by omega)
          · exact half_u64 _
          · exact conv_of_u64 (by omega)
        show AWp _ _ _ _ _
        have hh1 : i ≤ (i + m) / 2 ∧ (i + m) / 2 < m := by omega
        generalize (i + m) / 2 = h at hh1 ⊢
        refine AWp.view [(0, .slice ra rs.length c), (1, .int .i64 ((a : Nat) : Int)), (2, .int .i64 ((m : Nat) : Int)), (3, .int .i64 ((b : Nat) : Int)), (4, .func (.func 72) #[] #[]), (14, .int .i64 ((i : Nat) : Int)), (15, .int .i64 ((m : Nat) : Int)), (16, .int .i64 ((h : Nat) : Int))] (by kernel_rfl) ?_
        obtain ⟨x, hx1⟩ : ∃ x, rs[m]? = some x := ⟨_, List.getElem?_eq_getElem (by omega)⟩
        obtain ⟨y, hy1⟩ : ∃ y, rs[h]? = some y := ⟨_, List.getElem?_eq_getElem (by omega)⟩
        have hD : ∀ (vs : List Value), vs = resCells rs → ∃ e ro, H.get id = some (.cells vs e ro) := fun vs h => ⟨56, false, by rw [h]; exact hx.get hB⟩
        refine AWp.seq' (by kernel_rfl) (AWp.draw' mixed (.leaf [0, 1, 2, 3, 4, 5, 6, 7, 8, 9, 10, 11]) (by kernel_rfl) (by kernel_rfl) ⟨by kernel_rfl, ?_⟩)
        have hkp : keeps H (opsOf (fst (snd (fst (snd (fst (fst (fst (snd (snd (fst (snd (fst (snd (bodyOf Tryz.prog 114))))))))))))))).toList = H := by kernel_rfl
        rw [hkp]
        clear hkp
        refine AOps.run (n := 220) [(3, .val (.pointer (some ⟨id, 0 + (m) * 21, none⟩))), (4, .part (resCells rs) (x.val)), (7, .val (.pointer (some ⟨id, 0 + (h) * 21, none⟩))), (8, .part (resCells rs) (y.val))] [0, 1, 2, 3, 4, 5, 6, 7, 8] [9, 10, 11] (cs := [.some (aindexAddr Tryz.prog 51 (.slice ra rs.length c) (.int .i64 ((m : Nat) : Int))) (.pointer (some ⟨id, 0 + (m) * 21, none⟩)), .blk (id) (resCells rs), .some (apart' (resCells rs) (0 + (m) * 21) 21 true) (x.val), .some (aindexAddr Tryz.prog 51 (.slice ra rs.length c) (.int .i64 ((h : Nat) : Int))) (.pointer (some ⟨id, 0 + (h) * 21, none⟩)), .blk (id) (resCells rs), .some (apart' (resCells rs) (0 + (h) * 21) 21 true) (y.val)]) (by kernel_rfl) (by kernel_rfl) (by kernel_rfl) ?_ ?_
        · intro x hx
          simp only [List.mem_cons, List.not_mem_nil, or_false] at hx
          rcases hx with rfl | rfl | rfl | rfl | rfl | rfl
          · rw [hra]; exact indexAddr_ok sl51 (by omega)
          · exact hD _ rfl
          · exact res_part hx1
          · rw [hra]; exact indexAddr_ok sl51 (by omega)
          · exact hD _ rfl
          · exact res_part hy1
        refine AOps.call (n := 220) 9 [10, 11] 72 [x.val, y.val] (by kernel_rfl) rfl (by kernel_rfl) (by kernel_rfl) (by kernel_rfl) (by kernel_rfl) (by kernel_rfl) (cmp_spec x y H) ?_
        rintro e H2 ⟨rfl, hx2⟩
        refine ⟨_, rfl, ?_⟩
        refine AOps.run (n := 220) [(10, .val (.bool false))] [10, 11] [] (cs := [.some (some (.bool (decide (IntKind.i64.wrap ((y.stop : Int) - (x.stop : Int)) < 0)))) (.bool false)]) (by kernel_rfl) (by kernel_rfl) (by kernel_rfl) ?_ ?_
        · intro x hx
          simp only [List.mem_cons, List.not_mem_nil, or_false] at hx
          subst hx
          exact congrArg (fun b => some (Value.bool b)) (decide_eq_false (hs.cmp (by omega) hy1 hx1))
        show AWp _ _ _ _ _
        refine AWp.view [(0, .slice ra rs.length c), (1, .int .i64 ((a : Nat) : Int)), (2, .int .i64 ((m : Nat) : Int)), (3, .int .i64 ((b : Nat) : Int)), (4, .func (.func 72) #[] #[]), (14, .int .i64 ((i : Nat) : Int)), (15, .int .i64 ((m : Nat) : Int)), (16, .int .i64 ((h : Nat) : Int)), (103, .bool true)] (by kernel_rfl) ?_
        refine AWp.condT (c := .tmp 103) (by kernel_rfl) (by kernel_rfl) ?_
        refine AWp.region' (by kernel_rfl) ?_
        refine AOps.run (n := 220) [(1, .val (.int .i64 ((h + 1 : Nat) : Int)))] [0, 1, 2] [] (cs := [.some (some (.int .i64 (IntKind.i64.wrap (((h : Nat) : Int) + ((1 : Nat) : Int))))) (.int .i64 ((h + 1 : Nat) : Int))]) (by kernel_rfl) (by kernel_rfl) (by kernel_rfl) ?_ ?_
        · intro x hx
          simp only [List.mem_cons, List.not_mem_nil, or_false] at hx
          subst hx
          exact congrArg (fun x => some (Value.int .i64 x)) (wrap_add (by omega))
        exact ⟨m - (h + 1), by omega, h + 1, rfl, by omega, by omega, mkE_le [(0, .slice ra rs.length c), (1, .int .i64 ((a : Nat) : Int)), (2, .int .i64 ((m : Nat) : Int)), (3, .int .i64 ((b : Nat) : Int)), (4, .func (.func 72) #[] #[]), (14, .int .i64 ((h + 1 : Nat) : Int)), (15, .int .i64 ((m : Nat) : Int))] (by kernel_rfl), hx.trans hx2⟩
      · have hge : i = m := by have := of_decide_eq_false hF; omega
        subst hge
        refine AWp.exit' (id := 4) (by kernel_rfl) ?_
        show AWp _ _ _ _ _
        refine AWp.view [(0, .slice ra rs.length c), (1, .int .i64 ((a : Nat) : Int)), (2, .int .i64 ((i : Nat) : Int)), (3, .int .i64 ((b : Nat) : Int)), (4, .func (.func 72) #[] #[]), (14, .int .i64 ((i : Nat) : Int))] (by kernel_rfl) ?_
        refine AWp.seq' (by kernel_rfl) ?_
        refine AWp.seq' (by kernel_rfl) (AWp.region' (by kernel_rfl) ?_)
        refine AOps.run (n := 220) [] [0, 1] [] (cs := []) (by kernel_rfl) (by kernel_rfl) (by kernel_rfl) ?_ ?_
        · intro x hx; cases hx
        show AWp _ _ _ _ _
        refine AWp.view [(0, .slice ra rs.length c), (1, .int .i64 ((a : Nat) : Int)), (2, .int .i64 ((i : Nat) : Int)), (3, .int .i64 ((b : Nat) : Int)), (4, .func (.func 72) #[] #[]), (14, .int .i64 ((i : Nat) : Int)), (17, .int .i64 ((i : Nat) : Int))] (by kernel_rfl) ?_
        refine AWp.block' (id := 6) (by kernel_rfl) ?_
        refine AWp.loop1 (by kernel_rfl) ?_
        refine AWp.seq' (by kernel_rfl) ?_
        refine AWp.seq' (by kernel_rfl) (AWp.region' (by kernel_rfl) ?_)
        refine AOps.run (n := 220) [(2, .val (.bool false))] [0, 1, 2] [] (cs := [.some (some (.bool (decide (((i : Nat) : Int) < ((i : Nat) : Int))))) (.bool false)]) (by kernel_rfl) (by kernel_rfl) (by kernel_rfl) ?_ ?_
        · intro x hx
          simp only [List.mem_cons, List.not_mem_nil, or_false] at hx
          subst hx
          exact congrArg (fun b => some (Value.bool b)) (decide_eq_false (by omega))
        show AWp _ _ _ _ _
        refine AWp.view [(110, .bool false)] (by kernel_rfl) ?_
        refine AWp.condF (c := .tmp 110) (by kernel_rfl) (by kernel_rfl) ?_
        refine AWp.exit' (id := 6) (by kernel_rfl) ?_
        show AWp _ _ _ _ _
        exact AWp.ret' (by kernel_rfl) ⟨[], by kernel_rfl, rfl, hx⟩
    · have hb1 : b ≠ m + 1 := fun e => by have := of_decide_eq_false hF; omega
      refine AWp.skip' (by kernel_rfl) ?_
      show AWp _ _ _ _ _
      refine AWp.view [(0, .slice ra rs.length c), (1, .int .i64 ((a : Nat) : Int)), (2, .int .i64 ((m : Nat) : Int)), (3, .int .i64 ((b : Nat) : Int)), (4, .func (.func 72) #[] #[])] (by kernel_rfl) ?_
      refine AWp.seq' (by kernel_rfl) (AWp.region' (by kernel_rfl) ?_)
      refine AOps.run (n := 220) [(2, .val (.int .i64 ((a + b : Nat) : Int))), (3, .val (.int .u64 ((a + b : Nat) : Int))), (4, .val (.int .u64 (((a + b) / 2 : Nat) : Int))), (5, .val (.int .i64 (((a + b) / 2 : Nat) : Int)))] [0, 1, 2, 3, 4, 5, 6] [] (cs := [.some (some (.int .i64 (IntKind.i64.wrap (((a : Nat) : Int) + ((b : Nat) : Int))))) (.int .i64 ((a + b : Nat) : Int)), .some (aconv Tryz.prog 3 115 (.int .i64 ((a + b : Nat) : Int))) (.int .u64 ((a + b : Nat) : Int)), .some (anum .shr .u64 .u64 ((a + b : Nat) : Int) 1) (.int .u64 (((a + b) / 2 : Nat) : Int)), .some (aconv Tryz.prog 115 3 (.int .u64 (((a + b) / 2 : Nat) : Int))) (.int .i64 (((a + b) / 2 : Nat) : Int))]) (by kernel_rfl) (by kernel_rfl) (by kernel_rfl) ?_ ?_
      · intro x hx
        simp only [List.mem_cons, List.not_mem_nil, or_false] at hx
        rcases hx with rfl | rfl | rfl | rfl
        · exact congrArg (fun x => some (Value.int .i64 x)) (wrap_add (by omega))
        · exact conv_to_u64 (by omega)
        · exact half_u64 _
        · exact conv_of_u64 (by omega)
      show AWp _ _ _ _ _
      have hmid : a < (a + b) / 2 ∧ (a + b) / 2 < b ∧ 2 * ((a + b) / 2) ≤ a + b ∧ a + b ≤ 2 * ((a + b) / 2) + 1 := by omega
      generalize (a + b) / 2 = mid at hmid ⊢
      refine AWp.view [(0, .slice ra rs.length c), (1, .int .i64 ((a : Nat) : Int)), (2, .int .i64 ((m : Nat) : Int)), (3, .int .i64 ((b : Nat) : Int)), (4, .func (.func 72) #[] #[]), (18, .int .i64 ((mid : Nat) : Int))] (by kernel_rfl) ?_
      refine AWp.seq' (by kernel_rfl) (AWp.region' (by kernel_rfl) ?_)
      refine AOps.run (n := 220) [(2, .val (.int .i64 ((mid + m : Nat) : Int)))] [0, 1, 2, 3] [] (cs := [.some (some (.int .i64 (IntKind.i64.wrap (((mid : Nat) : Int) + ((m : Nat) : Int))))) (.int .i64 ((mid + m : Nat) : Int))]) (by kernel_rfl) (by kernel_rfl) (by kernel_rfl) ?_ ?_
      · intro x hx
        simp only [List.mem_cons, List.not_mem_nil, or_false] at hx
        subst hx
        exact congrArg (fun x => some (Value.int .i64 x)) (wrap_add (by omega))
      show AWp _ _ _ _ _
      refine AWp.view [(0, .slice ra rs.length c), (1, .int .i64 ((a : Nat) : Int)), (2, .int .i64 ((m : Nat) : Int)), (3, .int .i64 ((b : Nat) : Int)), (4, .func (.func 72) #[] #[]), (18, .int .i64 ((mid : Nat) : Int)), (19, .int .i64 ((mid + m : Nat) : Int))] (by kernel_rfl) ?_
      refine AWp.seq' (by kernel_rfl) (AWp.region' (by kernel_rfl) ?_)
      refine AOps.run (n := 220) [] [0, 1] [] (cs := []) (by kernel_rfl) (by kernel_rfl) (by kernel_rfl) ?_ ?_
      · intro x hx; cases hx
      show AWp _ _ _ _ _
      refine AWp.view [(0, .slice ra rs.length c), (1, .int .i64 ((a : Nat) : Int)), (2, .int .i64 ((m : Nat) : Int)), (3, .int .i64 ((b : Nat) : Int)), (4, .func (.func 72) #[] #[]), (18, .int .i64 ((mid : Nat) : Int)), (19, .int .i64 ((mid + m : Nat) : Int))] (by kernel_rfl) ?_
      refine AWp.mid (by kernel_rfl) (fun E' H' => ∃ st r : Nat, AEnv.le (envOf 220 (mkE [(0, .slice ra rs.length c), (1, .int .i64 ((a : Nat) : Int)), (2, .int .i64 ((m : Nat) : Int)), (3, .int .i64 ((b : Nat) : Int)), (4, .func (.func 72) #[] #[]), (18, .int .i64 ((mid : Nat) : Int)), (19, .int .i64 ((mid + m : Nat) : Int)), (20, .int .i64 ((st : Nat) : Int)), (21, .int .i64 ((r : Nat) : Int))])) E' ∧ H' = B ∧ ((mid < m ∧ st = mid + m - b ∧ r = mid) ∨ (m ≤ mid ∧ st = a ∧ r = m))) ?_ ?_
      · skip
        refine AWp.seq' (by kernel_rfl) (AWp.region' (by kernel_rfl) ?_)
        refine AOps.run (n := 220) [(2, .val (.bool (decide (((mid : Nat) : Int) < ((m : Nat) : Int)))))] [0, 1, 2] [] (cs := [.some (some (.bool (decide (((mid : Nat) : Int) < ((m : Nat) : Int))))) (.bool (decide (((mid : Nat) : Int) < ((m : Nat) : Int))))]) (by kernel_rfl) (by kernel_rfl) (by kernel_rfl) ?_ ?_
        · intro x hx
          simp only [List.mem_cons, List.not_mem_nil, or_false] at hx
          subst hx
          rfl
        show AWp _ _ _ _ _
        refine AWp.view [(0, .slice ra rs.length c), (1, .int .i64 ((a : Nat) : Int)), (2, .int .i64 ((m : Nat) : Int)), (3, .int .i64 ((b : Nat) : Int)), (4, .func (.func 72) #[] #[]), (18, .int .i64 ((mid : Nat) : Int)), (19, .int .i64 ((mid + m : Nat) : Int)), (140, .bool (decide (((mid : Nat) : Int) < ((m : Nat) : Int))))] (by kernel_rfl) ?_
        refine AWp.cond_ (c := .tmp 140) (t := decide (((mid : Nat) : Int) < ((m : Nat) : Int))) (by kernel_rfl) (by kernel_rfl) (fun hT => ?_) (fun hF => ?_)
        · have hgt : mid < m := by have := of_decide_eq_true hT; omega
          refine AWp.seq' (by kernel_rfl) (AWp.region' (by kernel_rfl) ?_)
          refine AOps.run (n := 220) [(2, .val (.int .i64 ((mid + m - b : Nat) : Int)))] [0, 1, 2, 3] [] (cs := [.some (some (.int .i64 (IntKind.i64.wrap (((mid + m : Nat) : Int) - ((b : Nat) : Int))))) (.int .i64 ((mid + m - b : Nat) : Int))]) (by kernel_rfl) (by kernel_rfl) (by kernel_rfl) ?_ ?_
          · intro x hx
            simp only [List.mem_cons, List.not_mem_nil, or_false] at hx
            subst hx
            exact congrArg (fun x => some (Value.int .i64 x)) (wrap_sub (by omega) (by omega))
          show AWp _ _ _ _ _
          refine AWp.view [(0, .slice ra rs.length c), (1, .int .i64 ((a : Nat) : Int)), (2, .int .i64 ((m : Nat) : Int)), (3, .int .i64 ((b : Nat) : Int)), (4, .func (.func 72) #[] #[]), (18, .int .i64 ((mid : Nat) : Int)), (19, .int .i64 ((mid + m : Nat) : Int)), (20, .int .i64 ((mid + m - b : Nat) : Int))] (by kernel_rfl) ?_
          refine AWp.region' (by kernel_rfl) ?_
          refine AOps.run (n := 220) [] [0, 1] [] (cs := []) (by kernel_rfl) (by kernel_rfl) (by kernel_rfl) ?_ ?_
          · intro x hx; cases hx
          exact ⟨mid + m - b, mid, mkE_le [(0, .slice ra rs.length c), (1, .int .i64 ((a : Nat) : Int)), (2, .int .i64 ((m : Nat) : Int)), (3, .int .i64 ((b : Nat) : Int)), (4, .func (.func 72) #[] #[]), (18, .int .i64 ((mid : Nat) : Int)), (19, .int .i64 ((mid + m : Nat) : Int)), (20, .int .i64 ((mid + m - b : Nat) : Int)), (21, .int .i64 ((mid : Nat) : Int))] (by kernel_rfl), rfl, .inl ⟨hgt, rfl, rfl⟩⟩
        · have hgt : m ≤ mid := by have := of_decide_eq_false hF; omega
          refine AWp.seq' (by kernel_rfl) (AWp.region' (by kernel_rfl) ?_)
          refine AOps.run (n := 220) [] [0, 1] [] (cs := []) (by kernel_rfl) (by kernel_rfl) (by kernel_rfl) ?_ ?_
          · intro x hx; cases hx
          show AWp _ _ _ _ _
          refine AWp.view [(0, .slice ra rs.length c), (1, .int .i64 ((a : Nat) : Int)), (2, .int .i64 ((m : Nat) : Int)), (3, .int .i64 ((b : Nat) : Int)), (4, .func (.func 72) #[] #[]), (18, .int .i64 ((mid : Nat) : Int)), (19, .int .i64 ((mid + m : Nat) : Int)), (20, .int .i64 ((a : Nat) : Int))] (by kernel_rfl) ?_
          refine AWp.region' (by kernel_rfl) ?_
          refine AOps.run (n := 220) [] [0, 1] [] (cs := []) (by kernel_rfl) (by kernel_rfl) (by kernel_rfl) ?_ ?_
          · intro x hx; cases hx
          exact ⟨a, m, mkE_le [(0, .slice ra rs.length c), (1, .int .i64 ((a : Nat) : Int)), (2, .int .i64 ((m : Nat) : Int)), (3, .int .i64 ((b : Nat) : Int)), (4, .func (.func 72) #[] #[]), (18, .int .i64 ((mid : Nat) : Int)), (19, .int .i64 ((mid + m : Nat) : Int)), (20, .int .i64 ((a : Nat) : Int)), (21, .int .i64 ((m : Nat) : Int))] (by kernel_rfl), rfl, .inr ⟨hgt, rfl, rfl⟩⟩
      rintro E' H' ⟨st, r, hE', rfl, hcase⟩
      refine AWp.env hE' ?_
      refine AWp.seq' (by kernel_rfl) (AWp.region' (by kernel_rfl) ?_)
      refine AOps.run (n := 220) [(1, .val (.int .i64 ((mid + m - 1 : Nat) : Int)))] [0, 1, 2] [] (cs := [.some (some (.int .i64 (IntKind.i64.wrap (((mid + m : Nat) : Int) - ((1 : Nat) : Int))))) (.int .i64 ((mid + m - 1 : Nat) : Int))]) (by kernel_rfl) (by kernel_rfl) (by kernel_rfl) ?_ ?_
      · intro x hx
        simp only [List.mem_cons, List.not_mem_nil, or_false] at hx
        subst hx
        exact congrArg (fun x => some (Value.int .i64 x)) (wrap_sub (by omega) (by omega))
      show AWp _ _ _ _ _
      refine AWp.view [(0, .slice ra rs.length c), (1, .int .i64 ((a : Nat) : Int)), (2, .int .i64 ((m : Nat) : Int)), (3, .int .i64 ((b : Nat) : Int)), (4, .func (.func 72) #[] #[]), (18, .int .i64 ((mid : Nat) : Int)), (19, .int .i64 ((mid + m : Nat) : Int)), (20, .int .i64 ((st : Nat) : Int)), (21, .int .i64 ((r : Nat) : Int)), (22, .int .i64 ((mid + m - 1 : Nat) : Int))] (by kernel_rfl) ?_
      refine AWp.seq' (by kernel_rfl) (AWp.block' (id := 8) (by kernel_rfl) ?_)
      refine AWp.loop' (by kernel_rfl) (N := r - st) (fun μ E H => ∃ s : Nat, μ = r - s ∧ st ≤ s ∧ s ≤ r ∧ AEnv.le (envOf 220 (mkE [(0, .slice ra rs.length c), (1, .int .i64 ((a : Nat) : Int)), (2, .int .i64 ((m : Nat) : Int)), (3, .int .i64 ((b : Nat) : Int)), (4, .func (.func 72) #[] #[]), (18, .int .i64 ((mid : Nat) : Int)), (19, .int .i64 ((mid + m : Nat) : Int)), (20, .int .i64 ((s : Nat) : Int)), (21, .int .i64 ((r : Nat) : Int)), (22, .int .i64 ((mid + m - 1 : Nat) : Int))])) E ∧ Ext H' H) ⟨st, rfl, Nat.le_refl _, by omega, AEnv.le_refl _, Ext.refl H'⟩ ?_
      rintro μ E H ⟨s, rfl, hs1, hs2, hE, hx⟩
      refine AWp.env hE ?_
      refine AWp.seq' (by kernel_rfl) ?_
      refine AWp.seq' (by kernel_rfl) (AWp.region' (by kernel_rfl) ?_)
      refine AOps.run (n := 220) [(2, .val (.bool (decide (((s : Nat) : Int) < ((r : Nat) : Int)))))] [0, 1, 2] [] (cs := [.some (some (.bool (decide (((s : Nat) : Int) < ((r : Nat) : Int))))) (.bool (decide (((s : Nat) : Int) < ((r : Nat) : Int))))]) (by kernel_rfl) (by kernel_rfl) (by kernel_rfl) ?_ ?_
      · intro x hx
        simp only [List.mem_cons, List.not_mem_nil, or_false] at hx
        subst hx
        rfl
      show AWp _ _ _ _ _
      refine AWp.view [(0, .slice ra rs.length c), (1, .int .i64 ((a : Nat) : Int)), (2, .int .i64 ((m : Nat) : Int)), (3, .int .i64 ((b : Nat) : Int)), (4, .func (.func 72) #[] #[]), (18, .int .i64 ((mid : Nat) : Int)), (19, .int .i64 ((mid + m : Nat) : Int)), (20, .int .i64 ((s : Nat) : Int)), (21, .int .i64 ((r : Nat) : Int)), (22, .int .i64 ((mid + m - 1 : Nat) : Int)), (151, .bool (decide (((s : Nat) : Int) < ((r : Nat) : Int))))] (by kernel_rfl) ?_
      refine AWp.cond_ (c := .tmp 151) (t := decide (((s : Nat) : Int) < ((r : Nat) : Int))) (by kernel_rfl) (by kernel_rfl) (fun hT => ?_) (fun hF => ?_)
      · have hlt : s < r := by have := of_decide_eq_true hT; omega
        refine AWp.skip' (by kernel_rfl) ?_
        show AWp _ _ _ _ _
        refine AWp.block' (id := 9) (by kernel_rfl) ?_
        refine AWp.seq' (by kernel_rfl) (AWp.region' (by kernel_rfl) ?_)
        refine AOps.run (n := 220) [(2, .val (.int .i64 ((s + r : Nat) : Int))), (3, .val (.int .u64 ((s + r : Nat) : Int))), (4, .val (.int .u64 (((s + r) / 2 : Nat) : Int))), (5, .val (.int .i64 (((s + r) / 2 : Nat) : Int)))] [0, 1, 2, 3, 4, 5, 6] [] (cs := [.some (some (.int .i64 (IntKind.i64.wrap (((s : Nat) : Int) + ((r : Nat) : Int))))) (.int .i64 ((s + r : Nat) : Int)), .some (aconv Tryz.prog 3 115 (.int .i64 ((s + r : Nat) : Int))) (.int .u64 ((s + r : Nat) : Int)), .some (anum .shr .u64 .u64 ((s + r : Nat) : Int) 1) (.int .u64 (((s + r) / 2 : Nat) : Int)), .some (aconv Tryz.prog 115 3 (.int .u64 (((s + r) / 2 : Nat) : Int))) (.int .i64 (((s + r) / 2 : Nat) : Int))]) (by kernel_rfl) (by kernel_rfl) (by kernel_rfl) ?_ ?_
        · intro x hx
          simp only [List.mem_cons, List.not_mem_nil, or_false] at hx
          rcases hx with rfl | rfl | rfl | rfl
          · exact congrArg (fun x => some (Value.int .i64 x)) (wrap_add (by omega))
          · exact conv_to_u64 (by omega)
          · exact half_u64 _
          · exact conv_of_u64 (by omega)
        show AWp _ _ _ _ _
        have hh1 : s ≤ (s + r) / 2 ∧ (s + r) / 2 < r := by omega
        generalize (s + r) / 2 = h at hh1 ⊢
        refine AWp.view [(0, .slice ra rs.length c), (1, .int .i64 ((a : Nat) : Int)), (2, .int .i64 ((m : Nat) : Int)), (3, .int .i64 ((b : Nat) : Int)), (4, .func (.func 72) #[] #[]), (18, .int .i64 ((mid : Nat) : Int)), (19, .int .i64 ((mid + m : Nat) : Int)), (20, .int .i64 ((s : Nat) : Int)), (21, .int .i64 ((r : Nat) : Int)), (22, .int .i64 ((mid + m - 1 : Nat) : Int)), (23, .int .i64 ((h : Nat) : Int))] (by kernel_rfl) ?_
        obtain ⟨x, hx1⟩ : ∃ x, rs[mid + m - 1 - h]? = some x := ⟨_, List.getElem?_eq_getElem (by omega)⟩
        obtain ⟨y, hy1⟩ : ∃ y, rs[h]? = some y := ⟨_, List.getElem?_eq_getElem (by omega)⟩
        have hD : ∀ (vs : List Value), vs = resCells rs → ∃ e ro, H.get id = some (.cells vs e ro) := fun vs h => ⟨56, false, by rw [h]; exact hx.get hB⟩
        refine AWp.seq' (by kernel_rfl) (AWp.draw' mixed (.leaf [0, 1, 2, 3, 4, 5, 6, 7, 8, 9, 10, 11, 12, 13]) (by kernel_rfl) (by kernel_rfl) ⟨by kernel_rfl, ?_⟩)
        have hkp : keeps H (opsOf (fst (snd (fst (snd (fst (fst (fst (snd (snd (snd (snd (snd (snd (snd (bodyOf Tryz.prog 114)))))))))))))))).toList = H := by kernel_rfl
        rw [hkp]
        clear hkp
        refine AOps.run (n := 220) [(4, .val (.int .i64 ((mid + m - 1 - h : Nat) : Int))), (5, .val (.pointer (some ⟨id, 0 + (mid + m - 1 - h) * 21, none⟩))), (6, .part (resCells rs) (x.val)), (9, .val (.pointer (some ⟨id, 0 + (h) * 21, none⟩))), (10, .part (resCells rs) (y.val))] [0, 1, 2, 3, 4, 5, 6, 7, 8, 9, 10] [11, 12, 13] (cs := [.some (some (.int .i64 (IntKind.i64.wrap (((mid + m - 1 : Nat) : Int) - ((h : Nat) : Int))))) (.int .i64 ((mid + m - 1 - h : Nat) : Int)), .some (aindexAddr Tryz.prog 51 (.slice ra rs.length c) (.int .i64 ((mid + m - 1 - h : Nat) : Int))) (.pointer (some ⟨id, 0 + (mid + m - 1 - h) * 21, none⟩)), .blk (id) (resCells rs), .some (apart' (resCells rs) (0 + (mid + m - 1 - h) * 21) 21 true) (x.val), .some (aindexAddr Tryz.prog 51 (.slice ra rs.length c) (.int .i64 ((h : Nat) : Int))) (.pointer (some ⟨id, 0 + (h) * 21, none⟩)), .blk (id) (resCells rs), .some (apart' (resCells rs) (0 + (h) * 21) 21 true) (y.val)]) (by kernel_rfl) (by kernel_rfl) (by kernel_rfl) ?_ ?_
        · intro x hx
          simp only [List.mem_cons, List.not_mem_nil, or_false] at hx
          rcases hx with rfl | rfl | rfl | rfl | rfl | rfl | rfl
          · exact congrArg (fun x => some (Value.int .i64 x)) (wrap_sub (by omega) (by omega))
          · rw [hra]; exact indexAddr_ok sl51 (by omega)
          · exact hD _ rfl
          · exact res_part hx1
          · rw [hra]; exact indexAddr_ok sl51 (by omega)
          · exact hD _ rfl
          · exact res_part hy1
        refine AOps.call (n := 220) 11 [12, 13] 72 [x.val, y.val] (by kernel_rfl) rfl (by kernel_rfl) (by kernel_rfl) (by kernel_rfl) (by kernel_rfl) (by kernel_rfl) (cmp_spec x y H) ?_
        rintro e H2 ⟨rfl, hx2⟩
        refine ⟨_, rfl, ?_⟩
        refine AOps.run (n := 220) [(12, .val (.bool false))] [12, 13] [] (cs := [.some (some (.bool (decide (IntKind.i64.wrap ((y.stop : Int) - (x.stop : Int)) < 0)))) (.bool false)]) (by kernel_rfl) (by kernel_rfl) (by kernel_rfl) ?_ ?_
        · intro x hx
          simp only [List.mem_cons, List.not_mem_nil, or_false] at hx
          subst hx
          exact congrArg (fun b => some (Value.bool b)) (decide_eq_false (hs.cmp (by omega) hy1 hx1))
        show AWp _ _ _ _ _
        refine AWp.view [(0, .slice ra rs.length c), (1, .int .i64 ((a : Nat) : Int)), (2, .int .i64 ((m : Nat) : Int)), (3, .int .i64 ((b : Nat) : Int)), (4, .func (.func 72) #[] #[]), (18, .int .i64 ((mid : Nat) : Int)), (19, .int .i64 ((mid + m : Nat) : Int)), (20, .int .i64 ((s : Nat) : Int)), (21, .int .i64 ((r : Nat) : Int)), (22, .int .i64 ((mid + m - 1 : Nat) : Int)), (23, .int .i64 ((h : Nat) : Int)), (171, .bool true)] (by kernel_rfl) ?_
        refine AWp.condT (c := .tmp 171) (by kernel_rfl) (by kernel_rfl) ?_
        refine AWp.region' (by kernel_rfl) ?_
        refine AOps.run (n := 220) [(1, .val (.int .i64 ((h + 1 : Nat) : Int)))] [0, 1, 2] [] (cs := [.some (some (.int .i64 (IntKind.i64.wrap (((h : Nat) : Int) + ((1 : Nat) : Int))))) (.int .i64 ((h + 1 : Nat) : Int))]) (by kernel_rfl) (by kernel_rfl) (by kernel_rfl) ?_ ?_
        · intro x hx
          simp only [List.mem_cons, List.not_mem_nil, or_false] at hx
          subst hx
          exact congrArg (fun x => some (Value.int .i64 x)) (wrap_add (by omega))
        exact ⟨r - (h + 1), by omega, h + 1, rfl, by omega, by omega, mkE_le [(0, .slice ra rs.length c), (1, .int .i64 ((a : Nat) : Int)), (2, .int .i64 ((m : Nat) : Int)), (3, .int .i64 ((b : Nat) : Int)), (4, .func (.func 72) #[] #[]), (18, .int .i64 ((mid : Nat) : Int)), (19, .int .i64 ((mid + m : Nat) : Int)), (20, .int .i64 ((h + 1 : Nat) : Int)), (21, .int .i64 ((r : Nat) : Int)), (22, .int .i64 ((mid + m - 1 : Nat) : Int))] (by kernel_rfl), hx.trans hx2⟩
      · have hge : s = r := by have := of_decide_eq_false hF; omega
        subst hge
        refine AWp.exit' (id := 8) (by kernel_rfl) ?_
        show AWp _ _ _ _ _
        refine AWp.view [(0, .slice ra rs.length c), (1, .int .i64 ((a : Nat) : Int)), (2, .int .i64 ((m : Nat) : Int)), (3, .int .i64 ((b : Nat) : Int)), (4, .func (.func 72) #[] #[]), (18, .int .i64 ((mid : Nat) : Int)), (19, .int .i64 ((mid + m : Nat) : Int)), (20, .int .i64 ((s : Nat) : Int))] (by kernel_rfl) ?_
        refine AWp.seq' (by kernel_rfl) (AWp.region' (by kernel_rfl) ?_)
        refine AOps.run (n := 220) [(2, .val (.int .i64 ((mid + m - s : Nat) : Int)))] [0, 1, 2, 3] [] (cs := [.some (some (.int .i64 (IntKind.i64.wrap (((mid + m : Nat) : Int) - ((s : Nat) : Int))))) (.int .i64 ((mid + m - s : Nat) : Int))]) (by kernel_rfl) (by kernel_rfl) (by kernel_rfl) ?_ ?_
        · intro x hx
          simp only [List.mem_cons, List.not_mem_nil, or_false] at hx
          subst hx
          exact congrArg (fun x => some (Value.int .i64 x)) (wrap_sub (by omega) (by omega))
        show AWp _ _ _ _ _
        refine AWp.view [(0, .slice ra rs.length c), (1, .int .i64 ((a : Nat) : Int)), (2, .int .i64 ((m : Nat) : Int)), (3, .int .i64 ((b : Nat) : Int)), (4, .func (.func 72) #[] #[]), (18, .int .i64 ((mid : Nat) : Int)), (19, .int .i64 ((mid + m : Nat) : Int)), (20, .int .i64 ((s : Nat) : Int)), (24, .int .i64 ((mid + m - s : Nat) : Int))] (by kernel_rfl) ?_
        have hv2 : rs ≠ [] → ra = some ⟨id, 0, none⟩ ∧ H.get id = some (.cells (resCells rs) 56 false) := fun _ => ⟨hra, hx.get hB⟩
        rcases hcase with ⟨hgt, hst, hr⟩ | ⟨hle, hst, hr⟩
        · have hr := hr
          refine AWp.seq' (by kernel_rfl) ?_
          refine AWp.seq' (by kernel_rfl) (AWp.region' (by kernel_rfl) ?_)
          refine AOps.run (n := 220) [(2, .val (.bool true)), (6, .val (.bool false))] [0, 1, 2, 3, 4, 5, 6, 7] [] (cs := [.some (some (.bool (decide (((s : Nat) : Int) < ((m : Nat) : Int))))) (.bool true), .some (some (.bool (decide (((m : Nat) : Int) < ((mid + m - s : Nat) : Int))))) (.bool false)]) (by kernel_rfl) (by kernel_rfl) (by kernel_rfl) ?_ ?_
          · intro x hx
            simp only [List.mem_cons, List.not_mem_nil, or_false] at hx
            rcases hx with rfl | rfl
            · exact congrArg (fun b => some (Value.bool b)) (decide_eq_true (by omega))
            · exact congrArg (fun b => some (Value.bool b)) (decide_eq_false (by omega))
          show AWp _ _ _ _ _
          refine AWp.view [(0, .slice ra rs.length c), (1, .int .i64 ((a : Nat) : Int)), (2, .int .i64 ((m : Nat) : Int)), (3, .int .i64 ((b : Nat) : Int)), (4, .func (.func 72) #[] #[]), (18, .int .i64 ((mid : Nat) : Int)), (19, .int .i64 ((mid + m : Nat) : Int)), (20, .int .i64 ((s : Nat) : Int)), (24, .int .i64 ((mid + m - s : Nat) : Int)), (185, .bool false)] (by kernel_rfl) ?_
          refine AWp.condF (c := .tmp 185) (by kernel_rfl) (by kernel_rfl) ?_
          refine AWp.skip' (by kernel_rfl) ?_
          show AWp _ _ _ _ _
          refine AWp.view [(0, .slice ra rs.length c), (1, .int .i64 ((a : Nat) : Int)), (2, .int .i64 ((m : Nat) : Int)), (3, .int .i64 ((b : Nat) : Int)), (4, .func (.func 72) #[] #[]), (18, .int .i64 ((mid : Nat) : Int)), (19, .int .i64 ((mid + m : Nat) : Int)), (20, .int .i64 ((s : Nat) : Int)), (24, .int .i64 ((mid + m - s : Nat) : Int))] (by kernel_rfl) ?_
          refine AWp.seq' (by kernel_rfl) ?_
          by_cases ha : a < s
          · skip
            refine AWp.seq' (by kernel_rfl) (AWp.region' (by kernel_rfl) ?_)
            refine AOps.run (n := 220) [(2, .val (.bool true)), (6, .val (.bool false))] [0, 1, 2, 3, 4, 5, 6, 7] [] (cs := [.some (some (.bool (decide (((a : Nat) : Int) < ((s : Nat) : Int))))) (.bool true), .some (some (.bool (decide (((s : Nat) : Int) < ((mid : Nat) : Int))))) (.bool false)]) (by kernel_rfl) (by kernel_rfl) (by kernel_rfl) ?_ ?_
            · intro x hx
              simp only [List.mem_cons, List.not_mem_nil, or_false] at hx
              rcases hx with rfl | rfl
              · exact congrArg (fun b => some (Value.bool b)) (decide_eq_true (by omega))
              · exact congrArg (fun b => some (Value.bool b)) (decide_eq_false (by omega))
            show AWp _ _ _ _ _
            refine AWp.view [(0, .slice ra rs.length c), (1, .int .i64 ((a : Nat) : Int)), (2, .int .i64 ((m : Nat) : Int)), (3, .int .i64 ((b : Nat) : Int)), (4, .func (.func 72) #[] #[]), (18, .int .i64 ((mid : Nat) : Int)), (19, .int .i64 ((mid + m : Nat) : Int)), (20, .int .i64 ((s : Nat) : Int)), (24, .int .i64 ((mid + m - s : Nat) : Int)), (199, .bool false)] (by kernel_rfl) ?_
            refine AWp.condF (c := .tmp 199) (by kernel_rfl) (by kernel_rfl) ?_
            refine AWp.skip' (by kernel_rfl) ?_
            show AWp _ _ _ _ _
            refine AWp.view [(0, .slice ra rs.length c), (1, .int .i64 ((a : Nat) : Int)), (2, .int .i64 ((m : Nat) : Int)), (3, .int .i64 ((b : Nat) : Int)), (4, .func (.func 72) #[] #[]), (18, .int .i64 ((mid : Nat) : Int)), (19, .int .i64 ((mid + m : Nat) : Int)), (20, .int .i64 ((s : Nat) : Int)), (24, .int .i64 ((mid + m - s : Nat) : Int))] (by kernel_rfl) ?_
            refine AWp.seq' (by kernel_rfl) (AWp.region' (by kernel_rfl) ?_)
            refine AOps.run (n := 220) [(2, .val (.bool true)), (6, .val (.bool true))] [0, 1, 2, 3, 4, 5, 6, 7] [] (cs := [.some (some (.bool (decide (((mid : Nat) : Int) < ((mid + m - s : Nat) : Int))))) (.bool true), .some (some (.bool (decide (((mid + m - s : Nat) : Int) < ((b : Nat) : Int))))) (.bool true)]) (by kernel_rfl) (by kernel_rfl) (by kernel_rfl) ?_ ?_
            · intro x hx
              simp only [List.mem_cons, List.not_mem_nil, or_false] at hx
              rcases hx with rfl | rfl
              · exact congrArg (fun b => some (Value.bool b)) (decide_eq_true (by omega))
              · exact congrArg (fun b => some (Value.bool b)) (decide_eq_true (by omega))
            show AWp _ _ _ _ _
            refine AWp.view [(0, .slice ra rs.length c), (1, .int .i64 ((a : Nat) : Int)), (2, .int .i64 ((m : Nat) : Int)), (3, .int .i64 ((b : Nat) : Int)), (4, .func (.func 72) #[] #[]), (18, .int .i64 ((mid : Nat) : Int)), (19, .int .i64 ((mid + m : Nat) : Int)), (20, .int .i64 ((s : Nat) : Int)), (24, .int .i64 ((mid + m - s : Nat) : Int)), (213, .bool true)] (by kernel_rfl) ?_
            refine AWp.condT (c := .tmp 213) (by kernel_rfl) (by kernel_rfl) ?_
            refine AWp.region' (by kernel_rfl) ?_
            refine AOps.run (n := 220) [] [0, 1, 2, 3, 4] [5] (cs := []) (by kernel_rfl) (by kernel_rfl) (by kernel_rfl) ?_ ?_
            · intro x hx; cases hx
            refine AOps.call (n := 220) 5 [] 114 [.slice ra rs.length c, .int .i64 ((mid : Nat) : Int), .int .i64 ((mid + m - s : Nat) : Int), .int .i64 ((b : Nat) : Int), .func (.func 72) #[] #[]] (by kernel_rfl) rfl (by kernel_rfl) (by kernel_rfl) (by kernel_rfl) (by kernel_rfl) (by kernel_rfl) (ih mid (mid + m - s) b (by omega) (by omega) (by omega) (by omega) H hv2) ?_
            rintro e H2 ⟨rfl, hx2⟩
            exact ⟨_, rfl, [], by kernel_rfl, rfl, hx.trans hx2⟩
          · skip
            refine AWp.seq' (by kernel_rfl) (AWp.region' (by kernel_rfl) ?_)
            refine AOps.run (n := 220) [(2, .val (.bool false))] [0, 1, 2, 3, 4, 5, 6, 7] [] (cs := [.some (some (.bool (decide (((a : Nat) : Int) < ((s : Nat) : Int))))) (.bool false)]) (by kernel_rfl) (by kernel_rfl) (by kernel_rfl) ?_ ?_
            · intro x hx
              simp only [List.mem_cons, List.not_mem_nil, or_false] at hx
              subst hx
              exact congrArg (fun b => some (Value.bool b)) (decide_eq_false (by omega))
            show AWp _ _ _ _ _
            refine AWp.view [(0, .slice ra rs.length c), (1, .int .i64 ((a : Nat) : Int)), (2, .int .i64 ((m : Nat) : Int)), (3, .int .i64 ((b : Nat) : Int)), (4, .func (.func 72) #[] #[]), (18, .int .i64 ((mid : Nat) : Int)), (19, .int .i64 ((mid + m : Nat) : Int)), (20, .int .i64 ((s : Nat) : Int)), (24, .int .i64 ((mid + m - s : Nat) : Int)), (199, .bool false)] (by kernel_rfl) ?_
            refine AWp.condF (c := .tmp 199) (by kernel_rfl) (by kernel_rfl) ?_
            refine AWp.skip' (by kernel_rfl) ?_
            show AWp _ _ _ _ _
            refine AWp.view [(0, .slice ra rs.length c), (1, .int .i64 ((a : Nat) : Int)), (2, .int .i64 ((m : Nat) : Int)), (3, .int .i64 ((b : Nat) : Int)), (4, .func (.func 72) #[] #[]), (18, .int .i64 ((mid : Nat) : Int)), (19, .int .i64 ((mid + m : Nat) : Int)), (20, .int .i64 ((s : Nat) : Int)), (24, .int .i64 ((mid + m - s : Nat) : Int))] (by kernel_rfl) ?_
            refine AWp.seq' (by kernel_rfl) (AWp.region' (by kernel_rfl) ?_)
            refine AOps.run (n := 220) [(2, .val (.bool true)), (6, .val (.bool true))] [0, 1, 2, 3, 4, 5, 6, 7] [] (cs := [.some (some (.bool (decide (((mid : Nat) : Int) < ((mid + m - s : Nat) : Int))))) (.bool true), .some (some (.bool (decide (((mid + m - s : Nat) : Int) < ((b : Nat) : Int))))) (.bool true)]) (by kernel_rfl) (by kernel_rfl) (by kernel_rfl) ?_ ?_
            · intro x hx
              simp only [List.mem_cons, List.not_mem_nil, or_false] at hx
              rcases hx with rfl | rfl
              · exact congrArg (fun b => some (Value.bool b)) (decide_eq_true (by omega))
              · exact congrArg (fun b => some (Value.bool b)) (decide_eq_true (by omega))
            show AWp _ _ _ _ _
            refine AWp.view [(0, .slice ra rs.length c), (1, .int .i64 ((a : Nat) : Int)), (2, .int .i64 ((m : Nat) : Int)), (3, .int .i64 ((b : Nat) : Int)), (4, .func (.func 72) #[] #[]), (18, .int .i64 ((mid : Nat) : Int)), (19, .int .i64 ((mid + m : Nat) : Int)), (20, .int .i64 ((s : Nat) : Int)), (24, .int .i64 ((mid + m - s : Nat) : Int)), (213, .bool true)] (by kernel_rfl) ?_
            refine AWp.condT (c := .tmp 213) (by kernel_rfl) (by kernel_rfl) ?_
            refine AWp.region' (by kernel_rfl) ?_
            refine AOps.run (n := 220) [] [0, 1, 2, 3, 4] [5] (cs := []) (by kernel_rfl) (by kernel_rfl) (by kernel_rfl) ?_ ?_
            · intro x hx; cases hx
            refine AOps.call (n := 220) 5 [] 114 [.slice ra rs.length c, .int .i64 ((mid : Nat) : Int), .int .i64 ((mid + m - s : Nat) : Int), .int .i64 ((b : Nat) : Int), .func (.func 72) #[] #[]] (by kernel_rfl) rfl (by kernel_rfl) (by kernel_rfl) (by kernel_rfl) (by kernel_rfl) (by kernel_rfl) (ih mid (mid + m - s) b (by omega) (by omega) (by omega) (by omega) H hv2) ?_
            rintro e H2 ⟨rfl, hx2⟩
            exact ⟨_, rfl, [], by kernel_rfl, rfl, hx.trans hx2⟩
        · have hr := hr
          refine AWp.seq' (by kernel_rfl) ?_
          refine AWp.seq' (by kernel_rfl) (AWp.region' (by kernel_rfl) ?_)
          refine AOps.run (n := 220) [(2, .val (.bool false))] [0, 1, 2, 3, 4, 5, 6, 7] [] (cs := [.some (some (.bool (decide (((s : Nat) : Int) < ((m : Nat) : Int))))) (.bool false)]) (by kernel_rfl) (by kernel_rfl) (by kernel_rfl) ?_ ?_
          · intro x hx
            simp only [List.mem_cons, List.not_mem_nil, or_false] at hx
            subst hx
            exact congrArg (fun b => some (Value.bool b)) (decide_eq_false (by omega))
          show AWp _ _ _ _ _
          refine AWp.view [(0, .slice ra rs.length c), (1, .int .i64 ((a : Nat) : Int)), (2, .int .i64 ((m : Nat) : Int)), (3, .int .i64 ((b : Nat) : Int)), (4, .func (.func 72) #[] #[]), (18, .int .i64 ((mid : Nat) : Int)), (19, .int .i64 ((mid + m : Nat) : Int)), (20, .int .i64 ((s : Nat) : Int)), (24, .int .i64 ((mid + m - s : Nat) : Int)), (185, .bool false)] (by kernel_rfl) ?_
          refine AWp.condF (c := .tmp 185) (by kernel_rfl) (by kernel_rfl) ?_
          refine AWp.skip' (by kernel_rfl) ?_
          show AWp _ _ _ _ _
          refine AWp.view [(0, .slice ra rs.length c), (1, .int .i64 ((a : Nat) : Int)), (2, .int .i64 ((m : Nat) : Int)), (3, .int .i64 ((b : Nat) : Int)), (4, .func (.func 72) #[] #[]), (18, .int .i64 ((mid : Nat) : Int)), (19, .int .i64 ((mid + m : Nat) : Int)), (20, .int .i64 ((s : Nat) : Int)), (24, .int .i64 ((mid + m - s : Nat) : Int))] (by kernel_rfl) ?_
          refine AWp.seq' (by kernel_rfl) ?_
          by_cases hmm : s < mid
          · skip
            refine AWp.seq' (by kernel_rfl) (AWp.region' (by kernel_rfl) ?_)
            refine AOps.run (n := 220) [(2, .val (.bool true)), (6, .val (.bool true))] [0, 1, 2, 3, 4, 5, 6, 7] [] (cs := [.some (some (.bool (decide (((a : Nat) : Int) < ((s : Nat) : Int))))) (.bool true), .some (some (.bool (decide (((s : Nat) : Int) < ((mid : Nat) : Int))))) (.bool true)]) (by kernel_rfl) (by kernel_rfl) (by kernel_rfl) ?_ ?_
            · intro x hx
              simp only [List.mem_cons, List.not_mem_nil, or_false] at hx
              rcases hx with rfl | rfl
              · exact congrArg (fun b => some (Value.bool b)) (decide_eq_true (by omega))
              · exact congrArg (fun b => some (Value.bool b)) (decide_eq_true (by omega))
            show AWp _ _ _ _ _
            refine AWp.view [(0, .slice ra rs.length c), (1, .int .i64 ((a : Nat) : Int)), (2, .int .i64 ((m : Nat) : Int)), (3, .int .i64 ((b : Nat) : Int)), (4, .func (.func 72) #[] #[]), (18, .int .i64 ((mid : Nat) : Int)), (19, .int .i64 ((mid + m : Nat) : Int)), (20, .int .i64 ((s : Nat) : Int)), (24, .int .i64 ((mid + m - s : Nat) : Int)), (199, .bool true)] (by kernel_rfl) ?_
            refine AWp.condT (c := .tmp 199) (by kernel_rfl) (by kernel_rfl) ?_
            refine AWp.region' (by kernel_rfl) ?_
            refine AOps.run (n := 220) [] [0, 1, 2, 3, 4] [5] (cs := []) (by kernel_rfl) (by kernel_rfl) (by kernel_rfl) ?_ ?_
            · intro x hx; cases hx
            refine AOps.call (n := 220) 5 [] 114 [.slice ra rs.length c, .int .i64 ((a : Nat) : Int), .int .i64 ((s : Nat) : Int), .int .i64 ((mid : Nat) : Int), .func (.func 72) #[] #[]] (by kernel_rfl) rfl (by kernel_rfl) (by kernel_rfl) (by kernel_rfl) (by kernel_rfl) (by kernel_rfl) (ih a s mid (by omega) (by omega) (by omega) (by omega) H hv2) ?_
            rintro e H2 ⟨rfl, hx2⟩
            refine ⟨_, rfl, ?_⟩
            show AWp _ _ _ _ _
            refine AWp.view [(0, .slice ra rs.length c), (1, .int .i64 ((a : Nat) : Int)), (2, .int .i64 ((m : Nat) : Int)), (3, .int .i64 ((b : Nat) : Int)), (4, .func (.func 72) #[] #[]), (18, .int .i64 ((mid : Nat) : Int)), (19, .int .i64 ((mid + m : Nat) : Int)), (20, .int .i64 ((s : Nat) : Int)), (24, .int .i64 ((mid + m - s : Nat) : Int))] (by kernel_rfl) ?_
            refine AWp.seq' (by kernel_rfl) (AWp.region' (by kernel_rfl) ?_)
            refine AOps.run (n := 220) [(2, .val (.bool false))] [0, 1, 2, 3, 4, 5, 6, 7] [] (cs := [.some (some (.bool (decide (((mid : Nat) : Int) < ((mid + m - s : Nat) : Int))))) (.bool false)]) (by kernel_rfl) (by kernel_rfl) (by kernel_rfl) ?_ ?_
            · intro x hx
              simp only [List.mem_cons, List.not_mem_nil, or_false] at hx
              subst hx
              exact congrArg (fun b => some (Value.bool b)) (decide_eq_false (by omega))
            show AWp _ _ _ _ _
            refine AWp.view [(213, .bool false)] (by kernel_rfl) ?_
            refine AWp.condF (c := .tmp 213) (by kernel_rfl) (by kernel_rfl) ?_
            refine AWp.skip' (by kernel_rfl) ?_
            exact ⟨[], by kernel_rfl, rfl, hx.trans hx2⟩
          · skip
            refine AWp.seq' (by kernel_rfl) (AWp.region' (by kernel_rfl) ?_)
            refine AOps.run (n := 220) [(2, .val (.bool true)), (6, .val (.bool false))] [0, 1, 2, 3, 4, 5, 6, 7] [] (cs := [.some (some (.bool (decide (((a : Nat) : Int) < ((s : Nat) : Int))))) (.bool true), .some (some (.bool (decide (((s : Nat) : Int) < ((mid : Nat) : Int))))) (.bool false)]) (by kernel_rfl) (by kernel_rfl) (by kernel_rfl) ?_ ?_
            · intro x hx
              simp only [List.mem_cons, List.not_mem_nil, or_false] at hx
              rcases hx with rfl | rfl
              · exact congrArg (fun b => some (Value.bool b)) (decide_eq_true (by omega))
              · exact congrArg (fun b => some (Value.bool b)) (decide_eq_false (by omega))
            show AWp _ _ _ _ _
            refine AWp.view [(0, .slice ra rs.length c), (1, .int .i64 ((a : Nat) : Int)), (2, .int .i64 ((m : Nat) : Int)), (3, .int .i64 ((b : Nat) : Int)), (4, .func (.func 72) #[] #[]), (18, .int .i64 ((mid : Nat) : Int)), (19, .int .i64 ((mid + m : Nat) : Int)), (20, .int .i64 ((s : Nat) : Int)), (24, .int .i64 ((mid + m - s : Nat) : Int)), (199, .bool false)] (by kernel_rfl) ?_
            refine AWp.condF (c := .tmp 199) (by kernel_rfl) (by kernel_rfl) ?_
            refine AWp.skip' (by kernel_rfl) ?_
            show AWp _ _ _ _ _
            refine AWp.view [(0, .slice ra rs.length c), (1, .int .i64 ((a : Nat) : Int)), (2, .int .i64 ((m : Nat) : Int)), (3, .int .i64 ((b : Nat) : Int)), (4, .func (.func 72) #[] #[]), (18, .int .i64 ((mid : Nat) : Int)), (19, .int .i64 ((mid + m : Nat) : Int)), (20, .int .i64 ((s : Nat) : Int)), (24, .int .i64 ((mid + m - s : Nat) : Int))] (by kernel_rfl) ?_
            refine AWp.seq' (by kernel_rfl) (AWp.region' (by kernel_rfl) ?_)
            refine AOps.run (n := 220) [(2, .val (.bool false))] [0, 1, 2, 3, 4, 5, 6, 7] [] (cs := [.some (some (.bool (decide (((mid : Nat) : Int) < ((mid + m - s : Nat) : Int))))) (.bool false)]) (by kernel_rfl) (by kernel_rfl) (by kernel_rfl) ?_ ?_
            · intro x hx
              simp only [List.mem_cons, List.not_mem_nil, or_false] at hx
              subst hx
              exact congrArg (fun b => some (Value.bool b)) (decide_eq_false (by omega))
            show AWp _ _ _ _ _
            refine AWp.view [(213, .bool false)] (by kernel_rfl) ?_
            refine AWp.condF (c := .tmp 213) (by kernel_rfl) (by kernel_rfl) ?_
            refine AWp.skip' (by kernel_rfl) ?_
            exact ⟨[], by kernel_rfl, rfl, hx⟩

theorem stable_spec {rs : List Res} (hs : Fine rs) {ra : Option Addr} {id c : Nat} {B : AHeap} (hv : rs ≠ [] → ra = some ⟨id, 0, none⟩ ∧ B.get id = some (.cells (resCells rs) 56 false)) :
    ACall Tryz.prog 91 [.slice ra rs.length c, .int .i64 (rs.length : Int), .func (.func 72) #[] #[]] B fun e B' => e = .ret (.tuple #[]) ∧ Ext B B' := by
  have hlen : rs.length < far := Nat.lt_of_le_of_lt hs.2.2 (by decide)
  unfold far at hlen
  refine ACall.walk (fn := Tryz.f91) (c := bodyOf Tryz.prog 91) (by kernel_rfl) (by kernel_rfl) (by kernel_rfl) ?_
  refine AWp.seq' (by kernel_rfl) (AWp.region' (by kernel_rfl) ?_)
  refine AOps.run (n := 63) [] [0] [] (cs := []) (by kernel_rfl) (by kernel_rfl) (by kernel_rfl) ?_ ?_
  · intro x hx; cases hx
  show AWp _ _ _ _ _
  refine AWp.view [(0, .slice ra rs.length c), (1, .int .i64 (rs.length : Int)), (2, .func (.func 72) #[] #[]), (6, .int .i64 ((20 : Nat) : Int))] (by kernel_rfl) ?_
  refine AWp.seq' (by kernel_rfl) (AWp.region' (by kernel_rfl) ?_)
  refine AOps.run (n := 63) [] [0, 1, 2] [] (cs := []) (by kernel_rfl) (by kernel_rfl) (by kernel_rfl) ?_ ?_
  · intro x hx; cases hx
  show AWp _ _ _ _ _
  refine AWp.view [(0, .slice ra rs.length c), (1, .int .i64 (rs.length : Int)), (2, .func (.func 72) #[] #[]), (6, .int .i64 ((20 : Nat) : Int)), (7, .int .i64 ((0 : Nat) : Int)), (8, .int .i64 ((20 : Nat) : Int))] (by kernel_rfl) ?_
  refine AWp.seq' (by kernel_rfl) (AWp.block' (id := 0) (by kernel_rfl) ?_)
  refine AWp.loop' (by kernel_rfl) (N := rs.length - 0) (fun m E H => ∃ a : Nat, m = rs.length - a ∧ a ≤ rs.length ∧ AEnv.le (envOf 63 (mkE [(0, .slice ra rs.length c), (1, .int .i64 (rs.length : Int)), (2, .func (.func 72) #[] #[]), (6, .int .i64 ((20 : Nat) : Int)), (7, .int .i64 ((a : Nat) : Int)), (8, .int .i64 ((a + 20 : Nat) : Int))])) E ∧ Ext B H) ⟨0, rfl, Nat.zero_le _, AEnv.le_refl _, Ext.refl B⟩ ?_
  rintro m E H ⟨a, rfl, ha, hE, hx⟩
  refine AWp.env hE ?_
  refine AWp.seq' (by kernel_rfl) ?_
  refine AWp.seq' (by kernel_rfl) (AWp.region' (by kernel_rfl) ?_)
  refine AOps.run (n := 63) [(2, .val (.bool (decide (((a + 20 : Nat) : Int) ≤ (rs.length : Int)))))] [0, 1, 2] [] (cs := [.some (some (.bool (decide (((a + 20 : Nat) : Int) ≤ (rs.length : Int))))) (.bool (decide (((a + 20 : Nat) : Int) ≤ (rs.length : Int))))]) (by kernel_rfl) (by kernel_rfl) (by kernel_rfl) ?_ ?_
  · intro x hx
    simp only [List.mem_cons, List.not_mem_nil, or_false] at hx
    subst hx
    rfl
  show AWp _ _ _ _ _
  refine AWp.view [(0, .slice ra rs.length c), (1, .int .i64 (rs.length : Int)), (2, .func (.func 72) #[] #[]), (6, .int .i64 ((20 : Nat) : Int)), (7, .int .i64 ((a : Nat) : Int)), (8, .int .i64 ((a + 20 : Nat) : Int)), (13, .bool (decide (((a + 20 : Nat) : Int) ≤ (rs.length : Int))))] (by kernel_rfl) ?_
  refine AWp.cond_ (c := .tmp 13) (t := decide (((a + 20 : Nat) : Int) ≤ (rs.length : Int))) (by kernel_rfl) (by kernel_rfl) (fun hT => ?_) (fun hF => ?_)
  · have hlt : a + 20 ≤ rs.length := by have := of_decide_eq_true hT; omega
    refine AWp.skip' (by kernel_rfl) ?_
    show AWp _ _ _ _ _
    refine AWp.block' (id := 1) (by kernel_rfl) ?_
    refine AWp.seq' (by kernel_rfl) (AWp.region' (by kernel_rfl) ?_)
    refine AOps.run (n := 63) [] [0, 1, 2, 3] [4] (cs := []) (by kernel_rfl) (by kernel_rfl) (by kernel_rfl) ?_ ?_
    · intro x hx; cases hx
    refine AOps.call (n := 63) 4 [] 113 [.slice ra rs.length c, .int .i64 ((a : Nat) : Int), .int .i64 ((a + 20 : Nat) : Int), .func (.func 72) #[] #[]] (by kernel_rfl) rfl (by kernel_rfl) (by kernel_rfl) (by kernel_rfl) (by kernel_rfl) (by kernel_rfl) (insertion_spec hs (fun hr => ⟨(hv hr).1, hx.get (hv hr).2⟩) hlt (by unfold far; omega)) ?_
    rintro e H2 ⟨rfl, hx2⟩
    refine ⟨_, rfl, ?_⟩
    show AWp _ _ _ _ _
    refine AWp.view [(0, .slice ra rs.length c), (1, .int .i64 (rs.length : Int)), (2, .func (.func 72) #[] #[]), (6, .int .i64 ((20 : Nat) : Int)), (7, .int .i64 ((a : Nat) : Int)), (8, .int .i64 ((a + 20 : Nat) : Int))] (by kernel_rfl) ?_
    refine AWp.seq' (by kernel_rfl) (AWp.region' (by kernel_rfl) ?_)
    refine AOps.run (n := 63) [] [0, 1] [] (cs := []) (by kernel_rfl) (by kernel_rfl) (by kernel_rfl) ?_ ?_
    · intro x hx; cases hx
    show AWp _ _ _ _ _
    refine AWp.view [(0, .slice ra rs.length c), (1, .int .i64 (rs.length : Int)), (2, .func (.func 72) #[] #[]), (6, .int .i64 ((20 : Nat) : Int)), (7, .int .i64 ((a + 20 : Nat) : Int)), (8, .int .i64 ((a + 20 : Nat) : Int))] (by kernel_rfl) ?_
    refine AWp.region' (by kernel_rfl) ?_
    refine AOps.run (n := 63) [(2, .val (.int .i64 ((a + 20 + 20 : Nat) : Int)))] [0, 1, 2, 3] [] (cs := [.some (some (.int .i64 (IntKind.i64.wrap (((a + 20 : Nat) : Int) + ((20 : Nat) : Int))))) (.int .i64 ((a + 20 + 20 : Nat) : Int))]) (by kernel_rfl) (by kernel_rfl) (by kernel_rfl) ?_ ?_
    · intro x hx
      simp only [List.mem_cons, List.not_mem_nil, or_false] at hx
      subst hx
      exact congrArg (fun x => some (Value.int .i64 x)) (wrap_add (by omega))
    exact ⟨rs.length - (a + 20), by omega, a + 20, rfl, hlt, mkE_le [(0, .slice ra rs.length c), (1, .int .i64 (rs.length : Int)), (2, .func (.func 72) #[] #[]), (6, .int .i64 ((20 : Nat) : Int)), (7, .int .i64 ((a + 20 : Nat) : Int)), (8, .int .i64 ((a + 20 + 20 : Nat) : Int))] (by kernel_rfl), hx.trans hx2⟩
  · refine AWp.exit' (id := 0) (by kernel_rfl) ?_
    show AWp _ _ _ _ _
    refine AWp.view [(0, .slice ra rs.length c), (1, .int .i64 (rs.length : Int)), (2, .func (.func 72) #[] #[]), (6, .int .i64 ((20 : Nat) : Int)), (7, .int .i64 ((a : Nat) : Int)), (8, .int .i64 ((a + 20 : Nat) : Int))] (by kernel_rfl) ?_
    refine AWp.seq' (by kernel_rfl) (AWp.region' (by kernel_rfl) ?_)
    refine AOps.run (n := 63) [] [0, 1, 2, 3] [4] (cs := []) (by kernel_rfl) (by kernel_rfl) (by kernel_rfl) ?_ ?_
    · intro x hx; cases hx
    refine AOps.call (n := 63) 4 [] 113 [.slice ra rs.length c, .int .i64 ((a : Nat) : Int), .int .i64 (rs.length : Int), .func (.func 72) #[] #[]] (by kernel_rfl) rfl (by kernel_rfl) (by kernel_rfl) (by kernel_rfl) (by kernel_rfl) (by kernel_rfl) (insertion_spec hs (fun hr => ⟨(hv hr).1, hx.get (hv hr).2⟩) (Nat.le_refl _) (by unfold far; omega)) ?_
    rintro e H2 ⟨rfl, hx2⟩
    refine ⟨_, rfl, ?_⟩
    show AWp _ _ _ _ _
    have hxx := hx.trans hx2
    clear hx hx2 hE
    refine AWp.view [(0, .slice ra rs.length c), (1, .int .i64 (rs.length : Int)), (2, .func (.func 72) #[] #[]), (6, .int .i64 ((20 : Nat) : Int))] (by kernel_rfl) ?_
    refine AWp.block' (id := 2) (by kernel_rfl) ?_
    refine AWp.loop' (by kernel_rfl) (N := 2 * rs.length + 40 - 20) (fun μ E H => ∃ k : Nat, μ = 2 * rs.length + 40 - k ∧ 0 < k ∧ k ≤ 2 * rs.length + 20 ∧ AEnv.le (envOf 63 (mkE [(0, .slice ra rs.length c), (1, .int .i64 (rs.length : Int)), (2, .func (.func 72) #[] #[]), (6, .int .i64 ((k : Nat) : Int))])) E ∧ Ext B H) ⟨20, rfl, by decide, by omega, AEnv.le_refl _, hxx⟩ ?_
    rintro μ E H ⟨k, rfl, hk0, hk, hE, hx⟩
    refine AWp.env hE ?_
    refine AWp.seq' (by kernel_rfl) ?_
    refine AWp.seq' (by kernel_rfl) (AWp.region' (by kernel_rfl) ?_)
    refine AOps.run (n := 63) [(2, .val (.bool (decide (((k : Nat) : Int) < ((rs.length : Nat) : Int)))))] [0, 1, 2] [] (cs := [.some (some (.bool (decide (((k : Nat) : Int) < ((rs.length : Nat) : Int))))) (.bool (decide (((k : Nat) : Int) < ((rs.length : Nat) : Int))))]) (by kernel_rfl) (by kernel_rfl) (by kernel_rfl) ?_ ?_
    · intro x hx
      simp only [List.mem_cons, List.not_mem_nil, or_false] at hx
      subst hx
      rfl
    show AWp _ _ _ _ _
    refine AWp.view [(0, .slice ra rs.length c), (1, .int .i64 (rs.length : Int)), (2, .func (.func 72) #[] #[]), (6, .int .i64 ((k : Nat) : Int)), (30, .bool (decide (((k : Nat) : Int) < ((rs.length : Nat) : Int))))] (by kernel_rfl) ?_
    refine AWp.cond_ (c := .tmp 30) (t := decide (((k : Nat) : Int) < ((rs.length : Nat) : Int))) (by kernel_rfl) (by kernel_rfl) (fun hT => ?_) (fun hF => ?_)
    · have hlt : k < rs.length := by have := of_decide_eq_true hT; omega
      refine AWp.skip' (by kernel_rfl) ?_
      show AWp _ _ _ _ _
      refine AWp.block' (id := 3) (by kernel_rfl) ?_
      refine AWp.seq' (by kernel_rfl) (AWp.region' (by kernel_rfl) ?_)
      refine AOps.run (n := 63) [(1, .val (.int .i64 ((2 * k : Nat) : Int)))] [0, 1, 2, 3] [] (cs := [.some (some (.int .i64 (IntKind.i64.wrap (2 * ((k : Nat) : Int))))) (.int .i64 ((2 * k : Nat) : Int))]) (by kernel_rfl) (by kernel_rfl) (by kernel_rfl) ?_ ?_
      · intro x hx
        simp only [List.mem_cons, List.not_mem_nil, or_false] at hx
        subst hx
        exact congrArg (fun x => some (Value.int .i64 x)) (by rw [wrap_id (by omega) (by omega)]; omega)
      show AWp _ _ _ _ _
      refine AWp.view [(0, .slice ra rs.length c), (1, .int .i64 (rs.length : Int)), (2, .func (.func 72) #[] #[]), (6, .int .i64 ((k : Nat) : Int)), (7, .int .i64 ((0 : Nat) : Int)), (8, .int .i64 ((2 * k : Nat) : Int))] (by kernel_rfl) ?_
      refine AWp.seq' (by kernel_rfl) (AWp.block' (id := 4) (by kernel_rfl) ?_)
      refine AWp.loop' (by kernel_rfl) (N := rs.length - 0) (fun μ E H => ∃ a : Nat, μ = rs.length - a ∧ a ≤ rs.length ∧ AEnv.le (envOf 63 (mkE [(0, .slice ra rs.length c), (1, .int .i64 (rs.length : Int)), (2, .func (.func 72) #[] #[]), (6, .int .i64 ((k : Nat) : Int)), (7, .int .i64 ((a : Nat) : Int)), (8, .int .i64 ((a + 2 * k : Nat) : Int))])) E ∧ Ext B H) ⟨0, rfl, Nat.zero_le _, by rw [Nat.zero_add]; exact AEnv.le_refl _, hx⟩ ?_
      clear hx hE
      rintro μ E H ⟨a, rfl, ha, hE, hx⟩
      refine AWp.env hE ?_
      refine AWp.seq' (by kernel_rfl) ?_
      refine AWp.seq' (by kernel_rfl) (AWp.region' (by kernel_rfl) ?_)
      refine AOps.run (n := 63) [(2, .val (.bool (decide (((a + 2 * k : Nat) : Int) ≤ ((rs.length : Nat) : Int)))))] [0, 1, 2] [] (cs := [.some (some (.bool (decide (((a + 2 * k : Nat) : Int) ≤ ((rs.length : Nat) : Int))))) (.bool (decide (((a + 2 * k : Nat) : Int) ≤ ((rs.length : Nat) : Int))))]) (by kernel_rfl) (by kernel_rfl) (by kernel_rfl) ?_ ?_
      · intro x hx
        simp only [List.mem_cons, List.not_mem_nil, or_false] at hx
        subst hx
        rfl
      show AWp _ _ _ _ _
      refine AWp.view [(0, .slice ra rs.length c), (1, .int .i64 (rs.length : Int)), (2, .func (.func 72) #[] #[]), (6, .int .i64 ((k : Nat) : Int)), (7, .int .i64 ((a : Nat) : Int)), (8, .int .i64 ((a + 2 * k : Nat) : Int)), (35, .bool (decide (((a + 2 * k : Nat) : Int) ≤ ((rs.length : Nat) : Int))))] (by kernel_rfl) ?_
      refine AWp.cond_ (c := .tmp 35) (t := decide (((a + 2 * k : Nat) : Int) ≤ ((rs.length : Nat) : Int))) (by kernel_rfl) (by kernel_rfl) (fun hT => ?_) (fun hF => ?_)
      · have hle : a + 2 * k ≤ rs.length := by have := of_decide_eq_true hT; omega
        refine AWp.skip' (by kernel_rfl) ?_
        show AWp _ _ _ _ _
        refine AWp.block' (id := 5) (by kernel_rfl) ?_
        refine AWp.seq' (by kernel_rfl) (AWp.region' (by kernel_rfl) ?_)
        refine AOps.run (n := 63) [(4, .val (.int .i64 ((a + k : Nat) : Int)))] [0, 1, 2, 3, 4, 5, 6] [7] (cs := [.some (some (.int .i64 (IntKind.i64.wrap (((a : Nat) : Int) + ((k : Nat) : Int))))) (.int .i64 ((a + k : Nat) : Int))]) (by kernel_rfl) (by kernel_rfl) (by kernel_rfl) ?_ ?_
        · intro x hx
          simp only [List.mem_cons, List.not_mem_nil, or_false] at hx
          subst hx
          exact congrArg (fun x => some (Value.int .i64 x)) (wrap_add (by omega))
        refine AOps.call (n := 63) 7 [] 114 [.slice ra rs.length c, .int .i64 ((a : Nat) : Int), .int .i64 ((a + k : Nat) : Int), .int .i64 ((a + 2 * k : Nat) : Int), .func (.func 72) #[] #[]] (by kernel_rfl) rfl (by kernel_rfl) (by kernel_rfl) (by kernel_rfl) (by kernel_rfl) (by kernel_rfl) (sym_spec hs _ a (a + k) (a + 2 * k) rfl (by omega) (by omega) hle H (fun hr => ⟨(hv hr).1, hx.get (hv hr).2⟩)) ?_
        rintro e H2 ⟨rfl, hx2⟩
        refine ⟨_, rfl, ?_⟩
        show AWp _ _ _ _ _
        refine AWp.view [(0, .slice ra rs.length c), (1, .int .i64 (rs.length : Int)), (2, .func (.func 72) #[] #[]), (6, .int .i64 ((k : Nat) : Int)), (7, .int .i64 ((a : Nat) : Int)), (8, .int .i64 ((a + 2 * k : Nat) : Int))] (by kernel_rfl) ?_
        refine AWp.seq' (by kernel_rfl) (AWp.region' (by kernel_rfl) ?_)
        refine AOps.run (n := 63) [] [0, 1] [] (cs := []) (by kernel_rfl) (by kernel_rfl) (by kernel_rfl) ?_ ?_
        · intro x hx; cases hx
        show AWp _ _ _ _ _
        refine AWp.view [(0, .slice ra rs.length c), (1, .int .i64 (rs.length : Int)), (2, .func (.func 72) #[] #[]), (6, .int .i64 ((k : Nat) : Int)), (7, .int .i64 ((a + 2 * k : Nat) : Int)), (8, .int .i64 ((a + 2 * k : Nat) : Int))] (by kernel_rfl) ?_
        refine AWp.region' (by kernel_rfl) ?_
        refine AOps.run (n := 63) [(2, .val (.int .i64 ((2 * k : Nat) : Int))), (3, .val (.int .i64 ((a + 2 * k + 2 * k : Nat) : Int)))] [0, 1, 2, 3, 4] [] (cs := [.some (some (.int .i64 (IntKind.i64.wrap (2 * ((k : Nat) : Int))))) (.int .i64 ((2 * k : Nat) : Int)), .some (some (.int .i64 (IntKind.i64.wrap (((a + 2 * k : Nat) : Int) + ((2 * k : Nat) : Int))))) (.int .i64 ((a + 2 * k + 2 * k : Nat) : Int))]) (by kernel_rfl) (by kernel_rfl) (by kernel_rfl) ?_ ?_
        · intro x hx
          simp only [List.mem_cons, List.not_mem_nil, or_false] at hx
          rcases hx with rfl | rfl
          · exact congrArg (fun x => some (Value.int .i64 x)) (by rw [wrap_id (by omega) (by omega)]; omega)
          · exact congrArg (fun x => some (Value.int .i64 x)) (wrap_add (by omega))
        exact ⟨rs.length - (a + 2 * k), by omega, a + 2 * k, rfl, hle, mkE_le [(0, .slice ra rs.length c), (1, .int .i64 (rs.length : Int)), (2, .func (.func 72) #[] #[]), (6, .int .i64 ((k : Nat) : Int)), (7, .int .i64 ((a + 2 * k : Nat) : Int)), (8, .int .i64 ((a + 2 * k + 2 * k : Nat) : Int))] (by kernel_rfl), hx.trans hx2⟩
      · skip
        refine AWp.exit' (id := 4) (by kernel_rfl) ?_
        show AWp _ _ _ _ _
        refine AWp.view [(0, .slice ra rs.length c), (1, .int .i64 (rs.length : Int)), (2, .func (.func 72) #[] #[]), (6, .int .i64 ((k : Nat) : Int)), (7, .int .i64 ((a : Nat) : Int))] (by kernel_rfl) ?_
        refine AWp.mid (by kernel_rfl) (fun E' H' => AEnv.le (envOf 63 (mkE [(0, .slice ra rs.length c), (1, .int .i64 (rs.length : Int)), (2, .func (.func 72) #[] #[]), (6, .int .i64 ((k : Nat) : Int))])) E' ∧ Ext B H') ?_ ?_
        · skip
          refine AWp.seq' (by kernel_rfl) (AWp.region' (by kernel_rfl) ?_)
          refine AOps.run (n := 63) [(2, .val (.int .i64 ((a + k : Nat) : Int)))] [0, 1, 2, 3] [] (cs := [.some (some (.int .i64 (IntKind.i64.wrap (((a : Nat) : Int) + ((k : Nat) : Int))))) (.int .i64 ((a + k : Nat) : Int))]) (by kernel_rfl) (by kernel_rfl) (by kernel_rfl) ?_ ?_
          · intro x hx
            simp only [List.mem_cons, List.not_mem_nil, or_false] at hx
            subst hx
            exact congrArg (fun x => some (Value.int .i64 x)) (wrap_add (by omega))
          show AWp _ _ _ _ _
          refine AWp.view [(0, .slice ra rs.length c), (1, .int .i64 (rs.length : Int)), (2, .func (.func 72) #[] #[]), (6, .int .i64 ((k : Nat) : Int)), (7, .int .i64 ((a : Nat) : Int)), (9, .int .i64 ((a + k : Nat) : Int))] (by kernel_rfl) ?_
          refine AWp.seq' (by kernel_rfl) (AWp.region' (by kernel_rfl) ?_)
          refine AOps.run (n := 63) [(2, .val (.bool (decide (((a + k : Nat) : Int) < ((rs.length : Nat) : Int)))))] [0, 1, 2] [] (cs := [.some (some (.bool (decide (((a + k : Nat) : Int) < ((rs.length : Nat) : Int))))) (.bool (decide (((a + k : Nat) : Int) < ((rs.length : Nat) : Int))))]) (by kernel_rfl) (by kernel_rfl) (by kernel_rfl) ?_ ?_
          · intro x hx
            simp only [List.mem_cons, List.not_mem_nil, or_false] at hx
            subst hx
            rfl
          show AWp _ _ _ _ _
          refine AWp.view [(0, .slice ra rs.length c), (1, .int .i64 (rs.length : Int)), (2, .func (.func 72) #[] #[]), (6, .int .i64 ((k : Nat) : Int)), (7, .int .i64 ((a : Nat) : Int)), (9, .int .i64 ((a + k : Nat) : Int)), (54, .bool (decide (((a + k : Nat) : Int) < ((rs.length : Nat) : Int))))] (by kernel_rfl) ?_
          refine AWp.cond_ (c := .tmp 54) (t := decide (((a + k : Nat) : Int) < ((rs.length : Nat) : Int))) (by kernel_rfl) (by kernel_rfl) (fun hT => ?_) (fun hF => ?_)
          · have hlt2 : a + k < rs.length := by have := of_decide_eq_true hT; omega
            refine AWp.region' (by kernel_rfl) ?_
            refine AOps.run (n := 63) [] [0, 1, 2, 3, 4] [5] (cs := []) (by kernel_rfl) (by kernel_rfl) (by kernel_rfl) ?_ ?_
            · intro x hx; cases hx
            refine AOps.call (n := 63) 5 [] 114 [.slice ra rs.length c, .int .i64 ((a : Nat) : Int), .int .i64 ((a + k : Nat) : Int), .int .i64 (rs.length : Int), .func (.func 72) #[] #[]] (by kernel_rfl) rfl (by kernel_rfl) (by kernel_rfl) (by kernel_rfl) (by kernel_rfl) (by kernel_rfl) (sym_spec hs _ a (a + k) rs.length rfl (by omega) hlt2 (Nat.le_refl _) H (fun hr => ⟨(hv hr).1, hx.get (hv hr).2⟩)) ?_
            rintro e H2 ⟨rfl, hx2⟩
            exact ⟨_, rfl, mkE_le [(0, .slice ra rs.length c), (1, .int .i64 (rs.length : Int)), (2, .func (.func 72) #[] #[]), (6, .int .i64 ((k : Nat) : Int))] (by kernel_rfl), hx.trans hx2⟩
          · skip
            refine AWp.skip' (by kernel_rfl) ?_
            exact ⟨mkE_le [(0, .slice ra rs.length c), (1, .int .i64 (rs.length : Int)), (2, .func (.func 72) #[] #[]), (6, .int .i64 ((k : Nat) : Int))] (by kernel_rfl), hx⟩
        rintro E' H' ⟨hE', hx'⟩
        refine AWp.env hE' ?_
        refine AWp.region' (by kernel_rfl) ?_
        refine AOps.run (n := 63) [(1, .val (.int .i64 ((k * 2 : Nat) : Int)))] [0, 1, 2] [] (cs := [.some (some (.int .i64 (IntKind.i64.wrap (((k : Nat) : Int) * 2)))) (.int .i64 ((k * 2 : Nat) : Int))]) (by kernel_rfl) (by kernel_rfl) (by kernel_rfl) ?_ ?_
        · intro x hx
          simp only [List.mem_cons, List.not_mem_nil, or_false] at hx
          subst hx
          exact congrArg (fun x => some (Value.int .i64 x)) (by rw [wrap_id (by omega) (by omega)]; omega)
        exact ⟨2 * rs.length + 40 - k * 2, by omega, k * 2, rfl, by omega, by omega, mkE_le [(0, .slice ra rs.length c), (1, .int .i64 (rs.length : Int)), (2, .func (.func 72) #[] #[]), (6, .int .i64 ((k * 2 : Nat) : Int))] (by kernel_rfl), hx'⟩
    · skip
      refine AWp.exit' (id := 2) (by kernel_rfl) ?_
      exact ⟨[], by kernel_rfl, rfl, hx⟩
theorem sort_spec {rs : List Res} (hs : Fine rs) {ra : Option Addr} {id c : Nat} {B : AHeap} (hv : rs ≠ [] → ra = some ⟨id, 0, none⟩ ∧ B.get id = some (.cells (resCells rs) 56 false)) :
    ACall Tryz.prog 71 [.slice ra rs.length c, .func (.func 72) #[] #[]] B fun e B' => e = .ret (.tuple #[]) ∧ Ext B B' := by
  refine ACall.walk (fn := Tryz.f71) (c := bodyOf Tryz.prog 71) (by kernel_rfl) (by kernel_rfl) (by kernel_rfl) ?_
  refine AWp.region' (by kernel_rfl) ?_
  refine AOps.run (n := 9) [] [0, 1, 2, 3] [4] (cs := []) (by kernel_rfl) (by kernel_rfl) (by kernel_rfl) ?_ ?_
  · intro x hx; cases hx
  refine AOps.call (n := 9) 4 [] 91 [.slice ra rs.length c, .int .i64 (rs.length : Int), .func (.func 72) #[] #[]] (by kernel_rfl) rfl (by kernel_rfl) (by kernel_rfl) (by kernel_rfl) (by kernel_rfl) (by kernel_rfl) (stable_spec hs hv) ?_
  rintro e H2 ⟨rfl, hx2⟩
  exact ⟨_, rfl, [], by kernel_rfl, rfl, hx2⟩
end Go.Proofs.YtihpfgnigpmihaaGreat
