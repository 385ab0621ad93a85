/- How results are held against each other; insertion sort of a list that is in order. -/
import Derived.Test.YtihpfgnigpmihaaGreatC7
set_option linter.unusedVariables false
set_option linter.unusedSimpArgs false
set_option maxRecDepth 100000
namespace Go.Proofs.YtihpfgnigpmihaaGreat
open Go

theorem cmp_spec (x y : Res) (B : AHeap) : ACall Tryz.prog 72 [x.val, y.val] B fun e B' => e = .ret (.int .i64 (IntKind.i64.wrap ((y.stop : Int) - (x.stop : Int)))) ∧ Ext B B' := by
  have hv : outV (runCall Tryz.prog 72 [x.val, y.val]) = .int .i64 (IntKind.i64.wrap ((y.stop : Int) - (x.stop : Int))) := by kernel_rfl
  refine (ACall.evald (call_ok noBase_ok 1000 4) (f := 72) (args := [x.val, y.val]) (by kernel_rfl) (by kernel_rfl) (by kernel_rfl) B).mono ?_
  rintro e B' ⟨rfl, h, _⟩
  refine ⟨?_, h⟩
  show AEnd.ret (ren _ (outV (runCall Tryz.prog 72 [x.val, y.val]))) = _
  rw [hv]; rfl

theorem Falls.at : ∀ {rs : List Res}, Falls rs → ∀ {i j : Nat} {x y : Res}, i ≤ j → rs[i]? = some x → rs[j]? = some y → y.stop ≤ x.stop
  | [], _, i, j, x, y, _, h, _ => by simp at h
  | r :: rs, h, i, j, x, y, hij, hx, hy => by
    cases i with
    | zero =>
      cases j with
      | zero => simp at hx hy; subst hx hy; exact Nat.le_refl _
      | succ j => simp at hx hy; subst hx; exact h.1 y (List.mem_of_getElem? hy)
    | succ i =>
      cases j with
      | zero => omega
      | succ j => exact h.2.at (i := i) (j := j) (by omega) (by simpa using hx) (by simpa using hy)
theorem Fine.cmp {rs : List Res} (h : Fine rs) {i j : Nat} {x y : Res} (hij : i ≤ j) (hx : rs[i]? = some x) (hy : rs[j]? = some y) : ¬ IntKind.i64.wrap ((x.stop : Int) - (y.stop : Int)) < 0 := by
  have h1 := h.1.at hij hx hy
  have h3 := h.2.1 y (List.mem_of_getElem? hy)
  have h4 := h.2.1 x (List.mem_of_getElem? hx)
  unfold far at h3 h4
  rw [wrap_id (by omega) (by omega)]
  omega

/-- Results in a block. -/
def resCells (rs : List Res) : List Value := rs.flatMap Res.cells
theorem resCells_len (rs : List Res) : (resCells rs).length = rs.length * 21 := flatMap_len Res.cells 21 (fun _ => rfl) rs
theorem res_part {rs : List Res} {i : Nat} {x : Res} (h : rs[i]? = some x) : apart' (resCells rs) (0 + i * 21) 21 true = some x.val := by
  have hi : i < rs.length := (List.getElem?_eq_some_iff.1 h).1
  have hl := resCells_len rs
  unfold apart'
  rw [if_pos rfl, Nat.zero_add, if_pos (by rw [hl]; have := Nat.mul_le_mul_right 21 (Nat.succ_le_of_lt hi); rw [Nat.succ_mul] at this; exact this)]
  have := flatMap_part Res.cells 21 (fun _ => rfl) h
  unfold resCells
  rw [this]
  rfl
theorem sl51 : sliceT Tryz.prog 51 = some (56, 21, 168) := by kernel_rfl

theorem insertion_spec {rs : List Res} (hs : Fine rs) {ra : Option Addr} {id c : Nat} {B : AHeap} (hv : rs ≠ [] → ra = some ⟨id, 0, none⟩ ∧ B.get id = some (.cells (resCells rs) 56 false)) {a b : Nat} (hb : b ≤ rs.length) (hfar : a < far) :
    ACall Tryz.prog 113 [.slice ra rs.length c, .int .i64 (a : Int), .int .i64 (b : Int), .func (.func 72) #[] #[]] B fun e B' => e = .ret (.tuple #[]) ∧ Ext B B' := by
  have hlen : rs.length < far := Nat.lt_of_le_of_lt hs.2.2 (by decide)
  refine ACall.walk (fn := Tryz.f113) (c := bodyOf Tryz.prog 113) (by kernel_rfl) (by kernel_rfl) (by kernel_rfl) ?_
  refine AWp.seq' (by kernel_rfl) (AWp.region' (by kernel_rfl) ?_)
  refine AOps.run (n := 53) [(1, .val (.int .i64 ((a + 1 : Nat) : Int)))] [0, 1, 2] [] (cs := [.some (some (.int .i64 (IntKind.i64.wrap ((a : Int) + ((1 : Nat) : Int))))) (.int .i64 ((a + 1 : Nat) : Int))]) (by kernel_rfl) (by kernel_rfl) (by kernel_rfl) ?_ ?_
  · intro x hx
    simp only [List.mem_cons, List.not_mem_nil, or_false] at hx
    subst hx
    exact congrArg (fun x => some (Value.int .i64 x)) (wrap_add (by unfold far at hfar; omega))
  show AWp _ _ _ _ _
  refine AWp.view [(0, .slice ra rs.length c), (1, .int .i64 (a : Int)), (2, .int .i64 (b : Int)), (3, .func (.func 72) #[] #[]), (8, .int .i64 ((a + 1 : Nat) : Int))] (by kernel_rfl) ?_
  refine AWp.block' (id := 0) (by kernel_rfl) ?_
  refine AWp.loop' (by kernel_rfl) (N := b - (a + 1)) (fun m E H => ∃ i : Nat, m = b - i ∧ a < i ∧ i < far + 2 ∧ AEnv.le (envOf 53 (mkE [(0, .slice ra rs.length c), (1, .int .i64 (a : Int)), (2, .int .i64 (b : Int)), (3, .func (.func 72) #[] #[]), (8, .int .i64 (i : Int))])) E ∧ Ext B H) ⟨a + 1, rfl, by omega, by omega, AEnv.le_refl _, Ext.refl B⟩ ?_
  rintro m E H ⟨i, rfl, hai, hif, hE, hx⟩
  refine AWp.env hE ?_
  refine AWp.seq' (by kernel_rfl) ?_
  refine AWp.seq' (by kernel_rfl) (AWp.region' (by kernel_rfl) ?_)
  refine AOps.run (n := 53) [(2, .val (.bool (decide ((i : Int) < (b : Int)))))] [0, 1, 2] [] (cs := [.some (some (.bool (decide ((i : Int) < (b : Int))))) (.bool (decide ((i : Int) < (b : Int))))]) (by kernel_rfl) (by kernel_rfl) (by kernel_rfl) ?_ ?_
  · intro x hx
    simp only [List.mem_cons, List.not_mem_nil, or_false] at hx
    subst hx
    rfl
  show AWp _ _ _ _ _
  refine AWp.view [(0, .slice ra rs.length c), (1, .int .i64 (a : Int)), (2, .int .i64 (b : Int)), (3, .func (.func 72) #[] #[]), (8, .int .i64 (i : Int)), (14, .bool (decide ((i : Int) < (b : Int))))] (by kernel_rfl) ?_
  refine AWp.cond_ (c := .tmp 14) (t := decide ((i : Int) < (b : Int))) (by kernel_rfl) (by kernel_rfl) (fun hT => ?_) (fun hF => ?_)
  · have hib : i < b := by have := of_decide_eq_true hT; omega
    obtain ⟨x, hx1⟩ : ∃ x, rs[i]? = some x := ⟨_, List.getElem?_eq_getElem (by omega)⟩
    obtain ⟨y, hy1⟩ : ∃ y, rs[i - 1]? = some y := ⟨_, List.getElem?_eq_getElem (by omega)⟩
    obtain ⟨hra, hB⟩ := hv (fun e => by rw [e] at hx1; simp at hx1)
    refine AWp.skip' (by kernel_rfl) ?_
    show AWp _ _ _ _ _
    refine AWp.seq' (by kernel_rfl) (AWp.block' (id := 1) (by kernel_rfl) ?_)
    refine AWp.seq' (by kernel_rfl) (AWp.region' (by kernel_rfl) ?_)
    refine AOps.run (n := 53) [] [0, 1] [] (cs := []) (by kernel_rfl) (by kernel_rfl) (by kernel_rfl) ?_ ?_
    · intro x hx; cases hx
    show AWp _ _ _ _ _
    refine AWp.view [(0, .slice ra rs.length c), (1, .int .i64 (a : Int)), (2, .int .i64 (b : Int)), (3, .func (.func 72) #[] #[]), (8, .int .i64 (i : Int)), (9, .int .i64 (i : Int))] (by kernel_rfl) ?_
    refine AWp.block' (id := 2) (by kernel_rfl) ?_
    refine AWp.loop1 (by kernel_rfl) ?_
    refine AWp.seq' (by kernel_rfl) ?_
    have hD : ∀ (vs : List Value), vs = resCells rs → ∃ e ro, H.get id = some (.cells vs e ro) := fun vs h => ⟨56, false, by rw [h]; exact hx.get hB⟩
    refine AWp.seq' (by kernel_rfl) (AWp.draw' mixed (.leaf [0, 1, 2, 3, 4, 5, 6, 7, 8, 9, 10, 11, 12, 13, 14, 15, 16]) (by kernel_rfl) (by kernel_rfl) ⟨by kernel_rfl, ?_⟩)
    have hk : keeps (H) (opsOf (fst (fst (fst (fst (snd (fst (fst (snd (fst (fst (snd (bodyOf Tryz.prog 113))))))))))))).toList = H := by kernel_rfl
    rw [hk]
    clear hk
    refine AOps.run (n := 53) [(2, .val (.bool true)), (7, .val (.pointer (some ⟨id, 0 + i * 21, none⟩))), (8, .part (resCells rs) (x.val)), (11, .val (.int .i64 ((i - 1 : Nat) : Int))), (12, .val (.pointer (some ⟨id, 0 + (i - 1) * 21, none⟩))), (13, .part (resCells rs) (y.val))] [0, 1, 2, 3, 4, 5, 6, 7, 8, 9, 10, 11, 12, 13] [14, 15, 16] (cs := [.some (some (.bool (decide ((a : Int) < (i : Int))))) (.bool true), .some (aindexAddr Tryz.prog 51 (.slice ra rs.length c) (.int .i64 (i : Int))) (.pointer (some ⟨id, 0 + i * 21, none⟩)), .blk (id) (resCells rs), .some (apart' (resCells rs) (0 + i * 21) 21 true) (x.val), .some (some (.int .i64 (IntKind.i64.wrap ((i : Int) - 1)))) (.int .i64 ((i - 1 : Nat) : Int)), .some (aindexAddr Tryz.prog 51 (.slice ra rs.length c) (.int .i64 ((i - 1 : Nat) : Int))) (.pointer (some ⟨id, 0 + (i - 1) * 21, none⟩)), .blk (id) (resCells rs), .some (apart' (resCells rs) (0 + (i - 1) * 21) 21 true) (y.val)]) (by kernel_rfl) (by kernel_rfl) (by kernel_rfl) ?_ ?_
    · intro x hx
      simp only [List.mem_cons, List.not_mem_nil, or_false] at hx
      rcases hx with rfl | rfl | rfl | rfl | rfl | rfl | rfl | rfl
      · exact congrArg (fun b => some (Value.bool b)) (decide_eq_true (by omega))
      · rw [hra]; exact indexAddr_ok sl51 (by omega)
      · exact hD _ rfl
      · exact res_part hx1
      · exact congrArg (fun x => some (Value.int .i64 x)) (by rw [wrap_id (by omega) (by unfold far at hif; omega)]; omega)
      · rw [hra]; exact indexAddr_ok sl51 (by omega)
      · exact hD _ rfl
      · exact res_part hy1
    refine AOps.call (n := 53) 14 [15, 16] 72 [x.val, y.val] (by kernel_rfl) rfl (by kernel_rfl) (by kernel_rfl) (by kernel_rfl) (by kernel_rfl) (by kernel_rfl) (cmp_spec x y H) ?_
    rintro e H2 ⟨rfl, hx2⟩
    refine ⟨_, rfl, ?_⟩
    refine AOps.run (n := 53) [(15, .val (.bool false))] [15, 16] [] (cs := [.some (some (.bool (decide (IntKind.i64.wrap ((y.stop : Int) - (x.stop : Int)) < 0)))) (.bool false)]) (by kernel_rfl) (by kernel_rfl) (by kernel_rfl) ?_ ?_
    · intro x hx
      simp only [List.mem_cons, List.not_mem_nil, or_false] at hx
      subst hx
      exact congrArg (fun b => some (Value.bool b)) (decide_eq_false (hs.cmp (by omega) hy1 hx1))
    show AWp _ _ _ _ _
    refine AWp.view [(0, .slice ra rs.length c), (1, .int .i64 (a : Int)), (2, .int .i64 (b : Int)), (3, .func (.func 72) #[] #[]), (8, .int .i64 (i : Int)), (34, .bool false)] (by kernel_rfl) ?_
    refine AWp.condF (c := .tmp 34) (by kernel_rfl) (by kernel_rfl) ?_
    refine AWp.exit' (id := 2) (by kernel_rfl) ?_
    show AWp _ _ _ _ _
    refine AWp.region' (by kernel_rfl) ?_
    refine AOps.run (n := 53) [(1, .val (.int .i64 ((i + 1 : Nat) : Int)))] [0, 1, 2] [] (cs := [.some (some (.int .i64 (IntKind.i64.wrap ((i : Int) + ((1 : Nat) : Int))))) (.int .i64 ((i + 1 : Nat) : Int))]) (by kernel_rfl) (by kernel_rfl) (by kernel_rfl) ?_ ?_
    · intro x hx
      simp only [List.mem_cons, List.not_mem_nil, or_false] at hx
      subst hx
      exact congrArg (fun x => some (Value.int .i64 x)) (wrap_add (by unfold far at hif; omega))
    exact ⟨b - (i + 1), by omega, i + 1, rfl, by omega, by omega, mkE_le [(0, .slice ra rs.length c), (1, .int .i64 (a : Int)), (2, .int .i64 (b : Int)), (3, .func (.func 72) #[] #[]), (8, .int .i64 ((i + 1 : Nat) : Int))] (by kernel_rfl), hx.trans hx2⟩
  · refine AWp.exit' (id := 0) (by kernel_rfl) ?_
    exact ⟨[], by kernel_rfl, rfl, hx⟩
end Go.Proofs.YtihpfgnigpmihaaGreat
