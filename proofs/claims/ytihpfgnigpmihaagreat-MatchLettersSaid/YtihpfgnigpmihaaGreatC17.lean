/- match.Find. -/
import Derived.Test.YtihpfgnigpmihaaGreatC16
set_option linter.unusedVariables false
set_option linter.unusedSimpArgs false
set_option maxRecDepth 100000
namespace Go.Proofs.YtihpfgnigpmihaaGreat
open Go

theorem max_ok (a : Nat) : abuiltin Tryz.prog .max [3, 3] 3 [.int .i64 ((a : Nat) : Int), .int .i64 0] = some (.int .i64 ((a : Nat) : Int)) := by
  have h : abuiltin Tryz.prog .max [3, 3] 3 [.int .i64 ((a : Nat) : Int), .int .i64 0] = some (.int .i64 (if (a : Int) < 0 then 0 else (a : Int))) := by kernel_rfl
  rw [h, if_neg (by omega)]
theorem span_size (a b : Nat) {vs : List Value} (h : 3 ≤ vs.length) : (decide (szT Tryz.prog 35 = some (vcells (.agg #[.int .i64 ((a : Nat) : Int), .int .i64 ((b : Nat) : Int)])).length) && (vcells (.agg #[.int .i64 ((a : Nat) : Int), .int .i64 ((b : Nat) : Int)])).all (·.oneCell') && Nat.ble (1 + (vcells (.agg #[.int .i64 ((a : Nat) : Int), .int .i64 ((b : Nat) : Int)])).length) vs.length) = true := by
  have h1 : szT Tryz.prog 35 = some 2 := by kernel_rfl
  have h2 : Nat.ble 3 vs.length = true := Nat.ble_eq_true_of_le h
  rw [h1]
  show (true && true && Nat.ble 3 vs.length) = true
  rw [h2]; rfl

/-- What Find tells, by what each place tells. -/
def Found (R : Nat → List Res) (start len : Nat) (e : AEnd) (B' : AHeap) : Prop :=
  (∃ q x l j, start ≤ q ∧ q ≤ len ∧ R q = x :: l ∧ (∀ i, start ≤ i → i < q → R i = []) ∧ e = .ret (.tuple #[.slice (some ⟨j, 0, none⟩) 1 (unk 2), .bool true]) ∧ B'.get j = some (.cells [.int .i64 ((q : Nat) : Int), .int .i64 ((x.stop : Nat) : Int)] 35 false)) ∨
  ((∀ i, start ≤ i → i ≤ len → R i = []) ∧ e = .ret (.tuple #[.slice none 0 0, .bool false]))

theorem find_spec {ns : List Nd} {row : List Int} {p : Pl} {B : AHeap} (hE : Src B p ns row) (hgr : p.groups = 0) (hns : 0 < ns.length) (hR : ∀ B', Ext B B' → ACall Tryz.prog 12 [treeV p ns] B' fun e B2 => e = .ret (.bool true) ∧ Ext B' B2) {start : Nat} (R : Nat → List Res)
    (hden : ∀ q, start ≤ q → q ≤ row.length → ∃ n, den (ns.map Nd.pn) row n ⟨ns.length - 1, 0, q, minus 10⟩ = some (R q)) :
    ACall Tryz.prog 8 [treeV p ns, rowV p row, .int .i64 (start : Int), .pointer none] B fun e B' => Ext B B' ∧ Found R start row.length e B' := by
  refine ACall.walk (fn := Tryz.f8) (c := bodyOf Tryz.prog 8) (by kernel_rfl) (by kernel_rfl) (by kernel_rfl) ?_
  refine AWp.seq' (by kernel_rfl) (AWp.region' (by kernel_rfl) ?_)
  refine AOps.write (n := 52) 0 [1, 2] (.pointer (some ⟨B.next, 0, none⟩)) (B.push (.cells ([.slice (some ⟨p.N, 0, none⟩) ns.length p.nc, .int .i64 p.groups]) 31 false)) (by kernel_rfl) rfl (by kernel_rfl) (by kernel_rfl) (by kernel_rfl) (by kernel_rfl) ?_
  refine AOps.run (n := 52) [] [1, 2] [] (cs := []) (by kernel_rfl) (by kernel_rfl) (by kernel_rfl) ?_ ?_
  · intro x hx; cases hx
  show AWp _ _ _ _ _
  refine AWp.view [(1, .slice p.ra row.length p.rc), (2, .int .i64 ((start : Nat) : Int)), (3, .pointer none), (4, .pointer (some ⟨B.next, 0, none⟩))] (by kernel_rfl) ?_
  have hx0 : Ext B (B.push (.cells ([.slice (some ⟨p.N, 0, none⟩) ns.length p.nc, .int .i64 p.groups]) 31 false)) := Ext.push _ _
  have ht0 : (B.push (.cells ([.slice (some ⟨p.N, 0, none⟩) ns.length p.nc, .int .i64 p.groups]) 31 false)).get B.next = some (.cells ([.slice (some ⟨p.N, 0, none⟩) ns.length p.nc, .int .i64 p.groups]) 31 false) := AHeap.get_push_new _ _
  have hnb : (B.push (.cells ([.slice (some ⟨p.N, 0, none⟩) ns.length p.nc, .int .i64 p.groups]) 31 false)).next = B.next + 1 := rfl
  generalize B.push (.cells ([.slice (some ⟨p.N, 0, none⟩) ns.length p.nc, .int .i64 p.groups]) 31 false) = H0 at hx0 ht0 hnb ⊢
  refine AWp.seq' (by kernel_rfl) ?_
  refine AWp.seq' (by kernel_rfl) (AWp.region' (by kernel_rfl) ?_)
  refine AOps.run (n := 52) [(0, .blk ([.slice (some ⟨p.N, 0, none⟩) ns.length p.nc, .int .i64 p.groups]))] [0] [1, 2] (cs := [.blk (B.next) ([.slice (some ⟨p.N, 0, none⟩) ns.length p.nc, .int .i64 p.groups])]) (by kernel_rfl) (by kernel_rfl) (by kernel_rfl) ?_ ?_
  · intro x hx
    simp only [List.mem_cons, List.not_mem_nil, or_false] at hx
    subst hx
    exact ⟨31, false, ht0⟩
  refine AOps.call (n := 52) 1 [2] 12 [treeV p ns] (by kernel_rfl) rfl (by kernel_rfl) (by kernel_rfl) (by kernel_rfl) (by kernel_rfl) (by kernel_rfl) (hR H0 hx0) ?_
  rintro e H1 ⟨rfl, hx1⟩
  refine ⟨_, rfl, ?_⟩
  refine AOps.run (n := 52) [] [2] [] (cs := []) (by kernel_rfl) (by kernel_rfl) (by kernel_rfl) ?_ ?_
  · intro x hx; cases hx
  show AWp _ _ _ _ _
  refine AWp.view [(1, .slice p.ra row.length p.rc), (2, .int .i64 ((start : Nat) : Int)), (3, .pointer none), (4, .pointer (some ⟨B.next, 0, none⟩)), (15, .bool false)] (by kernel_rfl) ?_
  refine AWp.condF (c := .tmp 15) (by kernel_rfl) (by kernel_rfl) ?_
  refine AWp.skip' (by kernel_rfl) ?_
  show AWp _ _ _ _ _
  have ht1 := hx1.get ht0
  refine AWp.seq' (by kernel_rfl) (AWp.region' (by kernel_rfl) ?_)
  refine AOps.run (n := 52) [(0, .blk ([.slice (some ⟨p.N, 0, none⟩) ns.length p.nc, .int .i64 p.groups]))] [0, 1, 2] [3, 4] (cs := [.blk (B.next) ([.slice (some ⟨p.N, 0, none⟩) ns.length p.nc, .int .i64 p.groups])]) (by kernel_rfl) (by kernel_rfl) (by kernel_rfl) ?_ ?_
  · intro x hx
    simp only [List.mem_cons, List.not_mem_nil, or_false] at hx
    subst hx
    exact ⟨31, false, ht1⟩
  refine AOps.call (n := 52) 3 [4] 13 [treeV p ns, rowV p row, .pointer none] (by kernel_rfl) rfl (by kernel_rfl) (by kernel_rfl) (by kernel_rfl) (by kernel_rfl) (by kernel_rfl) (matcher_spec (hE.ext (hx0.trans hx1))) ?_
  rintro e H2 ⟨m, k, f, rfl, hx2, hE2, hm2, hk⟩
  refine ⟨_, rfl, ?_⟩
  refine AOps.run (n := 52) [] [4] [] (cs := []) (by kernel_rfl) (by kernel_rfl) (by kernel_rfl) ?_ ?_
  · intro x hx; cases hx
  show AWp _ _ _ _ _
  have ht2 := hx2.get ht1
  have hxB : Ext B H2 := (hx0.trans hx1).trans hx2
  refine AWp.view [(1, .slice p.ra row.length p.rc), (2, .int .i64 ((start : Nat) : Int)), (4, .pointer (some ⟨B.next, 0, none⟩)), (10, mp (p.with m k f))] (by kernel_rfl) ?_
  refine AWp.seq' (by kernel_rfl) ?_
  refine AWp.seq' (by kernel_rfl) (AWp.region' (by kernel_rfl) ?_)
  refine AOps.run (n := 52) [(1, .val (.int .i64 ((start : Nat) : Int)))] [0, 1, 2] [] (cs := [.some (abuiltin Tryz.prog .max [3, 3] 3 [.int .i64 ((start : Nat) : Int), .int .i64 0]) (.int .i64 ((start : Nat) : Int))]) (by kernel_rfl) (by kernel_rfl) (by kernel_rfl) ?_ ?_
  · intro x hx
    simp only [List.mem_cons, List.not_mem_nil, or_false] at hx
    subst hx
    exact max_ok _
  show AWp _ _ _ _ _
  refine AWp.view [(1, .slice p.ra row.length p.rc), (4, .pointer (some ⟨B.next, 0, none⟩)), (10, mp (p.with m k f)), (11, .int .i64 ((start : Nat) : Int))] (by kernel_rfl) ?_
  refine AWp.block' (id := 0) (by kernel_rfl) ?_
  refine AWp.loop' (by kernel_rfl) (N := row.length + 1 - start) (fun μ E H => ∃ q : Nat, μ = row.length + 1 - q ∧ start ≤ q ∧ q ≤ max start (row.length + 1) ∧ AEnv.le (envOf 52 (mkE [(1, .slice p.ra row.length p.rc), (4, .pointer (some ⟨B.next, 0, none⟩)), (10, mp (p.with m k f)), (11, .int .i64 ((q : Nat) : Int))])) E ∧ Grow k H2 H ∧ Memo ns row k (List.range H2.next) H ∧ ∀ i, start ≤ i → i < q → R i = [])
    ⟨start, rfl, Nat.le_refl _, Nat.le_max_left _ _, AEnv.le_refl _, Grow.refl _ _, hm2 _, fun i h1 h2 => absurd h1 (by omega)⟩ ?_
  rintro μ E H ⟨q, rfl, hq1, hq2, hEn, hg, hm, hnone⟩
  refine AWp.env hEn ?_
  have hlong := hE.long
  unfold far at hlong
  have hkB : B.next ≤ k := Nat.le_trans (hx0.trans hx1).next hk
  have hExt : ∀ {H' : AHeap}, Grow k H2 H' → Ext B H' := fun h => ⟨Nat.le_trans hxB.next h.next, fun i hi => by rw [h.old i (Nat.lt_of_lt_of_le hi hxB.next) (by omega)]; exact hxB.old i hi, h.rs.trans hxB.rs⟩
  refine AWp.seq' (by kernel_rfl) ?_
  refine AWp.seq' (by kernel_rfl) (AWp.region' (by kernel_rfl) ?_)
  refine AOps.run (n := 52) [(3, .val (.bool (decide ((q : Int) ≤ (row.length : Int)))))] [0, 1, 2, 3] [] (cs := [.some (some (.bool (decide ((q : Int) ≤ (row.length : Int))))) (.bool (decide ((q : Int) ≤ (row.length : Int))))]) (by kernel_rfl) (by kernel_rfl) (by kernel_rfl) ?_ ?_
  · intro x hx
    simp only [List.mem_cons, List.not_mem_nil, or_false] at hx
    subst hx
    rfl
  show AWp _ _ _ _ _
  refine AWp.view [(1, .slice p.ra row.length p.rc), (4, .pointer (some ⟨B.next, 0, none⟩)), (10, mp (p.with m k f)), (11, .int .i64 ((q : Nat) : Int)), (25, .bool (decide ((q : Int) ≤ (row.length : Int))))] (by kernel_rfl) ?_
  refine AWp.cond_ (c := .tmp 25) (t := decide ((q : Int) ≤ (row.length : Int))) (by kernel_rfl) (by kernel_rfl) (fun hT => ?_) (fun hF => ?_)
  · have hle : q ≤ row.length := by have := of_decide_eq_true hT; omega
    refine AWp.skip' (by kernel_rfl) ?_
    show AWp _ _ _ _ _
    refine AWp.seq' (by kernel_rfl) (AWp.block' (id := 1) (by kernel_rfl) ?_)
    refine AWp.seq' (by kernel_rfl) (AWp.region' (by kernel_rfl) ?_)
    obtain ⟨n, hden⟩ := hden q hq1 hle
    refine AOps.run (n := 52) [] [0, 1] [2, 3] (cs := []) (by kernel_rfl) (by kernel_rfl) (by kernel_rfl) ?_ ?_
    · intro x hx; cases hx
    refine AOps.call (n := 52) 2 [3] 14 [mp (p.with m k f), .int .i64 ((q : Nat) : Int)] (by kernel_rfl) rfl (by kernel_rfl) (by kernel_rfl) (by kernel_rfl) (by kernel_rfl) (by kernel_rfl) (from_spec (p := p.with m k f) (hE2.grow (hm2 []) hg) hm (fun i hi => Nat.lt_of_lt_of_le (List.mem_range.1 hi) hg.next) hns hden) ?_
    rintro e H3 ⟨v, rfl, hg3, hm3, hr3⟩
    refine ⟨v, rfl, ?_⟩
    refine AOps.run (n := 52) [] [3] [] (cs := []) (by kernel_rfl) (by kernel_rfl) (by kernel_rfl) ?_ ?_
    · intro x hx; cases hx
    show AWp _ _ _ _ _
    have hg23 : Grow k H2 H3 := hg.trans hg3
    have hkt : B.next ≠ k := fun e => by have h1 := hk; have h2 := (hx0.trans hx1).next; have h3 := hx1.next; omega
    have ht3 : H3.get B.next = some (.cells ([.slice (some ⟨p.N, 0, none⟩) ns.length p.nc, .int .i64 p.groups]) 31 false) := hg23.get ht2 hkt
    rcases hr3 with ⟨h1, rfl⟩ | ⟨id, c, rfl, hc, hb, hid⟩
    · skip
      refine AWp.view [(1, .slice p.ra row.length p.rc), (4, .pointer (some ⟨B.next, 0, none⟩)), (10, mp (p.with m k f)), (11, .int .i64 ((q : Nat) : Int)), (12, .slice none 0 0)] (by kernel_rfl) ?_
      refine AWp.seq' (by kernel_rfl) (AWp.region' (by kernel_rfl) ?_)
      refine AOps.run (n := 52) [] [0, 1, 2] [] (cs := []) (by kernel_rfl) (by kernel_rfl) (by kernel_rfl) ?_ ?_
      · intro x hx; cases hx
      show AWp _ _ _ _ _
      refine AWp.view [(1, .slice p.ra row.length p.rc), (4, .pointer (some ⟨B.next, 0, none⟩)), (10, mp (p.with m k f)), (11, .int .i64 ((q : Nat) : Int)), (33, .bool false)] (by kernel_rfl) ?_
      refine AWp.condF (c := .tmp 33) (by kernel_rfl) (by kernel_rfl) ?_
      refine AWp.skip' (by kernel_rfl) ?_
      show AWp _ _ _ _ _
      refine AWp.region' (by kernel_rfl) ?_
      refine AOps.run (n := 52) [(1, .val (.int .i64 ((q + 1 : Nat) : Int)))] [0, 1, 2] [] (cs := [.some (some (.int .i64 (IntKind.i64.wrap ((q : Int) + ((1 : Nat) : Int))))) (.int .i64 ((q + 1 : Nat) : Int))]) (by kernel_rfl) (by kernel_rfl) (by kernel_rfl) ?_ ?_
      · intro x hx
        simp only [List.mem_cons, List.not_mem_nil, or_false] at hx
        subst hx
        exact congrArg (fun x => some (Value.int .i64 x)) (wrap_add (by omega))
      exact ⟨row.length + 1 - (q + 1), by omega, q + 1, rfl, by omega, by omega, mkE_le [(1, .slice p.ra row.length p.rc), (4, .pointer (some ⟨B.next, 0, none⟩)), (10, mp (p.with m k f)), (11, .int .i64 ((q + 1 : Nat) : Int))] (by kernel_rfl), hg23, hm3, fun i h2 h3 => by
        rcases Nat.lt_or_ge i q with h4 | h4
        · exact hnone i h2 h4
        · rw [show i = q from by omega]; exact h1⟩
    · skip
      refine AWp.view [(1, .slice p.ra row.length p.rc), (4, .pointer (some ⟨B.next, 0, none⟩)), (10, mp (p.with m k f)), (11, .int .i64 ((q : Nat) : Int)), (12, .slice (some ⟨id, 0, none⟩) (R q).length c)] (by kernel_rfl) ?_
      by_cases h1 : R q = []
      · skip
        refine AWp.seq' (by kernel_rfl) (AWp.region' (by kernel_rfl) ?_)
        refine AOps.run (n := 52) [(2, .val (.bool false))] [0, 1, 2] [] (cs := [.some (some (.bool (decide (((R q).length : Int) > 0)))) (.bool false)]) (by kernel_rfl) (by kernel_rfl) (by kernel_rfl) ?_ ?_
        · intro x hx
          simp only [List.mem_cons, List.not_mem_nil, or_false] at hx
          subst hx
          rw [h1]; rfl
        show AWp _ _ _ _ _
        refine AWp.view [(1, .slice p.ra row.length p.rc), (4, .pointer (some ⟨B.next, 0, none⟩)), (10, mp (p.with m k f)), (11, .int .i64 ((q : Nat) : Int)), (33, .bool false)] (by kernel_rfl) ?_
        refine AWp.condF (c := .tmp 33) (by kernel_rfl) (by kernel_rfl) ?_
        refine AWp.skip' (by kernel_rfl) ?_
        show AWp _ _ _ _ _
        refine AWp.region' (by kernel_rfl) ?_
        refine AOps.run (n := 52) [(1, .val (.int .i64 ((q + 1 : Nat) : Int)))] [0, 1, 2] [] (cs := [.some (some (.int .i64 (IntKind.i64.wrap ((q : Int) + ((1 : Nat) : Int))))) (.int .i64 ((q + 1 : Nat) : Int))]) (by kernel_rfl) (by kernel_rfl) (by kernel_rfl) ?_ ?_
        · intro x hx
          simp only [List.mem_cons, List.not_mem_nil, or_false] at hx
          subst hx
          exact congrArg (fun x => some (Value.int .i64 x)) (wrap_add (by omega))
        exact ⟨row.length + 1 - (q + 1), by omega, q + 1, rfl, by omega, by omega, mkE_le [(1, .slice p.ra row.length p.rc), (4, .pointer (some ⟨B.next, 0, none⟩)), (10, mp (p.with m k f)), (11, .int .i64 ((q + 1 : Nat) : Int))] (by kernel_rfl), hg23, hm3, fun i h2 h3 => by
          rcases Nat.lt_or_ge i q with h4 | h4
          · exact hnone i h2 h4
          · rw [show i = q from by omega]; exact h1⟩
      obtain ⟨x, l, hx⟩ : ∃ x l, R q = x :: l := by cases hx : R q with
        | nil => exact absurd hx h1
        | cons x l => exact ⟨x, l, rfl⟩
      have hpos : 0 < (R q).length := by rw [hx]; exact Nat.succ_pos _
      have hb' : H3.get id = some (.cells (resCells (R q)) 56 false) := hb
      refine AWp.seq' (by kernel_rfl) (AWp.region' (by kernel_rfl) ?_)
      refine AOps.run (n := 52) [(2, .val (.bool true))] [0, 1, 2] [] (cs := [.some (some (.bool (decide (((R q).length : Int) > 0)))) (.bool true)]) (by kernel_rfl) (by kernel_rfl) (by kernel_rfl) ?_ ?_
      · intro x hx
        simp only [List.mem_cons, List.not_mem_nil, or_false] at hx
        subst hx
        exact congrArg (fun b => some (Value.bool b)) (decide_eq_true (by omega))
      show AWp _ _ _ _ _
      refine AWp.view [(1, .slice p.ra row.length p.rc), (4, .pointer (some ⟨B.next, 0, none⟩)), (10, mp (p.with m k f)), (11, .int .i64 ((q : Nat) : Int)), (12, .slice (some ⟨id, 0, none⟩) (R q).length c), (33, .bool true)] (by kernel_rfl) ?_
      refine AWp.condT (c := .tmp 33) (by kernel_rfl) (by kernel_rfl) ?_
      refine AWp.seq' (by kernel_rfl) (AWp.draw' mixed (.leaf [0, 1, 2, 3, 4, 5, 6, 7, 8, 9, 10]) (by kernel_rfl) (by kernel_rfl) ⟨by kernel_rfl, ?_⟩)
      have hk9 : keeps H3 (opsOf (fst (fst (snd (snd (fst (fst (snd (fst (fst (snd (fst (snd (snd (snd (bodyOf Tryz.prog 8)))))))))))))))).toList = H3 := by kernel_rfl
      rw [hk9]
      refine AOps.run (n := 52) [(3, .val (.pointer (some ⟨id, 0 + 0 * 21, none⟩))), (5, .part (resCells (R q)) (.int .i64 ((x.stop : Nat) : Int))), (7, .val (.pointer (some ⟨id, 0 + 0 * 21, none⟩)))] [0, 1, 2, 3, 4, 5, 6, 7, 8, 9] [10] (cs := [.some (aindexAddr Tryz.prog 51 (.slice (some ⟨id, 0, none⟩) (R q).length c) (.int .i64 0)) (.pointer (some ⟨id, 0 + 0 * 21, none⟩)), .blk (id) (resCells (R q)), .some (apart' (resCells (R q)) (0 + 0 * 21) 1 false) (.int .i64 ((x.stop : Nat) : Int)), .some (aindexAddr Tryz.prog 51 (.slice (some ⟨id, 0, none⟩) (R q).length c) (.int .i64 0)) (.pointer (some ⟨id, 0 + 0 * 21, none⟩))]) (by kernel_rfl) (by kernel_rfl) (by kernel_rfl) ?_ ?_
      · intro x hx
        simp only [List.mem_cons, List.not_mem_nil, or_false] at hx
        rcases hx with rfl | rfl | rfl | rfl
        · exact indexAddr_ok sl51 (i := 0) hpos
        · exact ⟨56, false, hb'⟩
        · exact apart_one (by rw [hx]; rfl)
        · exact indexAddr_ok sl51 (i := 0) hpos
      have hlenR : 21 ≤ (resCells (R q)).length := by rw [resCells_len]; omega
      refine AOps.store (n := 52) 10 [] (t := 35) (v := .agg #[.int .i64 ((q : Nat) : Int), .int .i64 ((x.stop : Nat) : Int)]) (b := id) (off := 1) (vs := resCells (R q)) (e := 56) (vs2 := putCells (resCells (R q)) 1 [.int .i64 ((q : Nat) : Int), .int .i64 ((x.stop : Nat) : Int)]) (by kernel_rfl) rfl (by kernel_rfl) (by kernel_rfl) (by kernel_rfl) hb' (span_size _ _ (by omega)) rfl ?_
      show AWp _ _ _ _ _
      have hid2 : H2.next ≤ id := by rcases Nat.lt_or_ge id H2.next with h | h; exact absurd (List.mem_range.2 h) hid; exact h
      have hb4 := AHeap.get_set_same (b := .cells (putCells (resCells (R q)) 1 [.int .i64 ((q : Nat) : Int), .int .i64 ((x.stop : Nat) : Int)]) 56 false) hb'
      have ht4 : (H3.set id (.cells (putCells (resCells (R q)) 1 [.int .i64 ((q : Nat) : Int), .int .i64 ((x.stop : Nat) : Int)]) 56 false)).get B.next = some (.cells ([.slice (some ⟨p.N, 0, none⟩) ns.length p.nc, .int .i64 p.groups]) 31 false) := by rw [AHeap.get_set_ne (by have := AHeap.get_lt ht2; omega)]; exact ht3
      have hg4 : Grow k H2 (H3.set id (.cells (putCells (resCells (R q)) 1 [.int .i64 ((q : Nat) : Int), .int .i64 ((x.stop : Nat) : Int)]) 56 false)) := hg23.set (.inl hid2) _
      generalize H3.set id (.cells (putCells (resCells (R q)) 1 [.int .i64 ((q : Nat) : Int), .int .i64 ((x.stop : Nat) : Int)]) 56 false) = H4 at hb4 ht4 hg4 ⊢
      refine AWp.view [(1, .slice p.ra row.length p.rc), (4, .pointer (some ⟨B.next, 0, none⟩)), (10, mp (p.with m k f)), (11, .int .i64 ((q : Nat) : Int)), (12, .slice (some ⟨id, 0, none⟩) (R q).length c)] (by kernel_rfl) ?_
      refine AWp.seq' (by kernel_rfl) (AWp.draw' mixed (.leaf [0, 1, 2, 3, 4, 5, 6, 7, 8, 9]) (by kernel_rfl) (by kernel_rfl) ⟨by kernel_rfl, ?_⟩)
      have hk10 : keeps H4 (opsOf (fst (snd (fst (snd (snd (fst (fst (snd (fst (fst (snd (fst (snd (snd (snd (bodyOf Tryz.prog 8))))))))))))))))).toList = H4 := by kernel_rfl
      rw [hk10]
      refine AOps.run (n := 52) [(1, .val (.pointer (some ⟨id, 0 + 0 * 21, none⟩))), (4, .blk ([.slice (some ⟨p.N, 0, none⟩) ns.length p.nc, .int .i64 p.groups])), (5, .val (.int .i64 1))] [0, 1, 2, 3, 4, 5, 6] [7, 8, 9] (cs := [.some (aindexAddr Tryz.prog 51 (.slice (some ⟨id, 0, none⟩) (R q).length c) (.int .i64 0)) (.pointer (some ⟨id, 0 + 0 * 21, none⟩)), .blk (B.next) ([.slice (some ⟨p.N, 0, none⟩) ns.length p.nc, .int .i64 p.groups]), .some (some (.int .i64 (IntKind.i64.wrap (p.groups + 1)))) (.int .i64 1)]) (by kernel_rfl) (by kernel_rfl) (by kernel_rfl) ?_ ?_
      · intro x hx
        simp only [List.mem_cons, List.not_mem_nil, or_false] at hx
        rcases hx with rfl | rfl | rfl
        · exact indexAddr_ok sl51 (i := 0) hpos
        · exact ⟨31, false, ht4⟩
        · rw [hgr]; rfl
      have hput : putCells (resCells (R q)) 1 [.int .i64 ((q : Nat) : Int), .int .i64 ((x.stop : Nat) : Int)] = [(resCells (R q)).headD (.bool false)] ++ [.int .i64 ((q : Nat) : Int), .int .i64 ((x.stop : Nat) : Int)] ++ (resCells (R q)).drop 3 := by
        unfold putCells; rw [hx]; rfl
      refine AOps.call (n := 52) 7 [8, 9] 15 [.slice (some ⟨id, 0 + 0 * 21 + 1, none⟩) 1 10] (by kernel_rfl) rfl (by kernel_rfl) (by kernel_rfl) (by kernel_rfl) (by kernel_rfl) (by kernel_rfl) (clone_spec (x := (q : Int)) (y := (x.stop : Int)) hb4 (by rw [hput]; rfl) (by rw [putCells_length (by simp only [List.length_cons, List.length_nil]; omega)]; omega)) ?_
      rintro e H5 ⟨j, rfl, hx5, hj, hjn⟩
      refine ⟨_, rfl, ?_⟩
      refine AOps.run (n := 52) [] [8, 9] [] (cs := []) (by kernel_rfl) (by kernel_rfl) (by kernel_rfl) ?_ ?_
      · intro x hx; cases hx
      show AWp _ _ _ _ _
      refine AWp.view [(8, .slice (some ⟨j, 0, none⟩) 1 (unk 2)), (9, .bool true)] (by kernel_rfl) ?_
      exact AWp.ret' (by kernel_rfl) ⟨[.slice (some ⟨j, 0, none⟩) 1 (unk 2), .bool true], by kernel_rfl, (hExt hg4).trans hx5, .inl ⟨q, x, l, j, hq1, hle, hx, hnone, rfl, hj⟩⟩
  · have hgt : row.length < q := by have := of_decide_eq_false hF; omega
    refine AWp.exit' (id := 0) (by kernel_rfl) ?_
    show AWp _ _ _ _ _
    refine AWp.view [] (by kernel_rfl) ?_
    refine AWp.seq' (by kernel_rfl) (AWp.region' (by kernel_rfl) ?_)
    refine AOps.run (n := 52) [] [0, 1] [] (cs := []) (by kernel_rfl) (by kernel_rfl) (by kernel_rfl) ?_ ?_
    · intro x hx; cases hx
    show AWp _ _ _ _ _
    refine AWp.view [(8, .slice none 0 0), (9, .bool false)] (by kernel_rfl) ?_
    exact AWp.ret' (by kernel_rfl) ⟨[.slice none 0 0, .bool false], by kernel_rfl, hExt hg, .inr ⟨fun i h1 h2 => hnone i h1 (by omega), rfl⟩⟩
end Go.Proofs.YtihpfgnigpmihaaGreat
