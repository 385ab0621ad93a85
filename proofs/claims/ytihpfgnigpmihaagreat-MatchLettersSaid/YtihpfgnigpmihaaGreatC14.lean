/- match.row. -/
import Derived.Test.YtihpfgnigpmihaaGreatC13
set_option linter.unusedVariables false
set_option linter.unusedSimpArgs false
set_option maxRecDepth 100000
namespace Go.Proofs.YtihpfgnigpmihaaGreat
open Go

/-- The inner function, from a kid on. -/
def TellSpec (ns : List Nd) (row : List Int) (n : Nat) (p : Pl) (ka : Option Addr) (kb kc : Nat) (kl : List Nat) (i5 i2 i6 : Nat) (i : Nat) : Prop := i ≤ kl.length → ∀ (pv : List Nat) (B : AHeap) (x : Res) (rs : List Res), Eng B p ns row → Memo ns row p.K pv B → (∀ i ∈ pv, i < B.next) →
    B.get i5 = some (.cells [.slice ka kl.length kc] 38 false) → B.get i2 = some (.cells [mp p] 49 false) → B.get i6 = some (.cells [.func (.func 53) #[] #[.pointer (some ⟨i5, 0, none⟩), .pointer (some ⟨i2, 0, none⟩), .pointer (some ⟨i6, 0, none⟩)]] 109 false) →
    (kl ≠ [] → ka = some ⟨kb, 0, none⟩ ∧ B.get kb = some (.cells (kl.map fun (k : Nat) => .int .i64 (k : Int)) 3 false)) → kl.length < far → tellD (den (ns.map Nd.pn) row n) (kl.drop i) x = some rs →
    ACall Tryz.prog 53 [.int .i64 (i : Int), x.val, .pointer (some ⟨i5, 0, none⟩), .pointer (some ⟨i2, 0, none⟩), .pointer (some ⟨i6, 0, none⟩)] B (Tells p ns row pv B rs)
theorem tell_step {ns : List Nd} {row : List Int} {n : Nat} (hrs : ResSpec ns row n) {p : Pl} {ka : Option Addr} {kb kc : Nat} {kl : List Nat} {i5 i2 i6 i : Nat} (ih : i < kl.length → TellSpec ns row n p ka kb kc kl i5 i2 i6 (i + 1)) : TellSpec ns row n p ka kb kc kl i5 i2 i6 i := by
  intro hil pv B x rs hE hm hpv h5 h2 h6 hk0' hklong hd
  let B1 := B.push (.cells x.cells 56 false)
  have hX : B1.get B.next = some (.cells x.cells 56 false) := AHeap.get_push_new _ _
  have hx0 : Ext B B1 := Ext.push B _
  have h5 := hx0.get h5
  have h2 := hx0.get h2
  have h6 := hx0.get h6
  have hk : kl ≠ [] → ka = some ⟨kb, 0, none⟩ ∧ B1.get kb = some (.cells (kl.map fun (k : Nat) => .int .i64 (k : Int)) 3 false) := fun h => ⟨(hk0' h).1, hx0.get (hk0' h).2⟩
  have hE1 : Eng B1 p ns row := hE.ext hx0
  have hm1 : Memo ns row p.K pv B1 := hm.ext hx0
  have hpv1 : ∀ i ∈ pv, i < B1.next := fun i hi => Nat.lt_succ_of_lt (hpv i hi)
  refine ACall.walk (fn := Tryz.f53) (c := bodyOf Tryz.prog 53) (by kernel_rfl) (by kernel_rfl) (by kernel_rfl) ?_
  refine AWp.seq' (by kernel_rfl) (AWp.region' (by kernel_rfl) ?_)
  refine AOps.write (n := 43) 0 [1] (.pointer (some ⟨B.next, 0, none⟩)) (B1) (by kernel_rfl) rfl (by kernel_rfl) (by kernel_rfl) (by kernel_rfl) (by kernel_rfl) ?_
  refine AOps.run (n := 43) [] [1] [] (cs := []) (by kernel_rfl) (by kernel_rfl) (by kernel_rfl) ?_ ?_
  · intro x hx; cases hx
  show AWp _ _ _ _ _
  refine AWp.view [(0, .int .i64 ((i : Nat) : Int)), (2, .pointer (some ⟨i5, 0, none⟩)), (3, .pointer (some ⟨i2, 0, none⟩)), (4, .pointer (some ⟨i6, 0, none⟩)), (6, .pointer (some ⟨B.next, 0, none⟩))] (by kernel_rfl) ?_
  refine AWp.seq' (by kernel_rfl) ?_
  refine AWp.seq' (by kernel_rfl) (AWp.region' (by kernel_rfl) ?_)
  refine AOps.run (n := 43) [(1, .blk ([.slice ka kl.length kc])), (3, .val (.bool (decide ((i : Int) = (kl.length : Int)))))] [0, 1, 2, 3] [] (cs := [.blk (i5) ([.slice ka kl.length kc]), .some (some (.bool (decide ((i : Int) = (kl.length : Int))))) (.bool (decide ((i : Int) = (kl.length : Int))))]) (by kernel_rfl) (by kernel_rfl) (by kernel_rfl) ?_ ?_
  · intro x hx
    simp only [List.mem_cons, List.not_mem_nil, or_false] at hx
    rcases hx with rfl | rfl
    · exact ⟨38, false, h5⟩
    · rfl
  show AWp _ _ _ _ _
  refine AWp.view [(0, .int .i64 ((i : Nat) : Int)), (2, .pointer (some ⟨i5, 0, none⟩)), (3, .pointer (some ⟨i2, 0, none⟩)), (4, .pointer (some ⟨i6, 0, none⟩)), (6, .pointer (some ⟨B.next, 0, none⟩)), (14, .bool (decide ((i : Int) = (kl.length : Int))))] (by kernel_rfl) ?_
  refine AWp.cond_ (c := .tmp 14) (t := decide ((i : Int) = (kl.length : Int))) (by kernel_rfl) (by kernel_rfl) (fun hT => ?_) (fun hF => ?_)
  · have hi : i = kl.length := by have := of_decide_eq_true hT; omega
    have hrs' : rs = [x] := by rw [hi, List.drop_length] at hd; exact (Option.some.inj hd).symm
    refine AWp.seq' (by kernel_rfl) (AWp.region' (by kernel_rfl) ?_)
    refine AOps.run (n := 43) [(0, .blk (x.cells))] [0] [1, 2] (cs := [.blk (B.next) (x.cells)]) (by kernel_rfl) (by kernel_rfl) (by kernel_rfl) ?_ ?_
    · intro x hx
      simp only [List.mem_cons, List.not_mem_nil, or_false] at hx
      subst hx
      exact ⟨56, false, hX⟩
    refine AOps.write (n := 43) 1 [2] (.slice (some ⟨B1.next, 0, none⟩) 1 1) (B1.push (.cells x.cells 56 false)) (by kernel_rfl) rfl (by kernel_rfl) (by kernel_rfl) (by kernel_rfl) (by kernel_rfl) ?_
    refine AOps.run (n := 43) [] [2] [] (cs := []) (by kernel_rfl) (by kernel_rfl) (by kernel_rfl) ?_ ?_
    · intro x hx; cases hx
    show AWp _ _ _ _ _
    refine AWp.view [(7, .slice (some ⟨B1.next, 0, none⟩) 1 1)] (by kernel_rfl) ?_
    exact AWp.ret' (by kernel_rfl) ⟨[.slice (some ⟨B1.next, 0, none⟩) 1 1], by kernel_rfl, _, rfl, ((Ext.push B _).trans (Ext.push _ _)).grow _, hm.ext ((Ext.push B _).trans (Ext.push _ _)), .inr ⟨B1.next, 1, by rw [hrs']; rfl, .inl (by rw [hrs']; rfl), by rw [hrs', AHeap.get_push_new]; simp [Res.cells], fun h => by have := hpv _ h; simp only [B1, AHeap.push] at this; omega⟩⟩
  · have hi : i < kl.length := by have := of_decide_eq_false hF; omega
    obtain ⟨k0, hk0⟩ : ∃ k0, kl[i]? = some k0 := ⟨_, List.getElem?_eq_getElem hi⟩
    have hdrop : kl.drop i = k0 :: kl.drop (i + 1) := by rw [List.drop_eq_getElem_cons hi, (List.getElem?_eq_some_iff.1 hk0).2]
    rw [hdrop] at hd
    obtain ⟨ys, hys, hd1⟩ := bindO_some hd
    obtain ⟨l, hjoin, hd2⟩ := bindO_some hd1
    unfold orderedD at hd2
    split at hd2
    case isFalse => cases hd2
    rename_i hlf
    obtain ⟨hlong, hfine⟩ := hlf
    have hrs' : once [] l = rs := Option.some.inj hd2
    obtain ⟨hka, hkb⟩ := hk (fun e => by rw [e] at hi; simp at hi)
    refine AWp.skip' (by kernel_rfl) ?_
    show AWp _ _ _ _ _
    refine AWp.seq' (by kernel_rfl) (AWp.region' (by kernel_rfl) ?_)
    refine AOps.run (n := 43) [] [0] [] (cs := []) (by kernel_rfl) (by kernel_rfl) (by kernel_rfl) ?_ ?_
    · intro x hx; cases hx
    show AWp _ _ _ _ _
    refine AWp.view [(0, .int .i64 ((i : Nat) : Int)), (2, .pointer (some ⟨i5, 0, none⟩)), (3, .pointer (some ⟨i2, 0, none⟩)), (4, .pointer (some ⟨i6, 0, none⟩)), (6, .pointer (some ⟨B.next, 0, none⟩)), (8, .slice none 0 0)] (by kernel_rfl) ?_
    refine AWp.seq' (by kernel_rfl) ?_
    refine AWp.seq' (by kernel_rfl) (AWp.draw' mixed (.leaf [0, 1, 2, 3, 4, 5, 6, 7, 8, 9, 12, 10, 11]) (by kernel_rfl) (by kernel_rfl) ⟨by kernel_rfl, ?_⟩)
    have hk4 : keeps B1 (opsOf (fst (fst (snd (snd (snd (bodyOf Tryz.prog 53))))))).toList = B1 := by kernel_rfl
    rw [hk4]
    refine AOps.run (n := 43) [(0, .blk ([mp p])), (1, .blk ([.slice ka kl.length kc])), (3, .val (.pointer (some ⟨kb, 0 + i * 1, none⟩))), (4, .part (kl.map fun (k : Nat) => .int .i64 (k : Int)) (.int .i64 ((k0 : Nat) : Int))), (6, .blk (x.cells)), (8, .blk (x.cells))] [0, 1, 2, 3, 4, 5, 6, 7, 8, 9, 12] [10, 11] (cs := [.blk (i2) ([mp p]), .blk (i5) ([.slice ka kl.length kc]), .some (aindexAddr Tryz.prog 38 (.slice ka kl.length kc) (.int .i64 (i : Int))) (.pointer (some ⟨kb, 0 + i * 1, none⟩)), .blk (kb) (kl.map fun (k : Nat) => .int .i64 (k : Int)), .some (apart' (kl.map fun (k : Nat) => .int .i64 (k : Int)) (0 + i * 1) 1 false) (.int .i64 ((k0 : Nat) : Int)), .blk (B.next) (x.cells), .blk (B.next) (x.cells)]) (by kernel_rfl) (by kernel_rfl) (by kernel_rfl) ?_ ?_
    · intro x hx
      simp only [List.mem_cons, List.not_mem_nil, or_false] at hx
      rcases hx with rfl | rfl | rfl | rfl | rfl | rfl | rfl
      · exact ⟨49, false, h2⟩
      · exact ⟨38, false, h5⟩
      · rw [hka]; exact indexAddr_ok (by kernel_rfl : sliceT Tryz.prog 38 = some (3, 1, 8)) hi
      · exact ⟨3, false, hkb⟩
      · exact apart_one (by simp [hk0])
      · exact ⟨56, false, hX⟩
      · exact ⟨56, false, hX⟩
    have hcall := hrs p pv B1 ⟨k0, 0, x.stop, x.g⟩ ys hE1 hm1 hpv1 hys
    refine AOps.call (n := 43) 10 [11] 36 [mp p, St.val ⟨k0, 0, x.stop, x.g⟩] (by kernel_rfl) rfl (by kernel_rfl) (by kernel_rfl) (by kernel_rfl) (by kernel_rfl) (by kernel_rfl) (hcall) ?_
    rintro e H2 ⟨v, rfl, hgr, hmm, hrv⟩
    refine ⟨v, rfl, ?_⟩
    obtain ⟨ra, yb, yc, hyv, hyb⟩ := hrv.rows.split
    subst hyv
    refine AOps.run (n := 43) [] [11] [] (cs := []) (by kernel_rfl) (by kernel_rfl) (by kernel_rfl) ?_ ?_
    · intro x hx; cases hx
    show AWp _ _ _ _ _
    refine AWp.view [(0, .int .i64 ((i : Nat) : Int)), (2, .pointer (some ⟨i5, 0, none⟩)), (3, .pointer (some ⟨i2, 0, none⟩)), (4, .pointer (some ⟨i6, 0, none⟩)), (8, .slice none 0 0), (27, .slice ra ys.length yc), (28, .int .i64 ((ys.length : Nat) : Int)), (29, .int .i64 ((0 : Nat) : Int))] (by kernel_rfl) ?_
    refine AWp.block' (id := 0) (by kernel_rfl) ?_
    have hnK : ∀ {i vs e ro}, B1.get i = some (.cells vs e ro) → i ≠ p.K := fun hi e => by obtain ⟨q1, q2, q3, q4, _⟩ := hm1; rw [e, q4] at hi; cases hi
    have hnK2 : ∀ {i vs e ro}, H2.get i = some (.cells vs e ro) → i ≠ p.K := fun hi e => by obtain ⟨q1, q2, q3, q4, _⟩ := hmm; rw [e, q4] at hi; cases hi
    have hE2 : Eng H2 p ns row := hE1.grow hm1 hgr
    have g5 := hgr.get h5 (hnK h5)
    have g2 := hgr.get h2 (hnK h2)
    have g6 := hgr.get h6 (hnK h6)
    refine AWp.loop' (by kernel_rfl) (N := ys.length - 0) (fun m E H => ∃ (k : Nat) (o : Value) (out : List Res) (ol : List Nat), m = ys.length - k ∧ k ≤ ys.length ∧ AEnv.le (envOf 43 (mkE [(0, .int .i64 ((i : Nat) : Int)), (2, .pointer (some ⟨i5, 0, none⟩)), (3, .pointer (some ⟨i2, 0, none⟩)), (4, .pointer (some ⟨i6, 0, none⟩)), (8, o), (27, .slice ra ys.length yc), (28, .int .i64 ((ys.length : Nat) : Int)), (29, .int .i64 ((k : Nat) : Int))])) E ∧ Grow p.K H2 H ∧ Memo ns row p.K (ol ++ pv) H ∧ Own H2.next H o out ol ∧ joinO (tellD (den (ns.map Nd.pn) row n) (kl.drop (i + 1))) (ys.take k) = some out)
      ⟨0, .slice none 0 0, [], [], rfl, Nat.zero_le _, AEnv.le_refl _, Grow.refl _ _, hmm, .inl ⟨rfl, rfl, rfl⟩, rfl⟩ ?_
    rintro m E H ⟨k, o, acc, ol, rfl, hkl, hEn, hg, hmk, ho, hacc⟩
    refine AWp.env hEn ?_
    refine AWp.seq' (by kernel_rfl) (AWp.region' (by kernel_rfl) ?_)
    refine AOps.run (n := 43) [(0, .val (.bool (decide ((k : Int) < (ys.length : Int)))))] [0] [] (cs := [.some (some (.bool (decide ((k : Int) < (ys.length : Int))))) (.bool (decide ((k : Int) < (ys.length : Int))))]) (by kernel_rfl) (by kernel_rfl) (by kernel_rfl) ?_ ?_
    · intro x hx
      simp only [List.mem_cons, List.not_mem_nil, or_false] at hx
      subst hx
      rfl
    show AWp _ _ _ _ _
    refine AWp.view [(0, .int .i64 ((i : Nat) : Int)), (2, .pointer (some ⟨i5, 0, none⟩)), (3, .pointer (some ⟨i2, 0, none⟩)), (4, .pointer (some ⟨i6, 0, none⟩)), (8, o), (27, .slice ra ys.length yc), (28, .int .i64 ((ys.length : Nat) : Int)), (29, .int .i64 ((k : Nat) : Int)), (30, .bool (decide ((k : Int) < (ys.length : Int))))] (by kernel_rfl) ?_
    refine AWp.seq' (by kernel_rfl) (AWp.cond_ (c := .tmp 30) (t := decide ((k : Int) < (ys.length : Int))) (by kernel_rfl) (by kernel_rfl) (fun hT => ?_) (fun hF => ?_))
    · have hlt : k < ys.length := by have := of_decide_eq_true hT; omega
      obtain ⟨y, hy1⟩ : ∃ y, ys[k]? = some y := ⟨_, List.getElem?_eq_getElem hlt⟩
      obtain ⟨a1, ha1, hacc'⟩ := join_snoc hjoin hy1 hacc
      have hlen' : acc.length + a1.length < far := Nat.lt_of_le_of_lt (join_len hjoin hy1 hacc ha1) hlong
      obtain ⟨hra, hyB⟩ := hyb (fun e => by rw [e] at hlt; simp at hlt)
      subst hra
      have hyH : H.get yb = some (.cells (resCells ys) 56 false) := hg.get hyB (hnK2 hyB)
      have hH2 : H2.next ≤ H.next := hg.next
      have e5 := hg.get g5 (hnK2 g5)
      have e2 := hg.get g2 (hnK2 g2)
      have e6 := hg.get g6 (hnK2 g6)
      refine AWp.skip' (by kernel_rfl) ?_
      show AWp _ _ _ _ _
      refine AWp.mid (by kernel_rfl) (fun E' H' => ∃ (o' : Value) (ol' : List Nat), AEnv.le (envOf 43 (mkE [(0, .int .i64 ((i : Nat) : Int)), (2, .pointer (some ⟨i5, 0, none⟩)), (3, .pointer (some ⟨i2, 0, none⟩)), (4, .pointer (some ⟨i6, 0, none⟩)), (8, o'), (27, .slice (some ⟨yb, 0, none⟩) ys.length yc), (28, .int .i64 ((ys.length : Nat) : Int)), (29, .int .i64 ((k : Nat) : Int))])) E' ∧ Grow p.K H2 H' ∧ Memo ns row p.K (ol' ++ pv) H' ∧ Own H2.next H' o' (acc ++ a1) ol') ?_ ?_
      · refine AWp.block' (id := 1) (by kernel_rfl) ?_
        refine AWp.seq' (by kernel_rfl) (AWp.region' (by kernel_rfl) ?_)
        refine AOps.run (n := 43) [(0, .val (.pointer (some ⟨yb, 0 + k * 21, none⟩))), (1, .part (resCells ys) (y.val))] [0, 1] [2, 3] (cs := [.some (aindexAddr Tryz.prog 51 (.slice (some ⟨yb, 0, none⟩) ys.length yc) (.int .i64 ((k : Nat) : Int))) (.pointer (some ⟨yb, 0 + k * 21, none⟩)), .blk (yb) (resCells ys), .some (apart' (resCells ys) (0 + k * 21) 21 true) (y.val)]) (by kernel_rfl) (by kernel_rfl) (by kernel_rfl) ?_ ?_
        · intro x hx
          simp only [List.mem_cons, List.not_mem_nil, or_false] at hx
          rcases hx with rfl | rfl | rfl
          · exact indexAddr_ok sl51 hlt
          · exact ⟨56, false, hyH⟩
          · exact res_part hy1
        refine AOps.write (n := 43) 2 [3] (.pointer (some ⟨H.next, 0, none⟩)) (H.push (.cells (List.replicate 21 (.int .i64 0)) 56 false)) (by kernel_rfl) rfl (by kernel_rfl) (by kernel_rfl) (by kernel_rfl) (by kernel_rfl) ?_
        refine AOps.store (n := 43) 3 [] (t := 56) (v := y.val) (b := H.next) (off := 0) (vs := List.replicate 21 (.int .i64 0)) (e := 56) (vs2 := y.cells) (by kernel_rfl) rfl (by kernel_rfl) (by kernel_rfl) (by kernel_rfl) (AHeap.get_push_new _ _) (by kernel_rfl) (by kernel_rfl) ?_
        show AWp _ _ _ _ _
        obtain ⟨b1, b2, b3⟩ := boxed H (.cells (List.replicate 21 (.int .i64 0)) 56 false) (.cells y.cells 56 false)
        generalize hHx : (H.push (.cells (List.replicate 21 (.int .i64 0)) 56 false)).set H.next (.cells y.cells 56 false) = Hx at b1 b2 b3 ⊢
        clear hHx
        have hmx : Memo ns row p.K (ol ++ pv) Hx := hmk.ext b1
        have hox : Own H2.next Hx o acc ol := ho.keep (fun i _ hi => b1.old i hi)
        have hgx : Grow p.K H2 Hx := hg.trans (b1.grow _)
        have hEx : Eng Hx p ns row := hE2.grow hmm hgx
        have hpx : ∀ i ∈ ol ++ pv, i < Hx.next := fun i hi => by
          rcases List.mem_append.1 hi with h | h
          · have := (hox.lt i h).1; omega
          · have := hpv1 i h; have := hgr.next; omega
        refine AWp.view [(0, .int .i64 ((i : Nat) : Int)), (2, .pointer (some ⟨i5, 0, none⟩)), (3, .pointer (some ⟨i2, 0, none⟩)), (4, .pointer (some ⟨i6, 0, none⟩)), (8, o), (27, .slice (some ⟨yb, 0, none⟩) ys.length yc), (28, .int .i64 ((ys.length : Nat) : Int)), (29, .int .i64 ((k : Nat) : Int)), (10, .pointer (some ⟨H.next, 0, none⟩))] (by kernel_rfl) ?_
        refine AWp.region' (by kernel_rfl) ?_
        refine AOps.run (n := 43) [(1, .blk ([.func (.func 53) #[] #[.pointer (some ⟨i5, 0, none⟩), .pointer (some ⟨i2, 0, none⟩), .pointer (some ⟨i6, 0, none⟩)]])), (3, .val (.int .i64 ((i + 1 : Nat) : Int))), (4, .blk (y.cells))] [0, 1, 2, 3, 4] [5, 6, 7] (cs := [.blk (i6) ([.func (.func 53) #[] #[.pointer (some ⟨i5, 0, none⟩), .pointer (some ⟨i2, 0, none⟩), .pointer (some ⟨i6, 0, none⟩)]]), .some (some (.int .i64 (IntKind.i64.wrap ((i : Int) + ((1 : Nat) : Int))))) (.int .i64 ((i + 1 : Nat) : Int)), .blk (H.next) (y.cells)]) (by kernel_rfl) (by kernel_rfl) (by kernel_rfl) ?_ ?_
        · intro x hx
          simp only [List.mem_cons, List.not_mem_nil, or_false] at hx
          rcases hx with rfl | rfl | rfl
          · exact ⟨109, false, b1.get e6⟩
          · exact congrArg (fun x => some (Value.int .i64 x)) (wrap_add (by unfold far at hklong; omega))
          · exact ⟨56, false, b2⟩
        have hrec := ih hi (by omega) (ol ++ pv) Hx y a1 hEx hmx hpx (b1.get e5) (b1.get e2) (b1.get e6) (fun hne => ⟨hka, b1.get (hg.get (hgr.get (Ext.get (Ext.push B _) (hk0' hne).2) (hnK (Ext.get (Ext.push B _) (hk0' hne).2))) (hnK2 (hgr.get (Ext.get (Ext.push B _) (hk0' hne).2) (hnK (Ext.get (Ext.push B _) (hk0' hne).2)))))⟩) hklong ha1
        refine AOps.call (n := 43) 5 [6, 7] 53 [.int .i64 ((i + 1 : Nat) : Int), y.val, .pointer (some ⟨i5, 0, none⟩), .pointer (some ⟨i2, 0, none⟩), .pointer (some ⟨i6, 0, none⟩)] (by kernel_rfl) rfl (by kernel_rfl) (by kernel_rfl) (by kernel_rfl) (by kernel_rfl) (by kernel_rfl) (hrec) ?_
        rintro e H5 ⟨v5, rfl, hg5, hm5, hr5⟩
        refine ⟨v5, rfl, ?_⟩
        have ho5 : Own H2.next H5 o acc ol := hox.keep (fun i hi hlt' => hg5.old i hlt' (fun e => by have := ho.lt i hi; have := hmm.lt; omega))
        have hg25 : Grow p.K H2 H5 := hgx.trans hg5
        obtain ⟨v6, H6, o6, d1, d2, d3, d4, d5, d6⟩ := append_own ho5 hr5.rows hlen' hg25.next
        refine AOps.append (n := 43) 6 [7] (t := 51) (tx := 51) (x := o) (y := v5) (v := v6) (H' := H6) (by kernel_rfl) rfl (by kernel_rfl) (by kernel_rfl) (by kernel_rfl) d1 ?_
        refine AOps.run (n := 43) [] [7] [] (cs := []) (by kernel_rfl) (by kernel_rfl) (by kernel_rfl) ?_ ?_
        · intro x hx; cases hx
        have hm6 : Memo ns row p.K (o6 ++ pv) H6 := hm5.app d4 d3 (fun h => by have := ho.lt _ h; have := hmm.lt; omega)
        have hg6 : Grow p.K H2 H6 := ⟨Nat.le_trans hg25.next d5, fun i hi hk => by rw [d4 i (Nat.lt_of_lt_of_le hi hg25.next) (fun h => by have := ho.lt i h; omega)]; exact hg25.old i hi hk, d6.trans hg25.rs⟩
        exact ⟨v6, o6, mkE_le [(0, .int .i64 ((i : Nat) : Int)), (2, .pointer (some ⟨i5, 0, none⟩)), (3, .pointer (some ⟨i2, 0, none⟩)), (4, .pointer (some ⟨i6, 0, none⟩)), (8, v6), (27, .slice (some ⟨yb, 0, none⟩) ys.length yc), (28, .int .i64 ((ys.length : Nat) : Int)), (29, .int .i64 ((k : Nat) : Int))] (by kernel_rfl), hg6, hm6, d2⟩
      · rintro E' Hn ⟨o', ol', hE', hg', hm', ho'⟩
        refine AWp.env hE' ?_
        refine AWp.region' (by kernel_rfl) ?_
        refine AOps.run (n := 43) [(0, .val (.int .i64 ((k + 1 : Nat) : Int)))] [0, 1] [] (cs := [.some (some (.int .i64 (IntKind.i64.wrap ((k : Int) + ((1 : Nat) : Int))))) (.int .i64 ((k + 1 : Nat) : Int))]) (by kernel_rfl) (by kernel_rfl) (by kernel_rfl) ?_ ?_
        · intro x hx
          simp only [List.mem_cons, List.not_mem_nil, or_false] at hx
          subst hx
          exact congrArg (fun x => some (Value.int .i64 x)) (wrap_add (by have h8 : ys.length < far := Nat.lt_of_le_of_lt (den_fine _ _ hys).2.2 (by decide); unfold far at h8; omega))
        exact ⟨ys.length - (k + 1), by omega, k + 1, o', acc ++ a1, ol', rfl, hlt, mkE_le [(0, .int .i64 ((i : Nat) : Int)), (2, .pointer (some ⟨i5, 0, none⟩)), (3, .pointer (some ⟨i2, 0, none⟩)), (4, .pointer (some ⟨i6, 0, none⟩)), (8, o'), (27, .slice (some ⟨yb, 0, none⟩) ys.length yc), (28, .int .i64 ((ys.length : Nat) : Int)), (29, .int .i64 ((k + 1 : Nat) : Int))] (by kernel_rfl), hg', hm', ho', by rw [List.take_add_one, hy1]; exact hacc'⟩
    · have hge : k = ys.length := by have := of_decide_eq_false hF; omega
      subst hge
      rw [List.take_length, hjoin] at hacc
      cases hacc
      refine AWp.exit' (id := 0) (by kernel_rfl) ?_
      show AWp _ _ _ _ _
      refine AWp.view [(8, o)] (by kernel_rfl) ?_
      refine AWp.seq' (by kernel_rfl) (AWp.region' (by kernel_rfl) ?_)
      refine AOps.run (n := 43) [] [0] [1, 2] (cs := []) (by kernel_rfl) (by kernel_rfl) (by kernel_rfl) ?_ ?_
      · intro x hx; cases hx
      refine AOps.call (n := 43) 1 [2] 54 [o] (by kernel_rfl) rfl (by kernel_rfl) (by kernel_rfl) (by kernel_rfl) (by kernel_rfl) (by kernel_rfl) (ordered_spec ho.rows hlong hfine) ?_
      rintro e H3 ⟨v', rfl, hx3, hr3, hnew⟩
      refine ⟨v', rfl, ?_⟩
      refine AOps.run (n := 43) [] [2] [] (cs := []) (by kernel_rfl) (by kernel_rfl) (by kernel_rfl) ?_ ?_
      · intro x hx; cases hx
      show AWp _ _ _ _ _
      refine AWp.view [(7, v')] (by kernel_rfl) ?_
      exact AWp.ret' (by kernel_rfl) ⟨[v'], by kernel_rfl, v', rfl, (((Ext.push B _).grow _).trans (hgr.trans hg)).trans (hx3.grow _), (hmk.ext hx3).weak (fun i hi => List.mem_append_right _ hi), by
        rw [hrs'] at hr3
        rcases hr3 with hr3 | ⟨id, c, q1, q2, q3⟩
        · exact .inl hr3
        · exact .inr ⟨id, c, q1, q2, q3, fun h => by have h1 := hnew _ _ _ q1; have h2 := hpv1 _ h; have h3 := hgr.next; have h4 := hg.next; simp only at h1; omega⟩⟩
theorem tell_spec {ns : List Nd} {row : List Int} {n : Nat} (hrs : ResSpec ns row n) {p : Pl} {ka : Option Addr} {kb kc : Nat} {kl : List Nat} {i5 i2 i6 : Nat} : ∀ (d i : Nat), kl.length - i = d → TellSpec ns row n p ka kb kc kl i5 i2 i6 i
  | 0, i, h => tell_step hrs (fun hi => absurd hi (by omega))
  | d + 1, i, h => tell_step hrs (fun _ => tell_spec hrs d (i + 1) (by omega))

theorem row_spec {ns : List Nd} {row : List Int} {n : Nat} (hrs : ResSpec ns row n) {p : Pl} {pv : List Nat} {B : AHeap} {s : St} {l : List Res} {nd : Nd} (hE : Eng B p ns row) (hm : Memo ns row p.K pv B) (hpv : ∀ i ∈ pv, i < B.next)
    (hnd : ns[s.node]? = some nd) (hl : tellD (den (ns.map Nd.pn) row n) nd.kl ⟨s.pos, s.g⟩ = some l) : ACall Tryz.prog 33 [mp p, s.val] B (Tells p ns row pv B l) := by
  have hil : s.node < ns.length := (List.getElem?_eq_some_iff.1 hnd).1
  let mc := matCells (.slice (some ⟨p.N, 0, none⟩) ns.length p.nc) p.groups (.slice p.ra row.length p.rc) p.K p.F
  let B1 := (B.push (.cells [mp p] 49 false)).push (.cells s.cells 79 false)
  have hB1 : Ext B B1 := (Ext.push B _).trans (Ext.push _ _)
  have hM : B1.get p.M = some (.cells mc 77 false) := hB1.get hE.mat
  have hP : B1.get B.next = some (.cells [mp p] 49 false) := AHeap.get_push_old (AHeap.get_push_new B _)
  have hS : B1.get (B.next + 1) = some (.cells s.cells 79 false) := AHeap.get_push_new _ _
  have hN : B1.get p.N = some (.cells (nodeCells ns) 44 false) := hB1.get hE.nodes
  obtain ⟨ka, kb, kc, hkv, hkk⟩ : ∃ ka kb kc, nd.kids = .slice ka nd.kl.length kc ∧ (nd.kl ≠ [] → ka = some ⟨kb, 0, none⟩ ∧ B.get kb = some (.cells (nd.kl.map fun (k : Nat) => .int .i64 (k : Int)) 3 false)) := by
    rcases hE.kids nd (List.mem_of_getElem? hnd) with ⟨h1, h2⟩ | ⟨kb, kc, h1, h2⟩
    · exact ⟨none, 0, 0, by rw [h1, h2]; rfl, fun h => absurd h2 h⟩
    · exact ⟨some ⟨kb, 0, none⟩, kb, kc, h1, fun _ => ⟨rfl, h2⟩⟩
  refine ACall.walk (fn := Tryz.f33) (c := bodyOf Tryz.prog 33) (by kernel_rfl) (by kernel_rfl) (by kernel_rfl) ?_
  refine AWp.seq' (by kernel_rfl) (AWp.region' (by kernel_rfl) ?_)
  refine AOps.write (n := 25) 0 [1, 2] (.pointer (some ⟨B.next, 0, none⟩)) (B.push (.cells [mp p] 49 false)) (by kernel_rfl) rfl (by kernel_rfl) (by kernel_rfl) (by kernel_rfl) (by kernel_rfl) ?_
  refine AOps.write (n := 25) 1 [2] (.pointer (some ⟨B.next + 1, 0, none⟩)) (B1) (by kernel_rfl) rfl (by kernel_rfl) (by kernel_rfl) (by kernel_rfl) (by kernel_rfl) ?_
  refine AOps.run (n := 25) [] [2] [] (cs := []) (by kernel_rfl) (by kernel_rfl) (by kernel_rfl) ?_ ?_
  · intro x hx; cases hx
  show AWp _ _ _ _ _
  refine AWp.view [(2, .pointer (some ⟨B.next, 0, none⟩)), (3, .pointer (some ⟨B.next + 1, 0, none⟩))] (by kernel_rfl) ?_
  refine AWp.resv fun hres1 => ?_
  refine AWp.seq' (by kernel_rfl) (AWp.draw' mixed (.leaf [0, 1, 2, 3, 4, 5, 6, 7, 8, 9, 10, 11]) (by kernel_rfl) (by kernel_rfl) ⟨by kernel_rfl, ?_⟩)
  have hk1 : keeps B1 (opsOf (fst (snd (bodyOf Tryz.prog 33)))).toList = B1.keep := by kernel_rfl
  rw [hk1]
  have kk : ∀ {i : Nat} {b : ABlk}, B1.get i = some b → B1.keep.get i = some b := fun h => by rw [AHeap.get_keep, if_neg (Nat.ne_of_lt (AHeap.get_lt h))]; exact h
  refine AOps.run (n := 25) [(0, .blk ([mp p])), (4, .blk (mc)), (6, .blk (s.cells)), (7, .val (.pointer (some ⟨p.N, 0 + s.node * 9, none⟩))), (9, .part (nodeCells ns) (.slice ka nd.kl.length kc))] [0, 1, 2, 3, 4, 5, 6, 7, 8, 9] [10, 11] (cs := [.blk (B.next) ([mp p]), .blk (p.M) (mc), .blk (B.next + 1) (s.cells), .some (aindexAddr Tryz.prog 29 (.slice (some ⟨p.N, 0, none⟩) ns.length p.nc) (.int .i64 (s.node : Int))) (.pointer (some ⟨p.N, 0 + s.node * 9, none⟩)), .blk (p.N) (nodeCells ns), .some (apart' (nodeCells ns) (0 + s.node * 9 + 8) 1 false) (.slice ka nd.kl.length kc)]) (by kernel_rfl) (by kernel_rfl) (by kernel_rfl) ?_ ?_
  · intro x hx
    simp only [List.mem_cons, List.not_mem_nil, or_false] at hx
    rcases hx with rfl | rfl | rfl | rfl | rfl | rfl
    · exact ⟨49, false, kk hP⟩
    · exact ⟨77, false, kk hM⟩
    · exact ⟨79, false, kk hS⟩
    · exact indexAddr_ok (by kernel_rfl : sliceT Tryz.prog 29 = some (44, 9, 112)) hil
    · exact ⟨44, false, kk hN⟩
    · exact apart_one (by rw [node_cell hnd (by decide), ← hkv]; rfl)
  refine AOps.fill (n := 25) 10 [11] B1.next 38 (.slice none 0 0) (by kernel_rfl) rfl (by kernel_rfl) (by kernel_rfl) (by kernel_rfl) (List.mem_cons_self ..) (by rw [AHeap.get_keep, if_pos rfl]) ?_
  refine AOps.store (n := 25) 11 [] (t := 38) (v := .slice ka nd.kl.length kc) (b := B1.next) (off := 0) (vs := [.slice none 0 0]) (e := 38) (vs2 := [.slice ka nd.kl.length kc]) (by kernel_rfl) rfl (by kernel_rfl) (by kernel_rfl) (by kernel_rfl) (by rw [AHeap.get_fill (Nat.lt_succ_self _), if_pos rfl]; rfl) (by kernel_rfl) (by kernel_rfl) ?_
  show AWp _ _ _ _ _
  obtain ⟨x1, x2, x3⟩ := kept B1 hres1 (.cells (vcells (.slice none 0 0)) 38 false) (.cells [.slice ka nd.kl.length kc] 38 false)
  generalize hH1 : (B1.keep.fill B1.next (.cells (vcells (.slice none 0 0)) 38 false)).set B1.next (.cells [.slice ka nd.kl.length kc] 38 false) = H1 at x1 x2 x3 ⊢
  clear hH1 hk1 kk
  refine AWp.view [(2, .pointer (some ⟨B.next, 0, none⟩)), (3, .pointer (some ⟨B.next + 1, 0, none⟩)), (5, .pointer (some ⟨B1.next, 0, none⟩))] (by kernel_rfl) ?_
  refine AWp.seq' (by kernel_rfl) (AWp.region' (by kernel_rfl) ?_)
  refine AOps.write (n := 25) 0 [] (.pointer (some ⟨H1.next, 0, none⟩)) (H1.push (.cells [.nilFunc] 109 false)) (by kernel_rfl) rfl (by kernel_rfl) (by kernel_rfl) (by kernel_rfl) (by kernel_rfl) ?_
  show AWp _ _ _ _ _
  refine AWp.view [(2, .pointer (some ⟨B.next, 0, none⟩)), (3, .pointer (some ⟨B.next + 1, 0, none⟩)), (5, .pointer (some ⟨B1.next, 0, none⟩)), (6, .pointer (some ⟨H1.next, 0, none⟩))] (by kernel_rfl) ?_
  refine AWp.seq' (by kernel_rfl) (AWp.region' (by kernel_rfl) ?_)
  refine AOps.run (n := 25) [] [0] [1] (cs := []) (by kernel_rfl) (by kernel_rfl) (by kernel_rfl) ?_ ?_
  · intro x hx; cases hx
  refine AOps.store (n := 25) 1 [] (t := 109) (v := .func (.func 53) #[] #[.pointer (some ⟨B1.next, 0, none⟩), .pointer (some ⟨B.next, 0, none⟩), .pointer (some ⟨H1.next, 0, none⟩)]) (b := H1.next) (off := 0) (vs := [.nilFunc]) (e := 109) (vs2 := [.func (.func 53) #[] #[.pointer (some ⟨B1.next, 0, none⟩), .pointer (some ⟨B.next, 0, none⟩), .pointer (some ⟨H1.next, 0, none⟩)]]) (by kernel_rfl) rfl (by kernel_rfl) (by kernel_rfl) (by kernel_rfl) (AHeap.get_push_new _ _) (by kernel_rfl) (by kernel_rfl) ?_
  show AWp _ _ _ _ _
  obtain ⟨y1, y2, y3⟩ := boxed H1 (.cells [.nilFunc] 109 false) (.cells [.func (.func 53) #[] #[.pointer (some ⟨B1.next, 0, none⟩), .pointer (some ⟨B.next, 0, none⟩), .pointer (some ⟨H1.next, 0, none⟩)]] 109 false)
  generalize hH2 : (H1.push (.cells [.nilFunc] 109 false)).set H1.next (.cells [.func (.func 53) #[] #[.pointer (some ⟨B1.next, 0, none⟩), .pointer (some ⟨B.next, 0, none⟩), .pointer (some ⟨H1.next, 0, none⟩)]] 109 false) = H2 at y1 y2 y3 ⊢
  clear hH2
  refine AWp.view [(2, .pointer (some ⟨B.next, 0, none⟩)), (3, .pointer (some ⟨B.next + 1, 0, none⟩)), (5, .pointer (some ⟨B1.next, 0, none⟩)), (6, .pointer (some ⟨H1.next, 0, none⟩))] (by kernel_rfl) ?_
  have hxx : Ext B H2 := (hB1.trans x1).trans y1
  refine AWp.seq' (by kernel_rfl) (AWp.region' (by kernel_rfl) ?_)
  refine AOps.run (n := 25) [(0, .blk ([.func (.func 53) #[] #[.pointer (some ⟨B1.next, 0, none⟩), .pointer (some ⟨B.next, 0, none⟩), .pointer (some ⟨H1.next, 0, none⟩)]])), (2, .blk (s.cells)), (4, .blk (s.cells))] [0, 1, 2, 3, 4, 5] [6, 7] (cs := [.blk (H1.next) ([.func (.func 53) #[] #[.pointer (some ⟨B1.next, 0, none⟩), .pointer (some ⟨B.next, 0, none⟩), .pointer (some ⟨H1.next, 0, none⟩)]]), .blk (B.next + 1) (s.cells), .blk (B.next + 1) (s.cells)]) (by kernel_rfl) (by kernel_rfl) (by kernel_rfl) ?_ ?_
  · intro x hx
    simp only [List.mem_cons, List.not_mem_nil, or_false] at hx
    rcases hx with rfl | rfl | rfl
    · exact ⟨109, false, y2⟩
    · exact ⟨79, false, (x1.trans y1).get hS⟩
    · exact ⟨79, false, (x1.trans y1).get hS⟩
  have hcall := tell_spec hrs nd.kl.length 0 (Nat.sub_zero _) (Nat.zero_le _) pv H2 ⟨s.pos, s.g⟩ l (hE.ext hxx) (hm.ext hxx) (fun i hi => Nat.lt_of_lt_of_le (hpv i hi) hxx.next) (y1.get x2) ((x1.trans y1).get hP) y2 (fun hne => ⟨(hkk hne).1, hxx.get (hkk hne).2⟩) (hE.klong nd (List.mem_of_getElem? hnd)) hl
  refine AOps.call (n := 25) 6 [7] 53 [.int .i64 ((0 : Nat) : Int), Res.val ⟨s.pos, s.g⟩, .pointer (some ⟨B1.next, 0, none⟩), .pointer (some ⟨B.next, 0, none⟩), .pointer (some ⟨H1.next, 0, none⟩)] (by kernel_rfl) rfl (by kernel_rfl) (by kernel_rfl) (by kernel_rfl) (by kernel_rfl) (by kernel_rfl) (hcall) ?_
  rintro e H3 ⟨v, rfl, hgr, hmm, hrv⟩
  refine ⟨v, rfl, ?_⟩
  refine AOps.run (n := 25) [] [7] [] (cs := []) (by kernel_rfl) (by kernel_rfl) (by kernel_rfl) ?_ ?_
  · intro x hx; cases hx
  show AWp _ _ _ _ _
  refine AWp.view [(4, v)] (by kernel_rfl) ?_
  exact AWp.ret' (by kernel_rfl) ⟨[v], by kernel_rfl, v, rfl, (hxx.grow _).trans hgr, hmm, hrv⟩
end Go.Proofs.YtihpfgnigpmihaaGreat
