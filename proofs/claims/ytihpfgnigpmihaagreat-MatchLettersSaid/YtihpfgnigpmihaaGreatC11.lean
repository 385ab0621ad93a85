/- match.ordered. -/
import Derived.Test.YtihpfgnigpmihaaGreatC10
set_option linter.unusedVariables false
set_option linter.unusedSimpArgs false
set_option maxRecDepth 100000
namespace Go.Proofs.YtihpfgnigpmihaaGreat
open Go

theorem once_snoc : ∀ (l : List Res) (out : List Res) (x : Res), once out (l ++ [x]) = if x ∈ once out l then once out l else once out l ++ [x]
  | [], out, x => by by_cases h : x ∈ out <;> simp [once, h]
  | y :: l, out, x => by
    rw [List.cons_append, once, once]
    split
    · exact once_snoc l out x
    · exact once_snoc l _ x
theorem once_len : ∀ (l out : List Res), (once out l).length ≤ out.length + l.length
  | [], out => Nat.le_refl _
  | y :: l, out => by
    rw [once]
    split
    · have := once_len l out; simp only [List.length_cons]; omega
    · have := once_len l (out ++ [y]); simp only [List.length_append, List.length_cons, List.length_nil] at this ⊢; omega

theorem ordered_spec {B : AHeap} {v : Value} {ls : List Res} (hr : Rows B v ls) (hl : ls.length < far) (hf : Fine (once [] ls)) : ACall Tryz.prog 54 [v] B fun e B' =>
    ∃ v', e = .ret v' ∧ Ext B B' ∧ Rows B' v' (once [] ls) ∧ ∀ a n c, v' = .slice (some a) n c → B.next ≤ a.block := by
  obtain ⟨ra, id, c0, rfl, hv⟩ := hr.split
  unfold far at hl
  refine ACall.walk (fn := Tryz.f54) (c := bodyOf Tryz.prog 54) (by kernel_rfl) (by kernel_rfl) (by kernel_rfl) ?_
  refine AWp.seq' (by kernel_rfl) (AWp.region' (by kernel_rfl) ?_)
  refine AOps.run (n := 32) [] [0] [] (cs := []) (by kernel_rfl) (by kernel_rfl) (by kernel_rfl) ?_ ?_
  · intro x hx; cases hx
  show AWp _ _ _ _ _
  refine AWp.view [(0, .slice ra ls.length c0)] (by kernel_rfl) ?_
  refine AWp.seq' (by kernel_rfl) (AWp.region' (by kernel_rfl) ?_)
  refine AOps.write (n := 32) 0 [1] (.map (some B.next)) (B.push (.map [] 0)) (by kernel_rfl) rfl (by kernel_rfl) (by kernel_rfl) (by kernel_rfl) (by kernel_rfl) ?_
  refine AOps.run (n := 32) [] [1] [] (cs := []) (by kernel_rfl) (by kernel_rfl) (by kernel_rfl) ?_ ?_
  · intro x hx; cases hx
  show AWp _ _ _ _ _
  refine AWp.view [(0, .slice ra ls.length c0), (3, .map (some B.next))] (by kernel_rfl) ?_
  refine AWp.seq' (by kernel_rfl) (AWp.region' (by kernel_rfl) ?_)
  refine AOps.run (n := 32) [] [0] [] (cs := []) (by kernel_rfl) (by kernel_rfl) (by kernel_rfl) ?_ ?_
  · intro x hx; cases hx
  show AWp _ _ _ _ _
  refine AWp.view [(0, .slice ra ls.length c0), (3, .map (some B.next)), (4, .slice none 0 0)] (by kernel_rfl) ?_
  refine AWp.seq' (by kernel_rfl) ?_
  refine AWp.seq' (by kernel_rfl) (AWp.region' (by kernel_rfl) ?_)
  refine AOps.run (n := 32) [] [0, 1, 2] [] (cs := []) (by kernel_rfl) (by kernel_rfl) (by kernel_rfl) ?_ ?_
  · intro x hx; cases hx
  show AWp _ _ _ _ _
  refine AWp.view [(3, .map (some B.next)), (4, .slice none 0 0), (8, .slice ra ls.length c0), (9, .int .i64 (ls.length : Int)), (10, .int .i64 ((0 : Nat) : Int))] (by kernel_rfl) ?_
  refine AWp.block' (id := 0) (by kernel_rfl) ?_
  refine AWp.loop' (by kernel_rfl) (N := ls.length - 0) (fun m E H => ∃ (k : Nat) (o : Value) (ol : List Nat), m = ls.length - k ∧ k ≤ ls.length ∧ AEnv.le (envOf 32 (mkE [(3, .map (some B.next)), (4, o), (8, .slice ra ls.length c0), (9, .int .i64 (ls.length : Int)), (10, .int .i64 ((k : Nat) : Int))])) E ∧ Ext B H ∧ Cnt B.next H (once [] (ls.take k)) k ∧ Own (B.next + 1) H o (once [] (ls.take k)) ol)
    ⟨0, .slice none 0 0, [], rfl, Nat.zero_le _, AEnv.le_refl _, Ext.push _ _, ⟨[], 0, AHeap.get_push_new _ _, rfl, rfl, fun i e h => by simp at h⟩, .inl ⟨rfl, rfl, rfl⟩⟩ ?_
  rintro m E H ⟨k, o, ol, rfl, hk, hE, hx, hc, ho⟩
  refine AWp.env hE ?_
  refine AWp.seq' (by kernel_rfl) (AWp.region' (by kernel_rfl) ?_)
  refine AOps.run (n := 32) [(0, .val (.bool (decide ((k : Int) < (ls.length : Int)))))] [0] [] (cs := [.some (some (.bool (decide ((k : Int) < (ls.length : Int))))) (.bool (decide ((k : Int) < (ls.length : Int))))]) (by kernel_rfl) (by kernel_rfl) (by kernel_rfl) ?_ ?_
  · intro x hx
    simp only [List.mem_cons, List.not_mem_nil, or_false] at hx
    subst hx
    rfl
  show AWp _ _ _ _ _
  refine AWp.view [(3, .map (some B.next)), (4, o), (8, .slice ra ls.length c0), (9, .int .i64 (ls.length : Int)), (10, .int .i64 ((k : Nat) : Int)), (11, .bool (decide ((k : Int) < (ls.length : Int))))] (by kernel_rfl) ?_
  refine AWp.seq' (by kernel_rfl) (AWp.cond_ (c := .tmp 11) (t := decide ((k : Int) < (ls.length : Int))) (by kernel_rfl) (by kernel_rfl) (fun hT => ?_) (fun hF => ?_))
  · have hlt : k < ls.length := by have := of_decide_eq_true hT; omega
    obtain ⟨x, hx1⟩ : ∃ x, ls[k]? = some x := ⟨_, List.getElem?_eq_getElem hlt⟩
    obtain ⟨hra, hB⟩ := hv (fun e => by rw [e] at hlt; simp at hlt)
    have hnext : once [] (ls.take (k + 1)) = if x ∈ once [] (ls.take k) then once [] (ls.take k) else once [] (ls.take k) ++ [x] := by rw [List.take_add_one, hx1]; exact once_snoc _ _ _
    have hlen : (once [] (ls.take k)).length ≤ k := by have := once_len (ls.take k) []; simp only [List.length_take, List.length_nil] at this; omega
    refine AWp.skip' (by kernel_rfl) ?_
    show AWp _ _ _ _ _
    refine AWp.mid (by kernel_rfl) (fun E' H' => ∃ (o' : Value) (ol' : List Nat), AEnv.le (envOf 32 (mkE [(3, .map (some B.next)), (4, o'), (8, .slice ra ls.length c0), (9, .int .i64 (ls.length : Int)), (10, .int .i64 ((k : Nat) : Int))])) E' ∧ Ext B H' ∧ Cnt B.next H' (once [] (ls.take (k + 1))) (k + 1) ∧ Own (B.next + 1) H' o' (once [] (ls.take (k + 1))) ol') ?_ ?_
    · refine AWp.block' (id := 1) (by kernel_rfl) ?_
      refine AWp.seq' (by kernel_rfl) (AWp.region' (by kernel_rfl) ?_)
      refine AOps.run (n := 32) [(0, .val (.pointer (some ⟨id, 0 + k * 21, none⟩))), (1, .part (resCells ls) (x.val))] [0, 1] [2, 3] (cs := [.some (aindexAddr Tryz.prog 51 (.slice ra ls.length c0) (.int .i64 ((k : Nat) : Int))) (.pointer (some ⟨id, 0 + k * 21, none⟩)), .blk (id) (resCells ls), .some (apart' (resCells ls) (0 + k * 21) 21 true) (x.val)]) (by kernel_rfl) (by kernel_rfl) (by kernel_rfl) ?_ ?_
      · intro x hx
        simp only [List.mem_cons, List.not_mem_nil, or_false] at hx
        rcases hx with rfl | rfl | rfl
        · rw [hra]; exact indexAddr_ok sl51 hlt
        · exact ⟨56, false, hx.get hB⟩
        · exact res_part hx1
      refine AOps.write (n := 32) 2 [3] (.pointer (some ⟨H.next, 0, none⟩)) (H.push (.cells (List.replicate 21 (.int .i64 0)) 56 false)) (by kernel_rfl) rfl (by kernel_rfl) (by kernel_rfl) (by kernel_rfl) (by kernel_rfl) ?_
      refine AOps.store (n := 32) 3 [] (t := 56) (v := x.val) (b := H.next) (off := 0) (vs := List.replicate 21 (.int .i64 0)) (e := 56) (vs2 := x.cells) (by kernel_rfl) rfl (by kernel_rfl) (by kernel_rfl) (by kernel_rfl) (AHeap.get_push_new _ _) (by kernel_rfl) (by kernel_rfl) ?_
      show AWp _ _ _ _ _
      obtain ⟨b1, b2, b3⟩ := boxed H (.cells (List.replicate 21 (.int .i64 0)) 56 false) (.cells x.cells 56 false)
      generalize hH1 : (H.push (.cells (List.replicate 21 (.int .i64 0)) 56 false)).set H.next (.cells x.cells 56 false) = H1 at b1 b2 b3 ⊢
      clear hH1
      refine AWp.view [(3, .map (some B.next)), (4, o), (8, .slice ra ls.length c0), (9, .int .i64 (ls.length : Int)), (10, .int .i64 ((k : Nat) : Int)), (6, .pointer (some ⟨H.next, 0, none⟩))] (by kernel_rfl) ?_
      have hq : B.next < H.next := by obtain ⟨es, ck, h1, _⟩ := hc; exact AHeap.get_lt h1
      obtain ⟨c, born, H2, H3, hiff, hck, hlook, hent, hlook2, hst, hlook3, hcnt, hoth, hnx, hrs⟩ := count_one (hc.keep (b1.old _ hq)) x
      have hpx : H3.get H.next = some (.cells x.cells 56 false) := by rw [hoth _ (by omega)]; exact b2
      refine AWp.mid (by kernel_rfl) (fun E' H' => AEnv.le (envOf 32 (mkE [(3, .map (some B.next)), (4, o), (8, .slice ra ls.length c0), (9, .int .i64 (ls.length : Int)), (10, .int .i64 ((k : Nat) : Int)), (6, .pointer (some ⟨H.next, 0, none⟩))])) E' ∧ H' = H3) ?_ ?_
      · refine AWp.draw' mixed (.split 2 4 (.leaf [0, 1, 2, 3, 4, 5, 6]) (.leaf [0, 1, 4, 2, 3, 5, 6])) (by kernel_rfl) (by kernel_rfl) ⟨by kernel_rfl, ⟨by kernel_rfl, ?_⟩, ⟨by kernel_rfl, ?_⟩⟩
        all_goals
          have hkp : keeps H1 (opsOf (fst (snd (fst (fst (snd (snd (fst (fst (snd (fst (snd (snd (snd (bodyOf Tryz.prog 54))))))))))))))).toList = H1 := by kernel_rfl
          rw [hkp]
        · skip
          refine AOps.run (n := 32) [(1, .blk (x.cells)), (2, .raw (.int .i64 ((c : Nat) : Int))), (3, .val (.int .i64 ((c + 1 : Nat) : Int)))] [0, 1, 2, 3] [4, 5, 6] (cs := [.blk (H.next) (x.cells), .look 127 (.map (some B.next)) x.val false (.int .i64 ((c : Nat) : Int)), .some (some (.int .i64 (IntKind.i64.wrap ((c : Int) + ((1 : Nat) : Int))))) (.int .i64 ((c + 1 : Nat) : Int))]) (by kernel_rfl) (by kernel_rfl) (by kernel_rfl) ?_ ?_
          · intro x hx
            simp only [List.mem_cons, List.not_mem_nil, or_false] at hx
            rcases hx with rfl | rfl | rfl
            · exact ⟨56, false, b2⟩
            · exact hlook
            · exact congrArg (fun x => some (Value.int .i64 x)) (wrap_add (by omega))
          refine AOps.mapEntry (n := 32) 4 [5, 6] (t := 127) (m := .map (some B.next)) (k := x.val) (v := .tuple #[.int .i64 ((c : Nat) : Int), .int .i64 ((born : Nat) : Int)]) (H' := H2) (by kernel_rfl) rfl (by kernel_rfl) (by kernel_rfl) (by kernel_rfl) hent ?_
          refine AOps.run (n := 32) [] [5] [6] (cs := []) (by kernel_rfl) (by kernel_rfl) (by kernel_rfl) ?_ ?_
          · intro x hx; cases hx
          refine AOps.entryStore (n := 32) 6 [] (m := .map (some B.next)) (s := .int .i64 ((born : Nat) : Int)) (x := .int .i64 ((c + 1 : Nat) : Int)) (H' := H3) (by kernel_rfl) rfl (by kernel_rfl) (by kernel_rfl) (by kernel_rfl) hst ?_
          exact ⟨mkE_le [(3, .map (some B.next)), (4, o), (8, .slice ra ls.length c0), (9, .int .i64 (ls.length : Int)), (10, .int .i64 ((k : Nat) : Int)), (6, .pointer (some ⟨H.next, 0, none⟩))] (by kernel_rfl), rfl⟩
        · skip
          refine AOps.run (n := 32) [(1, .blk (x.cells))] [0, 1] [4, 2, 3, 5, 6] (cs := [.blk (H.next) (x.cells)]) (by kernel_rfl) (by kernel_rfl) (by kernel_rfl) ?_ ?_
          · intro x hx
            simp only [List.mem_cons, List.not_mem_nil, or_false] at hx
            subst hx
            exact ⟨56, false, b2⟩
          refine AOps.mapEntry (n := 32) 4 [2, 3, 5, 6] (t := 127) (m := .map (some B.next)) (k := x.val) (v := .tuple #[.int .i64 ((c : Nat) : Int), .int .i64 ((born : Nat) : Int)]) (H' := H2) (by kernel_rfl) rfl (by kernel_rfl) (by kernel_rfl) (by kernel_rfl) hent ?_
          refine AOps.run (n := 32) [(2, .raw (.int .i64 ((c : Nat) : Int))), (3, .val (.int .i64 ((c + 1 : Nat) : Int)))] [2, 3, 5] [6] (cs := [.look 127 (.map (some B.next)) x.val false (.int .i64 ((c : Nat) : Int)), .some (some (.int .i64 (IntKind.i64.wrap ((c : Int) + ((1 : Nat) : Int))))) (.int .i64 ((c + 1 : Nat) : Int))]) (by kernel_rfl) (by kernel_rfl) (by kernel_rfl) ?_ ?_
          · intro x hx
            simp only [List.mem_cons, List.not_mem_nil, or_false] at hx
            rcases hx with rfl | rfl
            · exact hlook2
            · exact congrArg (fun x => some (Value.int .i64 x)) (wrap_add (by omega))
          refine AOps.entryStore (n := 32) 6 [] (m := .map (some B.next)) (s := .int .i64 ((born : Nat) : Int)) (x := .int .i64 ((c + 1 : Nat) : Int)) (H' := H3) (by kernel_rfl) rfl (by kernel_rfl) (by kernel_rfl) (by kernel_rfl) hst ?_
          exact ⟨mkE_le [(3, .map (some B.next)), (4, o), (8, .slice ra ls.length c0), (9, .int .i64 (ls.length : Int)), (10, .int .i64 ((k : Nat) : Int)), (6, .pointer (some ⟨H.next, 0, none⟩))] (by kernel_rfl), rfl⟩
      rintro E' H' ⟨hE', rfl⟩
      refine AWp.env hE' ?_
      refine AWp.seq' (by kernel_rfl) (AWp.region' (by kernel_rfl) ?_)
      refine AOps.run (n := 32) [(1, .blk (x.cells)), (2, .raw (.int .i64 ((c + 1 : Nat) : Int))), (3, .val (.bool (decide (((c + 1 : Nat) : Int) = 1))))] [0, 1, 2, 3] [] (cs := [.blk (H.next) (x.cells), .look 127 (.map (some B.next)) x.val false (.int .i64 ((c + 1 : Nat) : Int)), .some (some (.bool (decide (((c + 1 : Nat) : Int) = 1)))) (.bool (decide (((c + 1 : Nat) : Int) = 1)))]) (by kernel_rfl) (by kernel_rfl) (by kernel_rfl) ?_ ?_
      · intro x hx
        simp only [List.mem_cons, List.not_mem_nil, or_false] at hx
        rcases hx with rfl | rfl | rfl
        · exact ⟨56, false, hpx⟩
        · exact hlook3
        · rfl
      show AWp _ _ _ _ _
      refine AWp.view [(3, .map (some B.next)), (4, o), (8, .slice ra ls.length c0), (9, .int .i64 (ls.length : Int)), (10, .int .i64 ((k : Nat) : Int)), (6, .pointer (some ⟨H.next, 0, none⟩)), (23, .bool (decide (((c + 1 : Nat) : Int) = 1)))] (by kernel_rfl) ?_
      have ho3 : Own (B.next + 1) H' o (once [] (ls.take k)) ol := ho.keep fun i hi hlt' => by have h9 := ho.lt i hi; rw [hoth i (by omega), b1.old i hlt']
      have hx3 : Ext B H' := ⟨by have := hx.next; omega, fun i hi => by rw [hoth i (by omega), b1.old i (by omega)]; exact hx.old i hi, hrs.trans (b1.rs.trans hx.rs)⟩
      refine AWp.cond_ (c := .tmp 23) (t := decide (((c + 1 : Nat) : Int) = 1)) (by kernel_rfl) (by kernel_rfl) (fun hT => ?_) (fun hF => ?_)
      · have hnot : x ∉ once [] (ls.take k) := fun h => absurd (hiff.1 h) (by have := of_decide_eq_true hT; omega)
        rw [if_neg hnot] at hcnt hnext
        refine AWp.region' (by kernel_rfl) ?_
        refine AOps.run (n := 32) [(1, .blk (x.cells))] [0, 1] [2, 3, 4] (cs := [.blk (H.next) (x.cells)]) (by kernel_rfl) (by kernel_rfl) (by kernel_rfl) ?_ ?_
        · intro x hx
          simp only [List.mem_cons, List.not_mem_nil, or_false] at hx
          subst hx
          exact ⟨56, false, hpx⟩
        refine AOps.write (n := 32) 2 [3, 4] (.slice (some ⟨H'.next, 0, none⟩) 1 1) (H'.push (.cells x.cells 56 false)) (by kernel_rfl) rfl (by kernel_rfl) (by kernel_rfl) (by kernel_rfl) (by kernel_rfl) ?_
        obtain ⟨v', H4, o4, a1, a2, a3, a4, a5, a6⟩ := append_own (b := B.next + 1) (H := H'.push (.cells x.cells 56 false)) (ys := [x]) (y := .slice (some ⟨H'.next, 0, none⟩) 1 1) (ho3.keep fun i _ hi => (Ext.push _ _).old i hi) (.inr ⟨H'.next, 1, rfl, .inl rfl, by rw [AHeap.get_push_new]; simp [Res.cells]⟩) (by unfold far; simp only [List.length_singleton]; omega) (by have := hx.next; simp only [AHeap.push]; omega)
        refine AOps.append (n := 32) 3 [4] (t := 51) (tx := 51) (x := o) (y := .slice (some ⟨H'.next, 0, none⟩) 1 1) (v := v') (H' := H4) (by kernel_rfl) rfl (by kernel_rfl) (by kernel_rfl) (by kernel_rfl) a1 ?_
        refine AOps.run (n := 32) [] [4] [] (cs := []) (by kernel_rfl) (by kernel_rfl) (by kernel_rfl) ?_ ?_
        · intro x hx; cases hx
        have hsame : ∀ i, i < H'.next → i ∉ ol → H4.get i = H'.get i := fun i hi hn => by rw [a4 i (Nat.lt_succ_of_lt hi) hn, (Ext.push H' _).old i hi]
        exact ⟨v', o4, mkE_le [(3, .map (some B.next)), (4, v'), (8, .slice ra ls.length c0), (9, .int .i64 (ls.length : Int)), (10, .int .i64 ((k : Nat) : Int))] (by kernel_rfl), ⟨by have := hx3.next; simp only [AHeap.push] at a5; omega, fun i hi => by rw [hsame i (by have := hx3.next; omega) (fun h => by have := ho3.lt i h; omega)]; exact hx3.old i hi, a6.trans hx3.rs⟩, by rw [hnext]; exact hcnt.keep (hsame _ (by omega) (fun h => by have := ho3.lt _ h; omega)), by rw [hnext]; exact a2⟩
      · have hin : x ∈ once [] (ls.take k) := hiff.2 (fun h => by subst h; simp at hF)
        rw [if_pos hin] at hcnt hnext
        refine AWp.skip' (by kernel_rfl) ?_
        exact ⟨o, ol, mkE_le [(3, .map (some B.next)), (4, o), (8, .slice ra ls.length c0), (9, .int .i64 (ls.length : Int)), (10, .int .i64 ((k : Nat) : Int))] (by kernel_rfl), hx3, by rw [hnext]; exact hcnt, by rw [hnext]; exact ho3⟩
    · rintro E' H' ⟨o', ol', hE', hx', hc', ho'⟩
      refine AWp.env hE' ?_
      refine AWp.region' (by kernel_rfl) ?_
      refine AOps.run (n := 32) [(0, .val (.int .i64 ((k + 1 : Nat) : Int)))] [0, 1] [] (cs := [.some (some (.int .i64 (IntKind.i64.wrap ((k : Int) + ((1 : Nat) : Int))))) (.int .i64 ((k + 1 : Nat) : Int))]) (by kernel_rfl) (by kernel_rfl) (by kernel_rfl) ?_ ?_
      · intro x hx
        simp only [List.mem_cons, List.not_mem_nil, or_false] at hx
        subst hx
        exact congrArg (fun x => some (Value.int .i64 x)) (wrap_add (by omega))
      exact ⟨ls.length - (k + 1), by omega, k + 1, o', ol', rfl, hlt, mkE_le [(3, .map (some B.next)), (4, o'), (8, .slice ra ls.length c0), (9, .int .i64 (ls.length : Int)), (10, .int .i64 ((k + 1 : Nat) : Int))] (by kernel_rfl), hx', hc', ho'⟩
  · have hge : k = ls.length := by have := of_decide_eq_false hF; omega
    subst hge
    rw [List.take_length] at ho
    refine AWp.exit' (id := 0) (by kernel_rfl) ?_
    show AWp _ _ _ _ _
    refine AWp.view [(4, o)] (by kernel_rfl) ?_
    obtain ⟨ra', id', c', rfl, hv'⟩ := ho.rows.split
    refine AWp.seq' (by kernel_rfl) (AWp.region' (by kernel_rfl) ?_)
    refine AOps.run (n := 32) [] [0] [1] (cs := []) (by kernel_rfl) (by kernel_rfl) (by kernel_rfl) ?_ ?_
    · intro x hx; cases hx
    refine AOps.call (n := 32) 1 [] 71 [.slice ra' (once [] ls).length c', .func (.func 72) #[] #[]] (by kernel_rfl) rfl (by kernel_rfl) (by kernel_rfl) (by kernel_rfl) (by kernel_rfl) (by kernel_rfl) (sort_spec hf hv') ?_
    rintro e H2 ⟨rfl, hx2⟩
    refine ⟨_, rfl, ?_⟩
    show AWp _ _ _ _ _
    refine AWp.view [(4, .slice ra' (once [] ls).length c')] (by kernel_rfl) ?_
    refine AWp.seq' (by kernel_rfl) (AWp.region' (by kernel_rfl) ?_)
    refine AOps.run (n := 32) [] [0, 1] [] (cs := []) (by kernel_rfl) (by kernel_rfl) (by kernel_rfl) ?_ ?_
    · intro x hx; cases hx
    show AWp _ _ _ _ _
    refine AWp.view [(2, .slice ra' (once [] ls).length c')] (by kernel_rfl) ?_
    exact AWp.ret' (by kernel_rfl) ⟨[.slice ra' (once [] ls).length c'], by kernel_rfl, _, rfl, hx.trans hx2, (ho.keep fun i _ hi => hx2.old i hi).rows, fun a n c e => by
      rcases ho with ⟨_, h2, _⟩ | ⟨i, h2, _, _, h4⟩
      · rw [h2] at e; cases e
      · rw [h2] at e; cases e; simp only; omega⟩
end Go.Proofs.YtihpfgnigpmihaaGreat
