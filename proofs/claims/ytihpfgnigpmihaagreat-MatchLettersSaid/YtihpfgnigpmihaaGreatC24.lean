/- tree.right of the nodes of letters. -/
import Derived.Test.YtihpfgnigpmihaaGreatC20
set_option linter.unusedVariables false
set_option linter.unusedSimpArgs false
set_option maxRecDepth 100000
namespace Go.Proofs.YtihpfgnigpmihaaGreat
open Go

theorem keptA {B H2 : AHeap} (hB : ∀ i ∈ B.rs, i < B.next) (hx : Ext B.keep H2) {z b : ABlk} : Ext B ((H2.fill B.next z).set B.next b) := by
  have hlt : B.next < H2.next := Nat.lt_of_lt_of_le (Nat.lt_succ_self _) hx.next
  refine ⟨Nat.le_of_lt hlt, fun i hi => ?_, ?_⟩
  · rw [AHeap.get_set_ne (Nat.ne_of_lt hi), AHeap.get_fill hlt, if_neg (Nat.ne_of_lt hi), hx.old i (Nat.lt_succ_of_lt hi), AHeap.get_keep, if_neg (Nat.ne_of_lt hi)]
  · show H2.rs.filter (· != B.next) = B.rs
    rw [hx.rs]
    show (B.next :: B.rs).filter (· != B.next) = B.rs
    rw [List.filter_cons_of_neg (by simp), List.filter_eq_self.2]
    intro i hi
    have := hB i hi
    simp; omega
theorem keptB {B H2 : AHeap} (hB : ∀ i ∈ B.rs, i < B.next) {z b : ABlk} (hx : Ext (B.keep.fill B.next z) H2) : Ext B (H2.set B.next b) := by
  have hlt : B.next < B.keep.next := Nat.lt_succ_self _
  refine ⟨Nat.le_trans (Nat.le_succ _) hx.next, fun i hi => ?_, ?_⟩
  · rw [AHeap.get_set_ne (Nat.ne_of_lt hi), hx.old i (Nat.lt_succ_of_lt hi), AHeap.get_fill hlt, if_neg (Nat.ne_of_lt hi), AHeap.get_keep, if_neg (Nat.ne_of_lt hi)]
  · show H2.rs = B.rs
    rw [hx.rs]
    show (B.next :: B.rs).filter (· != B.next) = B.rs
    rw [List.filter_cons_of_neg (by simp), List.filter_eq_self.2]
    intro i hi
    have := hB i hi
    simp; omega

def shapeEntries : List MapEntry := [⟨.int .u8 1, .agg #[.int .i64 0, .int .i64 0, .bool true, .bool false, .bool false, .bool false], 0⟩, ⟨.int .u8 2, .agg #[.int .i64 0, .int .i64 0, .bool false, .bool false, .bool false, .bool false], 1⟩, ⟨.int .u8 3, .agg #[.int .i64 0, .int .i64 0, .bool false, .bool true, .bool false, .bool false], 2⟩, ⟨.int .u8 4, .agg #[.int .i64 0, .int .i64 0, .bool false, .bool false, .bool false, .bool false], 3⟩, ⟨.int .u8 5, .agg #[.int .i64 0, .int .i64 0, .bool false, .bool false, .bool false, .bool false], 4⟩, ⟨.int .u8 11, .agg #[.int .i64 0, .int .i64 0, .bool false, .bool false, .bool false, .bool false], 5⟩, ⟨.int .u8 6, .agg #[.int .i64 0, .int .i64 0, .bool false, .bool false, .bool true, .bool false], 6⟩, ⟨.int .u8 7, .agg #[.int .i64 1, .int .i64 1, .bool false, .bool false, .bool true, .bool false], 7⟩, ⟨.int .u8 8, .agg #[.int .i64 2, .int .i64 200, .bool false, .bool false, .bool false, .bool false], 8⟩, ⟨.int .u8 9, .agg #[.int .i64 2, .int .i64 200, .bool false, .bool false, .bool false, .bool false], 9⟩, ⟨.int .u8 10, .agg #[.int .i64 1, .int .i64 1, .bool false, .bool false, .bool false, .bool true], 10⟩]
theorem shapes_spec (B : AHeap) : ACall Tryz.prog 44 [] B fun e B' => e = .ret (.map (some (B.next + 0))) ∧ Ext B B' ∧ B'.get (B.next + 0) = some (.map shapeEntries 11) := by
  have hv : outV (runCall Tryz.prog 44 []) = .map (some 0) := by kernel_rfl
  have hg : (outH (runCall Tryz.prog 44 [])).get 0 = some (.map shapeEntries 11) := by kernel_rfl
  have hn : Nat.ble (0 + 1) (outH (runCall Tryz.prog 44 [])).next = true := by kernel_rfl
  refine (ACall.evald (call_ok noBase_ok 1000 4) (f := 44) (args := []) (by kernel_rfl) (by kernel_rfl) (by kernel_rfl) B).mono ?_
  rintro e B' ⟨rfl, h, hb⟩
  have hw : ren (shift 0 0 B.next) (outV (runCall Tryz.prog 44 [])) = .map (some (B.next + 0)) := by rw [hv]; rfl
  refine ⟨congrArg AEnd.ret hw, h, ?_⟩
  rw [hb 0 (Nat.le_of_ble_eq_true hn)]
  show ((outH (runCall Tryz.prog 44 [])).get 0).map _ = _
  rw [hg]; kernel_rfl
def shapeLook (P : Program) (k : Int) : Option Value :=
  if keyFits P 5 (.int .u8 k) = true ∧ runPure P (Instr.checkKey (shapeEntries.isEmpty) 10000 5 (.int .u8 k)) = some () then
    match findAt P 5 (.int .u8 k) shapeEntries 0 with
    | none => none
    | some (some i) => match shapeEntries[i]? with
      | some e => some (.tuple #[e.val, .bool true])
      | none => none
    | some none => none
  else none
theorem shape_look {H : AHeap} {M ck : Nat} (hm : mapT Tryz.prog 100 = some (5, 98)) (h : H.get M = some (.map shapeEntries ck)) {k : Int} {v : Value} (key : shapeLook Tryz.prog k = some v) : alookup Tryz.prog H 100 (.map (some M)) (.int .u8 k) true = some v := by
  unfold shapeLook at key
  unfold alookup
  simp only [hm, h]
  split at key
  · rename_i hc
    rw [if_pos hc]
    split at key
    · cases key
    · rename_i i hi
      rw [hi]
      simp only
      split at key
      · rename_i e he
        rw [he]; exact key
      · cases key
    · cases key
  · cases key
theorem shape_look_one {H : AHeap} {M ck : Nat} (h : H.get M = some (.map shapeEntries ck)) : alookup Tryz.prog H 100 (.map (some M)) (.int .u8 1) true = some (.tuple #[.agg #[.int .i64 0, .int .i64 0, .bool true, .bool false, .bool false, .bool false], .bool true]) := by
  have hm : mapT Tryz.prog 100 = some (5, 98) := by kernel_rfl
  have key : shapeLook Tryz.prog 1 = some (.tuple #[.agg #[.int .i64 0, .int .i64 0, .bool true, .bool false, .bool false, .bool false], .bool true]) := by kernel_rfl
  exact shape_look hm h key
theorem shape_look_row {H : AHeap} {M ck : Nat} (h : H.get M = some (.map shapeEntries ck)) : alookup Tryz.prog H 100 (.map (some M)) (.int .u8 8) true = some (.tuple #[.agg #[.int .i64 2, .int .i64 200, .bool false, .bool false, .bool false, .bool false], .bool true]) := by
  have hm : mapT Tryz.prog 100 = some (5, 98) := by kernel_rfl
  have key : shapeLook Tryz.prog 8 = some (.tuple #[.agg #[.int .i64 2, .int .i64 200, .bool false, .bool false, .bool false, .bool false], .bool true]) := by kernel_rfl
  exact shape_look hm h key
theorem shape_look_empty {H : AHeap} {M ck : Nat} (h : H.get M = some (.map shapeEntries ck)) : alookup Tryz.prog H 100 (.map (some M)) (.int .u8 11) true = some (.tuple #[.agg #[.int .i64 0, .int .i64 0, .bool false, .bool false, .bool false, .bool false], .bool true]) := by
  have hm : mapT Tryz.prog 100 = some (5, 98) := by kernel_rfl
  have key : shapeLook Tryz.prog 11 = some (.tuple #[.agg #[.int .i64 0, .int .i64 0, .bool false, .bool false, .bool false, .bool false], .bool true]) := by kernel_rfl
  exact shape_look hm h key

theorem cellRight_spec {c : Int} (hc : 0 ≤ c ∧ c < 128) (B : AHeap) : ACall Tryz.prog 45 [.int .i32 c] B fun e B' => e = .ret (.bool true) ∧ B' = B := by
  refine ACall.walk (fn := Tryz.f45) (c := bodyOf Tryz.prog 45) (by kernel_rfl) (by kernel_rfl) (by kernel_rfl) ?_
  refine AWp.seq' (by kernel_rfl) (AWp.region' (by kernel_rfl) ?_)
  refine AOps.run (n := 17) [] [0] [] (cs := []) (by kernel_rfl) (by kernel_rfl) (by kernel_rfl) ?_ ?_
  · intro x hx; cases hx
  show AWp _ _ _ _ _
  refine AWp.view [(0, .int .i32 c)] (by kernel_rfl) ?_
  refine AWp.seq' (by kernel_rfl) (AWp.region' (by kernel_rfl) ?_)
  refine AOps.run (n := 17) [(1, .val (.bool true)), (4, .val (.bool true)), (8, .val (.bool true))] [0, 1, 2, 3, 4, 5, 6, 7, 8, 9, 10, 11, 12, 13, 14] [] (cs := [.some (some (.bool (decide (c ≥ -256)))) (.bool true), .some (some (.bool (decide (c ≤ 1114111)))) (.bool true), .some (some (.bool (decide (c < 55296)))) (.bool true)]) (by kernel_rfl) (by kernel_rfl) (by kernel_rfl) ?_ ?_
  · intro x hx
    simp only [List.mem_cons, List.not_mem_nil, or_false] at hx
    rcases hx with rfl | rfl | rfl
    · exact congrArg (fun b => some (Value.bool b)) (decide_eq_true (by omega))
    · exact congrArg (fun b => some (Value.bool b)) (decide_eq_true (by omega))
    · exact congrArg (fun b => some (Value.bool b)) (decide_eq_true (by omega))
  show AWp _ _ _ _ _
  refine AWp.view [(2, .bool true)] (by kernel_rfl) ?_
  exact AWp.ret' (by kernel_rfl) ⟨[.bool true], by kernel_rfl, rfl, rfl⟩
theorem emptySet_spec (B : AHeap) : ACall Tryz.prog 47 [.agg #[.bool false, .slice none 0 0, .slice none 0 0]] B fun e B' => e = .ret (.bool true) ∧ Ext B B' := by
  refine ACall.walk (fn := Tryz.f47) (c := bodyOf Tryz.prog 47) (by kernel_rfl) (by kernel_rfl) (by kernel_rfl) ?_
  refine AWp.seq' (by kernel_rfl) (AWp.region' (by kernel_rfl) ?_)
  refine AOps.write (n := 18) 0 [1] (.pointer (some ⟨B.next, 0, none⟩)) (B.push (.cells [.bool false, .slice none 0 0, .slice none 0 0] 42 false)) (by kernel_rfl) rfl (by kernel_rfl) (by kernel_rfl) (by kernel_rfl) (by kernel_rfl) ?_
  refine AOps.run (n := 18) [] [1] [] (cs := []) (by kernel_rfl) (by kernel_rfl) (by kernel_rfl) ?_ ?_
  · intro x hx; cases hx
  show AWp _ _ _ _ _
  refine AWp.view [(1, .pointer (some ⟨B.next, 0, none⟩))] (by kernel_rfl) ?_
  refine AWp.seq' (by kernel_rfl) (AWp.region' (by kernel_rfl) ?_)
  refine AOps.run (n := 18) [(1, .blk ([.bool false, .slice none 0 0, .slice none 0 0])), (5, .blk ([.bool false, .slice none 0 0, .slice none 0 0])), (11, .blk ([.bool false, .slice none 0 0, .slice none 0 0]))] [0, 1, 2, 3, 4, 5, 6, 7, 8, 9, 10, 11, 12, 13, 14, 15] [] (cs := [.blk (B.next) ([.bool false, .slice none 0 0, .slice none 0 0]), .blk (B.next) ([.bool false, .slice none 0 0, .slice none 0 0]), .blk (B.next) ([.bool false, .slice none 0 0, .slice none 0 0])]) (by kernel_rfl) (by kernel_rfl) (by kernel_rfl) ?_ ?_
  · intro x hx
    simp only [List.mem_cons, List.not_mem_nil, or_false] at hx
    rcases hx with rfl | rfl | rfl
    · exact ⟨42, false, AHeap.get_push_new _ _⟩
    · exact ⟨42, false, AHeap.get_push_new _ _⟩
    · exact ⟨42, false, AHeap.get_push_new _ _⟩
  show AWp _ _ _ _ _
  refine AWp.view [(2, .bool true)] (by kernel_rfl) ?_
  exact AWp.ret' (by kernel_rfl) ⟨[.bool true], by kernel_rfl, rfl, Ext.push _ _⟩

theorem right_one {c : Int} (hc : 0 ≤ c ∧ c < 128) (B : AHeap) : ACall Tryz.prog 20 [.agg #[.int .u8 1, .int .i32 c, .bool false, .slice none 0 0, .slice none 0 0, .int .i64 0, .int .i64 0, .int .i64 0, .slice none 0 0], .int .i64 0] B fun e B' => e = .ret (.bool true) ∧ Ext B B' := by
  refine ACall.walk (fn := Tryz.f20) (c := bodyOf Tryz.prog 20) (by kernel_rfl) (by kernel_rfl) (by kernel_rfl) ?_
  refine AWp.seq' (by kernel_rfl) (AWp.region' (by kernel_rfl) ?_)
  refine AOps.write (n := 132) 0 [1] (.pointer (some ⟨B.next, 0, none⟩)) (B.push (.cells [.int .u8 1, .int .i32 c, .bool false, .slice none 0 0, .slice none 0 0, .int .i64 0, .int .i64 0, .int .i64 0, .slice none 0 0] 44 false)) (by kernel_rfl) rfl (by kernel_rfl) (by kernel_rfl) (by kernel_rfl) (by kernel_rfl) ?_
  refine AOps.run (n := 132) [] [1] [] (cs := []) (by kernel_rfl) (by kernel_rfl) (by kernel_rfl) ?_ ?_
  · intro x hx; cases hx
  show AWp _ _ _ _ _
  have hS : (B.push (.cells [.int .u8 1, .int .i32 c, .bool false, .slice none 0 0, .slice none 0 0, .int .i64 0, .int .i64 0, .int .i64 0, .slice none 0 0] 44 false)).get B.next = some (.cells [.int .u8 1, .int .i32 c, .bool false, .slice none 0 0, .slice none 0 0, .int .i64 0, .int .i64 0, .int .i64 0, .slice none 0 0] 44 false) := AHeap.get_push_new _ _
  have hx0 : Ext B (B.push (.cells [.int .u8 1, .int .i32 c, .bool false, .slice none 0 0, .slice none 0 0, .int .i64 0, .int .i64 0, .int .i64 0, .slice none 0 0] 44 false)) := Ext.push _ _
  generalize B.push (.cells [.int .u8 1, .int .i32 c, .bool false, .slice none 0 0, .slice none 0 0, .int .i64 0, .int .i64 0, .int .i64 0, .slice none 0 0] 44 false) = B1 at hS hx0 ⊢
  refine AWp.view [(1, .int .i64 0), (2, .pointer (some ⟨B.next, 0, none⟩))] (by kernel_rfl) ?_
  refine AWp.resv fun hrs => ?_
  refine AWp.mid (by kernel_rfl) (fun E' H' => AEnv.le (envOf 132 (mkE [(1, .int .i64 0), (2, .pointer (some ⟨B.next, 0, none⟩)), (5, .pointer (some ⟨B1.next, 0, none⟩)), (6, .bool true)])) E' ∧ Ext B1 H' ∧ H'.get B1.next = some (.cells [.int .i64 0, .int .i64 0, .bool true, .bool false, .bool false, .bool false] 98 false)) ?_ ?_
  · refine AWp.draw' mixed (.split 2 0 (.split 0 7 (.leaf [1, 2, 0, 3, 4, 5, 6, 7, 8, 9]) (.leaf [1, 2, 7, 0, 3, 4, 5, 6, 8, 9])) (.split 0 7 (.leaf [1, 0, 2, 3, 4, 5, 6, 7, 8, 9]) (.leaf [1, 7, 0, 2, 3, 4, 5, 6, 8, 9]))) (by kernel_rfl) (by kernel_rfl) ⟨by kernel_rfl, ⟨by kernel_rfl, ⟨by kernel_rfl, ?_⟩, ⟨by kernel_rfl, ?_⟩⟩, ⟨by kernel_rfl, ⟨by kernel_rfl, ?_⟩, ⟨by kernel_rfl, ?_⟩⟩⟩
    · have hkp : keeps B1 (opsOf (fst (snd (bodyOf Tryz.prog 20)))).toList = B1.keep := by kernel_rfl
      rw [hkp]
      have kS : B1.keep.get B.next = some (.cells [.int .u8 1, .int .i32 c, .bool false, .slice none 0 0, .slice none 0 0, .int .i64 0, .int .i64 0, .int .i64 0, .slice none 0 0] 44 false) := by rw [AHeap.get_keep, if_neg (Nat.ne_of_lt (AHeap.get_lt hS))]; exact hS
      refine AOps.run (n := 132) [(2, .blk ([.int .u8 1, .int .i32 c, .bool false, .slice none 0 0, .slice none 0 0, .int .i64 0, .int .i64 0, .int .i64 0, .slice none 0 0]))] [1, 2] [0, 3, 4, 5, 6, 7, 8, 9] (cs := [.blk (B.next) ([.int .u8 1, .int .i32 c, .bool false, .slice none 0 0, .slice none 0 0, .int .i64 0, .int .i64 0, .int .i64 0, .slice none 0 0])]) (by kernel_rfl) (by kernel_rfl) (by kernel_rfl) ?_ ?_
      · intro x hx
        simp only [List.mem_cons, List.not_mem_nil, or_false] at hx
        subst hx
        exact ⟨44, false, kS⟩
      refine AOps.call (n := 132) 0 [3, 4, 5, 6, 7, 8, 9] 44 [] (by kernel_rfl) rfl (by kernel_rfl) (by kernel_rfl) (by kernel_rfl) (by kernel_rfl) (by kernel_rfl) (shapes_spec B1.keep) ?_
      rintro e H2 ⟨rfl, hx2, hmap⟩
      refine ⟨_, rfl, ?_⟩
      refine AOps.run (n := 132) [(3, .raw (.tuple #[.agg #[.int .i64 0, .int .i64 0, .bool true, .bool false, .bool false, .bool false], .bool true]))] [3, 4, 5, 6] [7, 8, 9] (cs := [.look 100 (.map (some (B1.keep.next + 0))) (.int .u8 1) true (.tuple #[.agg #[.int .i64 0, .int .i64 0, .bool true, .bool false, .bool false, .bool false], .bool true])]) (by kernel_rfl) (by kernel_rfl) (by kernel_rfl) ?_ ?_
      · intro x hx
        simp only [List.mem_cons, List.not_mem_nil, or_false] at hx
        subst hx
        exact shape_look_one hmap
      have hlt2 : B1.next < H2.next := Nat.lt_of_lt_of_le (Nat.lt_succ_self _) hx2.next
      refine AOps.fill (n := 132) 7 [8, 9] B1.next 98 (.agg #[.int .i64 0, .int .i64 0, .bool false, .bool false, .bool false, .bool false]) (by kernel_rfl) rfl (by kernel_rfl) (by kernel_rfl) (by kernel_rfl) (by rw [hx2.rs]; exact List.mem_cons_self ..) (by rw [hx2.old _ (Nat.lt_succ_self _), AHeap.get_keep, if_pos rfl]) ?_
      have hF : (H2.fill B1.next (.cells (vcells (.agg #[.int .i64 0, .int .i64 0, .bool false, .bool false, .bool false, .bool false])) 98 false)).get B1.next = some (.cells (vcells (.agg #[.int .i64 0, .int .i64 0, .bool false, .bool false, .bool false, .bool false])) 98 false) := by rw [AHeap.get_fill hlt2, if_pos rfl]
      refine AOps.store (n := 132) 8 [9] (t := 98) (v := .agg #[.int .i64 0, .int .i64 0, .bool true, .bool false, .bool false, .bool false]) (b := B1.next) (off := 0) (vs := vcells (.agg #[.int .i64 0, .int .i64 0, .bool false, .bool false, .bool false, .bool false])) (e := 98) (vs2 := [.int .i64 0, .int .i64 0, .bool true, .bool false, .bool false, .bool false]) (by kernel_rfl) rfl (by kernel_rfl) (by kernel_rfl) (by kernel_rfl) hF (by kernel_rfl) (by kernel_rfl) ?_
      refine AOps.run (n := 132) [] [9] [] (cs := []) (by kernel_rfl) (by kernel_rfl) (by kernel_rfl) ?_ ?_
      · intro x hx; cases hx
      exact ⟨mkE_le [(1, .int .i64 0), (2, .pointer (some ⟨B.next, 0, none⟩)), (5, .pointer (some ⟨B1.next, 0, none⟩)), (6, .bool true)] (by kernel_rfl), keptA hrs hx2, AHeap.get_set_same hF⟩
    · have hkp : keeps B1 (opsOf (fst (snd (bodyOf Tryz.prog 20)))).toList = B1.keep := by kernel_rfl
      rw [hkp]
      have kS : B1.keep.get B.next = some (.cells [.int .u8 1, .int .i32 c, .bool false, .slice none 0 0, .slice none 0 0, .int .i64 0, .int .i64 0, .int .i64 0, .slice none 0 0] 44 false) := by rw [AHeap.get_keep, if_neg (Nat.ne_of_lt (AHeap.get_lt hS))]; exact hS
      refine AOps.run (n := 132) [(2, .blk ([.int .u8 1, .int .i32 c, .bool false, .slice none 0 0, .slice none 0 0, .int .i64 0, .int .i64 0, .int .i64 0, .slice none 0 0]))] [1, 2] [7, 0, 3, 4, 5, 6, 8, 9] (cs := [.blk (B.next) ([.int .u8 1, .int .i32 c, .bool false, .slice none 0 0, .slice none 0 0, .int .i64 0, .int .i64 0, .int .i64 0, .slice none 0 0])]) (by kernel_rfl) (by kernel_rfl) (by kernel_rfl) ?_ ?_
      · intro x hx
        simp only [List.mem_cons, List.not_mem_nil, or_false] at hx
        subst hx
        exact ⟨44, false, kS⟩
      refine AOps.fill (n := 132) 7 [0, 3, 4, 5, 6, 8, 9] B1.next 98 (.agg #[.int .i64 0, .int .i64 0, .bool false, .bool false, .bool false, .bool false]) (by kernel_rfl) rfl (by kernel_rfl) (by kernel_rfl) (by kernel_rfl) (List.mem_cons_self ..) (by rw [AHeap.get_keep, if_pos rfl]) ?_
      have hF : (B1.keep.fill B1.next (.cells (vcells (.agg #[.int .i64 0, .int .i64 0, .bool false, .bool false, .bool false, .bool false])) 98 false)).get B1.next = some (.cells (vcells (.agg #[.int .i64 0, .int .i64 0, .bool false, .bool false, .bool false, .bool false])) 98 false) := by rw [AHeap.get_fill (Nat.lt_succ_self _), if_pos rfl]
      have fS : (B1.keep.fill B1.next (.cells (vcells (.agg #[.int .i64 0, .int .i64 0, .bool false, .bool false, .bool false, .bool false])) 98 false)).get B.next = some (.cells [.int .u8 1, .int .i32 c, .bool false, .slice none 0 0, .slice none 0 0, .int .i64 0, .int .i64 0, .int .i64 0, .slice none 0 0] 44 false) := by rw [AHeap.get_fill (Nat.lt_succ_self _), if_neg (Nat.ne_of_lt (AHeap.get_lt hS))]; exact kS
      generalize hFF : B1.keep.fill B1.next (.cells (vcells (.agg #[.int .i64 0, .int .i64 0, .bool false, .bool false, .bool false, .bool false])) 98 false) = Fh at hF fS ⊢
      refine AOps.call (n := 132) 0 [3, 4, 5, 6, 8, 9] 44 [] (by kernel_rfl) rfl (by kernel_rfl) (by kernel_rfl) (by kernel_rfl) (by kernel_rfl) (by kernel_rfl) (shapes_spec Fh) ?_
      rintro e H2 ⟨rfl, hx2, hmap⟩
      refine ⟨_, rfl, ?_⟩
      refine AOps.run (n := 132) [(3, .raw (.tuple #[.agg #[.int .i64 0, .int .i64 0, .bool true, .bool false, .bool false, .bool false], .bool true]))] [3, 4, 5, 6] [8, 9] (cs := [.look 100 (.map (some (Fh.next + 0))) (.int .u8 1) true (.tuple #[.agg #[.int .i64 0, .int .i64 0, .bool true, .bool false, .bool false, .bool false], .bool true])]) (by kernel_rfl) (by kernel_rfl) (by kernel_rfl) ?_ ?_
      · intro x hx
        simp only [List.mem_cons, List.not_mem_nil, or_false] at hx
        subst hx
        exact shape_look_one hmap
      refine AOps.store (n := 132) 8 [9] (t := 98) (v := .agg #[.int .i64 0, .int .i64 0, .bool true, .bool false, .bool false, .bool false]) (b := B1.next) (off := 0) (vs := vcells (.agg #[.int .i64 0, .int .i64 0, .bool false, .bool false, .bool false, .bool false])) (e := 98) (vs2 := [.int .i64 0, .int .i64 0, .bool true, .bool false, .bool false, .bool false]) (by kernel_rfl) rfl (by kernel_rfl) (by kernel_rfl) (by kernel_rfl) (hx2.get hF) (by kernel_rfl) (by kernel_rfl) ?_
      refine AOps.run (n := 132) [] [9] [] (cs := []) (by kernel_rfl) (by kernel_rfl) (by kernel_rfl) ?_ ?_
      · intro x hx; cases hx
      exact ⟨mkE_le [(1, .int .i64 0), (2, .pointer (some ⟨B.next, 0, none⟩)), (5, .pointer (some ⟨B1.next, 0, none⟩)), (6, .bool true)] (by kernel_rfl), keptB hrs (hFF ▸ hx2), AHeap.get_set_same (hx2.get hF)⟩
    · have hkp : keeps B1 (opsOf (fst (snd (bodyOf Tryz.prog 20)))).toList = B1.keep := by kernel_rfl
      rw [hkp]
      have kS : B1.keep.get B.next = some (.cells [.int .u8 1, .int .i32 c, .bool false, .slice none 0 0, .slice none 0 0, .int .i64 0, .int .i64 0, .int .i64 0, .slice none 0 0] 44 false) := by rw [AHeap.get_keep, if_neg (Nat.ne_of_lt (AHeap.get_lt hS))]; exact hS
      refine AOps.run (n := 132) [] [1] [0, 2, 3, 4, 5, 6, 7, 8, 9] (cs := []) (by kernel_rfl) (by kernel_rfl) (by kernel_rfl) ?_ ?_
      · intro x hx; cases hx
      refine AOps.call (n := 132) 0 [2, 3, 4, 5, 6, 7, 8, 9] 44 [] (by kernel_rfl) rfl (by kernel_rfl) (by kernel_rfl) (by kernel_rfl) (by kernel_rfl) (by kernel_rfl) (shapes_spec B1.keep) ?_
      rintro e H2 ⟨rfl, hx2, hmap⟩
      refine ⟨_, rfl, ?_⟩
      refine AOps.run (n := 132) [(2, .blk ([.int .u8 1, .int .i32 c, .bool false, .slice none 0 0, .slice none 0 0, .int .i64 0, .int .i64 0, .int .i64 0, .slice none 0 0])), (3, .raw (.tuple #[.agg #[.int .i64 0, .int .i64 0, .bool true, .bool false, .bool false, .bool false], .bool true]))] [2, 3, 4, 5, 6] [7, 8, 9] (cs := [.blk (B.next) ([.int .u8 1, .int .i32 c, .bool false, .slice none 0 0, .slice none 0 0, .int .i64 0, .int .i64 0, .int .i64 0, .slice none 0 0]), .look 100 (.map (some (B1.keep.next + 0))) (.int .u8 1) true (.tuple #[.agg #[.int .i64 0, .int .i64 0, .bool true, .bool false, .bool false, .bool false], .bool true])]) (by kernel_rfl) (by kernel_rfl) (by kernel_rfl) ?_ ?_
      · intro x hx
        simp only [List.mem_cons, List.not_mem_nil, or_false] at hx
        rcases hx with rfl | rfl
        · exact ⟨44, false, hx2.get kS⟩
        · exact shape_look_one hmap
      have hlt2 : B1.next < H2.next := Nat.lt_of_lt_of_le (Nat.lt_succ_self _) hx2.next
      refine AOps.fill (n := 132) 7 [8, 9] B1.next 98 (.agg #[.int .i64 0, .int .i64 0, .bool false, .bool false, .bool false, .bool false]) (by kernel_rfl) rfl (by kernel_rfl) (by kernel_rfl) (by kernel_rfl) (by rw [hx2.rs]; exact List.mem_cons_self ..) (by rw [hx2.old _ (Nat.lt_succ_self _), AHeap.get_keep, if_pos rfl]) ?_
      have hF : (H2.fill B1.next (.cells (vcells (.agg #[.int .i64 0, .int .i64 0, .bool false, .bool false, .bool false, .bool false])) 98 false)).get B1.next = some (.cells (vcells (.agg #[.int .i64 0, .int .i64 0, .bool false, .bool false, .bool false, .bool false])) 98 false) := by rw [AHeap.get_fill hlt2, if_pos rfl]
      refine AOps.store (n := 132) 8 [9] (t := 98) (v := .agg #[.int .i64 0, .int .i64 0, .bool true, .bool false, .bool false, .bool false]) (b := B1.next) (off := 0) (vs := vcells (.agg #[.int .i64 0, .int .i64 0, .bool false, .bool false, .bool false, .bool false])) (e := 98) (vs2 := [.int .i64 0, .int .i64 0, .bool true, .bool false, .bool false, .bool false]) (by kernel_rfl) rfl (by kernel_rfl) (by kernel_rfl) (by kernel_rfl) hF (by kernel_rfl) (by kernel_rfl) ?_
      refine AOps.run (n := 132) [] [9] [] (cs := []) (by kernel_rfl) (by kernel_rfl) (by kernel_rfl) ?_ ?_
      · intro x hx; cases hx
      exact ⟨mkE_le [(1, .int .i64 0), (2, .pointer (some ⟨B.next, 0, none⟩)), (5, .pointer (some ⟨B1.next, 0, none⟩)), (6, .bool true)] (by kernel_rfl), keptA hrs hx2, AHeap.get_set_same hF⟩
    · have hkp : keeps B1 (opsOf (fst (snd (bodyOf Tryz.prog 20)))).toList = B1.keep := by kernel_rfl
      rw [hkp]
      have kS : B1.keep.get B.next = some (.cells [.int .u8 1, .int .i32 c, .bool false, .slice none 0 0, .slice none 0 0, .int .i64 0, .int .i64 0, .int .i64 0, .slice none 0 0] 44 false) := by rw [AHeap.get_keep, if_neg (Nat.ne_of_lt (AHeap.get_lt hS))]; exact hS
      refine AOps.run (n := 132) [] [1] [7, 0, 2, 3, 4, 5, 6, 8, 9] (cs := []) (by kernel_rfl) (by kernel_rfl) (by kernel_rfl) ?_ ?_
      · intro x hx; cases hx
      refine AOps.fill (n := 132) 7 [0, 2, 3, 4, 5, 6, 8, 9] B1.next 98 (.agg #[.int .i64 0, .int .i64 0, .bool false, .bool false, .bool false, .bool false]) (by kernel_rfl) rfl (by kernel_rfl) (by kernel_rfl) (by kernel_rfl) (List.mem_cons_self ..) (by rw [AHeap.get_keep, if_pos rfl]) ?_
      have hF : (B1.keep.fill B1.next (.cells (vcells (.agg #[.int .i64 0, .int .i64 0, .bool false, .bool false, .bool false, .bool false])) 98 false)).get B1.next = some (.cells (vcells (.agg #[.int .i64 0, .int .i64 0, .bool false, .bool false, .bool false, .bool false])) 98 false) := by rw [AHeap.get_fill (Nat.lt_succ_self _), if_pos rfl]
      have fS : (B1.keep.fill B1.next (.cells (vcells (.agg #[.int .i64 0, .int .i64 0, .bool false, .bool false, .bool false, .bool false])) 98 false)).get B.next = some (.cells [.int .u8 1, .int .i32 c, .bool false, .slice none 0 0, .slice none 0 0, .int .i64 0, .int .i64 0, .int .i64 0, .slice none 0 0] 44 false) := by rw [AHeap.get_fill (Nat.lt_succ_self _), if_neg (Nat.ne_of_lt (AHeap.get_lt hS))]; exact kS
      generalize hFF : B1.keep.fill B1.next (.cells (vcells (.agg #[.int .i64 0, .int .i64 0, .bool false, .bool false, .bool false, .bool false])) 98 false) = Fh at hF fS ⊢
      refine AOps.call (n := 132) 0 [2, 3, 4, 5, 6, 8, 9] 44 [] (by kernel_rfl) rfl (by kernel_rfl) (by kernel_rfl) (by kernel_rfl) (by kernel_rfl) (by kernel_rfl) (shapes_spec Fh) ?_
      rintro e H2 ⟨rfl, hx2, hmap⟩
      refine ⟨_, rfl, ?_⟩
      refine AOps.run (n := 132) [(2, .blk ([.int .u8 1, .int .i32 c, .bool false, .slice none 0 0, .slice none 0 0, .int .i64 0, .int .i64 0, .int .i64 0, .slice none 0 0])), (3, .raw (.tuple #[.agg #[.int .i64 0, .int .i64 0, .bool true, .bool false, .bool false, .bool false], .bool true]))] [2, 3, 4, 5, 6] [8, 9] (cs := [.blk (B.next) ([.int .u8 1, .int .i32 c, .bool false, .slice none 0 0, .slice none 0 0, .int .i64 0, .int .i64 0, .int .i64 0, .slice none 0 0]), .look 100 (.map (some (Fh.next + 0))) (.int .u8 1) true (.tuple #[.agg #[.int .i64 0, .int .i64 0, .bool true, .bool false, .bool false, .bool false], .bool true])]) (by kernel_rfl) (by kernel_rfl) (by kernel_rfl) ?_ ?_
      · intro x hx
        simp only [List.mem_cons, List.not_mem_nil, or_false] at hx
        rcases hx with rfl | rfl
        · exact ⟨44, false, hx2.get fS⟩
        · exact shape_look_one hmap
      refine AOps.store (n := 132) 8 [9] (t := 98) (v := .agg #[.int .i64 0, .int .i64 0, .bool true, .bool false, .bool false, .bool false]) (b := B1.next) (off := 0) (vs := vcells (.agg #[.int .i64 0, .int .i64 0, .bool false, .bool false, .bool false, .bool false])) (e := 98) (vs2 := [.int .i64 0, .int .i64 0, .bool true, .bool false, .bool false, .bool false]) (by kernel_rfl) rfl (by kernel_rfl) (by kernel_rfl) (by kernel_rfl) (hx2.get hF) (by kernel_rfl) (by kernel_rfl) ?_
      refine AOps.run (n := 132) [] [9] [] (cs := []) (by kernel_rfl) (by kernel_rfl) (by kernel_rfl) ?_ ?_
      · intro x hx; cases hx
      exact ⟨mkE_le [(1, .int .i64 0), (2, .pointer (some ⟨B.next, 0, none⟩)), (5, .pointer (some ⟨B1.next, 0, none⟩)), (6, .bool true)] (by kernel_rfl), keptB hrs (hFF ▸ hx2), AHeap.get_set_same (hx2.get hF)⟩
  rintro E' H ⟨hE, hx1, hH⟩
  refine AWp.env hE ?_
  have hN := hx1.get hS
  have hxx := hx0.trans hx1
  clear hE hx1 hS hx0 hrs
  refine AWp.seq' (by kernel_rfl) (AWp.block' (id := 0) (by kernel_rfl) ?_)
  refine AWp.seq' (by kernel_rfl) (AWp.region' (by kernel_rfl) ?_)
  refine AOps.run (n := 132) [(4, .blk ([.int .u8 1, .int .i32 c, .bool false, .slice none 0 0, .slice none 0 0, .int .i64 0, .int .i64 0, .int .i64 0, .slice none 0 0])), (7, .blk ([.int .i64 0, .int .i64 0, .bool true, .bool false, .bool false, .bool false])), (12, .blk ([.int .u8 1, .int .i32 c, .bool false, .slice none 0 0, .slice none 0 0, .int .i64 0, .int .i64 0, .int .i64 0, .slice none 0 0])), (15, .blk ([.int .i64 0, .int .i64 0, .bool true, .bool false, .bool false, .bool false]))] [0, 1, 2, 3, 4, 5, 6, 7, 8, 9, 10, 11, 12, 13, 14, 15, 16, 17, 18] [] (cs := [.blk (B.next) ([.int .u8 1, .int .i32 c, .bool false, .slice none 0 0, .slice none 0 0, .int .i64 0, .int .i64 0, .int .i64 0, .slice none 0 0]), .blk (B1.next) ([.int .i64 0, .int .i64 0, .bool true, .bool false, .bool false, .bool false]), .blk (B.next) ([.int .u8 1, .int .i32 c, .bool false, .slice none 0 0, .slice none 0 0, .int .i64 0, .int .i64 0, .int .i64 0, .slice none 0 0]), .blk (B1.next) ([.int .i64 0, .int .i64 0, .bool true, .bool false, .bool false, .bool false])]) (by kernel_rfl) (by kernel_rfl) (by kernel_rfl) ?_ ?_
  · intro x hx
    simp only [List.mem_cons, List.not_mem_nil, or_false] at hx
    rcases hx with rfl | rfl | rfl | rfl
    · exact ⟨44, false, hN⟩
    · exact ⟨98, false, hH⟩
    · exact ⟨44, false, hN⟩
    · exact ⟨98, false, hH⟩
  show AWp _ _ _ _ _
  refine AWp.view [(1, .int .i64 0), (2, .pointer (some ⟨B.next, 0, none⟩)), (5, .pointer (some ⟨B1.next, 0, none⟩)), (6, .bool true), (14, .bool false)] (by kernel_rfl) ?_
  refine AWp.condF (c := .tmp 14) (by kernel_rfl) (by kernel_rfl) ?_
  refine AWp.seq' (by kernel_rfl) (AWp.region' (by kernel_rfl) ?_)
  refine AOps.run (n := 132) [(1, .blk ([.int .i64 0, .int .i64 0, .bool true, .bool false, .bool false, .bool false])), (4, .blk ([.int .u8 1, .int .i32 c, .bool false, .slice none 0 0, .slice none 0 0, .int .i64 0, .int .i64 0, .int .i64 0, .slice none 0 0]))] [0, 1, 2, 3, 4] [5, 6, 7, 8, 9, 10, 11, 12, 13, 14, 15, 16, 17, 18] (cs := [.blk (B1.next) ([.int .i64 0, .int .i64 0, .bool true, .bool false, .bool false, .bool false]), .blk (B.next) ([.int .u8 1, .int .i32 c, .bool false, .slice none 0 0, .slice none 0 0, .int .i64 0, .int .i64 0, .int .i64 0, .slice none 0 0])]) (by kernel_rfl) (by kernel_rfl) (by kernel_rfl) ?_ ?_
  · intro x hx
    simp only [List.mem_cons, List.not_mem_nil, or_false] at hx
    rcases hx with rfl | rfl
    · exact ⟨98, false, hH⟩
    · exact ⟨44, false, hN⟩
  refine AOps.call (n := 132) 5 [6, 7, 8, 9, 10, 11, 12, 13, 14, 15, 16, 17, 18] 45 [.int .i32 c] (by kernel_rfl) rfl (by kernel_rfl) (by kernel_rfl) (by kernel_rfl) (by kernel_rfl) (by kernel_rfl) (cellRight_spec hc _) ?_
  rintro e H3 ⟨rfl, rfl⟩
  refine ⟨_, rfl, ?_⟩
  refine AOps.run (n := 132) [(10, .blk ([.int .i64 0, .int .i64 0, .bool true, .bool false, .bool false, .bool false]))] [6, 7, 8, 9, 10, 11, 12, 13, 14, 15, 16, 17, 18] [] (cs := [.blk (B1.next) ([.int .i64 0, .int .i64 0, .bool true, .bool false, .bool false, .bool false])]) (by kernel_rfl) (by kernel_rfl) (by kernel_rfl) ?_ ?_
  · intro x hx
    simp only [List.mem_cons, List.not_mem_nil, or_false] at hx
    subst hx
    exact ⟨98, false, hH⟩
  show AWp _ _ _ _ _
  refine AWp.view [(1, .int .i64 0), (2, .pointer (some ⟨B.next, 0, none⟩)), (5, .pointer (some ⟨B1.next, 0, none⟩)), (6, .bool true), (33, .bool false)] (by kernel_rfl) ?_
  refine AWp.condF (c := .tmp 33) (by kernel_rfl) (by kernel_rfl) ?_
  refine AWp.seq' (by kernel_rfl) (AWp.region' (by kernel_rfl) ?_)
  refine AOps.run (n := 132) [(1, .blk ([.int .i64 0, .int .i64 0, .bool true, .bool false, .bool false, .bool false])), (10, .blk ([.int .i64 0, .int .i64 0, .bool true, .bool false, .bool false, .bool false])), (14, .blk ([.int .u8 1, .int .i32 c, .bool false, .slice none 0 0, .slice none 0 0, .int .i64 0, .int .i64 0, .int .i64 0, .slice none 0 0]))] [0, 1, 2, 3, 4, 5, 6, 7, 8, 9, 10, 11, 12, 13, 14] [15, 16, 17, 18, 19] (cs := [.blk (B1.next) ([.int .i64 0, .int .i64 0, .bool true, .bool false, .bool false, .bool false]), .blk (B1.next) ([.int .i64 0, .int .i64 0, .bool true, .bool false, .bool false, .bool false]), .blk (B.next) ([.int .u8 1, .int .i32 c, .bool false, .slice none 0 0, .slice none 0 0, .int .i64 0, .int .i64 0, .int .i64 0, .slice none 0 0])]) (by kernel_rfl) (by kernel_rfl) (by kernel_rfl) ?_ ?_
  · intro x hx
    simp only [List.mem_cons, List.not_mem_nil, or_false] at hx
    rcases hx with rfl | rfl | rfl
    · exact ⟨98, false, hH⟩
    · exact ⟨98, false, hH⟩
    · exact ⟨44, false, hN⟩
  refine AOps.call (n := 132) 15 [16, 17, 18, 19] 47 [.agg #[.bool false, .slice none 0 0, .slice none 0 0]] (by kernel_rfl) rfl (by kernel_rfl) (by kernel_rfl) (by kernel_rfl) (by kernel_rfl) (by kernel_rfl) (emptySet_spec _) ?_
  rintro e H4 ⟨rfl, hx4⟩
  refine ⟨_, rfl, ?_⟩
  refine AOps.run (n := 132) [] [16, 17, 18, 19] [] (cs := []) (by kernel_rfl) (by kernel_rfl) (by kernel_rfl) ?_ ?_
  · intro x hx; cases hx
  show AWp _ _ _ _ _
  have hN4 := hx4.get hN
  have hH4 := hx4.get hH
  refine AWp.view [(1, .int .i64 0), (2, .pointer (some ⟨B.next, 0, none⟩)), (5, .pointer (some ⟨B1.next, 0, none⟩)), (6, .bool true), (52, .bool false)] (by kernel_rfl) ?_
  refine AWp.condF (c := .tmp 52) (by kernel_rfl) (by kernel_rfl) ?_
  refine AWp.seq' (by kernel_rfl) (AWp.region' (by kernel_rfl) ?_)
  refine AOps.run (n := 132) [(1, .blk ([.int .i64 0, .int .i64 0, .bool true, .bool false, .bool false, .bool false])), (15, .blk ([.int .i64 0, .int .i64 0, .bool true, .bool false, .bool false, .bool false])), (19, .blk ([.int .u8 1, .int .i32 c, .bool false, .slice none 0 0, .slice none 0 0, .int .i64 0, .int .i64 0, .int .i64 0, .slice none 0 0]))] [0, 1, 2, 3, 4, 5, 6, 7, 8, 9, 10, 11, 12, 13, 14, 15, 16, 17, 18, 19, 20, 21, 22, 23] [] (cs := [.blk (B1.next) ([.int .i64 0, .int .i64 0, .bool true, .bool false, .bool false, .bool false]), .blk (B1.next) ([.int .i64 0, .int .i64 0, .bool true, .bool false, .bool false, .bool false]), .blk (B.next) ([.int .u8 1, .int .i32 c, .bool false, .slice none 0 0, .slice none 0 0, .int .i64 0, .int .i64 0, .int .i64 0, .slice none 0 0])]) (by kernel_rfl) (by kernel_rfl) (by kernel_rfl) ?_ ?_
  · intro x hx
    simp only [List.mem_cons, List.not_mem_nil, or_false] at hx
    rcases hx with rfl | rfl | rfl
    · exact ⟨98, false, hH4⟩
    · exact ⟨98, false, hH4⟩
    · exact ⟨44, false, hN4⟩
  show AWp _ _ _ _ _
  refine AWp.view [(1, .int .i64 0), (2, .pointer (some ⟨B.next, 0, none⟩)), (5, .pointer (some ⟨B1.next, 0, none⟩)), (6, .bool true), (72, .bool false)] (by kernel_rfl) ?_
  refine AWp.condF (c := .tmp 72) (by kernel_rfl) (by kernel_rfl) ?_
  refine AWp.seq' (by kernel_rfl) (AWp.region' (by kernel_rfl) ?_)
  refine AOps.run (n := 132) [(1, .blk ([.int .i64 0, .int .i64 0, .bool true, .bool false, .bool false, .bool false]))] [0, 1, 2] [] (cs := [.blk (B1.next) ([.int .i64 0, .int .i64 0, .bool true, .bool false, .bool false, .bool false])]) (by kernel_rfl) (by kernel_rfl) (by kernel_rfl) ?_ ?_
  · intro x hx
    simp only [List.mem_cons, List.not_mem_nil, or_false] at hx
    subst hx
    exact ⟨98, false, hH4⟩
  show AWp _ _ _ _ _
  refine AWp.view [(1, .int .i64 0), (2, .pointer (some ⟨B.next, 0, none⟩)), (5, .pointer (some ⟨B1.next, 0, none⟩)), (6, .bool true), (96, .bool false)] (by kernel_rfl) ?_
  refine AWp.condF (c := .tmp 96) (by kernel_rfl) (by kernel_rfl) ?_
  refine AWp.skip' (by kernel_rfl) ?_
  show AWp _ _ _ _ _
  refine AWp.view [(1, .int .i64 0), (2, .pointer (some ⟨B.next, 0, none⟩)), (5, .pointer (some ⟨B1.next, 0, none⟩)), (6, .bool true)] (by kernel_rfl) ?_
  refine AWp.seq' (by kernel_rfl) (AWp.region' (by kernel_rfl) ?_)
  refine AOps.run (n := 132) [(1, .blk ([.int .u8 1, .int .i32 c, .bool false, .slice none 0 0, .slice none 0 0, .int .i64 0, .int .i64 0, .int .i64 0, .slice none 0 0])), (5, .blk ([.int .u8 1, .int .i32 c, .bool false, .slice none 0 0, .slice none 0 0, .int .i64 0, .int .i64 0, .int .i64 0, .slice none 0 0]))] [0, 1, 2, 3, 4, 5, 6, 7, 8] [] (cs := [.blk (B.next) ([.int .u8 1, .int .i32 c, .bool false, .slice none 0 0, .slice none 0 0, .int .i64 0, .int .i64 0, .int .i64 0, .slice none 0 0]), .blk (B.next) ([.int .u8 1, .int .i32 c, .bool false, .slice none 0 0, .slice none 0 0, .int .i64 0, .int .i64 0, .int .i64 0, .slice none 0 0])]) (by kernel_rfl) (by kernel_rfl) (by kernel_rfl) ?_ ?_
  · intro x hx
    simp only [List.mem_cons, List.not_mem_nil, or_false] at hx
    rcases hx with rfl | rfl
    · exact ⟨44, false, hN4⟩
    · exact ⟨44, false, hN4⟩
  show AWp _ _ _ _ _
  refine AWp.view [(4, .bool true)] (by kernel_rfl) ?_
  exact AWp.ret' (by kernel_rfl) ⟨[.bool true], by kernel_rfl, rfl, hxx.trans hx4⟩

theorem right_row {ka : Option Addr} {n kc : Nat} (hn : 2 ≤ n ∧ n ≤ 200) (B : AHeap) : ACall Tryz.prog 20 [.agg #[.int .u8 8, .int .i32 0, .bool false, .slice none 0 0, .slice none 0 0, .int .i64 0, .int .i64 0, .int .i64 0, .slice ka n kc], .int .i64 0] B fun e B' => e = .ret (.bool true) ∧ Ext B B' := by
  refine ACall.walk (fn := Tryz.f20) (c := bodyOf Tryz.prog 20) (by kernel_rfl) (by kernel_rfl) (by kernel_rfl) ?_
  refine AWp.seq' (by kernel_rfl) (AWp.region' (by kernel_rfl) ?_)
  refine AOps.write (n := 132) 0 [1] (.pointer (some ⟨B.next, 0, none⟩)) (B.push (.cells [.int .u8 8, .int .i32 0, .bool false, .slice none 0 0, .slice none 0 0, .int .i64 0, .int .i64 0, .int .i64 0, .slice ka n kc] 44 false)) (by kernel_rfl) rfl (by kernel_rfl) (by kernel_rfl) (by kernel_rfl) (by kernel_rfl) ?_
  refine AOps.run (n := 132) [] [1] [] (cs := []) (by kernel_rfl) (by kernel_rfl) (by kernel_rfl) ?_ ?_
  · intro x hx; cases hx
  show AWp _ _ _ _ _
  have hS : (B.push (.cells [.int .u8 8, .int .i32 0, .bool false, .slice none 0 0, .slice none 0 0, .int .i64 0, .int .i64 0, .int .i64 0, .slice ka n kc] 44 false)).get B.next = some (.cells [.int .u8 8, .int .i32 0, .bool false, .slice none 0 0, .slice none 0 0, .int .i64 0, .int .i64 0, .int .i64 0, .slice ka n kc] 44 false) := AHeap.get_push_new _ _
  have hx0 : Ext B (B.push (.cells [.int .u8 8, .int .i32 0, .bool false, .slice none 0 0, .slice none 0 0, .int .i64 0, .int .i64 0, .int .i64 0, .slice ka n kc] 44 false)) := Ext.push _ _
  generalize B.push (.cells [.int .u8 8, .int .i32 0, .bool false, .slice none 0 0, .slice none 0 0, .int .i64 0, .int .i64 0, .int .i64 0, .slice ka n kc] 44 false) = B1 at hS hx0 ⊢
  refine AWp.view [(1, .int .i64 0), (2, .pointer (some ⟨B.next, 0, none⟩))] (by kernel_rfl) ?_
  refine AWp.resv fun hrs => ?_
  refine AWp.mid (by kernel_rfl) (fun E' H' => AEnv.le (envOf 132 (mkE [(1, .int .i64 0), (2, .pointer (some ⟨B.next, 0, none⟩)), (5, .pointer (some ⟨B1.next, 0, none⟩)), (6, .bool true)])) E' ∧ Ext B1 H' ∧ H'.get B1.next = some (.cells [.int .i64 2, .int .i64 200, .bool false, .bool false, .bool false, .bool false] 98 false)) ?_ ?_
  · refine AWp.draw' mixed (.split 2 0 (.split 0 7 (.leaf [1, 2, 0, 3, 4, 5, 6, 7, 8, 9]) (.leaf [1, 2, 7, 0, 3, 4, 5, 6, 8, 9])) (.split 0 7 (.leaf [1, 0, 2, 3, 4, 5, 6, 7, 8, 9]) (.leaf [1, 7, 0, 2, 3, 4, 5, 6, 8, 9]))) (by kernel_rfl) (by kernel_rfl) ⟨by kernel_rfl, ⟨by kernel_rfl, ⟨by kernel_rfl, ?_⟩, ⟨by kernel_rfl, ?_⟩⟩, ⟨by kernel_rfl, ⟨by kernel_rfl, ?_⟩, ⟨by kernel_rfl, ?_⟩⟩⟩
    · have hkp : keeps B1 (opsOf (fst (snd (bodyOf Tryz.prog 20)))).toList = B1.keep := by kernel_rfl
      rw [hkp]
      have kS : B1.keep.get B.next = some (.cells [.int .u8 8, .int .i32 0, .bool false, .slice none 0 0, .slice none 0 0, .int .i64 0, .int .i64 0, .int .i64 0, .slice ka n kc] 44 false) := by rw [AHeap.get_keep, if_neg (Nat.ne_of_lt (AHeap.get_lt hS))]; exact hS
      refine AOps.run (n := 132) [(2, .blk ([.int .u8 8, .int .i32 0, .bool false, .slice none 0 0, .slice none 0 0, .int .i64 0, .int .i64 0, .int .i64 0, .slice ka n kc]))] [1, 2] [0, 3, 4, 5, 6, 7, 8, 9] (cs := [.blk (B.next) ([.int .u8 8, .int .i32 0, .bool false, .slice none 0 0, .slice none 0 0, .int .i64 0, .int .i64 0, .int .i64 0, .slice ka n kc])]) (by kernel_rfl) (by kernel_rfl) (by kernel_rfl) ?_ ?_
      · intro x hx
        simp only [List.mem_cons, List.not_mem_nil, or_false] at hx
        subst hx
        exact ⟨44, false, kS⟩
      refine AOps.call (n := 132) 0 [3, 4, 5, 6, 7, 8, 9] 44 [] (by kernel_rfl) rfl (by kernel_rfl) (by kernel_rfl) (by kernel_rfl) (by kernel_rfl) (by kernel_rfl) (shapes_spec B1.keep) ?_
      rintro e H2 ⟨rfl, hx2, hmap⟩
      refine ⟨_, rfl, ?_⟩
      refine AOps.run (n := 132) [(3, .raw (.tuple #[.agg #[.int .i64 2, .int .i64 200, .bool false, .bool false, .bool false, .bool false], .bool true]))] [3, 4, 5, 6] [7, 8, 9] (cs := [.look 100 (.map (some (B1.keep.next + 0))) (.int .u8 8) true (.tuple #[.agg #[.int .i64 2, .int .i64 200, .bool false, .bool false, .bool false, .bool false], .bool true])]) (by kernel_rfl) (by kernel_rfl) (by kernel_rfl) ?_ ?_
      · intro x hx
        simp only [List.mem_cons, List.not_mem_nil, or_false] at hx
        subst hx
        exact shape_look_row hmap
      have hlt2 : B1.next < H2.next := Nat.lt_of_lt_of_le (Nat.lt_succ_self _) hx2.next
      refine AOps.fill (n := 132) 7 [8, 9] B1.next 98 (.agg #[.int .i64 0, .int .i64 0, .bool false, .bool false, .bool false, .bool false]) (by kernel_rfl) rfl (by kernel_rfl) (by kernel_rfl) (by kernel_rfl) (by rw [hx2.rs]; exact List.mem_cons_self ..) (by rw [hx2.old _ (Nat.lt_succ_self _), AHeap.get_keep, if_pos rfl]) ?_
      have hF : (H2.fill B1.next (.cells (vcells (.agg #[.int .i64 0, .int .i64 0, .bool false, .bool false, .bool false, .bool false])) 98 false)).get B1.next = some (.cells (vcells (.agg #[.int .i64 0, .int .i64 0, .bool false, .bool false, .bool false, .bool false])) 98 false) := by rw [AHeap.get_fill hlt2, if_pos rfl]
      refine AOps.store (n := 132) 8 [9] (t := 98) (v := .agg #[.int .i64 2, .int .i64 200, .bool false, .bool false, .bool false, .bool false]) (b := B1.next) (off := 0) (vs := vcells (.agg #[.int .i64 0, .int .i64 0, .bool false, .bool false, .bool false, .bool false])) (e := 98) (vs2 := [.int .i64 2, .int .i64 200, .bool false, .bool false, .bool false, .bool false]) (by kernel_rfl) rfl (by kernel_rfl) (by kernel_rfl) (by kernel_rfl) hF (by kernel_rfl) (by kernel_rfl) ?_
      refine AOps.run (n := 132) [] [9] [] (cs := []) (by kernel_rfl) (by kernel_rfl) (by kernel_rfl) ?_ ?_
      · intro x hx; cases hx
      exact ⟨mkE_le [(1, .int .i64 0), (2, .pointer (some ⟨B.next, 0, none⟩)), (5, .pointer (some ⟨B1.next, 0, none⟩)), (6, .bool true)] (by kernel_rfl), keptA hrs hx2, AHeap.get_set_same hF⟩
    · have hkp : keeps B1 (opsOf (fst (snd (bodyOf Tryz.prog 20)))).toList = B1.keep := by kernel_rfl
      rw [hkp]
      have kS : B1.keep.get B.next = some (.cells [.int .u8 8, .int .i32 0, .bool false, .slice none 0 0, .slice none 0 0, .int .i64 0, .int .i64 0, .int .i64 0, .slice ka n kc] 44 false) := by rw [AHeap.get_keep, if_neg (Nat.ne_of_lt (AHeap.get_lt hS))]; exact hS
      refine AOps.run (n := 132) [(2, .blk ([.int .u8 8, .int .i32 0, .bool false, .slice none 0 0, .slice none 0 0, .int .i64 0, .int .i64 0, .int .i64 0, .slice ka n kc]))] [1, 2] [7, 0, 3, 4, 5, 6, 8, 9] (cs := [.blk (B.next) ([.int .u8 8, .int .i32 0, .bool false, .slice none 0 0, .slice none 0 0, .int .i64 0, .int .i64 0, .int .i64 0, .slice ka n kc])]) (by kernel_rfl) (by kernel_rfl) (by kernel_rfl) ?_ ?_
      · intro x hx
        simp only [List.mem_cons, List.not_mem_nil, or_false] at hx
        subst hx
        exact ⟨44, false, kS⟩
      refine AOps.fill (n := 132) 7 [0, 3, 4, 5, 6, 8, 9] B1.next 98 (.agg #[.int .i64 0, .int .i64 0, .bool false, .bool false, .bool false, .bool false]) (by kernel_rfl) rfl (by kernel_rfl) (by kernel_rfl) (by kernel_rfl) (List.mem_cons_self ..) (by rw [AHeap.get_keep, if_pos rfl]) ?_
      have hF : (B1.keep.fill B1.next (.cells (vcells (.agg #[.int .i64 0, .int .i64 0, .bool false, .bool false, .bool false, .bool false])) 98 false)).get B1.next = some (.cells (vcells (.agg #[.int .i64 0, .int .i64 0, .bool false, .bool false, .bool false, .bool false])) 98 false) := by rw [AHeap.get_fill (Nat.lt_succ_self _), if_pos rfl]
      have fS : (B1.keep.fill B1.next (.cells (vcells (.agg #[.int .i64 0, .int .i64 0, .bool false, .bool false, .bool false, .bool false])) 98 false)).get B.next = some (.cells [.int .u8 8, .int .i32 0, .bool false, .slice none 0 0, .slice none 0 0, .int .i64 0, .int .i64 0, .int .i64 0, .slice ka n kc] 44 false) := by rw [AHeap.get_fill (Nat.lt_succ_self _), if_neg (Nat.ne_of_lt (AHeap.get_lt hS))]; exact kS
      generalize hFF : B1.keep.fill B1.next (.cells (vcells (.agg #[.int .i64 0, .int .i64 0, .bool false, .bool false, .bool false, .bool false])) 98 false) = Fh at hF fS ⊢
      refine AOps.call (n := 132) 0 [3, 4, 5, 6, 8, 9] 44 [] (by kernel_rfl) rfl (by kernel_rfl) (by kernel_rfl) (by kernel_rfl) (by kernel_rfl) (by kernel_rfl) (shapes_spec Fh) ?_
      rintro e H2 ⟨rfl, hx2, hmap⟩
      refine ⟨_, rfl, ?_⟩
      refine AOps.run (n := 132) [(3, .raw (.tuple #[.agg #[.int .i64 2, .int .i64 200, .bool false, .bool false, .bool false, .bool false], .bool true]))] [3, 4, 5, 6] [8, 9] (cs := [.look 100 (.map (some (Fh.next + 0))) (.int .u8 8) true (.tuple #[.agg #[.int .i64 2, .int .i64 200, .bool false, .bool false, .bool false, .bool false], .bool true])]) (by kernel_rfl) (by kernel_rfl) (by kernel_rfl) ?_ ?_
      · intro x hx
        simp only [List.mem_cons, List.not_mem_nil, or_false] at hx
        subst hx
        exact shape_look_row hmap
      refine AOps.store (n := 132) 8 [9] (t := 98) (v := .agg #[.int .i64 2, .int .i64 200, .bool false, .bool false, .bool false, .bool false]) (b := B1.next) (off := 0) (vs := vcells (.agg #[.int .i64 0, .int .i64 0, .bool false, .bool false, .bool false, .bool false])) (e := 98) (vs2 := [.int .i64 2, .int .i64 200, .bool false, .bool false, .bool false, .bool false]) (by kernel_rfl) rfl (by kernel_rfl) (by kernel_rfl) (by kernel_rfl) (hx2.get hF) (by kernel_rfl) (by kernel_rfl) ?_
      refine AOps.run (n := 132) [] [9] [] (cs := []) (by kernel_rfl) (by kernel_rfl) (by kernel_rfl) ?_ ?_
      · intro x hx; cases hx
      exact ⟨mkE_le [(1, .int .i64 0), (2, .pointer (some ⟨B.next, 0, none⟩)), (5, .pointer (some ⟨B1.next, 0, none⟩)), (6, .bool true)] (by kernel_rfl), keptB hrs (hFF ▸ hx2), AHeap.get_set_same (hx2.get hF)⟩
    · have hkp : keeps B1 (opsOf (fst (snd (bodyOf Tryz.prog 20)))).toList = B1.keep := by kernel_rfl
      rw [hkp]
      have kS : B1.keep.get B.next = some (.cells [.int .u8 8, .int .i32 0, .bool false, .slice none 0 0, .slice none 0 0, .int .i64 0, .int .i64 0, .int .i64 0, .slice ka n kc] 44 false) := by rw [AHeap.get_keep, if_neg (Nat.ne_of_lt (AHeap.get_lt hS))]; exact hS
      refine AOps.run (n := 132) [] [1] [0, 2, 3, 4, 5, 6, 7, 8, 9] (cs := []) (by kernel_rfl) (by kernel_rfl) (by kernel_rfl) ?_ ?_
      · intro x hx; cases hx
      refine AOps.call (n := 132) 0 [2, 3, 4, 5, 6, 7, 8, 9] 44 [] (by kernel_rfl) rfl (by kernel_rfl) (by kernel_rfl) (by kernel_rfl) (by kernel_rfl) (by kernel_rfl) (shapes_spec B1.keep) ?_
      rintro e H2 ⟨rfl, hx2, hmap⟩
      refine ⟨_, rfl, ?_⟩
      refine AOps.run (n := 132) [(2, .blk ([.int .u8 8, .int .i32 0, .bool false, .slice none 0 0, .slice none 0 0, .int .i64 0, .int .i64 0, .int .i64 0, .slice ka n kc])), (3, .raw (.tuple #[.agg #[.int .i64 2, .int .i64 200, .bool false, .bool false, .bool false, .bool false], .bool true]))] [2, 3, 4, 5, 6] [7, 8, 9] (cs := [.blk (B.next) ([.int .u8 8, .int .i32 0, .bool false, .slice none 0 0, .slice none 0 0, .int .i64 0, .int .i64 0, .int .i64 0, .slice ka n kc]), .look 100 (.map (some (B1.keep.next + 0))) (.int .u8 8) true (.tuple #[.agg #[.int .i64 2, .int .i64 200, .bool false, .bool false, .bool false, .bool false], .bool true])]) (by kernel_rfl) (by kernel_rfl) (by kernel_rfl) ?_ ?_
      · intro x hx
        simp only [List.mem_cons, List.not_mem_nil, or_false] at hx
        rcases hx with rfl | rfl
        · exact ⟨44, false, hx2.get kS⟩
        · exact shape_look_row hmap
      have hlt2 : B1.next < H2.next := Nat.lt_of_lt_of_le (Nat.lt_succ_self _) hx2.next
      refine AOps.fill (n := 132) 7 [8, 9] B1.next 98 (.agg #[.int .i64 0, .int .i64 0, .bool false, .bool false, .bool false, .bool false]) (by kernel_rfl) rfl (by kernel_rfl) (by kernel_rfl) (by kernel_rfl) (by rw [hx2.rs]; exact List.mem_cons_self ..) (by rw [hx2.old _ (Nat.lt_succ_self _), AHeap.get_keep, if_pos rfl]) ?_
      have hF : (H2.fill B1.next (.cells (vcells (.agg #[.int .i64 0, .int .i64 0, .bool false, .bool false, .bool false, .bool false])) 98 false)).get B1.next = some (.cells (vcells (.agg #[.int .i64 0, .int .i64 0, .bool false, .bool false, .bool false, .bool false])) 98 false) := by rw [AHeap.get_fill hlt2, if_pos rfl]
      refine AOps.store (n := 132) 8 [9] (t := 98) (v := .agg #[.int .i64 2, .int .i64 200, .bool false, .bool false, .bool false, .bool false]) (b := B1.next) (off := 0) (vs := vcells (.agg #[.int .i64 0, .int .i64 0, .bool false, .bool false, .bool false, .bool false])) (e := 98) (vs2 := [.int .i64 2, .int .i64 200, .bool false, .bool false, .bool false, .bool false]) (by kernel_rfl) rfl (by kernel_rfl) (by kernel_rfl) (by kernel_rfl) hF (by kernel_rfl) (by kernel_rfl) ?_
      refine AOps.run (n := 132) [] [9] [] (cs := []) (by kernel_rfl) (by kernel_rfl) (by kernel_rfl) ?_ ?_
      · intro x hx; cases hx
      exact ⟨mkE_le [(1, .int .i64 0), (2, .pointer (some ⟨B.next, 0, none⟩)), (5, .pointer (some ⟨B1.next, 0, none⟩)), (6, .bool true)] (by kernel_rfl), keptA hrs hx2, AHeap.get_set_same hF⟩
    · have hkp : keeps B1 (opsOf (fst (snd (bodyOf Tryz.prog 20)))).toList = B1.keep := by kernel_rfl
      rw [hkp]
      have kS : B1.keep.get B.next = some (.cells [.int .u8 8, .int .i32 0, .bool false, .slice none 0 0, .slice none 0 0, .int .i64 0, .int .i64 0, .int .i64 0, .slice ka n kc] 44 false) := by rw [AHeap.get_keep, if_neg (Nat.ne_of_lt (AHeap.get_lt hS))]; exact hS
      refine AOps.run (n := 132) [] [1] [7, 0, 2, 3, 4, 5, 6, 8, 9] (cs := []) (by kernel_rfl) (by kernel_rfl) (by kernel_rfl) ?_ ?_
      · intro x hx; cases hx
      refine AOps.fill (n := 132) 7 [0, 2, 3, 4, 5, 6, 8, 9] B1.next 98 (.agg #[.int .i64 0, .int .i64 0, .bool false, .bool false, .bool false, .bool false]) (by kernel_rfl) rfl (by kernel_rfl) (by kernel_rfl) (by kernel_rfl) (List.mem_cons_self ..) (by rw [AHeap.get_keep, if_pos rfl]) ?_
      have hF : (B1.keep.fill B1.next (.cells (vcells (.agg #[.int .i64 0, .int .i64 0, .bool false, .bool false, .bool false, .bool false])) 98 false)).get B1.next = some (.cells (vcells (.agg #[.int .i64 0, .int .i64 0, .bool false, .bool false, .bool false, .bool false])) 98 false) := by rw [AHeap.get_fill (Nat.lt_succ_self _), if_pos rfl]
      have fS : (B1.keep.fill B1.next (.cells (vcells (.agg #[.int .i64 0, .int .i64 0, .bool false, .bool false, .bool false, .bool false])) 98 false)).get B.next = some (.cells [.int .u8 8, .int .i32 0, .bool false, .slice none 0 0, .slice none 0 0, .int .i64 0, .int .i64 0, .int .i64 0, .slice ka n kc] 44 false) := by rw [AHeap.get_fill (Nat.lt_succ_self _), if_neg (Nat.ne_of_lt (AHeap.get_lt hS))]; exact kS
      generalize hFF : B1.keep.fill B1.next (.cells (vcells (.agg #[.int .i64 0, .int .i64 0, .bool false, .bool false, .bool false, .bool false])) 98 false) = Fh at hF fS ⊢
      refine AOps.call (n := 132) 0 [2, 3, 4, 5, 6, 8, 9] 44 [] (by kernel_rfl) rfl (by kernel_rfl) (by kernel_rfl) (by kernel_rfl) (by kernel_rfl) (by kernel_rfl) (shapes_spec Fh) ?_
      rintro e H2 ⟨rfl, hx2, hmap⟩
      refine ⟨_, rfl, ?_⟩
      refine AOps.run (n := 132) [(2, .blk ([.int .u8 8, .int .i32 0, .bool false, .slice none 0 0, .slice none 0 0, .int .i64 0, .int .i64 0, .int .i64 0, .slice ka n kc])), (3, .raw (.tuple #[.agg #[.int .i64 2, .int .i64 200, .bool false, .bool false, .bool false, .bool false], .bool true]))] [2, 3, 4, 5, 6] [8, 9] (cs := [.blk (B.next) ([.int .u8 8, .int .i32 0, .bool false, .slice none 0 0, .slice none 0 0, .int .i64 0, .int .i64 0, .int .i64 0, .slice ka n kc]), .look 100 (.map (some (Fh.next + 0))) (.int .u8 8) true (.tuple #[.agg #[.int .i64 2, .int .i64 200, .bool false, .bool false, .bool false, .bool false], .bool true])]) (by kernel_rfl) (by kernel_rfl) (by kernel_rfl) ?_ ?_
      · intro x hx
        simp only [List.mem_cons, List.not_mem_nil, or_false] at hx
        rcases hx with rfl | rfl
        · exact ⟨44, false, hx2.get fS⟩
        · exact shape_look_row hmap
      refine AOps.store (n := 132) 8 [9] (t := 98) (v := .agg #[.int .i64 2, .int .i64 200, .bool false, .bool false, .bool false, .bool false]) (b := B1.next) (off := 0) (vs := vcells (.agg #[.int .i64 0, .int .i64 0, .bool false, .bool false, .bool false, .bool false])) (e := 98) (vs2 := [.int .i64 2, .int .i64 200, .bool false, .bool false, .bool false, .bool false]) (by kernel_rfl) rfl (by kernel_rfl) (by kernel_rfl) (by kernel_rfl) (hx2.get hF) (by kernel_rfl) (by kernel_rfl) ?_
      refine AOps.run (n := 132) [] [9] [] (cs := []) (by kernel_rfl) (by kernel_rfl) (by kernel_rfl) ?_ ?_
      · intro x hx; cases hx
      exact ⟨mkE_le [(1, .int .i64 0), (2, .pointer (some ⟨B.next, 0, none⟩)), (5, .pointer (some ⟨B1.next, 0, none⟩)), (6, .bool true)] (by kernel_rfl), keptB hrs (hFF ▸ hx2), AHeap.get_set_same (hx2.get hF)⟩
  rintro E' H ⟨hE, hx1, hH⟩
  refine AWp.env hE ?_
  have hN := hx1.get hS
  have hxx := hx0.trans hx1
  clear hE hx1 hS hx0 hrs
  refine AWp.seq' (by kernel_rfl) (AWp.block' (id := 0) (by kernel_rfl) ?_)
  refine AWp.seq' (by kernel_rfl) (AWp.region' (by kernel_rfl) ?_)
  refine AOps.run (n := 132) [(4, .blk ([.int .u8 8, .int .i32 0, .bool false, .slice none 0 0, .slice none 0 0, .int .i64 0, .int .i64 0, .int .i64 0, .slice ka n kc])), (7, .blk ([.int .i64 2, .int .i64 200, .bool false, .bool false, .bool false, .bool false])), (8, .val (.bool false)), (12, .blk ([.int .u8 8, .int .i32 0, .bool false, .slice none 0 0, .slice none 0 0, .int .i64 0, .int .i64 0, .int .i64 0, .slice ka n kc])), (15, .blk ([.int .i64 2, .int .i64 200, .bool false, .bool false, .bool false, .bool false])), (16, .val (.bool false))] [0, 1, 2, 3, 4, 5, 6, 7, 8, 9, 10, 11, 12, 13, 14, 15, 16, 17, 18] [] (cs := [.blk (B.next) ([.int .u8 8, .int .i32 0, .bool false, .slice none 0 0, .slice none 0 0, .int .i64 0, .int .i64 0, .int .i64 0, .slice ka n kc]), .blk (B1.next) ([.int .i64 2, .int .i64 200, .bool false, .bool false, .bool false, .bool false]), .some (some (.bool (decide (((n : Nat) : Int) < 2)))) (.bool false), .blk (B.next) ([.int .u8 8, .int .i32 0, .bool false, .slice none 0 0, .slice none 0 0, .int .i64 0, .int .i64 0, .int .i64 0, .slice ka n kc]), .blk (B1.next) ([.int .i64 2, .int .i64 200, .bool false, .bool false, .bool false, .bool false]), .some (some (.bool (decide (((n : Nat) : Int) > 200)))) (.bool false)]) (by kernel_rfl) (by kernel_rfl) (by kernel_rfl) ?_ ?_
  · intro x hx
    simp only [List.mem_cons, List.not_mem_nil, or_false] at hx
    rcases hx with rfl | rfl | rfl | rfl | rfl | rfl
    · exact ⟨44, false, hN⟩
    · exact ⟨98, false, hH⟩
    · exact congrArg (fun b => some (Value.bool b)) (decide_eq_false (by omega))
    · exact ⟨44, false, hN⟩
    · exact ⟨98, false, hH⟩
    · exact congrArg (fun b => some (Value.bool b)) (decide_eq_false (by omega))
  show AWp _ _ _ _ _
  refine AWp.view [(1, .int .i64 0), (2, .pointer (some ⟨B.next, 0, none⟩)), (5, .pointer (some ⟨B1.next, 0, none⟩)), (6, .bool true), (14, .bool false)] (by kernel_rfl) ?_
  refine AWp.condF (c := .tmp 14) (by kernel_rfl) (by kernel_rfl) ?_
  refine AWp.seq' (by kernel_rfl) (AWp.region' (by kernel_rfl) ?_)
  refine AOps.run (n := 132) [(1, .blk ([.int .i64 2, .int .i64 200, .bool false, .bool false, .bool false, .bool false])), (10, .blk ([.int .i64 2, .int .i64 200, .bool false, .bool false, .bool false, .bool false])), (14, .blk ([.int .u8 8, .int .i32 0, .bool false, .slice none 0 0, .slice none 0 0, .int .i64 0, .int .i64 0, .int .i64 0, .slice ka n kc]))] [0, 1, 2, 3, 4, 5, 6, 7, 8, 9, 10, 11, 12, 13, 14, 15, 16, 17, 18] [] (cs := [.blk (B1.next) ([.int .i64 2, .int .i64 200, .bool false, .bool false, .bool false, .bool false]), .blk (B1.next) ([.int .i64 2, .int .i64 200, .bool false, .bool false, .bool false, .bool false]), .blk (B.next) ([.int .u8 8, .int .i32 0, .bool false, .slice none 0 0, .slice none 0 0, .int .i64 0, .int .i64 0, .int .i64 0, .slice ka n kc])]) (by kernel_rfl) (by kernel_rfl) (by kernel_rfl) ?_ ?_
  · intro x hx
    simp only [List.mem_cons, List.not_mem_nil, or_false] at hx
    rcases hx with rfl | rfl | rfl
    · exact ⟨98, false, hH⟩
    · exact ⟨98, false, hH⟩
    · exact ⟨44, false, hN⟩
  show AWp _ _ _ _ _
  refine AWp.view [(1, .int .i64 0), (2, .pointer (some ⟨B.next, 0, none⟩)), (5, .pointer (some ⟨B1.next, 0, none⟩)), (6, .bool true), (33, .bool false)] (by kernel_rfl) ?_
  refine AWp.condF (c := .tmp 33) (by kernel_rfl) (by kernel_rfl) ?_
  refine AWp.seq' (by kernel_rfl) (AWp.region' (by kernel_rfl) ?_)
  refine AOps.run (n := 132) [(1, .blk ([.int .i64 2, .int .i64 200, .bool false, .bool false, .bool false, .bool false])), (10, .blk ([.int .i64 2, .int .i64 200, .bool false, .bool false, .bool false, .bool false])), (14, .blk ([.int .u8 8, .int .i32 0, .bool false, .slice none 0 0, .slice none 0 0, .int .i64 0, .int .i64 0, .int .i64 0, .slice ka n kc]))] [0, 1, 2, 3, 4, 5, 6, 7, 8, 9, 10, 11, 12, 13, 14] [15, 16, 17, 18, 19] (cs := [.blk (B1.next) ([.int .i64 2, .int .i64 200, .bool false, .bool false, .bool false, .bool false]), .blk (B1.next) ([.int .i64 2, .int .i64 200, .bool false, .bool false, .bool false, .bool false]), .blk (B.next) ([.int .u8 8, .int .i32 0, .bool false, .slice none 0 0, .slice none 0 0, .int .i64 0, .int .i64 0, .int .i64 0, .slice ka n kc])]) (by kernel_rfl) (by kernel_rfl) (by kernel_rfl) ?_ ?_
  · intro x hx
    simp only [List.mem_cons, List.not_mem_nil, or_false] at hx
    rcases hx with rfl | rfl | rfl
    · exact ⟨98, false, hH⟩
    · exact ⟨98, false, hH⟩
    · exact ⟨44, false, hN⟩
  refine AOps.call (n := 132) 15 [16, 17, 18, 19] 47 [.agg #[.bool false, .slice none 0 0, .slice none 0 0]] (by kernel_rfl) rfl (by kernel_rfl) (by kernel_rfl) (by kernel_rfl) (by kernel_rfl) (by kernel_rfl) (emptySet_spec _) ?_
  rintro e H4 ⟨rfl, hx4⟩
  refine ⟨_, rfl, ?_⟩
  refine AOps.run (n := 132) [] [16, 17, 18, 19] [] (cs := []) (by kernel_rfl) (by kernel_rfl) (by kernel_rfl) ?_ ?_
  · intro x hx; cases hx
  show AWp _ _ _ _ _
  have hN4 := hx4.get hN
  have hH4 := hx4.get hH
  refine AWp.view [(1, .int .i64 0), (2, .pointer (some ⟨B.next, 0, none⟩)), (5, .pointer (some ⟨B1.next, 0, none⟩)), (6, .bool true), (52, .bool false)] (by kernel_rfl) ?_
  refine AWp.condF (c := .tmp 52) (by kernel_rfl) (by kernel_rfl) ?_
  refine AWp.seq' (by kernel_rfl) (AWp.region' (by kernel_rfl) ?_)
  refine AOps.run (n := 132) [(1, .blk ([.int .i64 2, .int .i64 200, .bool false, .bool false, .bool false, .bool false])), (15, .blk ([.int .i64 2, .int .i64 200, .bool false, .bool false, .bool false, .bool false])), (19, .blk ([.int .u8 8, .int .i32 0, .bool false, .slice none 0 0, .slice none 0 0, .int .i64 0, .int .i64 0, .int .i64 0, .slice ka n kc]))] [0, 1, 2, 3, 4, 5, 6, 7, 8, 9, 10, 11, 12, 13, 14, 15, 16, 17, 18, 19, 20, 21, 22, 23] [] (cs := [.blk (B1.next) ([.int .i64 2, .int .i64 200, .bool false, .bool false, .bool false, .bool false]), .blk (B1.next) ([.int .i64 2, .int .i64 200, .bool false, .bool false, .bool false, .bool false]), .blk (B.next) ([.int .u8 8, .int .i32 0, .bool false, .slice none 0 0, .slice none 0 0, .int .i64 0, .int .i64 0, .int .i64 0, .slice ka n kc])]) (by kernel_rfl) (by kernel_rfl) (by kernel_rfl) ?_ ?_
  · intro x hx
    simp only [List.mem_cons, List.not_mem_nil, or_false] at hx
    rcases hx with rfl | rfl | rfl
    · exact ⟨98, false, hH4⟩
    · exact ⟨98, false, hH4⟩
    · exact ⟨44, false, hN4⟩
  show AWp _ _ _ _ _
  refine AWp.view [(1, .int .i64 0), (2, .pointer (some ⟨B.next, 0, none⟩)), (5, .pointer (some ⟨B1.next, 0, none⟩)), (6, .bool true), (72, .bool false)] (by kernel_rfl) ?_
  refine AWp.condF (c := .tmp 72) (by kernel_rfl) (by kernel_rfl) ?_
  refine AWp.seq' (by kernel_rfl) (AWp.region' (by kernel_rfl) ?_)
  refine AOps.run (n := 132) [(1, .blk ([.int .i64 2, .int .i64 200, .bool false, .bool false, .bool false, .bool false]))] [0, 1, 2] [] (cs := [.blk (B1.next) ([.int .i64 2, .int .i64 200, .bool false, .bool false, .bool false, .bool false])]) (by kernel_rfl) (by kernel_rfl) (by kernel_rfl) ?_ ?_
  · intro x hx
    simp only [List.mem_cons, List.not_mem_nil, or_false] at hx
    subst hx
    exact ⟨98, false, hH4⟩
  show AWp _ _ _ _ _
  refine AWp.view [(1, .int .i64 0), (2, .pointer (some ⟨B.next, 0, none⟩)), (5, .pointer (some ⟨B1.next, 0, none⟩)), (6, .bool true), (96, .bool false)] (by kernel_rfl) ?_
  refine AWp.condF (c := .tmp 96) (by kernel_rfl) (by kernel_rfl) ?_
  refine AWp.skip' (by kernel_rfl) ?_
  show AWp _ _ _ _ _
  refine AWp.view [(1, .int .i64 0), (2, .pointer (some ⟨B.next, 0, none⟩)), (5, .pointer (some ⟨B1.next, 0, none⟩)), (6, .bool true)] (by kernel_rfl) ?_
  refine AWp.seq' (by kernel_rfl) (AWp.region' (by kernel_rfl) ?_)
  refine AOps.run (n := 132) [(1, .blk ([.int .u8 8, .int .i32 0, .bool false, .slice none 0 0, .slice none 0 0, .int .i64 0, .int .i64 0, .int .i64 0, .slice ka n kc])), (5, .blk ([.int .u8 8, .int .i32 0, .bool false, .slice none 0 0, .slice none 0 0, .int .i64 0, .int .i64 0, .int .i64 0, .slice ka n kc]))] [0, 1, 2, 3, 4, 5, 6, 7, 8] [] (cs := [.blk (B.next) ([.int .u8 8, .int .i32 0, .bool false, .slice none 0 0, .slice none 0 0, .int .i64 0, .int .i64 0, .int .i64 0, .slice ka n kc]), .blk (B.next) ([.int .u8 8, .int .i32 0, .bool false, .slice none 0 0, .slice none 0 0, .int .i64 0, .int .i64 0, .int .i64 0, .slice ka n kc])]) (by kernel_rfl) (by kernel_rfl) (by kernel_rfl) ?_ ?_
  · intro x hx
    simp only [List.mem_cons, List.not_mem_nil, or_false] at hx
    rcases hx with rfl | rfl
    · exact ⟨44, false, hN4⟩
    · exact ⟨44, false, hN4⟩
  show AWp _ _ _ _ _
  refine AWp.view [(4, .bool true)] (by kernel_rfl) ?_
  exact AWp.ret' (by kernel_rfl) ⟨[.bool true], by kernel_rfl, rfl, hxx.trans hx4⟩

theorem right_empty (B : AHeap) : ACall Tryz.prog 20 [.agg #[.int .u8 11, .int .i32 0, .bool false, .slice none 0 0, .slice none 0 0, .int .i64 0, .int .i64 0, .int .i64 0, .slice none 0 0], .int .i64 0] B fun e B' => e = .ret (.bool true) ∧ Ext B B' := by
  refine ACall.walk (fn := Tryz.f20) (c := bodyOf Tryz.prog 20) (by kernel_rfl) (by kernel_rfl) (by kernel_rfl) ?_
  refine AWp.seq' (by kernel_rfl) (AWp.region' (by kernel_rfl) ?_)
  refine AOps.write (n := 132) 0 [1] (.pointer (some ⟨B.next, 0, none⟩)) (B.push (.cells [.int .u8 11, .int .i32 0, .bool false, .slice none 0 0, .slice none 0 0, .int .i64 0, .int .i64 0, .int .i64 0, .slice none 0 0] 44 false)) (by kernel_rfl) rfl (by kernel_rfl) (by kernel_rfl) (by kernel_rfl) (by kernel_rfl) ?_
  refine AOps.run (n := 132) [] [1] [] (cs := []) (by kernel_rfl) (by kernel_rfl) (by kernel_rfl) ?_ ?_
  · intro x hx; cases hx
  show AWp _ _ _ _ _
  have hS : (B.push (.cells [.int .u8 11, .int .i32 0, .bool false, .slice none 0 0, .slice none 0 0, .int .i64 0, .int .i64 0, .int .i64 0, .slice none 0 0] 44 false)).get B.next = some (.cells [.int .u8 11, .int .i32 0, .bool false, .slice none 0 0, .slice none 0 0, .int .i64 0, .int .i64 0, .int .i64 0, .slice none 0 0] 44 false) := AHeap.get_push_new _ _
  have hx0 : Ext B (B.push (.cells [.int .u8 11, .int .i32 0, .bool false, .slice none 0 0, .slice none 0 0, .int .i64 0, .int .i64 0, .int .i64 0, .slice none 0 0] 44 false)) := Ext.push _ _
  generalize B.push (.cells [.int .u8 11, .int .i32 0, .bool false, .slice none 0 0, .slice none 0 0, .int .i64 0, .int .i64 0, .int .i64 0, .slice none 0 0] 44 false) = B1 at hS hx0 ⊢
  refine AWp.view [(1, .int .i64 0), (2, .pointer (some ⟨B.next, 0, none⟩))] (by kernel_rfl) ?_
  refine AWp.resv fun hrs => ?_
  refine AWp.mid (by kernel_rfl) (fun E' H' => AEnv.le (envOf 132 (mkE [(1, .int .i64 0), (2, .pointer (some ⟨B.next, 0, none⟩)), (5, .pointer (some ⟨B1.next, 0, none⟩)), (6, .bool true)])) E' ∧ Ext B1 H' ∧ H'.get B1.next = some (.cells [.int .i64 0, .int .i64 0, .bool false, .bool false, .bool false, .bool false] 98 false)) ?_ ?_
  · refine AWp.draw' mixed (.split 2 0 (.split 0 7 (.leaf [1, 2, 0, 3, 4, 5, 6, 7, 8, 9]) (.leaf [1, 2, 7, 0, 3, 4, 5, 6, 8, 9])) (.split 0 7 (.leaf [1, 0, 2, 3, 4, 5, 6, 7, 8, 9]) (.leaf [1, 7, 0, 2, 3, 4, 5, 6, 8, 9]))) (by kernel_rfl) (by kernel_rfl) ⟨by kernel_rfl, ⟨by kernel_rfl, ⟨by kernel_rfl, ?_⟩, ⟨by kernel_rfl, ?_⟩⟩, ⟨by kernel_rfl, ⟨by kernel_rfl, ?_⟩, ⟨by kernel_rfl, ?_⟩⟩⟩
    · have hkp : keeps B1 (opsOf (fst (snd (bodyOf Tryz.prog 20)))).toList = B1.keep := by kernel_rfl
      rw [hkp]
      have kS : B1.keep.get B.next = some (.cells [.int .u8 11, .int .i32 0, .bool false, .slice none 0 0, .slice none 0 0, .int .i64 0, .int .i64 0, .int .i64 0, .slice none 0 0] 44 false) := by rw [AHeap.get_keep, if_neg (Nat.ne_of_lt (AHeap.get_lt hS))]; exact hS
      refine AOps.run (n := 132) [(2, .blk ([.int .u8 11, .int .i32 0, .bool false, .slice none 0 0, .slice none 0 0, .int .i64 0, .int .i64 0, .int .i64 0, .slice none 0 0]))] [1, 2] [0, 3, 4, 5, 6, 7, 8, 9] (cs := [.blk (B.next) ([.int .u8 11, .int .i32 0, .bool false, .slice none 0 0, .slice none 0 0, .int .i64 0, .int .i64 0, .int .i64 0, .slice none 0 0])]) (by kernel_rfl) (by kernel_rfl) (by kernel_rfl) ?_ ?_
      · intro x hx
        simp only [List.mem_cons, List.not_mem_nil, or_false] at hx
        subst hx
        exact ⟨44, false, kS⟩
      refine AOps.call (n := 132) 0 [3, 4, 5, 6, 7, 8, 9] 44 [] (by kernel_rfl) rfl (by kernel_rfl) (by kernel_rfl) (by kernel_rfl) (by kernel_rfl) (by kernel_rfl) (shapes_spec B1.keep) ?_
      rintro e H2 ⟨rfl, hx2, hmap⟩
      refine ⟨_, rfl, ?_⟩
      refine AOps.run (n := 132) [(3, .raw (.tuple #[.agg #[.int .i64 0, .int .i64 0, .bool false, .bool false, .bool false, .bool false], .bool true]))] [3, 4, 5, 6] [7, 8, 9] (cs := [.look 100 (.map (some (B1.keep.next + 0))) (.int .u8 11) true (.tuple #[.agg #[.int .i64 0, .int .i64 0, .bool false, .bool false, .bool false, .bool false], .bool true])]) (by kernel_rfl) (by kernel_rfl) (by kernel_rfl) ?_ ?_
      · intro x hx
        simp only [List.mem_cons, List.not_mem_nil, or_false] at hx
        subst hx
        exact shape_look_empty hmap
      have hlt2 : B1.next < H2.next := Nat.lt_of_lt_of_le (Nat.lt_succ_self _) hx2.next
      refine AOps.fill (n := 132) 7 [8, 9] B1.next 98 (.agg #[.int .i64 0, .int .i64 0, .bool false, .bool false, .bool false, .bool false]) (by kernel_rfl) rfl (by kernel_rfl) (by kernel_rfl) (by kernel_rfl) (by rw [hx2.rs]; exact List.mem_cons_self ..) (by rw [hx2.old _ (Nat.lt_succ_self _), AHeap.get_keep, if_pos rfl]) ?_
      have hF : (H2.fill B1.next (.cells (vcells (.agg #[.int .i64 0, .int .i64 0, .bool false, .bool false, .bool false, .bool false])) 98 false)).get B1.next = some (.cells (vcells (.agg #[.int .i64 0, .int .i64 0, .bool false, .bool false, .bool false, .bool false])) 98 false) := by rw [AHeap.get_fill hlt2, if_pos rfl]
      refine AOps.store (n := 132) 8 [9] (t := 98) (v := .agg #[.int .i64 0, .int .i64 0, .bool false, .bool false, .bool false, .bool false]) (b := B1.next) (off := 0) (vs := vcells (.agg #[.int .i64 0, .int .i64 0, .bool false, .bool false, .bool false, .bool false])) (e := 98) (vs2 := [.int .i64 0, .int .i64 0, .bool false, .bool false, .bool false, .bool false]) (by kernel_rfl) rfl (by kernel_rfl) (by kernel_rfl) (by kernel_rfl) hF (by kernel_rfl) (by kernel_rfl) ?_
      refine AOps.run (n := 132) [] [9] [] (cs := []) (by kernel_rfl) (by kernel_rfl) (by kernel_rfl) ?_ ?_
      · intro x hx; cases hx
      exact ⟨mkE_le [(1, .int .i64 0), (2, .pointer (some ⟨B.next, 0, none⟩)), (5, .pointer (some ⟨B1.next, 0, none⟩)), (6, .bool true)] (by kernel_rfl), keptA hrs hx2, AHeap.get_set_same hF⟩
    · have hkp : keeps B1 (opsOf (fst (snd (bodyOf Tryz.prog 20)))).toList = B1.keep := by kernel_rfl
      rw [hkp]
      have kS : B1.keep.get B.next = some (.cells [.int .u8 11, .int .i32 0, .bool false, .slice none 0 0, .slice none 0 0, .int .i64 0, .int .i64 0, .int .i64 0, .slice none 0 0] 44 false) := by rw [AHeap.get_keep, if_neg (Nat.ne_of_lt (AHeap.get_lt hS))]; exact hS
      refine AOps.run (n := 132) [(2, .blk ([.int .u8 11, .int .i32 0, .bool false, .slice none 0 0, .slice none 0 0, .int .i64 0, .int .i64 0, .int .i64 0, .slice none 0 0]))] [1, 2] [7, 0, 3, 4, 5, 6, 8, 9] (cs := [.blk (B.next) ([.int .u8 11, .int .i32 0, .bool false, .slice none 0 0, .slice none 0 0, .int .i64 0, .int .i64 0, .int .i64 0, .slice none 0 0])]) (by kernel_rfl) (by kernel_rfl) (by kernel_rfl) ?_ ?_
      · intro x hx
        simp only [List.mem_cons, List.not_mem_nil, or_false] at hx
        subst hx
        exact ⟨44, false, kS⟩
      refine AOps.fill (n := 132) 7 [0, 3, 4, 5, 6, 8, 9] B1.next 98 (.agg #[.int .i64 0, .int .i64 0, .bool false, .bool false, .bool false, .bool false]) (by kernel_rfl) rfl (by kernel_rfl) (by kernel_rfl) (by kernel_rfl) (List.mem_cons_self ..) (by rw [AHeap.get_keep, if_pos rfl]) ?_
      have hF : (B1.keep.fill B1.next (.cells (vcells (.agg #[.int .i64 0, .int .i64 0, .bool false, .bool false, .bool false, .bool false])) 98 false)).get B1.next = some (.cells (vcells (.agg #[.int .i64 0, .int .i64 0, .bool false, .bool false, .bool false, .bool false])) 98 false) := by rw [AHeap.get_fill (Nat.lt_succ_self _), if_pos rfl]
      have fS : (B1.keep.fill B1.next (.cells (vcells (.agg #[.int .i64 0, .int .i64 0, .bool false, .bool false, .bool false, .bool false])) 98 false)).get B.next = some (.cells [.int .u8 11, .int .i32 0, .bool false, .slice none 0 0, .slice none 0 0, .int .i64 0, .int .i64 0, .int .i64 0, .slice none 0 0] 44 false) := by rw [AHeap.get_fill (Nat.lt_succ_self _), if_neg (Nat.ne_of_lt (AHeap.get_lt hS))]; exact kS
      generalize hFF : B1.keep.fill B1.next (.cells (vcells (.agg #[.int .i64 0, .int .i64 0, .bool false, .bool false, .bool false, .bool false])) 98 false) = Fh at hF fS ⊢
      refine AOps.call (n := 132) 0 [3, 4, 5, 6, 8, 9] 44 [] (by kernel_rfl) rfl (by kernel_rfl) (by kernel_rfl) (by kernel_rfl) (by kernel_rfl) (by kernel_rfl) (shapes_spec Fh) ?_
      rintro e H2 ⟨rfl, hx2, hmap⟩
      refine ⟨_, rfl, ?_⟩
      refine AOps.run (n := 132) [(3, .raw (.tuple #[.agg #[.int .i64 0, .int .i64 0, .bool false, .bool false, .bool false, .bool false], .bool true]))] [3, 4, 5, 6] [8, 9] (cs := [.look 100 (.map (some (Fh.next + 0))) (.int .u8 11) true (.tuple #[.agg #[.int .i64 0, .int .i64 0, .bool false, .bool false, .bool false, .bool false], .bool true])]) (by kernel_rfl) (by kernel_rfl) (by kernel_rfl) ?_ ?_
      · intro x hx
        simp only [List.mem_cons, List.not_mem_nil, or_false] at hx
        subst hx
        exact shape_look_empty hmap
      refine AOps.store (n := 132) 8 [9] (t := 98) (v := .agg #[.int .i64 0, .int .i64 0, .bool false, .bool false, .bool false, .bool false]) (b := B1.next) (off := 0) (vs := vcells (.agg #[.int .i64 0, .int .i64 0, .bool false, .bool false, .bool false, .bool false])) (e := 98) (vs2 := [.int .i64 0, .int .i64 0, .bool false, .bool false, .bool false, .bool false]) (by kernel_rfl) rfl (by kernel_rfl) (by kernel_rfl) (by kernel_rfl) (hx2.get hF) (by kernel_rfl) (by kernel_rfl) ?_
      refine AOps.run (n := 132) [] [9] [] (cs := []) (by kernel_rfl) (by kernel_rfl) (by kernel_rfl) ?_ ?_
      · intro x hx; cases hx
      exact ⟨mkE_le [(1, .int .i64 0), (2, .pointer (some ⟨B.next, 0, none⟩)), (5, .pointer (some ⟨B1.next, 0, none⟩)), (6, .bool true)] (by kernel_rfl), keptB hrs (hFF ▸ hx2), AHeap.get_set_same (hx2.get hF)⟩
    · have hkp : keeps B1 (opsOf (fst (snd (bodyOf Tryz.prog 20)))).toList = B1.keep := by kernel_rfl
      rw [hkp]
      have kS : B1.keep.get B.next = some (.cells [.int .u8 11, .int .i32 0, .bool false, .slice none 0 0, .slice none 0 0, .int .i64 0, .int .i64 0, .int .i64 0, .slice none 0 0] 44 false) := by rw [AHeap.get_keep, if_neg (Nat.ne_of_lt (AHeap.get_lt hS))]; exact hS
      refine AOps.run (n := 132) [] [1] [0, 2, 3, 4, 5, 6, 7, 8, 9] (cs := []) (by kernel_rfl) (by kernel_rfl) (by kernel_rfl) ?_ ?_
      · intro x hx; cases hx
      refine AOps.call (n := 132) 0 [2, 3, 4, 5, 6, 7, 8, 9] 44 [] (by kernel_rfl) rfl (by kernel_rfl) (by kernel_rfl) (by kernel_rfl) (by kernel_rfl) (by kernel_rfl) (shapes_spec B1.keep) ?_
      rintro e H2 ⟨rfl, hx2, hmap⟩
      refine ⟨_, rfl, ?_⟩
      refine AOps.run (n := 132) [(2, .blk ([.int .u8 11, .int .i32 0, .bool false, .slice none 0 0, .slice none 0 0, .int .i64 0, .int .i64 0, .int .i64 0, .slice none 0 0])), (3, .raw (.tuple #[.agg #[.int .i64 0, .int .i64 0, .bool false, .bool false, .bool false, .bool false], .bool true]))] [2, 3, 4, 5, 6] [7, 8, 9] (cs := [.blk (B.next) ([.int .u8 11, .int .i32 0, .bool false, .slice none 0 0, .slice none 0 0, .int .i64 0, .int .i64 0, .int .i64 0, .slice none 0 0]), .look 100 (.map (some (B1.keep.next + 0))) (.int .u8 11) true (.tuple #[.agg #[.int .i64 0, .int .i64 0, .bool false, .bool false, .bool false, .bool false], .bool true])]) (by kernel_rfl) (by kernel_rfl) (by kernel_rfl) ?_ ?_
      · intro x hx
        simp only [List.mem_cons, List.not_mem_nil, or_false] at hx
        rcases hx with rfl | rfl
        · exact ⟨44, false, hx2.get kS⟩
        · exact shape_look_empty hmap
      have hlt2 : B1.next < H2.next := Nat.lt_of_lt_of_le (Nat.lt_succ_self _) hx2.next
      refine AOps.fill (n := 132) 7 [8, 9] B1.next 98 (.agg #[.int .i64 0, .int .i64 0, .bool false, .bool false, .bool false, .bool false]) (by kernel_rfl) rfl (by kernel_rfl) (by kernel_rfl) (by kernel_rfl) (by rw [hx2.rs]; exact List.mem_cons_self ..) (by rw [hx2.old _ (Nat.lt_succ_self _), AHeap.get_keep, if_pos rfl]) ?_
      have hF : (H2.fill B1.next (.cells (vcells (.agg #[.int .i64 0, .int .i64 0, .bool false, .bool false, .bool false, .bool false])) 98 false)).get B1.next = some (.cells (vcells (.agg #[.int .i64 0, .int .i64 0, .bool false, .bool false, .bool false, .bool false])) 98 false) := by rw [AHeap.get_fill hlt2, if_pos rfl]
      refine AOps.store (n := 132) 8 [9] (t := 98) (v := .agg #[.int .i64 0, .int .i64 0, .bool false, .bool false, .bool false, .bool false]) (b := B1.next) (off := 0) (vs := vcells (.agg #[.int .i64 0, .int .i64 0, .bool false, .bool false, .bool false, .bool false])) (e := 98) (vs2 := [.int .i64 0, .int .i64 0, .bool false, .bool false, .bool false, .bool false]) (by kernel_rfl) rfl (by kernel_rfl) (by kernel_rfl) (by kernel_rfl) hF (by kernel_rfl) (by kernel_rfl) ?_
      refine AOps.run (n := 132) [] [9] [] (cs := []) (by kernel_rfl) (by kernel_rfl) (by kernel_rfl) ?_ ?_
      · intro x hx; cases hx
      exact ⟨mkE_le [(1, .int .i64 0), (2, .pointer (some ⟨B.next, 0, none⟩)), (5, .pointer (some ⟨B1.next, 0, none⟩)), (6, .bool true)] (by kernel_rfl), keptA hrs hx2, AHeap.get_set_same hF⟩
    · have hkp : keeps B1 (opsOf (fst (snd (bodyOf Tryz.prog 20)))).toList = B1.keep := by kernel_rfl
      rw [hkp]
      have kS : B1.keep.get B.next = some (.cells [.int .u8 11, .int .i32 0, .bool false, .slice none 0 0, .slice none 0 0, .int .i64 0, .int .i64 0, .int .i64 0, .slice none 0 0] 44 false) := by rw [AHeap.get_keep, if_neg (Nat.ne_of_lt (AHeap.get_lt hS))]; exact hS
      refine AOps.run (n := 132) [] [1] [7, 0, 2, 3, 4, 5, 6, 8, 9] (cs := []) (by kernel_rfl) (by kernel_rfl) (by kernel_rfl) ?_ ?_
      · intro x hx; cases hx
      refine AOps.fill (n := 132) 7 [0, 2, 3, 4, 5, 6, 8, 9] B1.next 98 (.agg #[.int .i64 0, .int .i64 0, .bool false, .bool false, .bool false, .bool false]) (by kernel_rfl) rfl (by kernel_rfl) (by kernel_rfl) (by kernel_rfl) (List.mem_cons_self ..) (by rw [AHeap.get_keep, if_pos rfl]) ?_
      have hF : (B1.keep.fill B1.next (.cells (vcells (.agg #[.int .i64 0, .int .i64 0, .bool false, .bool false, .bool false, .bool false])) 98 false)).get B1.next = some (.cells (vcells (.agg #[.int .i64 0, .int .i64 0, .bool false, .bool false, .bool false, .bool false])) 98 false) := by rw [AHeap.get_fill (Nat.lt_succ_self _), if_pos rfl]
      have fS : (B1.keep.fill B1.next (.cells (vcells (.agg #[.int .i64 0, .int .i64 0, .bool false, .bool false, .bool false, .bool false])) 98 false)).get B.next = some (.cells [.int .u8 11, .int .i32 0, .bool false, .slice none 0 0, .slice none 0 0, .int .i64 0, .int .i64 0, .int .i64 0, .slice none 0 0] 44 false) := by rw [AHeap.get_fill (Nat.lt_succ_self _), if_neg (Nat.ne_of_lt (AHeap.get_lt hS))]; exact kS
      generalize hFF : B1.keep.fill B1.next (.cells (vcells (.agg #[.int .i64 0, .int .i64 0, .bool false, .bool false, .bool false, .bool false])) 98 false) = Fh at hF fS ⊢
      refine AOps.call (n := 132) 0 [2, 3, 4, 5, 6, 8, 9] 44 [] (by kernel_rfl) rfl (by kernel_rfl) (by kernel_rfl) (by kernel_rfl) (by kernel_rfl) (by kernel_rfl) (shapes_spec Fh) ?_
      rintro e H2 ⟨rfl, hx2, hmap⟩
      refine ⟨_, rfl, ?_⟩
      refine AOps.run (n := 132) [(2, .blk ([.int .u8 11, .int .i32 0, .bool false, .slice none 0 0, .slice none 0 0, .int .i64 0, .int .i64 0, .int .i64 0, .slice none 0 0])), (3, .raw (.tuple #[.agg #[.int .i64 0, .int .i64 0, .bool false, .bool false, .bool false, .bool false], .bool true]))] [2, 3, 4, 5, 6] [8, 9] (cs := [.blk (B.next) ([.int .u8 11, .int .i32 0, .bool false, .slice none 0 0, .slice none 0 0, .int .i64 0, .int .i64 0, .int .i64 0, .slice none 0 0]), .look 100 (.map (some (Fh.next + 0))) (.int .u8 11) true (.tuple #[.agg #[.int .i64 0, .int .i64 0, .bool false, .bool false, .bool false, .bool false], .bool true])]) (by kernel_rfl) (by kernel_rfl) (by kernel_rfl) ?_ ?_
      · intro x hx
        simp only [List.mem_cons, List.not_mem_nil, or_false] at hx
        rcases hx with rfl | rfl
        · exact ⟨44, false, hx2.get fS⟩
        · exact shape_look_empty hmap
      refine AOps.store (n := 132) 8 [9] (t := 98) (v := .agg #[.int .i64 0, .int .i64 0, .bool false, .bool false, .bool false, .bool false]) (b := B1.next) (off := 0) (vs := vcells (.agg #[.int .i64 0, .int .i64 0, .bool false, .bool false, .bool false, .bool false])) (e := 98) (vs2 := [.int .i64 0, .int .i64 0, .bool false, .bool false, .bool false, .bool false]) (by kernel_rfl) rfl (by kernel_rfl) (by kernel_rfl) (by kernel_rfl) (hx2.get hF) (by kernel_rfl) (by kernel_rfl) ?_
      refine AOps.run (n := 132) [] [9] [] (cs := []) (by kernel_rfl) (by kernel_rfl) (by kernel_rfl) ?_ ?_
      · intro x hx; cases hx
      exact ⟨mkE_le [(1, .int .i64 0), (2, .pointer (some ⟨B.next, 0, none⟩)), (5, .pointer (some ⟨B1.next, 0, none⟩)), (6, .bool true)] (by kernel_rfl), keptB hrs (hFF ▸ hx2), AHeap.get_set_same (hx2.get hF)⟩
  rintro E' H ⟨hE, hx1, hH⟩
  refine AWp.env hE ?_
  have hN := hx1.get hS
  have hxx := hx0.trans hx1
  clear hE hx1 hS hx0 hrs
  refine AWp.seq' (by kernel_rfl) (AWp.block' (id := 0) (by kernel_rfl) ?_)
  refine AWp.seq' (by kernel_rfl) (AWp.region' (by kernel_rfl) ?_)
  refine AOps.run (n := 132) [(4, .blk ([.int .u8 11, .int .i32 0, .bool false, .slice none 0 0, .slice none 0 0, .int .i64 0, .int .i64 0, .int .i64 0, .slice none 0 0])), (7, .blk ([.int .i64 0, .int .i64 0, .bool false, .bool false, .bool false, .bool false])), (12, .blk ([.int .u8 11, .int .i32 0, .bool false, .slice none 0 0, .slice none 0 0, .int .i64 0, .int .i64 0, .int .i64 0, .slice none 0 0])), (15, .blk ([.int .i64 0, .int .i64 0, .bool false, .bool false, .bool false, .bool false]))] [0, 1, 2, 3, 4, 5, 6, 7, 8, 9, 10, 11, 12, 13, 14, 15, 16, 17, 18] [] (cs := [.blk (B.next) ([.int .u8 11, .int .i32 0, .bool false, .slice none 0 0, .slice none 0 0, .int .i64 0, .int .i64 0, .int .i64 0, .slice none 0 0]), .blk (B1.next) ([.int .i64 0, .int .i64 0, .bool false, .bool false, .bool false, .bool false]), .blk (B.next) ([.int .u8 11, .int .i32 0, .bool false, .slice none 0 0, .slice none 0 0, .int .i64 0, .int .i64 0, .int .i64 0, .slice none 0 0]), .blk (B1.next) ([.int .i64 0, .int .i64 0, .bool false, .bool false, .bool false, .bool false])]) (by kernel_rfl) (by kernel_rfl) (by kernel_rfl) ?_ ?_
  · intro x hx
    simp only [List.mem_cons, List.not_mem_nil, or_false] at hx
    rcases hx with rfl | rfl | rfl | rfl
    · exact ⟨44, false, hN⟩
    · exact ⟨98, false, hH⟩
    · exact ⟨44, false, hN⟩
    · exact ⟨98, false, hH⟩
  show AWp _ _ _ _ _
  refine AWp.view [(1, .int .i64 0), (2, .pointer (some ⟨B.next, 0, none⟩)), (5, .pointer (some ⟨B1.next, 0, none⟩)), (6, .bool true), (14, .bool false)] (by kernel_rfl) ?_
  refine AWp.condF (c := .tmp 14) (by kernel_rfl) (by kernel_rfl) ?_
  refine AWp.seq' (by kernel_rfl) (AWp.region' (by kernel_rfl) ?_)
  refine AOps.run (n := 132) [(1, .blk ([.int .i64 0, .int .i64 0, .bool false, .bool false, .bool false, .bool false])), (10, .blk ([.int .i64 0, .int .i64 0, .bool false, .bool false, .bool false, .bool false])), (14, .blk ([.int .u8 11, .int .i32 0, .bool false, .slice none 0 0, .slice none 0 0, .int .i64 0, .int .i64 0, .int .i64 0, .slice none 0 0]))] [0, 1, 2, 3, 4, 5, 6, 7, 8, 9, 10, 11, 12, 13, 14, 15, 16, 17, 18] [] (cs := [.blk (B1.next) ([.int .i64 0, .int .i64 0, .bool false, .bool false, .bool false, .bool false]), .blk (B1.next) ([.int .i64 0, .int .i64 0, .bool false, .bool false, .bool false, .bool false]), .blk (B.next) ([.int .u8 11, .int .i32 0, .bool false, .slice none 0 0, .slice none 0 0, .int .i64 0, .int .i64 0, .int .i64 0, .slice none 0 0])]) (by kernel_rfl) (by kernel_rfl) (by kernel_rfl) ?_ ?_
  · intro x hx
    simp only [List.mem_cons, List.not_mem_nil, or_false] at hx
    rcases hx with rfl | rfl | rfl
    · exact ⟨98, false, hH⟩
    · exact ⟨98, false, hH⟩
    · exact ⟨44, false, hN⟩
  show AWp _ _ _ _ _
  refine AWp.view [(1, .int .i64 0), (2, .pointer (some ⟨B.next, 0, none⟩)), (5, .pointer (some ⟨B1.next, 0, none⟩)), (6, .bool true), (33, .bool false)] (by kernel_rfl) ?_
  refine AWp.condF (c := .tmp 33) (by kernel_rfl) (by kernel_rfl) ?_
  refine AWp.seq' (by kernel_rfl) (AWp.region' (by kernel_rfl) ?_)
  refine AOps.run (n := 132) [(1, .blk ([.int .i64 0, .int .i64 0, .bool false, .bool false, .bool false, .bool false])), (10, .blk ([.int .i64 0, .int .i64 0, .bool false, .bool false, .bool false, .bool false])), (14, .blk ([.int .u8 11, .int .i32 0, .bool false, .slice none 0 0, .slice none 0 0, .int .i64 0, .int .i64 0, .int .i64 0, .slice none 0 0]))] [0, 1, 2, 3, 4, 5, 6, 7, 8, 9, 10, 11, 12, 13, 14] [15, 16, 17, 18, 19] (cs := [.blk (B1.next) ([.int .i64 0, .int .i64 0, .bool false, .bool false, .bool false, .bool false]), .blk (B1.next) ([.int .i64 0, .int .i64 0, .bool false, .bool false, .bool false, .bool false]), .blk (B.next) ([.int .u8 11, .int .i32 0, .bool false, .slice none 0 0, .slice none 0 0, .int .i64 0, .int .i64 0, .int .i64 0, .slice none 0 0])]) (by kernel_rfl) (by kernel_rfl) (by kernel_rfl) ?_ ?_
  · intro x hx
    simp only [List.mem_cons, List.not_mem_nil, or_false] at hx
    rcases hx with rfl | rfl | rfl
    · exact ⟨98, false, hH⟩
    · exact ⟨98, false, hH⟩
    · exact ⟨44, false, hN⟩
  refine AOps.call (n := 132) 15 [16, 17, 18, 19] 47 [.agg #[.bool false, .slice none 0 0, .slice none 0 0]] (by kernel_rfl) rfl (by kernel_rfl) (by kernel_rfl) (by kernel_rfl) (by kernel_rfl) (by kernel_rfl) (emptySet_spec _) ?_
  rintro e H4 ⟨rfl, hx4⟩
  refine ⟨_, rfl, ?_⟩
  refine AOps.run (n := 132) [] [16, 17, 18, 19] [] (cs := []) (by kernel_rfl) (by kernel_rfl) (by kernel_rfl) ?_ ?_
  · intro x hx; cases hx
  show AWp _ _ _ _ _
  have hN4 := hx4.get hN
  have hH4 := hx4.get hH
  refine AWp.view [(1, .int .i64 0), (2, .pointer (some ⟨B.next, 0, none⟩)), (5, .pointer (some ⟨B1.next, 0, none⟩)), (6, .bool true), (52, .bool false)] (by kernel_rfl) ?_
  refine AWp.condF (c := .tmp 52) (by kernel_rfl) (by kernel_rfl) ?_
  refine AWp.seq' (by kernel_rfl) (AWp.region' (by kernel_rfl) ?_)
  refine AOps.run (n := 132) [(1, .blk ([.int .i64 0, .int .i64 0, .bool false, .bool false, .bool false, .bool false])), (15, .blk ([.int .i64 0, .int .i64 0, .bool false, .bool false, .bool false, .bool false])), (19, .blk ([.int .u8 11, .int .i32 0, .bool false, .slice none 0 0, .slice none 0 0, .int .i64 0, .int .i64 0, .int .i64 0, .slice none 0 0]))] [0, 1, 2, 3, 4, 5, 6, 7, 8, 9, 10, 11, 12, 13, 14, 15, 16, 17, 18, 19, 20, 21, 22, 23] [] (cs := [.blk (B1.next) ([.int .i64 0, .int .i64 0, .bool false, .bool false, .bool false, .bool false]), .blk (B1.next) ([.int .i64 0, .int .i64 0, .bool false, .bool false, .bool false, .bool false]), .blk (B.next) ([.int .u8 11, .int .i32 0, .bool false, .slice none 0 0, .slice none 0 0, .int .i64 0, .int .i64 0, .int .i64 0, .slice none 0 0])]) (by kernel_rfl) (by kernel_rfl) (by kernel_rfl) ?_ ?_
  · intro x hx
    simp only [List.mem_cons, List.not_mem_nil, or_false] at hx
    rcases hx with rfl | rfl | rfl
    · exact ⟨98, false, hH4⟩
    · exact ⟨98, false, hH4⟩
    · exact ⟨44, false, hN4⟩
  show AWp _ _ _ _ _
  refine AWp.view [(1, .int .i64 0), (2, .pointer (some ⟨B.next, 0, none⟩)), (5, .pointer (some ⟨B1.next, 0, none⟩)), (6, .bool true), (72, .bool false)] (by kernel_rfl) ?_
  refine AWp.condF (c := .tmp 72) (by kernel_rfl) (by kernel_rfl) ?_
  refine AWp.seq' (by kernel_rfl) (AWp.region' (by kernel_rfl) ?_)
  refine AOps.run (n := 132) [(1, .blk ([.int .i64 0, .int .i64 0, .bool false, .bool false, .bool false, .bool false]))] [0, 1, 2] [] (cs := [.blk (B1.next) ([.int .i64 0, .int .i64 0, .bool false, .bool false, .bool false, .bool false])]) (by kernel_rfl) (by kernel_rfl) (by kernel_rfl) ?_ ?_
  · intro x hx
    simp only [List.mem_cons, List.not_mem_nil, or_false] at hx
    subst hx
    exact ⟨98, false, hH4⟩
  show AWp _ _ _ _ _
  refine AWp.view [(1, .int .i64 0), (2, .pointer (some ⟨B.next, 0, none⟩)), (5, .pointer (some ⟨B1.next, 0, none⟩)), (6, .bool true), (96, .bool false)] (by kernel_rfl) ?_
  refine AWp.condF (c := .tmp 96) (by kernel_rfl) (by kernel_rfl) ?_
  refine AWp.skip' (by kernel_rfl) ?_
  show AWp _ _ _ _ _
  refine AWp.view [(1, .int .i64 0), (2, .pointer (some ⟨B.next, 0, none⟩)), (5, .pointer (some ⟨B1.next, 0, none⟩)), (6, .bool true)] (by kernel_rfl) ?_
  refine AWp.seq' (by kernel_rfl) (AWp.region' (by kernel_rfl) ?_)
  refine AOps.run (n := 132) [(1, .blk ([.int .u8 11, .int .i32 0, .bool false, .slice none 0 0, .slice none 0 0, .int .i64 0, .int .i64 0, .int .i64 0, .slice none 0 0])), (5, .blk ([.int .u8 11, .int .i32 0, .bool false, .slice none 0 0, .slice none 0 0, .int .i64 0, .int .i64 0, .int .i64 0, .slice none 0 0]))] [0, 1, 2, 3, 4, 5, 6, 7, 8] [] (cs := [.blk (B.next) ([.int .u8 11, .int .i32 0, .bool false, .slice none 0 0, .slice none 0 0, .int .i64 0, .int .i64 0, .int .i64 0, .slice none 0 0]), .blk (B.next) ([.int .u8 11, .int .i32 0, .bool false, .slice none 0 0, .slice none 0 0, .int .i64 0, .int .i64 0, .int .i64 0, .slice none 0 0])]) (by kernel_rfl) (by kernel_rfl) (by kernel_rfl) ?_ ?_
  · intro x hx
    simp only [List.mem_cons, List.not_mem_nil, or_false] at hx
    rcases hx with rfl | rfl
    · exact ⟨44, false, hN4⟩
    · exact ⟨44, false, hN4⟩
  show AWp _ _ _ _ _
  refine AWp.view [(4, .bool true)] (by kernel_rfl) ?_
  exact AWp.ret' (by kernel_rfl) ⟨[.bool true], by kernel_rfl, rfl, hxx.trans hx4⟩

end Go.Proofs.YtihpfgnigpmihaaGreat
