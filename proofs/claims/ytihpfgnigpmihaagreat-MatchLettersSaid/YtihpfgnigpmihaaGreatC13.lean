/- match.times. -/
import Derived.Test.YtihpfgnigpmihaaGreatC12
set_option linter.unusedVariables false
set_option linter.unusedSimpArgs false
set_option maxRecDepth 100000
namespace Go.Proofs.YtihpfgnigpmihaaGreat
open Go

theorem min_ok (a b : Nat) : abuiltin Tryz.prog .min [3, 3] 3 [.int .i64 ((a : Nat) : Int), .int .i64 ((b : Nat) : Int)] = some (.int .i64 ((min a b : Nat) : Int)) := by
  have h : abuiltin Tryz.prog .min [3, 3] 3 [.int .i64 ((a : Nat) : Int), .int .i64 ((b : Nat) : Int)] = some (.int .i64 (if (b : Int) < (a : Int) then (b : Int) else (a : Int))) := by kernel_rfl
  rw [h]
  congr 2
  split <;> omega
theorem node_part {ns : List Nd} {i : Nat} {x : Nd} (h : ns[i]? = some x) : apart' (nodeCells ns) (0 + i * 9) 9 true = some (.agg ⟨x.cells⟩) := by
  have hi : i < ns.length := (List.getElem?_eq_some_iff.1 h).1
  have hl : (nodeCells ns).length = ns.length * 9 := flatMap_len Nd.cells 9 (fun _ => rfl) ns
  unfold apart'
  rw [if_pos rfl, Nat.zero_add, if_pos (by rw [hl]; have := Nat.mul_le_mul_right 9 (Nat.succ_le_of_lt hi); rw [Nat.succ_mul] at this; exact this)]
  have := flatMap_part Nd.cells 9 (fun _ => rfl) h
  unfold nodeCells
  rw [this]
theorem node_store (nd : Nd) : (decide (szT Tryz.prog 44 = some (vcells (.agg ⟨nd.cells⟩)).length) && (vcells (.agg ⟨nd.cells⟩)).all (·.oneCell') && Nat.ble (0 + (vcells (.agg ⟨nd.cells⟩)).length) [Value.int .u8 0, .int .i32 0, .bool false, .slice none 0 0, .slice none 0 0, .int .i64 0, .int .i64 0, .int .i64 0, .slice none 0 0].length) = true := by
  have h : szT Tryz.prog 44 = some 9 := by kernel_rfl
  have h1 := nd.h1; have h2 := nd.h2; have h3 := nd.h3
  unfold Value.oneCell' at h1 h2 h3
  simp [Nd.cells, vcells, h, h1, h2, h3, Value.oneCell']
theorem AEnv.le_trans {E F G : AEnv} (h : E.le F) (k : F.le G) : E.le G := ⟨h.1.trans k.1, fun t v e => k.2 t v (h.2 t v e)⟩
theorem Own.low {b c : Nat} {H : AHeap} {x : Value} {xs : List Res} {o : List Nat} (h : Own b H x xs o) (hc : c ≤ b) : Own c H x xs o := by
  rcases h with h | ⟨id, h1, h2, h3, h4⟩
  · exact .inl h
  · exact .inr ⟨id, h1, h2, h3, Nat.le_trans hc h4⟩
/-- New blocks of one's own. -/
theorem Memo.own {ns : List Nd} {row : List Int} {K : Nat} {pv qv : List Nat} {B B' : AHeap} (h : Memo ns row K pv B) (x : Ext B B') (hq : ∀ i ∈ qv, i ∈ pv ∨ B.next ≤ i) : Memo ns row K qv B' := by
  have hk := h.lt
  obtain ⟨es, ck, ks, h1, h2, h3⟩ := h
  refine ⟨es, ck, ks, x.get h1, h2, fun e he => ?_⟩
  obtain ⟨s, rs, n, a, b', c⟩ := h3 e he
  refine ⟨s, rs, n, a, b', ?_⟩
  rcases c with c | ⟨id, c, q1, q2, q3, q4⟩
  · exact .inl c
  · refine .inr ⟨id, c, q1, q2, x.get q3, fun hm => ?_⟩
    rcases hq id hm with hm | hm
    · exact q4 hm
    · have := AHeap.get_lt q3; omega
/-- Behind an append to a slice of one's own. -/
theorem Memo.app {ns : List Nd} {row : List Int} {K : Nat} {ol ol' qv : List Nat} {H H' : AHeap} (h : Memo ns row K (ol ++ qv) H) (h4 : ∀ i, i < H.next → i ∉ ol → H'.get i = H.get i) (h3 : ∀ i ∈ ol', i ∈ ol ∨ H.next ≤ i) (hK : K ∉ ol) : Memo ns row K (ol' ++ qv) H' := by
  have hk := h.lt
  obtain ⟨es, ck, ks, h1, h2, h5⟩ := h
  refine ⟨es, ck, ks, (h4 K hk hK).trans h1, h2, fun e he => ?_⟩
  obtain ⟨s, rs, n, a, b', c⟩ := h5 e he
  refine ⟨s, rs, n, a, b', ?_⟩
  rcases c with c | ⟨id, c, q1, q2, q3, q4⟩
  · exact .inl c
  · refine .inr ⟨id, c, q1, q2, by rw [h4 id (AHeap.get_lt q3) (fun h => q4 (List.mem_append_left _ h))]; exact q3, fun hm => ?_⟩
    rcases List.mem_append.1 hm with hm | hm
    · rcases h3 id hm with hm | hm
      · exact q4 (List.mem_append_left _ hm)
      · have := AHeap.get_lt q3; omega
    · exact q4 (List.mem_append_right _ hm)

def nextD (f : St → Option (List Res)) (nd : Pn) (s : St) (x : Res) : Option (List Res) := if x.stop ≤ s.pos ∧ nd.lo ≤ s.done then some [] else f ⟨s.node, nextDone nd s.done, x.stop, x.g⟩
def firstD (f : St → Option (List Res)) (nd : Pn) (s : St) : Option (List Res) := if nd.hi < 0 ∨ (s.done : Int) < nd.hi then
      match nd.kids with
      | [] => none
      | k :: _ => bindO (f ⟨k, 0, s.pos, s.g⟩) fun ys => joinO (nextD f nd s) ys
    else some []
theorem timesD_eq (f : St → Option (List Res)) (nd : Pn) (s : St) : timesD f nd s = bindO (firstD f nd s) fun out => some (if nd.lo ≤ s.done then out ++ [⟨s.pos, s.g⟩] else out) := rfl
theorem join_app {f : Res → Option (List Res)} : ∀ (xs ys : List Res) (a b : List Res), joinO f xs = some a → joinO f ys = some b → joinO f (xs ++ ys) = some (a ++ b)
  | [], ys, a, b, ha, hb => by cases ha; exact hb
  | x :: xs, ys, a, b, ha, hb => by
    obtain ⟨c, hc, ha⟩ := bindO_some ha
    obtain ⟨d, hd, ha⟩ := bindO_some ha
    cases ha
    rw [List.cons_append, joinO, hc, bindO, join_app xs ys d b hd hb, bindO, List.append_assoc]
theorem join_split {f : Res → Option (List Res)} : ∀ (xs ys : List Res) (c : List Res), joinO f (xs ++ ys) = some c → ∃ a b, joinO f xs = some a ∧ joinO f ys = some b ∧ c = a ++ b
  | [], ys, c, h => ⟨[], c, rfl, h, rfl⟩
  | x :: xs, ys, c, h => by
    obtain ⟨d, hd, h⟩ := bindO_some h
    obtain ⟨e, he, h⟩ := bindO_some h
    cases h
    obtain ⟨a, b, h1, h2, rfl⟩ := join_split xs ys e he
    exact ⟨d ++ a, b, by rw [joinO, hd, bindO, h1]; rfl, h2, by rw [List.append_assoc]⟩
theorem join_one {f : Res → Option (List Res)} {x : Res} {a : List Res} (h : f x = some a) : joinO f [x] = some a := by
  rw [joinO, h, bindO, joinO, bindO, List.append_nil]
theorem take_drop_at {ys : List Res} {k : Nat} {x : Res} (h : ys[k]? = some x) : ys = ys.take k ++ ([x] ++ ys.drop (k + 1)) := by
  have hk : k < ys.length := (List.getElem?_eq_some_iff.1 h).1
  have hx := (List.getElem?_eq_some_iff.1 h).2
  rw [List.singleton_append, ← hx, ← List.drop_eq_getElem_cons hk, List.take_append_drop]
theorem join_snoc {f : Res → Option (List Res)} {ys : List Res} {out acc : List Res} {k : Nat} {x : Res} (h : joinO f ys = some out) (hx : ys[k]? = some x) (ha : joinO f (ys.take k) = some acc) :
    ∃ a : List Res, f x = some a ∧ joinO f (ys.take k ++ [x]) = some (acc ++ a) := by
  rw [take_drop_at hx] at h
  obtain ⟨a, b, h1, h2, _⟩ := join_split _ _ _ h
  obtain ⟨c, d, h3, _, _⟩ := join_split _ _ _ h2
  obtain ⟨e, he, h3⟩ := bindO_some h3
  exact ⟨e, he, join_app _ _ _ _ ha (join_one he)⟩
theorem join_len {f : Res → Option (List Res)} {ys : List Res} {out acc a : List Res} {k : Nat} {x : Res} (h : joinO f ys = some out) (hx : ys[k]? = some x) (ha : joinO f (ys.take k) = some acc) (hf : f x = some a) : acc.length + a.length ≤ out.length := by
  rw [take_drop_at hx, ← List.append_assoc] at h
  obtain ⟨c, b, h1, h2, rfl⟩ := join_split _ _ _ h
  have := join_app _ _ _ _ ha (join_one hf)
  rw [this] at h1; cases h1
  simp only [List.length_append]; omega

theorem times_spec {ns : List Nd} {row : List Int} {n : Nat} (hrs : ResSpec ns row n) {p : Pl} {pv : List Nat} {B : AHeap} {s : St} {l : List Res} {nd : Nd} (hE : Eng B p ns row) (hm : Memo ns row p.K pv B) (hpv : ∀ i ∈ pv, i < B.next)
    (hdone : s.done < far) (hnd : ns[s.node]? = some nd) (hl : timesD (den (ns.map Nd.pn) row n) nd.pn s = some l) (hlong2 : l.length < far) : ACall Tryz.prog 35 [mp p, s.val] B (Tells p ns row pv B l) := by
  have hil : s.node < ns.length := (List.getElem?_eq_some_iff.1 hnd).1
  rw [timesD_eq] at hl
  obtain ⟨out0, hfirst, hl1⟩ := bindO_some hl
  have hl2 : l = if nd.lo ≤ s.done then out0 ++ [⟨s.pos, s.g⟩] else out0 := (Option.some.inj hl1).symm
  have hlong : out0.length < far := by
    rw [hl2] at hlong2
    split at hlong2
    · simp only [List.length_append, List.length_singleton] at hlong2; omega
    · exact hlong2
  let mc := matCells (.slice (some ⟨p.N, 0, none⟩) ns.length p.nc) p.groups (.slice p.ra row.length p.rc) p.K p.F
  let B1 := B.push (.cells s.cells 79 false)
  have hM : B1.get p.M = some (.cells mc 77 false) := AHeap.get_push_old hE.mat
  have hS : B1.get B.next = some (.cells s.cells 79 false) := AHeap.get_push_new _ _
  have hN : B1.get p.N = some (.cells (nodeCells ns) 44 false) := AHeap.get_push_old hE.nodes
  have hm1 : Memo ns row p.K (B.next :: pv) B1 := hm.push _
  have hpv1 : ∀ i ∈ B.next :: pv, i < B1.next := fun i hi => by
    rcases List.mem_cons.1 hi with h | h
    · subst h; exact Nat.lt_succ_self _
    · exact Nat.lt_succ_of_lt (hpv i h)
  refine ACall.walk (fn := Tryz.f35) (c := bodyOf Tryz.prog 35) (by kernel_rfl) (by kernel_rfl) (by kernel_rfl) ?_
  refine AWp.seq' (by kernel_rfl) (AWp.region' (by kernel_rfl) ?_)
  refine AOps.write (n := 96) 0 [1] (.pointer (some ⟨B.next, 0, none⟩)) (B1) (by kernel_rfl) rfl (by kernel_rfl) (by kernel_rfl) (by kernel_rfl) (by kernel_rfl) ?_
  refine AOps.run (n := 96) [] [1] [] (cs := []) (by kernel_rfl) (by kernel_rfl) (by kernel_rfl) ?_ ?_
  · intro x hx; cases hx
  show AWp _ _ _ _ _
  refine AWp.view [(0, mp p), (3, .pointer (some ⟨B.next, 0, none⟩))] (by kernel_rfl) ?_
  refine AWp.resv fun hres1 => ?_
  refine AWp.seq' (by kernel_rfl) (AWp.draw' mixed (.leaf [0, 1, 2, 3, 4, 5, 6, 7, 8, 9, 10]) (by kernel_rfl) (by kernel_rfl) ⟨by kernel_rfl, ?_⟩)
  have hk1 : keeps B1 (opsOf (fst (snd (bodyOf Tryz.prog 35)))).toList = B1.keep := by kernel_rfl
  rw [hk1]
  have k1 : B1.keep.get p.M = some (.cells mc 77 false) := by rw [AHeap.get_keep, if_neg (Nat.ne_of_lt (AHeap.get_lt hM))]; exact hM
  have k2 : B1.keep.get B.next = some (.cells s.cells 79 false) := by rw [AHeap.get_keep, if_neg (Nat.ne_of_lt (AHeap.get_lt hS))]; exact hS
  have k3 : B1.keep.get p.N = some (.cells (nodeCells ns) 44 false) := by rw [AHeap.get_keep, if_neg (Nat.ne_of_lt (AHeap.get_lt hN))]; exact hN
  refine AOps.run (n := 96) [(4, .blk (mc)), (6, .blk (s.cells)), (7, .val (.pointer (some ⟨p.N, 0 + s.node * 9, none⟩))), (8, .part (nodeCells ns) (.agg ⟨nd.cells⟩))] [0, 1, 2, 3, 4, 5, 6, 7, 8] [9, 10] (cs := [.blk (p.M) (mc), .blk (B.next) (s.cells), .some (aindexAddr Tryz.prog 29 (.slice (some ⟨p.N, 0, none⟩) ns.length p.nc) (.int .i64 (s.node : Int))) (.pointer (some ⟨p.N, 0 + s.node * 9, none⟩)), .blk (p.N) (nodeCells ns), .some (apart' (nodeCells ns) (0 + s.node * 9) 9 true) (.agg ⟨nd.cells⟩)]) (by kernel_rfl) (by kernel_rfl) (by kernel_rfl) ?_ ?_
  · intro x hx
    simp only [List.mem_cons, List.not_mem_nil, or_false] at hx
    rcases hx with rfl | rfl | rfl | rfl | rfl
    · exact ⟨77, false, k1⟩
    · exact ⟨79, false, k2⟩
    · exact indexAddr_ok (by kernel_rfl : sliceT Tryz.prog 29 = some (44, 9, 112)) hil
    · exact ⟨44, false, k3⟩
    · exact node_part hnd
  refine AOps.fill (n := 96) 9 [10] B1.next 44 (.agg ⟨[.int .u8 0, .int .i32 0, .bool false, .slice none 0 0, .slice none 0 0, .int .i64 0, .int .i64 0, .int .i64 0, .slice none 0 0]⟩) (by kernel_rfl) rfl (by kernel_rfl) (by kernel_rfl) (by kernel_rfl) (List.mem_cons_self ..) (by rw [AHeap.get_keep, if_pos rfl]) ?_
  refine AOps.store (n := 96) 10 [] (t := 44) (v := .agg ⟨nd.cells⟩) (b := B1.next) (off := 0) (vs := [.int .u8 0, .int .i32 0, .bool false, .slice none 0 0, .slice none 0 0, .int .i64 0, .int .i64 0, .int .i64 0, .slice none 0 0]) (e := 44) (vs2 := nd.cells) (by kernel_rfl) rfl (by kernel_rfl) (by kernel_rfl) (by kernel_rfl) (by rw [AHeap.get_fill (Nat.lt_succ_self _), if_pos rfl]; rfl) (node_store nd) (by kernel_rfl) ?_
  show AWp _ _ _ _ _
  obtain ⟨x1, x2, x3⟩ := kept B1 hres1 (.cells (vcells (.agg ⟨[.int .u8 0, .int .i32 0, .bool false, .slice none 0 0, .slice none 0 0, .int .i64 0, .int .i64 0, .int .i64 0, .slice none 0 0]⟩)) 44 false) (.cells nd.cells 44 false)
  generalize hH1 : (B1.keep.fill B1.next (.cells (vcells (.agg ⟨[.int .u8 0, .int .i32 0, .bool false, .slice none 0 0, .slice none 0 0, .int .i64 0, .int .i64 0, .int .i64 0, .slice none 0 0]⟩)) 44 false)).set B1.next (.cells nd.cells 44 false) = H1 at x1 x2 x3 ⊢
  clear hH1 k1 k2 k3 hk1
  have hS1 : H1.get B.next = some (.cells s.cells 79 false) := x1.get hS
  have hm2 : Memo ns row p.K (B1.next :: B.next :: pv) H1 := by
    refine (hm1.own x1 (fun i hi => ?_))
    rcases List.mem_cons.1 hi with h | h
    · exact .inr (Nat.le_of_eq h.symm)
    · exact .inl h
  have hE1 : Eng H1 p ns row := (hE.ext (Ext.push _ _)).ext x1
  have hpv2 : ∀ i ∈ B1.next :: B.next :: pv, i < H1.next := fun i hi => by
    rcases List.mem_cons.1 hi with h | h
    · omega
    · have := hpv1 i h; omega
  have hKB : p.K < B.next := hm.lt
  refine AWp.view [(0, mp p), (3, .pointer (some ⟨B.next, 0, none⟩)), (5, .pointer (some ⟨B1.next, 0, none⟩))] (by kernel_rfl) ?_
  refine AWp.seq' (by kernel_rfl) (AWp.region' (by kernel_rfl) ?_)
  refine AOps.run (n := 96) [] [0] [] (cs := []) (by kernel_rfl) (by kernel_rfl) (by kernel_rfl) ?_ ?_
  · intro x hx; cases hx
  show AWp _ _ _ _ _
  refine AWp.view [(0, mp p), (3, .pointer (some ⟨B.next, 0, none⟩)), (5, .pointer (some ⟨B1.next, 0, none⟩)), (6, .slice none 0 0)] (by kernel_rfl) ?_
  refine AWp.mid (by kernel_rfl) (fun E' H' => ∃ (o : Value) (out : List Res) (ol : List Nat), AEnv.le (envOf 96 (mkE [(0, mp p), (3, .pointer (some ⟨B.next, 0, none⟩)), (5, .pointer (some ⟨B1.next, 0, none⟩)), (6, o)])) E' ∧ Grow p.K H1 H' ∧ Memo ns row p.K (ol ++ B1.next :: B.next :: pv) H' ∧ Own H1.next H' o out ol ∧ firstD (den (ns.map Nd.pn) row n) nd.pn s = some out) ?_ ?_
  · skip
    refine AWp.mid (by kernel_rfl) (fun E' H' => AEnv.le (envOf 96 (mkE [(0, mp p), (3, .pointer (some ⟨B.next, 0, none⟩)), (5, .pointer (some ⟨B1.next, 0, none⟩)), (6, .slice none 0 0), (28, .bool (decide (nd.hi < 0 ∨ (s.done : Int) < nd.hi)))])) E' ∧ H' = H1) ?_ ?_
    · refine AWp.region' (by kernel_rfl) ?_
      by_cases hneg : nd.hi < 0
      · have hdec : decide (nd.hi < 0 ∨ (s.done : Int) < nd.hi) = true := decide_eq_true (.inl hneg)
        rw [hdec]
        refine AOps.run (n := 96) [(1, .blk (nd.cells)), (2, .val (.bool true))] [0, 1, 2, 3, 4, 5, 6, 7, 8, 9] [] (cs := [.blk (B1.next) (nd.cells), .some (some (.bool (decide (nd.hi < 0)))) (.bool true)]) (by kernel_rfl) (by kernel_rfl) (by kernel_rfl) ?_ ?_
        · intro x hx
          simp only [List.mem_cons, List.not_mem_nil, or_false] at hx
          rcases hx with rfl | rfl
          · exact ⟨44, false, x2⟩
          · exact congrArg (fun b => some (Value.bool b)) (decide_eq_true hneg)
        exact ⟨mkE_le [(0, mp p), (3, .pointer (some ⟨B.next, 0, none⟩)), (5, .pointer (some ⟨B1.next, 0, none⟩)), (6, .slice none 0 0), (28, .bool true)] (by kernel_rfl), rfl⟩
      · have hdec : decide (nd.hi < 0 ∨ (s.done : Int) < nd.hi) = decide ((s.done : Int) < nd.hi) := decide_eq_decide.2 ⟨fun h => h.resolve_left hneg, .inr⟩
        rw [hdec]
        refine AOps.run (n := 96) [(1, .blk (nd.cells)), (2, .val (.bool false)), (5, .blk (s.cells)), (7, .blk (nd.cells)), (8, .val (.bool (decide ((s.done : Int) < nd.hi))))] [0, 1, 2, 3, 4, 5, 6, 7, 8, 9] [] (cs := [.blk (B1.next) (nd.cells), .some (some (.bool (decide (nd.hi < 0)))) (.bool false), .blk (B.next) (s.cells), .blk (B1.next) (nd.cells), .some (some (.bool (decide ((s.done : Int) < nd.hi)))) (.bool (decide ((s.done : Int) < nd.hi)))]) (by kernel_rfl) (by kernel_rfl) (by kernel_rfl) ?_ ?_
        · intro x hx
          simp only [List.mem_cons, List.not_mem_nil, or_false] at hx
          rcases hx with rfl | rfl | rfl | rfl | rfl
          · exact ⟨44, false, x2⟩
          · exact congrArg (fun b => some (Value.bool b)) (decide_eq_false hneg)
          · exact ⟨79, false, hS1⟩
          · exact ⟨44, false, x2⟩
          · rfl
        exact ⟨mkE_le [(0, mp p), (3, .pointer (some ⟨B.next, 0, none⟩)), (5, .pointer (some ⟨B1.next, 0, none⟩)), (6, .slice none 0 0), (28, .bool (decide ((s.done : Int) < nd.hi)))] (by kernel_rfl), rfl⟩
    rintro E' H' ⟨hE', rfl⟩
    refine AWp.env hE' ?_
    refine AWp.cond_ (c := .tmp 28) (t := decide (nd.hi < 0 ∨ (s.done : Int) < nd.hi)) (by kernel_rfl) (by kernel_rfl) (fun hT => ?_) (fun hF => ?_)
    · have hcnd := of_decide_eq_true hT
      have hout : firstD (den (ns.map Nd.pn) row n) nd.pn s = some out0 := hfirst
      have hout' := hout
      unfold firstD at hout'
      rw [if_pos (show nd.pn.hi < 0 ∨ (s.done : Int) < nd.pn.hi from hcnd)] at hout'
      obtain ⟨k0, kl, hkl, ys, hys, hjoin⟩ : ∃ k0 kl, nd.kl = k0 :: kl ∧ ∃ ys, den (ns.map Nd.pn) row n ⟨k0, 0, s.pos, s.g⟩ = some ys ∧ joinO (nextD (den (ns.map Nd.pn) row n) nd.pn s) ys = some out0 := by
        cases hk : nd.kl with
        | nil => simp only [Nd.pn, hk] at hout'; cases hout'
        | cons k0 kl =>
          simp only [Nd.pn, hk] at hout'
          obtain ⟨ys, hy, hj⟩ := bindO_some hout'
          exact ⟨k0, kl, rfl, ys, hy, hj⟩
      obtain ⟨kb, kc, hkids, hkb⟩ : ∃ kb kc, nd.kids = .slice (some ⟨kb, 0, none⟩) nd.kl.length kc ∧ H'.get kb = some (.cells (nd.kl.map fun (k : Nat) => .int .i64 (k : Int)) 3 false) := by
        rcases hE1.kids nd (List.mem_of_getElem? hnd) with ⟨_, h⟩ | h
        · rw [h] at hkl; cases hkl
        · exact h
      refine AWp.seq' (by kernel_rfl) (AWp.draw' mixed (.leaf [0, 1, 2, 3, 4, 5, 6, 7, 8, 9, 12, 10, 11]) (by kernel_rfl) (by kernel_rfl) ⟨by kernel_rfl, ?_⟩)
      have hk4 : keeps H' (opsOf (fst (fst (snd (fst (snd (snd (snd (bodyOf Tryz.prog 35))))))))).toList = H' := by kernel_rfl
      rw [hk4]
      refine AOps.run (n := 96) [(2, .blk (nd.cells)), (3, .val (.pointer (some ⟨kb, 0 + 0 * 1, none⟩))), (4, .part (nd.kl.map fun (k : Nat) => .int .i64 (k : Int)) (.int .i64 ((k0 : Nat) : Int))), (6, .blk (s.cells)), (8, .blk (s.cells))] [0, 1, 2, 3, 4, 5, 6, 7, 8, 9, 12] [10, 11] (cs := [.blk (B1.next) (nd.cells), .some (aindexAddr Tryz.prog 38 nd.kids (.int .i64 0)) (.pointer (some ⟨kb, 0 + 0 * 1, none⟩)), .blk (kb) (nd.kl.map fun (k : Nat) => .int .i64 (k : Int)), .some (apart' (nd.kl.map fun (k : Nat) => .int .i64 (k : Int)) (0 + 0 * 1) 1 false) (.int .i64 ((k0 : Nat) : Int)), .blk (B.next) (s.cells), .blk (B.next) (s.cells)]) (by kernel_rfl) (by kernel_rfl) (by kernel_rfl) ?_ ?_
      · intro x hx
        simp only [List.mem_cons, List.not_mem_nil, or_false] at hx
        rcases hx with rfl | rfl | rfl | rfl | rfl | rfl
        · exact ⟨44, false, x2⟩
        · rw [hkids]; exact indexAddr_ok (by kernel_rfl : sliceT Tryz.prog 38 = some (3, 1, 8)) (i := 0) (by rw [hkl]; exact Nat.succ_pos _)
        · exact ⟨3, false, hkb⟩
        · exact apart_one (by rw [hkl]; rfl)
        · exact ⟨79, false, hS1⟩
        · exact ⟨79, false, hS1⟩
      have hcall := hrs p (B1.next :: B.next :: pv) H' ⟨k0, 0, s.pos, s.g⟩ ys hE1 hm2 hpv2 hys
      refine AOps.call (n := 96) 10 [11] 36 [mp p, St.val ⟨k0, 0, s.pos, s.g⟩] (by kernel_rfl) rfl (by kernel_rfl) (by kernel_rfl) (by kernel_rfl) (by kernel_rfl) (by kernel_rfl) (hcall) ?_
      rintro e H2 ⟨v, rfl, hgr, hmm, hrv⟩
      refine ⟨v, rfl, ?_⟩
      obtain ⟨ra, yb, yc, hyv, hyb⟩ := hrv.rows.split
      subst hyv
      refine AOps.run (n := 96) [] [11] [] (cs := []) (by kernel_rfl) (by kernel_rfl) (by kernel_rfl) ?_ ?_
      · intro x hx; cases hx
      show AWp _ _ _ _ _
      refine AWp.view [(0, mp p), (3, .pointer (some ⟨B.next, 0, none⟩)), (5, .pointer (some ⟨B1.next, 0, none⟩)), (6, .slice none 0 0), (39, .slice ra ys.length yc), (40, .int .i64 ((ys.length : Nat) : Int)), (41, .int .i64 ((0 : Nat) : Int))] (by kernel_rfl) ?_
      refine AWp.block' (id := 0) (by kernel_rfl) ?_
      have hnK : ∀ {i vs e ro}, H'.get i = some (.cells vs e ro) → i ≠ p.K := fun hi e => by obtain ⟨q1, q2, q3, q4, _⟩ := hm2; rw [e, q4] at hi; cases hi
      have hnK2 : ∀ {i vs e ro}, H2.get i = some (.cells vs e ro) → i ≠ p.K := fun hi e => by obtain ⟨q1, q2, q3, q4, _⟩ := hmm; rw [e, q4] at hi; cases hi
      have hE2 : Eng H2 p ns row := hE1.grow hm2 hgr
      have hS2 : H2.get B.next = some (.cells s.cells 79 false) := hgr.get hS1 (hnK hS1)
      have hN2 : H2.get B1.next = some (.cells nd.cells 44 false) := hgr.get x2 (hnK x2)
      refine AWp.loop' (by kernel_rfl) (N := ys.length - 0) (fun m E H => ∃ (k : Nat) (o : Value) (out : List Res) (ol : List Nat), m = ys.length - k ∧ k ≤ ys.length ∧ AEnv.le (envOf 96 (mkE [(0, mp p), (3, .pointer (some ⟨B.next, 0, none⟩)), (5, .pointer (some ⟨B1.next, 0, none⟩)), (6, o), (39, .slice ra ys.length yc), (40, .int .i64 ((ys.length : Nat) : Int)), (41, .int .i64 ((k : Nat) : Int))])) E ∧ Grow p.K H2 H ∧ Memo ns row p.K (ol ++ B1.next :: B.next :: pv) H ∧ Own H2.next H o out ol ∧ joinO (nextD (den (ns.map Nd.pn) row n) nd.pn s) (ys.take k) = some out)
        ⟨0, .slice none 0 0, [], [], rfl, Nat.zero_le _, AEnv.le_refl _, Grow.refl _ _, hmm, .inl ⟨rfl, rfl, rfl⟩, rfl⟩ ?_
      rintro m E H ⟨k, o, acc, ol, rfl, hk, hEn, hg, hmk, ho, hacc⟩
      refine AWp.env hEn ?_
      refine AWp.seq' (by kernel_rfl) (AWp.region' (by kernel_rfl) ?_)
      refine AOps.run (n := 96) [(0, .val (.bool (decide ((k : Int) < (ys.length : Int)))))] [0] [] (cs := [.some (some (.bool (decide ((k : Int) < (ys.length : Int))))) (.bool (decide ((k : Int) < (ys.length : Int))))]) (by kernel_rfl) (by kernel_rfl) (by kernel_rfl) ?_ ?_
      · intro x hx
        simp only [List.mem_cons, List.not_mem_nil, or_false] at hx
        subst hx
        rfl
      show AWp _ _ _ _ _
      refine AWp.view [(0, mp p), (3, .pointer (some ⟨B.next, 0, none⟩)), (5, .pointer (some ⟨B1.next, 0, none⟩)), (6, o), (39, .slice ra ys.length yc), (40, .int .i64 ((ys.length : Nat) : Int)), (41, .int .i64 ((k : Nat) : Int)), (42, .bool (decide ((k : Int) < (ys.length : Int))))] (by kernel_rfl) ?_
      refine AWp.seq' (by kernel_rfl) (AWp.cond_ (c := .tmp 42) (t := decide ((k : Int) < (ys.length : Int))) (by kernel_rfl) (by kernel_rfl) (fun hT => ?_) (fun hF => ?_))
      · have hlt : k < ys.length := by have := of_decide_eq_true hT; omega
        obtain ⟨x, hx1⟩ : ∃ x, ys[k]? = some x := ⟨_, List.getElem?_eq_getElem hlt⟩
        obtain ⟨a1, ha1, hacc'⟩ := join_snoc hjoin hx1 hacc
        have hlen' : acc.length + a1.length < far := Nat.lt_of_le_of_lt (join_len hjoin hx1 hacc ha1) hlong
        obtain ⟨hra, hyB⟩ := hyb (fun e => by rw [e] at hlt; simp at hlt)
        subst hra
        have hyH : H.get yb = some (.cells (resCells ys) 56 false) := hg.get hyB (hnK2 hyB)
        have hSH : H.get B.next = some (.cells s.cells 79 false) := hg.get hS2 (hnK2 hS2)
        have hNH : H.get B1.next = some (.cells nd.cells 44 false) := hg.get hN2 (hnK2 hN2)
        have hH2 : H2.next ≤ H.next := hg.next
        have hH12 : H'.next ≤ H2.next := hgr.next
        refine AWp.skip' (by kernel_rfl) ?_
        show AWp _ _ _ _ _
        refine AWp.mid (by kernel_rfl) (fun E' H' => ∃ (o' : Value) (ol' : List Nat), AEnv.le (envOf 96 (mkE [(0, mp p), (3, .pointer (some ⟨B.next, 0, none⟩)), (5, .pointer (some ⟨B1.next, 0, none⟩)), (6, o'), (39, .slice (some ⟨yb, 0, none⟩) ys.length yc), (40, .int .i64 ((ys.length : Nat) : Int)), (41, .int .i64 ((k : Nat) : Int))])) E' ∧ Grow p.K H2 H' ∧ Memo ns row p.K (ol' ++ B1.next :: B.next :: pv) H' ∧ Own H2.next H' o' (acc ++ a1) ol') ?_ ?_
        · refine AWp.block' (id := 1) (by kernel_rfl) ?_
          refine AWp.seq' (by kernel_rfl) (AWp.region' (by kernel_rfl) ?_)
          refine AOps.run (n := 96) [(0, .val (.pointer (some ⟨yb, 0 + k * 21, none⟩))), (1, .part (resCells ys) (x.val))] [0, 1] [2, 3] (cs := [.some (aindexAddr Tryz.prog 51 (.slice (some ⟨yb, 0, none⟩) ys.length yc) (.int .i64 ((k : Nat) : Int))) (.pointer (some ⟨yb, 0 + k * 21, none⟩)), .blk (yb) (resCells ys), .some (apart' (resCells ys) (0 + k * 21) 21 true) (x.val)]) (by kernel_rfl) (by kernel_rfl) (by kernel_rfl) ?_ ?_
          · intro x hx
            simp only [List.mem_cons, List.not_mem_nil, or_false] at hx
            rcases hx with rfl | rfl | rfl
            · exact indexAddr_ok sl51 hlt
            · exact ⟨56, false, hyH⟩
            · exact res_part hx1
          refine AOps.write (n := 96) 2 [3] (.pointer (some ⟨H.next, 0, none⟩)) (H.push (.cells (List.replicate 21 (.int .i64 0)) 56 false)) (by kernel_rfl) rfl (by kernel_rfl) (by kernel_rfl) (by kernel_rfl) (by kernel_rfl) ?_
          refine AOps.store (n := 96) 3 [] (t := 56) (v := x.val) (b := H.next) (off := 0) (vs := List.replicate 21 (.int .i64 0)) (e := 56) (vs2 := x.cells) (by kernel_rfl) rfl (by kernel_rfl) (by kernel_rfl) (by kernel_rfl) (AHeap.get_push_new _ _) (by kernel_rfl) (by kernel_rfl) ?_
          show AWp _ _ _ _ _
          obtain ⟨b1, b2, b3⟩ := boxed H (.cells (List.replicate 21 (.int .i64 0)) 56 false) (.cells x.cells 56 false)
          generalize hHx : (H.push (.cells (List.replicate 21 (.int .i64 0)) 56 false)).set H.next (.cells x.cells 56 false) = Hx at b1 b2 b3 ⊢
          clear hHx
          have hmx : Memo ns row p.K (H.next :: (ol ++ B1.next :: B.next :: pv)) Hx := hmk.own b1 (fun i hi => by
            rcases List.mem_cons.1 hi with h | h
            · exact .inr (Nat.le_of_eq h.symm)
            · exact .inl h)
          have hSx := b1.get hSH
          have hNx := b1.get hNH
          refine AWp.view [(0, mp p), (3, .pointer (some ⟨B.next, 0, none⟩)), (5, .pointer (some ⟨B1.next, 0, none⟩)), (6, o), (39, .slice (some ⟨yb, 0, none⟩) ys.length yc), (40, .int .i64 ((ys.length : Nat) : Int)), (41, .int .i64 ((k : Nat) : Int)), (8, .pointer (some ⟨H.next, 0, none⟩))] (by kernel_rfl) ?_
          refine AWp.seq' (by kernel_rfl) ?_
          refine AWp.mid (by kernel_rfl) (fun E' H' => AEnv.le (envOf 96 (mkE [(0, mp p), (3, .pointer (some ⟨B.next, 0, none⟩)), (5, .pointer (some ⟨B1.next, 0, none⟩)), (6, o), (39, .slice (some ⟨yb, 0, none⟩) ys.length yc), (40, .int .i64 ((ys.length : Nat) : Int)), (41, .int .i64 ((k : Nat) : Int)), (8, .pointer (some ⟨H.next, 0, none⟩)), (56, .bool (decide (x.stop ≤ s.pos ∧ nd.lo ≤ s.done)))])) E' ∧ H' = Hx) ?_ ?_
          · refine AWp.region' (by kernel_rfl) ?_
            by_cases hle : x.stop ≤ s.pos
            · have hdec : decide (x.stop ≤ s.pos ∧ nd.lo ≤ s.done) = decide ((s.done : Int) ≥ (nd.lo : Int)) := decide_eq_decide.2 ⟨fun h => by have := h.2; omega, fun h => ⟨hle, by omega⟩⟩
              rw [hdec]
              refine AOps.run (n := 96) [(1, .blk (x.cells)), (3, .blk (s.cells)), (4, .val (.bool true)), (7, .blk (s.cells)), (9, .blk (nd.cells)), (10, .val (.bool (decide ((s.done : Int) ≥ (nd.lo : Int)))))] [0, 1, 2, 3, 4, 5, 6, 7, 8, 9, 10, 11] [] (cs := [.blk (H.next) (x.cells), .blk (B.next) (s.cells), .some (some (.bool (decide ((x.stop : Int) ≤ (s.pos : Int))))) (.bool true), .blk (B.next) (s.cells), .blk (B1.next) (nd.cells), .some (some (.bool (decide ((s.done : Int) ≥ (nd.lo : Int))))) (.bool (decide ((s.done : Int) ≥ (nd.lo : Int))))]) (by kernel_rfl) (by kernel_rfl) (by kernel_rfl) ?_ ?_
              · intro x hx
                simp only [List.mem_cons, List.not_mem_nil, or_false] at hx
                rcases hx with rfl | rfl | rfl | rfl | rfl | rfl
                · exact ⟨56, false, b2⟩
                · exact ⟨79, false, hSx⟩
                · exact congrArg (fun b => some (Value.bool b)) (decide_eq_true (by omega))
                · exact ⟨79, false, hSx⟩
                · exact ⟨44, false, hNx⟩
                · rfl
              exact ⟨mkE_le [(0, mp p), (3, .pointer (some ⟨B.next, 0, none⟩)), (5, .pointer (some ⟨B1.next, 0, none⟩)), (6, o), (39, .slice (some ⟨yb, 0, none⟩) ys.length yc), (40, .int .i64 ((ys.length : Nat) : Int)), (41, .int .i64 ((k : Nat) : Int)), (8, .pointer (some ⟨H.next, 0, none⟩)), (56, .bool (decide ((s.done : Int) ≥ (nd.lo : Int))))] (by kernel_rfl), rfl⟩
            · have hdec : decide (x.stop ≤ s.pos ∧ nd.lo ≤ s.done) = false := decide_eq_false (fun h => hle h.1)
              rw [hdec]
              refine AOps.run (n := 96) [(1, .blk (x.cells)), (3, .blk (s.cells)), (4, .val (.bool false))] [0, 1, 2, 3, 4, 5, 6, 7, 8, 9, 10, 11] [] (cs := [.blk (H.next) (x.cells), .blk (B.next) (s.cells), .some (some (.bool (decide ((x.stop : Int) ≤ (s.pos : Int))))) (.bool false)]) (by kernel_rfl) (by kernel_rfl) (by kernel_rfl) ?_ ?_
              · intro x hx
                simp only [List.mem_cons, List.not_mem_nil, or_false] at hx
                rcases hx with rfl | rfl | rfl
                · exact ⟨56, false, b2⟩
                · exact ⟨79, false, hSx⟩
                · exact congrArg (fun b => some (Value.bool b)) (decide_eq_false (by omega))
              exact ⟨mkE_le [(0, mp p), (3, .pointer (some ⟨B.next, 0, none⟩)), (5, .pointer (some ⟨B1.next, 0, none⟩)), (6, o), (39, .slice (some ⟨yb, 0, none⟩) ys.length yc), (40, .int .i64 ((ys.length : Nat) : Int)), (41, .int .i64 ((k : Nat) : Int)), (8, .pointer (some ⟨H.next, 0, none⟩)), (56, .bool false)] (by kernel_rfl), rfl⟩
          rintro E' Hx' ⟨hE', rfl⟩
          refine AWp.env hE' ?_
          have hgx : Grow p.K H2 Hx' := hg.trans (b1.grow _)
          refine AWp.cond_ (c := .tmp 56) (t := decide (x.stop ≤ s.pos ∧ nd.lo ≤ s.done)) (by kernel_rfl) (by kernel_rfl) (fun hT => ?_) (fun hF => ?_)
          · have hskip := of_decide_eq_true hT
            have ha0 : a1 = [] := by unfold nextD at ha1; rw [if_pos (show x.stop ≤ s.pos ∧ nd.pn.lo ≤ s.done from hskip)] at ha1; cases ha1; rfl
            refine AWp.exit' (id := 1) (by kernel_rfl) ?_
            exact ⟨o, ol, AEnv.le_trans (mkE_le [(0, mp p), (3, .pointer (some ⟨B.next, 0, none⟩)), (5, .pointer (some ⟨B1.next, 0, none⟩)), (6, o), (39, .slice (some ⟨yb, 0, none⟩) ys.length yc), (40, .int .i64 ((ys.length : Nat) : Int)), (41, .int .i64 ((k : Nat) : Int))] (by kernel_rfl)) (AEnv.le_refl _), hgx, hmx.weak (fun i hi => List.mem_cons_of_mem _ hi), by rw [ha0, List.append_nil]; exact ho.keep (fun i _ hi => b1.old i hi)⟩
          · have hgo := of_decide_eq_false hF
            have ha2 : den (ns.map Nd.pn) row n ⟨s.node, nextDone nd.pn s.done, x.stop, x.g⟩ = some a1 := by unfold nextD at ha1; rw [if_neg (show ¬ (x.stop ≤ s.pos ∧ nd.pn.lo ≤ s.done) from hgo)] at ha1; exact ha1
            refine AWp.skip' (by kernel_rfl) ?_
            show AWp _ _ _ _ _
            refine AWp.view [(0, mp p), (3, .pointer (some ⟨B.next, 0, none⟩)), (5, .pointer (some ⟨B1.next, 0, none⟩)), (6, o), (39, .slice (some ⟨yb, 0, none⟩) ys.length yc), (40, .int .i64 ((ys.length : Nat) : Int)), (41, .int .i64 ((k : Nat) : Int)), (8, .pointer (some ⟨H.next, 0, none⟩))] (by kernel_rfl) ?_
            refine AWp.seq' (by kernel_rfl) (AWp.region' (by kernel_rfl) ?_)
            refine AOps.run (n := 96) [(1, .blk (s.cells)), (3, .blk (s.cells)), (4, .val (.int .i64 ((s.done + 1 : Nat) : Int))), (6, .blk (x.cells)), (8, .blk (x.cells))] [0, 1, 2, 3, 4, 5, 6, 7, 8, 9] [10, 11] (cs := [.blk (B.next) (s.cells), .blk (B.next) (s.cells), .some (some (.int .i64 (IntKind.i64.wrap ((s.done : Int) + ((1 : Nat) : Int))))) (.int .i64 ((s.done + 1 : Nat) : Int)), .blk (H.next) (x.cells), .blk (H.next) (x.cells)]) (by kernel_rfl) (by kernel_rfl) (by kernel_rfl) ?_ ?_
            · intro x hx
              simp only [List.mem_cons, List.not_mem_nil, or_false] at hx
              rcases hx with rfl | rfl | rfl | rfl | rfl
              · exact ⟨79, false, hSx⟩
              · exact ⟨79, false, hSx⟩
              · exact congrArg (fun x => some (Value.int .i64 x)) (wrap_add (by unfold far at hdone; omega))
              · exact ⟨56, false, b2⟩
              · exact ⟨56, false, b2⟩
            refine AOps.write (n := 96) 10 [11] (.pointer (some ⟨Hx'.next, 0, none⟩)) (Hx'.push (.cells (List.replicate 23 (.int .i64 0)) 79 false)) (by kernel_rfl) rfl (by kernel_rfl) (by kernel_rfl) (by kernel_rfl) (by kernel_rfl) ?_
            refine AOps.store (n := 96) 11 [] (t := 79) (v := St.val ⟨s.node, s.done + 1, x.stop, x.g⟩) (b := Hx'.next) (off := 0) (vs := List.replicate 23 (.int .i64 0)) (e := 79) (vs2 := St.cells ⟨s.node, s.done + 1, x.stop, x.g⟩) (by kernel_rfl) rfl (by kernel_rfl) (by kernel_rfl) (by kernel_rfl) (AHeap.get_push_new _ _) (by kernel_rfl) (by kernel_rfl) ?_
            show AWp _ _ _ _ _
            obtain ⟨c1, c2, c3⟩ := boxed Hx' (.cells (List.replicate 23 (.int .i64 0)) 79 false) (.cells (St.cells ⟨s.node, s.done + 1, x.stop, x.g⟩) 79 false)
            generalize hHy : (Hx'.push (.cells (List.replicate 23 (.int .i64 0)) 79 false)).set Hx'.next (.cells (St.cells ⟨s.node, s.done + 1, x.stop, x.g⟩) 79 false) = Hy at c1 c2 c3 ⊢
            clear hHy
            have hmy : Memo ns row p.K (Hx'.next :: (ol ++ B1.next :: B.next :: pv)) Hy := (hmx.weak (fun i hi => List.mem_cons_of_mem _ hi)).own c1 (fun i hi => by
              rcases List.mem_cons.1 hi with h | h
              · exact .inr (Nat.le_of_eq h.symm)
              · exact .inl h)
            have hNy := c1.get hNx
            refine AWp.view [(0, mp p), (3, .pointer (some ⟨B.next, 0, none⟩)), (5, .pointer (some ⟨B1.next, 0, none⟩)), (6, o), (39, .slice (some ⟨yb, 0, none⟩) ys.length yc), (40, .int .i64 ((ys.length : Nat) : Int)), (41, .int .i64 ((k : Nat) : Int)), (9, .pointer (some ⟨Hx'.next, 0, none⟩))] (by kernel_rfl) ?_
            refine AWp.mid (by kernel_rfl) (fun E' H' => AEnv.le (envOf 96 (mkE [(0, mp p), (3, .pointer (some ⟨B.next, 0, none⟩)), (5, .pointer (some ⟨B1.next, 0, none⟩)), (6, o), (39, .slice (some ⟨yb, 0, none⟩) ys.length yc), (40, .int .i64 ((ys.length : Nat) : Int)), (41, .int .i64 ((k : Nat) : Int)), (9, .pointer (some ⟨Hx'.next, 0, none⟩))])) E' ∧ Grow p.K H2 H' ∧ Hy.next = H'.next ∧ (∀ i, i ≠ Hx'.next → H'.get i = Hy.get i) ∧ H'.get Hx'.next = some (.cells (St.cells ⟨s.node, nextDone nd.pn s.done, x.stop, x.g⟩) 79 false)) ?_ ?_
            · skip
              refine AWp.seq' (by kernel_rfl) (AWp.region' (by kernel_rfl) ?_)
              refine AOps.run (n := 96) [(1, .blk (nd.cells)), (2, .val (.bool (decide (nd.hi < 0))))] [0, 1, 2] [] (cs := [.blk (B1.next) (nd.cells), .some (some (.bool (decide (nd.hi < 0)))) (.bool (decide (nd.hi < 0)))]) (by kernel_rfl) (by kernel_rfl) (by kernel_rfl) ?_ ?_
              · intro x hx
                simp only [List.mem_cons, List.not_mem_nil, or_false] at hx
                rcases hx with rfl | rfl
                · exact ⟨44, false, hNy⟩
                · rfl
              show AWp _ _ _ _ _
              refine AWp.view [(0, mp p), (3, .pointer (some ⟨B.next, 0, none⟩)), (5, .pointer (some ⟨B1.next, 0, none⟩)), (6, o), (39, .slice (some ⟨yb, 0, none⟩) ys.length yc), (40, .int .i64 ((ys.length : Nat) : Int)), (41, .int .i64 ((k : Nat) : Int)), (9, .pointer (some ⟨Hx'.next, 0, none⟩)), (69, .bool (decide (nd.hi < 0)))] (by kernel_rfl) ?_
              refine AWp.cond_ (c := .tmp 69) (t := decide (nd.hi < 0)) (by kernel_rfl) (by kernel_rfl) (fun hT => ?_) (fun hF => ?_)
              · have hn := of_decide_eq_true hT
                refine AWp.region' (by kernel_rfl) ?_
                refine AOps.run (n := 96) [(1, .blk (St.cells ⟨s.node, s.done + 1, x.stop, x.g⟩)), (3, .blk (nd.cells)), (4, .val (.int .i64 ((min (s.done + 1) nd.lo : Nat) : Int)))] [0, 1, 2, 3, 4, 5] [6] (cs := [.blk (Hx'.next) (St.cells ⟨s.node, s.done + 1, x.stop, x.g⟩), .blk (B1.next) (nd.cells), .some (abuiltin Tryz.prog .min [3, 3] 3 [.int .i64 ((s.done + 1 : Nat) : Int), .int .i64 ((nd.lo : Nat) : Int)]) (.int .i64 ((min (s.done + 1) nd.lo : Nat) : Int))]) (by kernel_rfl) (by kernel_rfl) (by kernel_rfl) ?_ ?_
                · intro x hx
                  simp only [List.mem_cons, List.not_mem_nil, or_false] at hx
                  rcases hx with rfl | rfl | rfl
                  · exact ⟨79, false, c2⟩
                  · exact ⟨44, false, hNy⟩
                  · exact min_ok _ _
                refine AOps.store (n := 96) 6 [] (t := 3) (v := .int .i64 ((min (s.done + 1) nd.lo : Nat) : Int)) (b := Hx'.next) (off := 1) (vs := St.cells ⟨s.node, s.done + 1, x.stop, x.g⟩) (e := 79) (vs2 := St.cells ⟨s.node, min (s.done + 1) nd.lo, x.stop, x.g⟩) (by kernel_rfl) rfl (by kernel_rfl) (by kernel_rfl) (by kernel_rfl) c2 (by kernel_rfl) (by kernel_rfl) ?_
                have hnd1 : nextDone nd.pn s.done = min (s.done + 1) nd.lo := if_pos hn
                refine ⟨mkE_le [(0, mp p), (3, .pointer (some ⟨B.next, 0, none⟩)), (5, .pointer (some ⟨B1.next, 0, none⟩)), (6, o), (39, .slice (some ⟨yb, 0, none⟩) ys.length yc), (40, .int .i64 ((ys.length : Nat) : Int)), (41, .int .i64 ((k : Nat) : Int)), (9, .pointer (some ⟨Hx'.next, 0, none⟩))] (by kernel_rfl), (hgx.trans (c1.grow _)).set (.inl (by omega)) _, rfl, fun i hi => AHeap.get_set_ne hi, ?_⟩
                rw [hnd1]; exact AHeap.get_set_same c2
              · have hn := of_decide_eq_false hF
                refine AWp.skip' (by kernel_rfl) ?_
                have hnd1 : nextDone nd.pn s.done = s.done + 1 := if_neg hn
                refine ⟨mkE_le [(0, mp p), (3, .pointer (some ⟨B.next, 0, none⟩)), (5, .pointer (some ⟨B1.next, 0, none⟩)), (6, o), (39, .slice (some ⟨yb, 0, none⟩) ys.length yc), (40, .int .i64 ((ys.length : Nat) : Int)), (41, .int .i64 ((k : Nat) : Int)), (9, .pointer (some ⟨Hx'.next, 0, none⟩))] (by kernel_rfl), hgx.trans (c1.grow _), rfl, fun i _ => rfl, ?_⟩
                rw [hnd1]; exact c2
            rintro E' Hz ⟨hE', hgz, hzn, hzo, hzx⟩
            refine AWp.env hE' ?_
            have hKx : p.K ≠ Hx'.next := fun e => by have := hmk.lt; omega
            have hmz : Memo ns row p.K (Hx'.next :: (ol ++ B1.next :: B.next :: pv)) Hz := hmy.keep (hzo _ hKx) (fun i b hi hb => by rw [hzo i (fun e => hi (e ▸ List.mem_cons_self ..))]; exact hb)
            have hEz : Eng Hz p ns row := hE2.grow hmm hgz
            have hoz : Own H2.next Hz o acc ol := ho.keep (fun i hi hlt' => by have := ho.lt i hi; rw [hzo i (by omega), c1.old i (by omega), b1.old i (by omega)])
            have hpz : ∀ i ∈ Hx'.next :: (ol ++ B1.next :: B.next :: pv), i < Hz.next := fun i hi => by
              rcases List.mem_cons.1 hi with h | h
              · omega
              · rcases List.mem_append.1 h with h | h
                · have := ho.lt i h; omega
                · have := hpv2 i h; omega
            refine AWp.region' (by kernel_rfl) ?_
            refine AOps.run (n := 96) [(2, .blk (St.cells ⟨s.node, nextDone nd.pn s.done, x.stop, x.g⟩))] [0, 1, 2] [3, 4, 5] (cs := [.blk (Hx'.next) (St.cells ⟨s.node, nextDone nd.pn s.done, x.stop, x.g⟩)]) (by kernel_rfl) (by kernel_rfl) (by kernel_rfl) ?_ ?_
            · intro x hx
              simp only [List.mem_cons, List.not_mem_nil, or_false] at hx
              subst hx
              exact ⟨79, false, hzx⟩
            refine AOps.call (n := 96) 3 [4, 5] 36 [mp p, St.val ⟨s.node, nextDone nd.pn s.done, x.stop, x.g⟩] (by kernel_rfl) rfl (by kernel_rfl) (by kernel_rfl) (by kernel_rfl) (by kernel_rfl) (by kernel_rfl) (hrs p _ Hz ⟨s.node, nextDone nd.pn s.done, x.stop, x.g⟩ a1 hEz hmz hpz ha2) ?_
            rintro e H5 ⟨v5, rfl, hg5, hm5, hr5⟩
            refine ⟨v5, rfl, ?_⟩
            have ho5 : Own H2.next H5 o acc ol := hoz.keep (fun i hi hlt' => hg5.old i hlt' (fun e => by have := ho.lt i hi; have := hmm.lt; omega))
            have hg25 : Grow p.K H2 H5 := hgz.trans hg5
            obtain ⟨v6, H6, o6, d1, d2, d3, d4, d5, d6⟩ := append_own ho5 hr5.rows hlen' hg25.next
            refine AOps.append (n := 96) 4 [5] (t := 51) (tx := 51) (x := o) (y := v5) (v := v6) (H' := H6) (by kernel_rfl) rfl (by kernel_rfl) (by kernel_rfl) (by kernel_rfl) d1 ?_
            refine AOps.run (n := 96) [] [5] [] (cs := []) (by kernel_rfl) (by kernel_rfl) (by kernel_rfl) ?_ ?_
            · intro x hx; cases hx
            have hm6 : Memo ns row p.K (o6 ++ B1.next :: B.next :: pv) H6 := (hm5.weak (fun i hi => List.mem_cons_of_mem _ hi)).app d4 d3 (fun h => by have := ho.lt _ h; have := hmm.lt; omega)
            have hg6 : Grow p.K H2 H6 := ⟨Nat.le_trans hg25.next d5, fun i hi hk => by rw [d4 i (Nat.lt_of_lt_of_le hi hg25.next) (fun h => by have := ho.lt i h; omega)]; exact hg25.old i hi hk, d6.trans hg25.rs⟩
            exact ⟨v6, o6, mkE_le [(0, mp p), (3, .pointer (some ⟨B.next, 0, none⟩)), (5, .pointer (some ⟨B1.next, 0, none⟩)), (6, v6), (39, .slice (some ⟨yb, 0, none⟩) ys.length yc), (40, .int .i64 ((ys.length : Nat) : Int)), (41, .int .i64 ((k : Nat) : Int))] (by kernel_rfl), hg6, hm6, d2⟩
        · rintro E' Hn ⟨o', ol', hE', hg', hm', ho'⟩
          refine AWp.env hE' ?_
          refine AWp.region' (by kernel_rfl) ?_
          refine AOps.run (n := 96) [(0, .val (.int .i64 ((k + 1 : Nat) : Int)))] [0, 1] [] (cs := [.some (some (.int .i64 (IntKind.i64.wrap ((k : Int) + ((1 : Nat) : Int))))) (.int .i64 ((k + 1 : Nat) : Int))]) (by kernel_rfl) (by kernel_rfl) (by kernel_rfl) ?_ ?_
          · intro x hx
            simp only [List.mem_cons, List.not_mem_nil, or_false] at hx
            subst hx
            exact congrArg (fun x => some (Value.int .i64 x)) (wrap_add (by have h8 : ys.length < far := Nat.lt_of_le_of_lt (den_fine _ _ hys).2.2 (by decide); unfold far at h8; omega))
          exact ⟨ys.length - (k + 1), by omega, k + 1, o', acc ++ a1, ol', rfl, hlt, mkE_le [(0, mp p), (3, .pointer (some ⟨B.next, 0, none⟩)), (5, .pointer (some ⟨B1.next, 0, none⟩)), (6, o'), (39, .slice (some ⟨yb, 0, none⟩) ys.length yc), (40, .int .i64 ((ys.length : Nat) : Int)), (41, .int .i64 ((k + 1 : Nat) : Int))] (by kernel_rfl), hg', hm', ho', by rw [List.take_add_one, hx1]; exact hacc'⟩
      · have hge : k = ys.length := by have := of_decide_eq_false hF; omega
        subst hge
        rw [List.take_length, hjoin] at hacc
        cases hacc
        refine AWp.exit' (id := 0) (by kernel_rfl) ?_
        exact ⟨o, _, ol, AEnv.le_trans (mkE_le [(0, mp p), (3, .pointer (some ⟨B.next, 0, none⟩)), (5, .pointer (some ⟨B1.next, 0, none⟩)), (6, o)] (by kernel_rfl)) (AEnv.le_refl _), hgr.trans hg, hmk, ho.low hgr.next, hout⟩
    · have hcnd := of_decide_eq_false hF
      refine AWp.skip' (by kernel_rfl) ?_
      exact ⟨.slice none 0 0, [], [], AEnv.le_trans (mkE_le [(0, mp p), (3, .pointer (some ⟨B.next, 0, none⟩)), (5, .pointer (some ⟨B1.next, 0, none⟩)), (6, .slice none 0 0)] (by kernel_rfl)) (AEnv.le_refl _), Grow.refl _ _, hm2, .inl ⟨rfl, rfl, rfl⟩, by unfold firstD; exact if_neg hcnd⟩
  rintro E' H' ⟨o, out, ol, hE', hg, hmo, ho, hout⟩
  refine AWp.env hE' ?_
  have hll : l = if nd.lo ≤ s.done then out ++ [⟨s.pos, s.g⟩] else out := by rw [hfirst] at hout; cases hout; exact hl2
  have hnK : ∀ {i vs e ro}, H1.get i = some (.cells vs e ro) → i ≠ p.K := fun hi e => by obtain ⟨q1, q2, q3, q4, _⟩ := hm2; rw [e, q4] at hi; cases hi
  have hS3 := hg.get hS1 (hnK hS1)
  have hN3 := hg.get x2 (hnK x2)
  have hgB : Grow p.K B H' := (((Ext.push B _).trans x1).grow _).trans hg
  have fin : ∀ (o2 : Value) (ol2 : List Nat) (H2 : AHeap), Grow p.K B H2 → Memo ns row p.K (ol2 ++ B1.next :: B.next :: pv) H2 → Own H1.next H2 o2 l ol2 → Tells p ns row pv B l (.ret o2) H2 := fun o2 ol2 H2 h1 h2 h3 => by
    refine ⟨o2, rfl, h1, h2.weak (fun i hi => List.mem_append_right _ (List.mem_cons_of_mem _ (List.mem_cons_of_mem _ hi))), ?_⟩
    rcases h3 with ⟨q1, q2, _⟩ | ⟨id, q1, q2, _, q4⟩
    · exact .inl ⟨q1, q2⟩
    · exact .inr ⟨id, _, q1, .inr rfl, q2, fun h => by have := hpv _ h; have := x1.next; simp only [B1, AHeap.push] at this; omega⟩
  refine AWp.mid (by kernel_rfl) (fun E' H' => ∃ (o2 : Value) (ol2 : List Nat), AEnv.le (envOf 96 (mkE [(6, o2)])) E' ∧ Grow p.K B H' ∧ Memo ns row p.K (ol2 ++ B1.next :: B.next :: pv) H' ∧ Own H1.next H' o2 l ol2) ?_ ?_
  · skip
    refine AWp.seq' (by kernel_rfl) (AWp.region' (by kernel_rfl) ?_)
    refine AOps.run (n := 96) [(1, .blk (s.cells)), (3, .blk (nd.cells)), (4, .val (.bool (decide ((s.done : Int) ≥ (nd.lo : Int)))))] [0, 1, 2, 3, 4] [] (cs := [.blk (B.next) (s.cells), .blk (B1.next) (nd.cells), .some (some (.bool (decide ((s.done : Int) ≥ (nd.lo : Int))))) (.bool (decide ((s.done : Int) ≥ (nd.lo : Int))))]) (by kernel_rfl) (by kernel_rfl) (by kernel_rfl) ?_ ?_
    · intro x hx
      simp only [List.mem_cons, List.not_mem_nil, or_false] at hx
      rcases hx with rfl | rfl | rfl
      · exact ⟨79, false, hS3⟩
      · exact ⟨44, false, hN3⟩
      · rfl
    show AWp _ _ _ _ _
    refine AWp.view [(0, mp p), (3, .pointer (some ⟨B.next, 0, none⟩)), (5, .pointer (some ⟨B1.next, 0, none⟩)), (6, o), (86, .bool (decide ((s.done : Int) ≥ (nd.lo : Int))))] (by kernel_rfl) ?_
    refine AWp.cond_ (c := .tmp 86) (t := decide ((s.done : Int) ≥ (nd.lo : Int))) (by kernel_rfl) (by kernel_rfl) (fun hT => ?_) (fun hF => ?_)
    · have hge : nd.lo ≤ s.done := by have := of_decide_eq_true hT; omega
      rw [if_pos hge] at hll
      refine AWp.region' (by kernel_rfl) ?_
      refine AOps.run (n := 96) [(2, .blk (s.cells)), (4, .blk (s.cells))] [0, 1, 2, 3, 4, 5] [6, 7, 8] (cs := [.blk (B.next) (s.cells), .blk (B.next) (s.cells)]) (by kernel_rfl) (by kernel_rfl) (by kernel_rfl) ?_ ?_
      · intro x hx
        simp only [List.mem_cons, List.not_mem_nil, or_false] at hx
        rcases hx with rfl | rfl
        · exact ⟨79, false, hS3⟩
        · exact ⟨79, false, hS3⟩
      refine AOps.write (n := 96) 6 [7, 8] (.slice (some ⟨H'.next, 0, none⟩) 1 1) (H'.push (.cells (Res.cells ⟨s.pos, s.g⟩) 56 false)) (by kernel_rfl) rfl (by kernel_rfl) (by kernel_rfl) (by kernel_rfl) (by kernel_rfl) ?_
      have hlen2 : out.length + 1 < far := by rw [hll] at hlong2; simpa using hlong2
      obtain ⟨v6, H6, o6, d1, d2, d3, d4, d5, d6⟩ := append_own (b := H1.next) (H := H'.push (.cells (Res.cells ⟨s.pos, s.g⟩) 56 false)) (ys := [⟨s.pos, s.g⟩]) (y := .slice (some ⟨H'.next, 0, none⟩) 1 1) (ho.keep fun i _ hi => (Ext.push _ _).old i hi) (.inr ⟨H'.next, 1, rfl, .inl rfl, by rw [AHeap.get_push_new]; simp [Res.cells]⟩) hlen2 (Nat.le_succ_of_le hg.next)
      refine AOps.append (n := 96) 7 [8] (t := 51) (tx := 51) (x := o) (y := .slice (some ⟨H'.next, 0, none⟩) 1 1) (v := v6) (H' := H6) (by kernel_rfl) rfl (by kernel_rfl) (by kernel_rfl) (by kernel_rfl) d1 ?_
      refine AOps.run (n := 96) [] [8] [] (cs := []) (by kernel_rfl) (by kernel_rfl) (by kernel_rfl) ?_ ?_
      · intro x hx; cases hx
      have hmq : Memo ns row p.K (ol ++ B1.next :: B.next :: pv) (H'.push (.cells (Res.cells ⟨s.pos, s.g⟩) 56 false)) := hmo.ext (Ext.push _ _)
      have hm6 : Memo ns row p.K (o6 ++ B1.next :: B.next :: pv) H6 := hmq.app d4 d3 (fun h => by have := ho.lt _ h; have := hm2.lt; omega)
      have hgB1 : B.next ≤ H1.next := Nat.le_trans (Nat.le_succ _) x1.next
      exact ⟨v6, o6, mkE_le [(6, v6)] (by kernel_rfl), ⟨Nat.le_trans hgB.next (Nat.le_trans (Nat.le_succ _) d5), fun i hi hk => by rw [d4 i (Nat.lt_succ_of_lt (Nat.lt_of_lt_of_le hi hgB.next)) (fun h => by have := ho.lt i h; omega), (Ext.push H' _).old i (Nat.lt_of_lt_of_le hi hgB.next)]; exact hgB.old i hi hk, d6.trans hgB.rs⟩, hm6, by rw [hll]; exact d2⟩
    · have hlt : ¬ nd.lo ≤ s.done := by have := of_decide_eq_false hF; omega
      rw [if_neg hlt] at hll
      refine AWp.skip' (by kernel_rfl) ?_
      exact ⟨o, ol, mkE_le [(6, o)] (by kernel_rfl), hgB, hmo, by rw [hll]; exact ho⟩
  rintro E' H2 ⟨o2, ol2, hE', h1, h2, h3⟩
  refine AWp.env hE' ?_
  refine AWp.seq' (by kernel_rfl) (AWp.region' (by kernel_rfl) ?_)
  refine AOps.run (n := 96) [] [0, 1] [] (cs := []) (by kernel_rfl) (by kernel_rfl) (by kernel_rfl) ?_ ?_
  · intro x hx; cases hx
  show AWp _ _ _ _ _
  refine AWp.view [(4, o2)] (by kernel_rfl) ?_
  exact AWp.ret' (by kernel_rfl) ⟨[o2], by kernel_rfl, fin o2 ol2 H2 h1 h2 h3⟩
end Go.Proofs.YtihpfgnigpmihaaGreat
