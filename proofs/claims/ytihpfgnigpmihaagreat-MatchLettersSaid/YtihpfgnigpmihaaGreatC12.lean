/- match.results. -/
import Derived.Test.YtihpfgnigpmihaaGreatC11
set_option linter.unusedVariables false
set_option linter.unusedSimpArgs false
set_option maxRecDepth 100000
namespace Go.Proofs.YtihpfgnigpmihaaGreat
open Go

theorem st_inj {s t : St} (h : s.val = t.val) : s = t := by
  have h1 := key_st_dec s t
  rw [h, key_st_dec t t] at h1
  simpa using h1
theorem same_st (s : St) : Instr.sameBits 10000 s.val s.val = true := by
  simp [Instr.sameBits, St.val, St.cells, spans]
/-- The kinds that are served, and their functions. -/
def kindF (k : Nat) : Option Nat := if k = 1 then some 25 else if k = 4 then some 28 else if k = 5 then some 29 else if k = 11 then some 30 else if k = 8 then some 33 else if k = 10 then some 35 else none
theorem kindF_cases {k g : Nat} (h : kindF k = some g) : (k = 1 ∧ g = 25) ∨ (k = 4 ∧ g = 28) ∨ (k = 5 ∧ g = 29) ∨ (k = 11 ∧ g = 30) ∨ (k = 8 ∧ g = 33) ∨ (k = 10 ∧ g = 35) := by
  unfold kindF at h
  split at h
  · cases h; exact .inl ⟨by assumption, rfl⟩
  split at h
  · cases h; exact .inr (.inl ⟨by assumption, rfl⟩)
  split at h
  · cases h; exact .inr (.inr (.inl ⟨by assumption, rfl⟩))
  split at h
  · cases h; exact .inr (.inr (.inr (.inl ⟨by assumption, rfl⟩)))
  split at h
  · cases h; exact .inr (.inr (.inr (.inr (.inl ⟨by assumption, rfl⟩))))
  split at h
  · cases h; exact .inr (.inr (.inr (.inr (.inr ⟨by assumption, rfl⟩))))
  cases h
theorem mt75 : mapT Tryz.prog 75 = some (5, 73) := by kernel_rfl
theorem ask_enters {k g : Nat} (h : kindF k = some g) : enters Tryz.prog g = true := by
  rcases kindF_cases h with ⟨_, rfl⟩ | ⟨_, rfl⟩ | ⟨_, rfl⟩ | ⟨_, rfl⟩ | ⟨_, rfl⟩ | ⟨_, rfl⟩ <;> kernel_rfl
def askLook (P : Program) (k : Int) : Option Value :=
  if keyFits P 5 (.int .u8 k) = true ∧ runPure P (Instr.checkKey (askEntries.isEmpty) 10000 5 (.int .u8 k)) = some () then
    match findAt P 5 (.int .u8 k) askEntries 0 with
    | none => none
    | some (some i) => match askEntries[i]? with
      | some e => some e.val
      | none => none
    | some none => none
  else none
theorem ask_look {H : AHeap} {F : Nat} (hF : ∃ ck, H.get F = some (.map askEntries ck)) {k g : Nat} (h : kindF k = some g) : alookup Tryz.prog H 75 (.map (some F)) (.int .u8 (k : Int)) false = some (.func (.func g) #[] #[]) := by
  obtain ⟨ck, hF⟩ := hF
  have key : askLook Tryz.prog (k : Int) = some (.func (.func g) #[] #[]) := by
    rcases kindF_cases h with ⟨rfl, rfl⟩ | ⟨rfl, rfl⟩ | ⟨rfl, rfl⟩ | ⟨rfl, rfl⟩ | ⟨rfl, rfl⟩ | ⟨rfl, rfl⟩ <;> kernel_rfl
  unfold askLook at key
  unfold alookup
  simp only [mt75, hF]
  split at key
  · rename_i hc
    rw [if_pos hc]
    split at key
    · cases key
    · rename_i i hi
      rw [hi]
      simp only
      split at key
      · rename_i e he
        rw [he]; simpa using key
      · cases key
    · cases key
  · cases key

theorem memo_put {ns : List Nd} {row : List Int} {K : Nat} {pv : List Nat} {H : AHeap} (hm : Memo ns row K pv H) {v : Value} {rs : List Res} (hr : RowsP pv H v rs) {n : Nat} {s : St} (hd : den (ns.map Nd.pn) row n s = some rs) :
    ∃ es ck, amapUpdate Tryz.prog H 72 (.map (some K)) s.val v = some (H.set K (.map es ck)) ∧ Memo ns row K pv (H.set K (.map es ck)) := by
  obtain ⟨es, ck, ks, hK, hks, hes⟩ := hm
  have hm72 : mapT Tryz.prog 72 = some (79, 51) := by kernel_rfl
  have hlen : es.length = ks.length := by simpa using congrArg List.length hks
  have keep : ∀ (es' : List MapEntry) (ck' : Nat) (w : Value) (ls : List Res), RowsP pv H w ls → RowsP pv (H.set K (.map es' ck')) w ls := fun es' ck' w ls h => h.keep fun i b _ hb => by
    rw [AHeap.get_set_ne (fun e => by rw [e, hK] at hb; cases hb)]; exact hb
  have hf : findIn Tryz.prog 79 s.val es = some (if s ∈ ks then some (ks.idxOf s) else none) := by
    unfold findIn
    rw [if_pos ⟨fits_st s, check_st s false⟩, findAt_key keySt s es ks 0 hks]
    simp
  by_cases hs : s ∈ ks
  · have hl : ks.idxOf s < es.length := by rw [hlen]; exact List.idxOf_lt_length_of_mem hs
    obtain ⟨e, he⟩ : ∃ e, es[ks.idxOf s]? = some e := ⟨_, List.getElem?_eq_getElem hl⟩
    have hkey : e.key = s.val := by
      have := congrArg (fun l => l[ks.idxOf s]?) hks
      simp only [List.getElem?_map, he, Option.map_some, List.getElem?_eq_getElem (List.idxOf_lt_length_of_mem hs), Option.some.injEq, List.getElem_idxOf] at this
      exact this
    refine ⟨es.set (ks.idxOf s) { e with key := s.val, val := v }, ck, ?_, es.set (ks.idxOf s) { e with key := s.val, val := v }, ck, ks, AHeap.get_set_same hK, ?_, fun e' he' => ?_⟩
    · unfold amapUpdate
      simp only [hm72, hK, aput, hf, hs, if_true, he, hkey, same_st]
    · rw [← hks]
      refine List.ext_getElem? fun i => ?_
      rw [List.getElem?_map, List.getElem?_map, List.getElem?_set]
      split
      · rename_i hi; rw [← hi, he]; simp [hkey]
      · rfl
    · rcases List.mem_or_eq_of_mem_set he' with h | h
      · obtain ⟨s1, rs1, n1, a, b, c⟩ := hes e' h
        exact ⟨s1, rs1, n1, a, b, keep _ _ _ _ c⟩
      · subst h; exact ⟨s, rs, n, rfl, hd, keep _ _ _ _ hr⟩
  · refine ⟨es ++ [⟨s.val, v, ck⟩], ck + 1, ?_, es ++ [⟨s.val, v, ck⟩], ck + 1, ks ++ [s], AHeap.get_set_same hK, by simp [hks], fun e' he' => ?_⟩
    · unfold amapUpdate
      simp only [hm72, hK, aput, hf, hs, if_false]
    · rcases List.mem_append.1 he' with h | h
      · obtain ⟨s1, rs1, n1, a, b, c⟩ := hes e' h
        exact ⟨s1, rs1, n1, a, b, keep _ _ _ _ c⟩
      · cases List.mem_singleton.1 h; exact ⟨s, rs, n, rfl, hd, keep _ _ _ _ hr⟩

/-- The kinds' functions, by the fuel n. -/
def AskSpec (ns : List Nd) (row : List Int) (n : Nat) : Prop := ∀ (p : Pl) (pv : List Nat) (B : AHeap) (s : St) (l : List Res) (nd : Nd) (g : Nat), Eng B p ns row → Memo ns row p.K pv B → (∀ i ∈ pv, i < B.next) →
  s.done < far → s.pos < far → ns[s.node]? = some nd → kindF nd.kind = some g → askD (den (ns.map Nd.pn) row n) (ns.map Nd.pn) row s = some l → l.length < far → ACall Tryz.prog g [mp p, s.val] B (Tells p ns row pv B l)
theorem ask_kind {f : St → Option (List Res)} {ns : List Nd} {row : List Int} {s : St} {l : List Res} (h : askD f (ns.map Nd.pn) row s = some l) : ∃ nd g, ns[s.node]? = some nd ∧ kindF nd.kind = some g := by
  unfold askD at h
  split at h
  · cases h
  · rename_i pn hpn
    rw [List.getElem?_map] at hpn
    cases hn : ns[s.node]? with
    | none => rw [hn] at hpn; cases hpn
    | some nd =>
      rw [hn] at hpn
      cases hpn
      have h : (if nd.kind = 1 then some (if row[s.pos]? = some nd.cell then [⟨s.pos + 1, s.g⟩] else []) else if nd.kind = 4 then some (if s.pos = 0 then [⟨s.pos, s.g⟩] else []) else if nd.kind = 5 then some (if s.pos = row.length then [⟨s.pos, s.g⟩] else [])
        else if nd.kind = 11 then some [⟨s.pos, s.g⟩] else if nd.kind = 8 then tellD f nd.kl ⟨s.pos, s.g⟩ else if nd.kind = 10 then timesD f nd.pn s else none) = some l := h
      refine ⟨nd, ?_⟩
      unfold kindF
      by_cases h1 : nd.kind = 1; · exact ⟨25, rfl, if_pos h1⟩
      rw [if_neg h1] at h ⊢
      by_cases h4 : nd.kind = 4; · exact ⟨28, rfl, if_pos h4⟩
      rw [if_neg h4] at h ⊢
      by_cases h5 : nd.kind = 5; · exact ⟨29, rfl, if_pos h5⟩
      rw [if_neg h5] at h ⊢
      by_cases h11 : nd.kind = 11; · exact ⟨30, rfl, if_pos h11⟩
      rw [if_neg h11] at h ⊢
      by_cases h8 : nd.kind = 8; · exact ⟨33, rfl, if_pos h8⟩
      rw [if_neg h8] at h ⊢
      by_cases h10 : nd.kind = 10; · exact ⟨35, rfl, if_pos h10⟩
      rw [if_neg h10] at h
      cases h

theorem res_step {ns : List Nd} {row : List Int} {n : Nat} (hask : AskSpec ns row n) : ResSpec ns row (n + 1) := by
  intro p pv B s rs hE hm hpv hd
  have hd' := hd
  rw [den] at hd'
  split at hd'
  case isFalse => cases hd'
  rename_i hc
  obtain ⟨l, hl, hd'⟩ := bindO_some hd'
  unfold orderedD at hd'
  split at hd'
  case isFalse => cases hd'
  rename_i hlf
  obtain ⟨hlen, hfine⟩ := hlf
  cases hd'
  obtain ⟨nd, g, hnd, hg⟩ := ask_kind hl
  have hil : s.node < ns.length := (List.getElem?_eq_some_iff.1 hnd).1
  let mc := matCells (.slice (some ⟨p.N, 0, none⟩) ns.length p.nc) p.groups (.slice p.ra row.length p.rc) p.K p.F
  let B1 := B.push (.cells s.cells 79 false)
  have hM : B1.get p.M = some (.cells mc 77 false) := AHeap.get_push_old hE.mat
  have hS : B1.get B.next = some (.cells s.cells 79 false) := AHeap.get_push_new _ _
  have hN : B1.get p.N = some (.cells (nodeCells ns) 44 false) := AHeap.get_push_old hE.nodes
  have hF : ∃ ck, B1.get p.F = some (.map askEntries ck) := by obtain ⟨ck, h⟩ := hE.funs; exact ⟨ck, AHeap.get_push_old h⟩
  have hm1 : Memo ns row p.K (B.next :: pv) B1 := hm.push _
  have hpv1 : ∀ i ∈ B.next :: pv, i < B1.next := fun i hi => by
    rcases List.mem_cons.1 hi with h | h
    · subst h; exact Nat.lt_succ_self _
    · exact Nat.lt_succ_of_lt (hpv i h)
  obtain ⟨es, ck, ks, hK, hks, hes⟩ := hm1
  have hm1 : Memo ns row p.K (B.next :: pv) B1 := ⟨es, ck, ks, hK, hks, hes⟩
  refine ACall.walk (fn := Tryz.f36) (c := bodyOf Tryz.prog 36) (by kernel_rfl) (by kernel_rfl) (by kernel_rfl) ?_
  refine AWp.seq' (by kernel_rfl) (AWp.region' (by kernel_rfl) ?_)
  refine AOps.write (n := 45) 0 [1] (.pointer (some ⟨B.next, 0, none⟩)) (B1) (by kernel_rfl) rfl (by kernel_rfl) (by kernel_rfl) (by kernel_rfl) (by kernel_rfl) ?_
  refine AOps.run (n := 45) [] [1] [] (cs := []) (by kernel_rfl) (by kernel_rfl) (by kernel_rfl) ?_ ?_
  · intro x hx; cases hx
  show AWp _ _ _ _ _
  refine AWp.view [(0, mp p), (3, .pointer (some ⟨B.next, 0, none⟩)), (4, .slice none 0 0)] (by kernel_rfl) ?_
  refine AWp.seq' (by kernel_rfl) ?_
  by_cases hin : s ∈ ks
  · obtain ⟨e, he1, he2, he3⟩ := memo_hit hK hks hin
    obtain ⟨s', rs', n', e1, e2, e3⟩ := hes e he1
    have hss : s = s' := st_inj (he2.symm.trans e1)
    subst hss
    have hrr : rs' = once [] l := den_det _ _ e2 hd
    rw [hrr] at e2 e3
    refine AWp.seq' (by kernel_rfl) (AWp.draw' mixed (.leaf [0, 1, 2, 3, 4, 5, 6, 7, 8, 9, 10]) (by kernel_rfl) (by kernel_rfl) ⟨by kernel_rfl, ?_⟩)
    have hkp : keeps B1 (opsOf (fst (fst (snd (bodyOf Tryz.prog 36))))).toList = B1 := by kernel_rfl
    rw [hkp]
    refine AOps.run (n := 45) [(3, .blk (mc)), (4, .blk (s.cells)), (5, .raw (.tuple #[e.val, .bool true]))] [0, 1, 2, 3, 4, 5, 6, 7, 8, 9, 10] [] (cs := [.blk (p.M) (mc), .blk (B.next) (s.cells), .look 72 (.map (some p.K)) s.val true (.tuple #[e.val, .bool true])]) (by kernel_rfl) (by kernel_rfl) (by kernel_rfl) ?_ ?_
    · intro x hx
      simp only [List.mem_cons, List.not_mem_nil, or_false] at hx
      rcases hx with rfl | rfl | rfl
      · exact ⟨77, false, hM⟩
      · exact ⟨79, false, hS⟩
      · exact he3
    show AWp _ _ _ _ _
    refine AWp.view [(0, mp p), (3, .pointer (some ⟨B.next, 0, none⟩)), (5, e.val), (6, .bool true)] (by kernel_rfl) ?_
    refine AWp.seq' (by kernel_rfl) (AWp.region' (by kernel_rfl) ?_)
    refine AOps.run (n := 45) [] [0] [] (cs := []) (by kernel_rfl) (by kernel_rfl) (by kernel_rfl) ?_ ?_
    · intro x hx; cases hx
    show AWp _ _ _ _ _
    refine AWp.view [(5, e.val), (17, .bool true)] (by kernel_rfl) ?_
    refine AWp.condT (c := .tmp 17) (by kernel_rfl) (by kernel_rfl) ?_
    refine AWp.seq' (by kernel_rfl) (AWp.region' (by kernel_rfl) ?_)
    refine AOps.run (n := 45) [] [0, 1] [] (cs := []) (by kernel_rfl) (by kernel_rfl) (by kernel_rfl) ?_ ?_
    · intro x hx; cases hx
    show AWp _ _ _ _ _
    refine AWp.view [(4, e.val)] (by kernel_rfl) ?_
    exact AWp.ret' (by kernel_rfl) ⟨[e.val], by kernel_rfl, e.val, rfl, (Ext.push _ _).grow _, hm1.weak (fun i hi => List.mem_cons_of_mem _ hi), e3.weak (fun i hi => List.mem_cons_of_mem _ hi)⟩
  · have hmiss := memo_miss hK hks hin
    refine AWp.seq' (by kernel_rfl) (AWp.draw' mixed (.leaf [0, 1, 2, 3, 4, 5, 6, 7, 8, 9, 10]) (by kernel_rfl) (by kernel_rfl) ⟨by kernel_rfl, ?_⟩)
    have hkp : keeps B1 (opsOf (fst (fst (snd (bodyOf Tryz.prog 36))))).toList = B1 := by kernel_rfl
    rw [hkp]
    refine AOps.run (n := 45) [(3, .blk (mc)), (4, .blk (s.cells)), (5, .raw (.tuple #[.slice none 0 0, .bool false]))] [0, 1, 2, 3, 4, 5, 6, 7, 8, 9, 10] [] (cs := [.blk (p.M) (mc), .blk (B.next) (s.cells), .look 72 (.map (some p.K)) s.val true (.tuple #[.slice none 0 0, .bool false])]) (by kernel_rfl) (by kernel_rfl) (by kernel_rfl) ?_ ?_
    · intro x hx
      simp only [List.mem_cons, List.not_mem_nil, or_false] at hx
      rcases hx with rfl | rfl | rfl
      · exact ⟨77, false, hM⟩
      · exact ⟨79, false, hS⟩
      · exact hmiss
    show AWp _ _ _ _ _
    refine AWp.view [(0, mp p), (3, .pointer (some ⟨B.next, 0, none⟩)), (6, .bool false)] (by kernel_rfl) ?_
    refine AWp.seq' (by kernel_rfl) (AWp.region' (by kernel_rfl) ?_)
    refine AOps.run (n := 45) [] [0] [] (cs := []) (by kernel_rfl) (by kernel_rfl) (by kernel_rfl) ?_ ?_
    · intro x hx; cases hx
    show AWp _ _ _ _ _
    refine AWp.view [(0, mp p), (3, .pointer (some ⟨B.next, 0, none⟩)), (17, .bool false)] (by kernel_rfl) ?_
    refine AWp.condF (c := .tmp 17) (by kernel_rfl) (by kernel_rfl) ?_
    refine AWp.skip' (by kernel_rfl) ?_
    show AWp _ _ _ _ _
    refine AWp.seq' (by kernel_rfl) (AWp.draw' mixed (.leaf [0, 1, 2, 3, 4, 5, 6, 7, 8, 9, 10, 11, 12, 13, 14, 15, 16, 17, 18, 19]) (by kernel_rfl) (by kernel_rfl) ⟨by kernel_rfl, ?_⟩)
    have hkq : keeps (B1) (opsOf (fst (snd (snd (bodyOf Tryz.prog 36))))).toList = B1 := by kernel_rfl
    rw [hkq]
    clear hkq
    refine AOps.run (n := 45) [(3, .blk (mc)), (8, .blk (mc)), (10, .blk (s.cells)), (11, .val (.pointer (some ⟨p.N, 0 + s.node * 9, none⟩))), (13, .part (nodeCells ns) (.int .u8 (nd.kind : Int))), (14, .raw (.func (.func g) #[] #[])), (16, .blk (s.cells))] [0, 1, 2, 3, 4, 5, 6, 7, 8, 9, 10, 11, 12, 13, 14, 15, 16] [17, 18, 19] (cs := [.blk (p.M) (mc), .blk (p.M) (mc), .blk (B.next) (s.cells), .some (aindexAddr Tryz.prog 29 (.slice (some ⟨p.N, 0, none⟩) ns.length p.nc) (.int .i64 (s.node : Int))) (.pointer (some ⟨p.N, 0 + s.node * 9, none⟩)), .blk (p.N) (nodeCells ns), .some (apart' (nodeCells ns) (0 + s.node * 9 + 0) 1 false) (.int .u8 (nd.kind : Int)), .look 75 (.map (some p.F)) (.int .u8 (nd.kind : Int)) false (.func (.func g) #[] #[]), .blk (B.next) (s.cells)]) (by kernel_rfl) (by kernel_rfl) (by kernel_rfl) ?_ ?_
    · intro x hx
      simp only [List.mem_cons, List.not_mem_nil, or_false] at hx
      rcases hx with rfl | rfl | rfl | rfl | rfl | rfl | rfl | rfl
      · exact ⟨77, false, hM⟩
      · exact ⟨77, false, hM⟩
      · exact ⟨79, false, hS⟩
      · exact indexAddr_ok (by kernel_rfl : sliceT Tryz.prog 29 = some (44, 9, 112)) hil
      · exact ⟨44, false, hN⟩
      · exact apart_one (node_cell hnd (by decide))
      · exact ask_look hF hg
      · exact ⟨79, false, hS⟩
    have hcall := hask p (B.next :: pv) B1 s l nd g (hE.ext (Ext.push _ _)) hm1 hpv1 hc.1 hc.2 hnd hg hl hlen
    refine AOps.call (n := 45) 17 [18, 19] g [mp p, s.val] (by kernel_rfl) rfl (by kernel_rfl) (by kernel_rfl) (by kernel_rfl) (by kernel_rfl) (ask_enters hg) hcall ?_
    rintro e H2 ⟨v, rfl, hgr, hm2, hr2⟩
    refine ⟨v, rfl, ?_⟩
    refine AOps.call (n := 45) 18 [19] 54 [v] (by kernel_rfl) rfl (by kernel_rfl) (by kernel_rfl) (by kernel_rfl) (by kernel_rfl) (by kernel_rfl) (ordered_spec hr2.rows hlen hfine) ?_
    rintro e H3 ⟨v', rfl, hx3, hr3, hnew⟩
    refine ⟨v', rfl, ?_⟩
    refine AOps.run (n := 45) [] [19] [] (cs := []) (by kernel_rfl) (by kernel_rfl) (by kernel_rfl) ?_ ?_
    · intro x hx; cases hx
    show AWp _ _ _ _ _
    refine AWp.view [(0, mp p), (3, .pointer (some ⟨B.next, 0, none⟩)), (7, v')] (by kernel_rfl) ?_
    have hKn : p.K ≠ B.next := fun e => by have := hm.lt; omega
    have hg3 : Grow p.K B1 H3 := hgr.trans (hx3.grow _)
    have hmK : p.M ≠ p.K := fun e => by rw [e, hK] at hM; cases hM
    have hM3 := hg3.get hM hmK
    have hS3 := hg3.get hS (Ne.symm hKn)
    have hr3' : RowsP (B.next :: pv) H3 v' (once [] l) := by
      rcases hr3 with hr3 | ⟨id, c, q1, q2, q3⟩
      · exact .inl hr3
      · refine .inr ⟨id, c, q1, q2, q3, fun h => ?_⟩
        have h1 := hnew _ _ _ q1; have h2 := hpv1 _ h; have h3 := hgr.next; simp only at h1; omega
    obtain ⟨es', ck', hup, hm4⟩ := memo_put (hm2.ext hx3) hr3' hd
    have hKlt : p.K < H3.next := (hm2.ext hx3).lt
    refine AWp.seq' (by kernel_rfl) (AWp.draw' mixed (.leaf [0, 1, 2, 3, 4, 5, 6]) (by kernel_rfl) (by kernel_rfl) ⟨by kernel_rfl, ?_⟩)
    have hkr : keeps H3 (opsOf (fst (snd (snd (snd (bodyOf Tryz.prog 36)))))).toList = H3 := by kernel_rfl
    rw [hkr]
    refine AOps.run (n := 45) [(3, .blk (mc)), (4, .blk (s.cells))] [0, 1, 2, 3, 4, 5] [6] (cs := [.blk (p.M) (mc), .blk (B.next) (s.cells)]) (by kernel_rfl) (by kernel_rfl) (by kernel_rfl) ?_ ?_
    · intro x hx
      simp only [List.mem_cons, List.not_mem_nil, or_false] at hx
      rcases hx with rfl | rfl
      · exact ⟨77, false, hM3⟩
      · exact ⟨79, false, hS3⟩
    refine AOps.mapUpdate (n := 45) 6 [] (t := 72) (m := .map (some p.K)) (k := s.val) (x := v') (H' := H3.set p.K (.map es' ck')) (by kernel_rfl) rfl (by kernel_rfl) (by kernel_rfl) (by kernel_rfl) hup ?_
    show AWp _ _ _ _ _
    refine AWp.view [(7, v')] (by kernel_rfl) ?_
    refine AWp.seq' (by kernel_rfl) (AWp.region' (by kernel_rfl) ?_)
    refine AOps.run (n := 45) [] [0, 1] [] (cs := []) (by kernel_rfl) (by kernel_rfl) (by kernel_rfl) ?_ ?_
    · intro x hx; cases hx
    show AWp _ _ _ _ _
    refine AWp.view [(4, v')] (by kernel_rfl) ?_
    have hgB : Grow p.K B (H3.set p.K (.map es' ck')) := (((Ext.push B _).grow _).trans hg3).set (.inr rfl) _
    exact AWp.ret' (by kernel_rfl) ⟨[v'], by kernel_rfl, v', rfl, hgB, hm4.weak (fun i hi => List.mem_cons_of_mem _ hi), (hr3'.weak (fun i hi => List.mem_cons_of_mem _ hi)).keep (fun i b _ hb => by rw [AHeap.get_set_ne (fun e => by rw [e] at hb; obtain ⟨q1, q2, q3, q4, _⟩ := hm2.ext hx3; rw [q4] at hb; cases hb)]; exact hb)⟩
end Go.Proofs.YtihpfgnigpmihaaGreat
