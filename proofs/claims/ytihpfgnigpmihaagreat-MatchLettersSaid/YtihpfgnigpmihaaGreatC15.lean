/- All kinds; match.from. -/
import Derived.Test.YtihpfgnigpmihaaGreatC14
set_option linter.unusedVariables false
set_option linter.unusedSimpArgs false
set_option maxRecDepth 100000
namespace Go.Proofs.YtihpfgnigpmihaaGreat
open Go

theorem empty_spec (m : Value) (s : St) (hp : s.pos < far) (B : AHeap) : ACall Tryz.prog 30 [m, s.val] B fun e B' =>
    ∃ v, e = .ret v ∧ Ext B B' ∧ Rows B' v [⟨s.pos, s.g⟩] ∧ ∀ a n c, v = .slice (some a) n c → B.next ≤ a.block := by
  refine ACall.walk (fn := Tryz.f30) (c := bodyOf Tryz.prog 30) (by kernel_rfl) (by kernel_rfl) (by kernel_rfl) ?_
  refine AWp.seq' (by kernel_rfl) (AWp.region' (by kernel_rfl) ?_)
  refine AOps.write (n := 7) 0 [1] (.pointer (some ⟨B.next, 0, none⟩)) (B.push (.cells s.cells 79 false)) (by kernel_rfl) rfl (by kernel_rfl) (by kernel_rfl) (by kernel_rfl) (by kernel_rfl) ?_
  refine AOps.run (n := 7) [] [1] [] (cs := []) (by kernel_rfl) (by kernel_rfl) (by kernel_rfl) ?_ ?_
  · intro x hx; cases hx
  show AWp _ _ _ _ _
  refine AWp.view [(3, .pointer (some ⟨B.next, 0, none⟩))] (by kernel_rfl) ?_
  refine AWp.seq' (by kernel_rfl) (AWp.region' (by kernel_rfl) ?_)
  refine AOps.run (n := 7) [(0, .blk (s.cells))] [0] [1, 2] (cs := [.blk (B.next) (s.cells)]) (by kernel_rfl) (by kernel_rfl) (by kernel_rfl) ?_ ?_
  · intro x hx
    simp only [List.mem_cons, List.not_mem_nil, or_false] at hx
    subst hx
    exact ⟨79, false, AHeap.get_push_new _ _⟩
  refine AOps.call (n := 7) 1 [2] 49 [s.val, .int .i64 0, .bool true] (by kernel_rfl) rfl (by kernel_rfl) (by kernel_rfl) (by kernel_rfl) (by kernel_rfl) (by kernel_rfl) (here_spec s 0 true (by unfold far at hp; omega) _) ?_
  rintro e B' ⟨v, rfl, hx, hr, hn⟩
  refine ⟨v, rfl, ?_⟩
  refine AOps.run (n := 7) [] [2] [] (cs := []) (by kernel_rfl) (by kernel_rfl) (by kernel_rfl) ?_ ?_
  · intro x hx; cases hx
  show AWp _ _ _ _ _
  refine AWp.view [(4, v)] (by kernel_rfl) ?_
  exact AWp.ret' (by kernel_rfl) ⟨[v], by kernel_rfl, v, rfl, (Ext.push _ _).trans hx, hr, fun a n c e => by have := hn a n c e; simp only [AHeap.push] at this; omega⟩

theorem ask_all {ns : List Nd} {row : List Int} {n : Nat} (hrs : ResSpec ns row n) : ∀ (p : Pl) (pv : List Nat) (B : AHeap) (s : St) (l : List Res) (nd : Nd) (g : Nat), Eng B p ns row → Memo ns row p.K pv B → (∀ i ∈ pv, i < B.next) →
    s.done < far → s.pos < far → ns[s.node]? = some nd → kindF nd.kind = some g → askD (den (ns.map Nd.pn) row n) (ns.map Nd.pn) row s = some l → l.length < far → ACall Tryz.prog g [mp p, s.val] B (Tells p ns row pv B l) := by
  intro p pv B s l nd g hE hm hpv hdone hpos hnd hg hl hlong
  unfold askD at hl
  rw [List.getElem?_map, hnd] at hl
  have hl : (if nd.kind = 1 then some (if row[s.pos]? = some nd.cell then [⟨s.pos + 1, s.g⟩] else []) else if nd.kind = 4 then some (if s.pos = 0 then [⟨s.pos, s.g⟩] else []) else if nd.kind = 5 then some (if s.pos = row.length then [⟨s.pos, s.g⟩] else [])
        else if nd.kind = 11 then some [⟨s.pos, s.g⟩] else if nd.kind = 8 then tellD (den (ns.map Nd.pn) row n) nd.kl ⟨s.pos, s.g⟩ else if nd.kind = 10 then timesD (den (ns.map Nd.pn) row n) nd.pn s else none) = some l := hl
  rcases kindF_cases hg with ⟨hk, rfl⟩ | ⟨hk, rfl⟩ | ⟨hk, rfl⟩ | ⟨hk, rfl⟩ | ⟨hk, rfl⟩ | ⟨hk, rfl⟩
  · rw [if_pos hk] at hl
    cases hl
    exact tells_ext hm hpv (one_spec hE (d := s.done) (g := s.g) hpos hnd)
  · rw [if_neg (by omega), if_pos hk] at hl
    cases hl
    exact tells_ext hm hpv (begin_spec _ s hpos B)
  · rw [if_neg (by omega), if_neg (by omega), if_pos hk] at hl
    cases hl
    exact tells_ext hm hpv (end_spec s hpos B hE.mat)
  · rw [if_neg (by omega), if_neg (by omega), if_neg (by omega), if_pos hk] at hl
    cases hl
    exact tells_ext hm hpv (empty_spec _ s hpos B)
  · rw [if_neg (by omega), if_neg (by omega), if_neg (by omega), if_neg (by omega), if_pos hk] at hl
    exact row_spec hrs hE hm hpv hnd hl
  · rw [if_neg (by omega), if_neg (by omega), if_neg (by omega), if_neg (by omega), if_neg (by omega), if_pos hk] at hl
    exact times_spec hrs hE hm hpv hdone hnd hl hlong
theorem res_all (ns : List Nd) (row : List Int) : ∀ n, ResSpec ns row n
  | 0 => fun p pv B s rs _ _ _ h => by cases h
  | n + 1 => res_step (fun p pv B s l nd g hE hm hpv h1 h2 h3 h4 h5 h6 => ask_all (res_all ns row n) p pv B s l nd g hE hm hpv h1 h2 h3 h4 h5 h6)

/-- The first groups unset. -/
def minus (k : Nat) : Spans := fun j => if j.1 < 2 * k then -1 else 0
theorem upto10 {k : Nat} (h : k < 10) : k = 0 ∨ k = 1 ∨ k = 2 ∨ k = 3 ∨ k = 4 ∨ k = 5 ∨ k = 6 ∨ k = 7 ∨ k = 8 ∨ k = 9 := by omega
theorem group_addr {k b : Nat} (h : k < 10) : aindexAddr Tryz.prog 54 (.pointer (some ⟨b, 3, none⟩)) (.int .i64 ((k : Nat) : Int)) = some (.pointer (some ⟨b, 3 + k * 2, none⟩)) := by
  rcases upto10 h with rfl | rfl | rfl | rfl | rfl | rfl | rfl | rfl | rfl | rfl <;> kernel_rfl
theorem group_size {k : Nat} (h : k < 10) (s : St) : (decide (szT Tryz.prog 35 = some (vcells (.agg #[.int .i64 (-1), .int .i64 (-1)])).length) && (vcells (.agg #[.int .i64 (-1), .int .i64 (-1)])).all (·.oneCell') && Nat.ble (3 + k * 2 + (vcells (.agg #[.int .i64 (-1), .int .i64 (-1)])).length) s.cells.length) = true := by
  rcases upto10 h with rfl | rfl | rfl | rfl | rfl | rfl | rfl | rfl | rfl | rfl <;> kernel_rfl
theorem minus_step {k : Nat} (h : k < 10) (a b c : Nat) : putCells (St.cells ⟨a, b, c, minus k⟩) (3 + k * 2) (vcells (.agg #[.int .i64 (-1), .int .i64 (-1)])) = St.cells ⟨a, b, c, minus (k + 1)⟩ := by
  rcases upto10 h with rfl | rfl | rfl | rfl | rfl | rfl | rfl | rfl | rfl | rfl <;> kernel_rfl

theorem from_spec {ns : List Nd} {row : List Int} {n : Nat} {p : Pl} {pv : List Nat} {B : AHeap} {q : Nat} {rs : List Res} (hE : Eng B p ns row) (hm : Memo ns row p.K pv B) (hpv : ∀ i ∈ pv, i < B.next) (hns : 0 < ns.length)
    (hd : den (ns.map Nd.pn) row n ⟨ns.length - 1, 0, q, minus 10⟩ = some rs) : ACall Tryz.prog 14 [mp p, .int .i64 (q : Int)] B (Tells p ns row pv B rs) := by
  have hrs := res_all ns row n
  let mc := matCells (.slice (some ⟨p.N, 0, none⟩) ns.length p.nc) p.groups (.slice p.ra row.length p.rc) p.K p.F
  refine ACall.walk (fn := Tryz.f14) (c := bodyOf Tryz.prog 14) (by kernel_rfl) (by kernel_rfl) (by kernel_rfl) ?_
  refine AWp.seq' (by kernel_rfl) (AWp.region' (by kernel_rfl) ?_)
  refine AOps.run (n := 27) [] [0] [] (cs := []) (by kernel_rfl) (by kernel_rfl) (by kernel_rfl) ?_ ?_
  · intro x hx; cases hx
  show AWp _ _ _ _ _
  refine AWp.view [(0, mp p), (1, .int .i64 ((q : Nat) : Int))] (by kernel_rfl) ?_
  refine AWp.seq' (by kernel_rfl) (AWp.region' (by kernel_rfl) ?_)
  refine AOps.run (n := 27) [(4, .blk (mc)), (6, .val (.int .i64 ((ns.length - 1 : Nat) : Int)))] [0, 1, 2, 3, 4, 5, 6, 7, 8] [9, 10] (cs := [.blk (p.M) (mc), .some (some (.int .i64 (IntKind.i64.wrap ((ns.length : Int) - 1)))) (.int .i64 ((ns.length - 1 : Nat) : Int))]) (by kernel_rfl) (by kernel_rfl) (by kernel_rfl) ?_ ?_
  · intro x hx
    simp only [List.mem_cons, List.not_mem_nil, or_false] at hx
    rcases hx with rfl | rfl
    · exact ⟨77, false, hE.mat⟩
    · exact congrArg (fun x => some (Value.int .i64 x)) (by rw [wrap_id (by omega) (by have := hE.many; unfold far at this; omega)]; omega)
  refine AOps.write (n := 27) 9 [10] (.pointer (some ⟨B.next, 0, none⟩)) (B.push (.cells (List.replicate 23 (.int .i64 0)) 79 false)) (by kernel_rfl) rfl (by kernel_rfl) (by kernel_rfl) (by kernel_rfl) (by kernel_rfl) ?_
  refine AOps.store (n := 27) 10 [] (t := 79) (v := St.val ⟨ns.length - 1, 0, q, minus 0⟩) (b := B.next) (off := 0) (vs := List.replicate 23 (.int .i64 0)) (e := 79) (vs2 := St.cells ⟨ns.length - 1, 0, q, minus 0⟩) (by kernel_rfl) rfl (by kernel_rfl) (by kernel_rfl) (by kernel_rfl) (AHeap.get_push_new _ _) (by kernel_rfl) (by kernel_rfl) ?_
  show AWp _ _ _ _ _
  obtain ⟨b1, b2, b3⟩ := boxed B (.cells (List.replicate 23 (.int .i64 0)) 79 false) (.cells (St.cells ⟨ns.length - 1, 0, q, minus 0⟩) 79 false)
  generalize hH : (B.push (.cells (List.replicate 23 (.int .i64 0)) 79 false)).set B.next (.cells (St.cells ⟨ns.length - 1, 0, q, minus 0⟩) 79 false) = H0 at b1 b2 b3 ⊢
  clear hH
  refine AWp.view [(0, mp p), (5, .pointer (some ⟨B.next, 0, none⟩))] (by kernel_rfl) ?_
  refine AWp.seq' (by kernel_rfl) ?_
  refine AWp.seq' (by kernel_rfl) (AWp.region' (by kernel_rfl) ?_)
  refine AOps.run (n := 27) [] [0] [] (cs := []) (by kernel_rfl) (by kernel_rfl) (by kernel_rfl) ?_ ?_
  · intro x hx; cases hx
  show AWp _ _ _ _ _
  refine AWp.view [(0, mp p), (5, .pointer (some ⟨B.next, 0, none⟩)), (16, .int .i64 ((0 : Nat) : Int))] (by kernel_rfl) ?_
  refine AWp.block' (id := 0) (by kernel_rfl) ?_
  refine AWp.loop' (by kernel_rfl) (N := 10 - 0) (fun m E H => ∃ k : Nat, m = 10 - k ∧ k ≤ 10 ∧ AEnv.le (envOf 27 (mkE [(0, mp p), (5, .pointer (some ⟨B.next, 0, none⟩)), (16, .int .i64 ((k : Nat) : Int))])) E ∧ Ext B H ∧ H.get B.next = some (.cells (St.cells ⟨ns.length - 1, 0, q, minus k⟩) 79 false)) ⟨0, rfl, Nat.zero_le _, AEnv.le_refl _, b1, b2⟩ ?_
  rintro m E H ⟨k, rfl, hk, hEn, hx, hb⟩
  refine AWp.env hEn ?_
  refine AWp.seq' (by kernel_rfl) (AWp.region' (by kernel_rfl) ?_)
  refine AOps.run (n := 27) [(0, .val (.bool (decide ((k : Int) < 10))))] [0] [] (cs := [.some (some (.bool (decide ((k : Int) < 10)))) (.bool (decide ((k : Int) < 10)))]) (by kernel_rfl) (by kernel_rfl) (by kernel_rfl) ?_ ?_
  · intro x hx
    simp only [List.mem_cons, List.not_mem_nil, or_false] at hx
    subst hx
    rfl
  show AWp _ _ _ _ _
  refine AWp.view [(0, mp p), (5, .pointer (some ⟨B.next, 0, none⟩)), (16, .int .i64 ((k : Nat) : Int)), (17, .bool (decide ((k : Int) < 10)))] (by kernel_rfl) ?_
  refine AWp.seq' (by kernel_rfl) (AWp.cond_ (c := .tmp 17) (t := decide ((k : Int) < 10)) (by kernel_rfl) (by kernel_rfl) (fun hT => ?_) (fun hF => ?_))
  · have hlt : k < 10 := by have := of_decide_eq_true hT; omega
    refine AWp.skip' (by kernel_rfl) ?_
    show AWp _ _ _ _ _
    refine AWp.seq' (by kernel_rfl) (AWp.block' (id := 1) (by kernel_rfl) ?_)
    refine AWp.seq' (by kernel_rfl) (AWp.region' (by kernel_rfl) ?_)
    refine AOps.run (n := 27) [] [0, 1] [] (cs := []) (by kernel_rfl) (by kernel_rfl) (by kernel_rfl) ?_ ?_
    · intro x hx; cases hx
    show AWp _ _ _ _ _
    refine AWp.view [(0, mp p), (5, .pointer (some ⟨B.next, 0, none⟩)), (16, .int .i64 ((k : Nat) : Int)), (6, .int .i64 ((k : Nat) : Int))] (by kernel_rfl) ?_
    refine AWp.region' (by kernel_rfl) ?_
    refine AOps.run (n := 27) [(3, .val (.pointer (some ⟨B.next, 3 + k * 2, none⟩)))] [0, 1, 2, 3] [4] (cs := [.some (aindexAddr Tryz.prog 54 (.pointer (some ⟨B.next, 3, none⟩)) (.int .i64 ((k : Nat) : Int))) (.pointer (some ⟨B.next, 3 + k * 2, none⟩))]) (by kernel_rfl) (by kernel_rfl) (by kernel_rfl) ?_ ?_
    · intro x hx
      simp only [List.mem_cons, List.not_mem_nil, or_false] at hx
      subst hx
      exact group_addr hlt
    refine AOps.store (n := 27) 4 [] (t := 35) (v := .agg #[.int .i64 (-1), .int .i64 (-1)]) (b := B.next) (off := 3 + k * 2) (vs := St.cells ⟨ns.length - 1, 0, q, minus k⟩) (e := 79) (vs2 := St.cells ⟨ns.length - 1, 0, q, minus (k + 1)⟩) (by kernel_rfl) rfl (by kernel_rfl) (by kernel_rfl) (by kernel_rfl) hb (group_size hlt _) (minus_step hlt _ _ _) ?_
    show AWp _ _ _ _ _
    refine AWp.region' (by kernel_rfl) ?_
    refine AOps.run (n := 27) [(0, .val (.int .i64 ((k + 1 : Nat) : Int)))] [0, 1] [] (cs := [.some (some (.int .i64 (IntKind.i64.wrap ((k : Int) + ((1 : Nat) : Int))))) (.int .i64 ((k + 1 : Nat) : Int))]) (by kernel_rfl) (by kernel_rfl) (by kernel_rfl) ?_ ?_
    · intro x hx
      simp only [List.mem_cons, List.not_mem_nil, or_false] at hx
      subst hx
      exact congrArg (fun x => some (Value.int .i64 x)) (wrap_add (by omega))
    exact ⟨10 - (k + 1), by omega, k + 1, rfl, hlt, mkE_le [(0, mp p), (5, .pointer (some ⟨B.next, 0, none⟩)), (16, .int .i64 ((k + 1 : Nat) : Int))] (by kernel_rfl), hx.set_new (Nat.le_refl _) _, AHeap.get_set_same hb⟩
  · have hge : k = 10 := by have := of_decide_eq_false hF; omega
    subst hge
    refine AWp.exit' (id := 0) (by kernel_rfl) ?_
    show AWp _ _ _ _ _
    refine AWp.view [(0, mp p), (5, .pointer (some ⟨B.next, 0, none⟩))] (by kernel_rfl) ?_
    refine AWp.seq' (by kernel_rfl) (AWp.region' (by kernel_rfl) ?_)
    refine AOps.run (n := 27) [(1, .blk (St.cells ⟨ns.length - 1, 0, q, minus 10⟩))] [0, 1] [2, 3] (cs := [.blk (B.next) (St.cells ⟨ns.length - 1, 0, q, minus 10⟩)]) (by kernel_rfl) (by kernel_rfl) (by kernel_rfl) ?_ ?_
    · intro x hx
      simp only [List.mem_cons, List.not_mem_nil, or_false] at hx
      subst hx
      exact ⟨79, false, hb⟩
    refine AOps.call (n := 27) 2 [3] 36 [mp p, St.val ⟨ns.length - 1, 0, q, minus 10⟩] (by kernel_rfl) rfl (by kernel_rfl) (by kernel_rfl) (by kernel_rfl) (by kernel_rfl) (by kernel_rfl) (hrs p pv H ⟨ns.length - 1, 0, q, minus 10⟩ rs (hE.ext hx) (hm.ext hx) (fun i hi => Nat.lt_of_lt_of_le (hpv i hi) hx.next) hd) ?_
    rintro e H2 ⟨v, rfl, hgr, hmm, hrv⟩
    refine ⟨v, rfl, ?_⟩
    refine AOps.run (n := 27) [] [3] [] (cs := []) (by kernel_rfl) (by kernel_rfl) (by kernel_rfl) ?_ ?_
    · intro x hx; cases hx
    show AWp _ _ _ _ _
    refine AWp.view [(4, v)] (by kernel_rfl) ?_
    exact AWp.ret' (by kernel_rfl) ⟨[v], by kernel_rfl, v, rfl, (hx.grow _).trans hgr, hmm, hrv⟩
end Go.Proofs.YtihpfgnigpmihaaGreat
