/- tree.Right of trees whose nodes are right. -/
import Derived.Test.YtihpfgnigpmihaaGreatC24
set_option linter.unusedVariables false
set_option linter.unusedSimpArgs false
set_option maxRecDepth 100000
namespace Go.Proofs.YtihpfgnigpmihaaGreat
open Go

theorem once_spec (B : AHeap) : ACall Tryz.prog 21 [.int .i64 1] B fun e B' => e = .ret (.bool true) ∧ Ext B B' := by
  have hv : outV (runCall Tryz.prog 21 [.int .i64 1]) = .bool true := by kernel_rfl
  refine (ACall.evald (call_ok noBase_ok 1000 4) (f := 21) (args := [.int .i64 1]) (by kernel_rfl) (by kernel_rfl) (by kernel_rfl) B).mono ?_
  rintro e B' ⟨rfl, h, _⟩
  refine ⟨?_, h⟩
  show AEnd.ret (ren _ (outV (runCall Tryz.prog 21 [.int .i64 1]))) = _
  rw [hv]; rfl
theorem not_once_23 {tb : Nat} {B : AHeap} (ht : B.get tb = some (.cells [.func (.func 21) #[] #[]] 70 false)) : ACall Tryz.prog 23 [.int .i64 1, .pointer (some ⟨tb, 0, none⟩)] B fun e B' => e = .ret (.bool false) ∧ Ext B B' := by
  refine ACall.walk (fn := Tryz.f23) (c := bodyOf Tryz.prog 23) (by kernel_rfl) (by kernel_rfl) (by kernel_rfl) ?_
  refine AWp.seq' (by kernel_rfl) (AWp.region' (by kernel_rfl) ?_)
  refine AOps.run (n := 8) [] [0] [] (cs := []) (by kernel_rfl) (by kernel_rfl) (by kernel_rfl) ?_ ?_
  · intro x hx; cases hx
  show AWp _ _ _ _ _
  refine AWp.view [(0, .int .i64 1), (1, .pointer (some ⟨tb, 0, none⟩))] (by kernel_rfl) ?_
  refine AWp.seq' (by kernel_rfl) (AWp.region' (by kernel_rfl) ?_)
  refine AOps.run (n := 8) [(0, .blk ([.func (.func 21) #[] #[]]))] [0, 1] [2, 3, 4] (cs := [.blk (tb) ([.func (.func 21) #[] #[]])]) (by kernel_rfl) (by kernel_rfl) (by kernel_rfl) ?_ ?_
  · intro x hx
    simp only [List.mem_cons, List.not_mem_nil, or_false] at hx
    subst hx
    exact ⟨70, false, ht⟩
  refine AOps.call (n := 8) 2 [3, 4] 21 [.int .i64 1] (by kernel_rfl) rfl (by kernel_rfl) (by kernel_rfl) (by kernel_rfl) (by kernel_rfl) (by kernel_rfl) (once_spec B) ?_
  rintro e B' ⟨rfl, hx⟩
  refine ⟨_, rfl, ?_⟩
  refine AOps.run (n := 8) [] [3, 4] [] (cs := []) (by kernel_rfl) (by kernel_rfl) (by kernel_rfl) ?_ ?_
  · intro x hx; cases hx
  show AWp _ _ _ _ _
  refine AWp.view [(3, .bool false)] (by kernel_rfl) ?_
  exact AWp.ret' (by kernel_rfl) ⟨[.bool false], by kernel_rfl, rfl, hx⟩
theorem not_once_24 {tb : Nat} {B : AHeap} (ht : B.get tb = some (.cells [.func (.func 21) #[] #[]] 70 false)) : ACall Tryz.prog 24 [.int .i64 1, .pointer (some ⟨tb, 0, none⟩)] B fun e B' => e = .ret (.bool false) ∧ Ext B B' := by
  refine ACall.walk (fn := Tryz.f24) (c := bodyOf Tryz.prog 24) (by kernel_rfl) (by kernel_rfl) (by kernel_rfl) ?_
  refine AWp.seq' (by kernel_rfl) (AWp.region' (by kernel_rfl) ?_)
  refine AOps.run (n := 8) [] [0] [] (cs := []) (by kernel_rfl) (by kernel_rfl) (by kernel_rfl) ?_ ?_
  · intro x hx; cases hx
  show AWp _ _ _ _ _
  refine AWp.view [(0, .int .i64 1), (1, .pointer (some ⟨tb, 0, none⟩))] (by kernel_rfl) ?_
  refine AWp.seq' (by kernel_rfl) (AWp.region' (by kernel_rfl) ?_)
  refine AOps.run (n := 8) [(0, .blk ([.func (.func 21) #[] #[]]))] [0, 1] [2, 3, 4] (cs := [.blk (tb) ([.func (.func 21) #[] #[]])]) (by kernel_rfl) (by kernel_rfl) (by kernel_rfl) ?_ ?_
  · intro x hx
    simp only [List.mem_cons, List.not_mem_nil, or_false] at hx
    subst hx
    exact ⟨70, false, ht⟩
  refine AOps.call (n := 8) 2 [3, 4] 21 [.int .i64 1] (by kernel_rfl) rfl (by kernel_rfl) (by kernel_rfl) (by kernel_rfl) (by kernel_rfl) (by kernel_rfl) (once_spec B) ?_
  rintro e B' ⟨rfl, hx⟩
  refine ⟨_, rfl, ?_⟩
  refine AOps.run (n := 8) [] [3, 4] [] (cs := []) (by kernel_rfl) (by kernel_rfl) (by kernel_rfl) ?_ ?_
  · intro x hx; cases hx
  show AWp _ _ _ _ _
  refine AWp.view [(3, .bool false)] (by kernel_rfl) ?_
  exact AWp.ret' (by kernel_rfl) ⟨[.bool false], by kernel_rfl, rfl, hx⟩
theorem index_none {b o m c tb g : Nat} {vs : List Value} {e0 : TypeId} {ro : Bool} {B : AHeap} (hb : B.get b = some (.cells vs e0 ro)) (hall : ∀ k, k < m → vs[o + k]? = some (.int .i64 1)) (hm : m < far) (hg : g = 23 ∨ g = 24) (ht : B.get tb = some (.cells [.func (.func 21) #[] #[]] 70 false)) : ACall Tryz.prog 48 [.slice (some ⟨b, o, none⟩) m c, .func (.func g) #[] #[.pointer (some ⟨tb, 0, none⟩)]] B fun e B' => e = .ret (.int .i64 (-1)) ∧ Ext B B' := by
  unfold far at hm
  have hcall : ∀ H : AHeap, H.get tb = some (.cells [.func (.func 21) #[] #[]] 70 false) → ACall Tryz.prog g [.int .i64 1, .pointer (some ⟨tb, 0, none⟩)] H fun e B' => e = .ret (.bool false) ∧ Ext H B' := fun H h => by
    rcases hg with rfl | rfl
    · exact not_once_23 h
    · exact not_once_24 h
  refine ACall.walk (fn := Tryz.f48) (c := bodyOf Tryz.prog 48) (by kernel_rfl) (by kernel_rfl) (by kernel_rfl) ?_
  refine AWp.seq' (by kernel_rfl) (AWp.region' (by kernel_rfl) ?_)
  refine AOps.run (n := 19) [] [0] [] (cs := []) (by kernel_rfl) (by kernel_rfl) (by kernel_rfl) ?_ ?_
  · intro x hx; cases hx
  show AWp _ _ _ _ _
  refine AWp.view [(0, .slice (some ⟨b, o, none⟩) m c), (1, .func (.func g) #[] #[.pointer (some ⟨tb, 0, none⟩)])] (by kernel_rfl) ?_
  refine AWp.seq' (by kernel_rfl) ?_
  refine AWp.seq' (by kernel_rfl) (AWp.region' (by kernel_rfl) ?_)
  refine AOps.run (n := 19) [] [0, 1, 2] [] (cs := []) (by kernel_rfl) (by kernel_rfl) (by kernel_rfl) ?_ ?_
  · intro x hx; cases hx
  show AWp _ _ _ _ _
  refine AWp.view [(0, .slice (some ⟨b, o, none⟩) m c), (1, .func (.func g) #[] #[.pointer (some ⟨tb, 0, none⟩)]), (7, .int .i64 ((m : Nat) : Int)), (8, .int .i64 ((0 : Nat) : Int))] (by kernel_rfl) ?_
  refine AWp.block' (id := 0) (by kernel_rfl) ?_
  refine AWp.loop' (by kernel_rfl) (N := m - 0) (fun μ E H => ∃ k : Nat, μ = m - k ∧ k ≤ m ∧ AEnv.le (envOf 19 (mkE [(0, .slice (some ⟨b, o, none⟩) m c), (1, .func (.func g) #[] #[.pointer (some ⟨tb, 0, none⟩)]), (7, .int .i64 ((m : Nat) : Int)), (8, .int .i64 ((k : Nat) : Int))])) E ∧ Ext B H) ⟨0, rfl, Nat.zero_le _, AEnv.le_refl _, Ext.refl B⟩ ?_
  rintro μ E H ⟨k, rfl, hk, hE, hx⟩
  refine AWp.env hE ?_
  refine AWp.seq' (by kernel_rfl) (AWp.region' (by kernel_rfl) ?_)
  refine AOps.run (n := 19) [(0, .val (.bool (decide (((k : Nat) : Int) < ((m : Nat) : Int)))))] [0] [] (cs := [.some (some (.bool (decide (((k : Nat) : Int) < ((m : Nat) : Int))))) (.bool (decide (((k : Nat) : Int) < ((m : Nat) : Int))))]) (by kernel_rfl) (by kernel_rfl) (by kernel_rfl) ?_ ?_
  · intro x hx
    simp only [List.mem_cons, List.not_mem_nil, or_false] at hx
    subst hx
    rfl
  show AWp _ _ _ _ _
  refine AWp.view [(0, .slice (some ⟨b, o, none⟩) m c), (1, .func (.func g) #[] #[.pointer (some ⟨tb, 0, none⟩)]), (7, .int .i64 ((m : Nat) : Int)), (8, .int .i64 ((k : Nat) : Int)), (9, .bool (decide (((k : Nat) : Int) < ((m : Nat) : Int))))] (by kernel_rfl) ?_
  refine AWp.seq' (by kernel_rfl) (AWp.cond_ (c := .tmp 9) (t := decide (((k : Nat) : Int) < ((m : Nat) : Int))) (by kernel_rfl) (by kernel_rfl) (fun hT => ?_) (fun hF => ?_))
  · have hlt : k < m := by have := of_decide_eq_true hT; omega
    have hb2 := hx.get hb
    refine AWp.skip' (by kernel_rfl) ?_
    show AWp _ _ _ _ _
    refine AWp.seq' (by kernel_rfl) (AWp.block' (id := 1) (by kernel_rfl) ?_)
    refine AWp.seq' (by kernel_rfl) (AWp.region' (by kernel_rfl) ?_)
    refine AOps.run (n := 19) [] [0, 1] [] (cs := []) (by kernel_rfl) (by kernel_rfl) (by kernel_rfl) ?_ ?_
    · intro x hx; cases hx
    show AWp _ _ _ _ _
    refine AWp.view [(0, .slice (some ⟨b, o, none⟩) m c), (1, .func (.func g) #[] #[.pointer (some ⟨tb, 0, none⟩)]), (7, .int .i64 ((m : Nat) : Int)), (8, .int .i64 ((k : Nat) : Int)), (5, .int .i64 ((k : Nat) : Int))] (by kernel_rfl) ?_
    refine AWp.seq' (by kernel_rfl) (AWp.region' (by kernel_rfl) ?_)
    refine AOps.run (n := 19) [(3, .val (.pointer (some ⟨b, o + k * 1, none⟩))), (4, .part (vs) (.int .i64 1))] [0, 1, 2, 3, 4] [5] (cs := [.some (aindexAddr Tryz.prog 38 (.slice (some ⟨b, o, none⟩) m c) (.int .i64 ((k : Nat) : Int))) (.pointer (some ⟨b, o + k * 1, none⟩)), .blk (b) (vs), .some (apart' vs (o + k * 1) 1 false) (.int .i64 1)]) (by kernel_rfl) (by kernel_rfl) (by kernel_rfl) ?_ ?_
    · intro x hx
      simp only [List.mem_cons, List.not_mem_nil, or_false] at hx
      rcases hx with rfl | rfl | rfl
      · exact indexAddr_ok (by kernel_rfl : sliceT Tryz.prog 38 = some (3, 1, 8)) hlt
      · exact ⟨e0, ro, hb2⟩
      · exact apart_one (by rw [Nat.mul_one]; exact hall k hlt)
    refine AOps.call (n := 19) 5 [] g [.int .i64 1, .pointer (some ⟨tb, 0, none⟩)] (by kernel_rfl) rfl (by kernel_rfl) (by kernel_rfl) (by kernel_rfl) (by kernel_rfl) (by rcases hg with rfl | rfl <;> kernel_rfl) (hcall H (hx.get ht)) ?_
    rintro e H2 ⟨rfl, hx2⟩
    refine ⟨_, rfl, ?_⟩
    show AWp _ _ _ _ _
    refine AWp.view [(0, .slice (some ⟨b, o, none⟩) m c), (1, .func (.func g) #[] #[.pointer (some ⟨tb, 0, none⟩)]), (7, .int .i64 ((m : Nat) : Int)), (8, .int .i64 ((k : Nat) : Int)), (16, .bool false)] (by kernel_rfl) ?_
    refine AWp.condF (c := .tmp 16) (by kernel_rfl) (by kernel_rfl) ?_
    refine AWp.skip' (by kernel_rfl) ?_
    show AWp _ _ _ _ _
    refine AWp.view [(0, .slice (some ⟨b, o, none⟩) m c), (1, .func (.func g) #[] #[.pointer (some ⟨tb, 0, none⟩)]), (7, .int .i64 ((m : Nat) : Int)), (8, .int .i64 ((k : Nat) : Int))] (by kernel_rfl) ?_
    refine AWp.region' (by kernel_rfl) ?_
    refine AOps.run (n := 19) [(0, .val (.int .i64 ((k + 1 : Nat) : Int)))] [0, 1] [] (cs := [.some (some (.int .i64 (IntKind.i64.wrap (((k : Nat) : Int) + ((1 : Nat) : Int))))) (.int .i64 ((k + 1 : Nat) : Int))]) (by kernel_rfl) (by kernel_rfl) (by kernel_rfl) ?_ ?_
    · intro x hx
      simp only [List.mem_cons, List.not_mem_nil, or_false] at hx
      subst hx
      exact congrArg (fun x => some (Value.int .i64 x)) (wrap_add (by omega))
    exact ⟨m - (k + 1), by omega, k + 1, rfl, hlt, mkE_le [(0, .slice (some ⟨b, o, none⟩) m c), (1, .func (.func g) #[] #[.pointer (some ⟨tb, 0, none⟩)]), (7, .int .i64 ((m : Nat) : Int)), (8, .int .i64 ((k + 1 : Nat) : Int))] (by kernel_rfl), hx.trans hx2⟩
  · skip
    refine AWp.exit' (id := 0) (by kernel_rfl) ?_
    show AWp _ _ _ _ _
    refine AWp.view [] (by kernel_rfl) ?_
    refine AWp.seq' (by kernel_rfl) (AWp.region' (by kernel_rfl) ?_)
    refine AOps.run (n := 19) [] [0] [] (cs := []) (by kernel_rfl) (by kernel_rfl) (by kernel_rfl) ?_ ?_
    · intro x hx; cases hx
    show AWp _ _ _ _ _
    refine AWp.view [(4, .int .i64 (-1))] (by kernel_rfl) ?_
    exact AWp.ret' (by kernel_rfl) ⟨[.int .i64 (-1)], by kernel_rfl, rfl, hx⟩
theorem contains_none {b o m c tb g : Nat} {vs : List Value} {e0 : TypeId} {ro : Bool} {B : AHeap} (hb : B.get b = some (.cells vs e0 ro)) (hall : ∀ k, k < m → vs[o + k]? = some (.int .i64 1)) (hm : m < far) (hg : g = 23 ∨ g = 24) (ht : B.get tb = some (.cells [.func (.func 21) #[] #[]] 70 false)) : ACall Tryz.prog 22 [.slice (some ⟨b, o, none⟩) m c, .func (.func g) #[] #[.pointer (some ⟨tb, 0, none⟩)]] B fun e B' => e = .ret (.bool false) ∧ Ext B B' := by
  refine ACall.walk (fn := Tryz.f22) (c := bodyOf Tryz.prog 22) (by kernel_rfl) (by kernel_rfl) (by kernel_rfl) ?_
  refine AWp.seq' (by kernel_rfl) (AWp.region' (by kernel_rfl) ?_)
  refine AOps.run (n := 9) [] [0] [] (cs := []) (by kernel_rfl) (by kernel_rfl) (by kernel_rfl) ?_ ?_
  · intro x hx; cases hx
  show AWp _ _ _ _ _
  refine AWp.view [(0, .slice (some ⟨b, o, none⟩) m c), (1, .func (.func g) #[] #[.pointer (some ⟨tb, 0, none⟩)])] (by kernel_rfl) ?_
  refine AWp.seq' (by kernel_rfl) (AWp.region' (by kernel_rfl) ?_)
  refine AOps.run (n := 9) [] [0, 1] [2, 3, 4] (cs := []) (by kernel_rfl) (by kernel_rfl) (by kernel_rfl) ?_ ?_
  · intro x hx; cases hx
  refine AOps.call (n := 9) 2 [3, 4] 48 [.slice (some ⟨b, o, none⟩) m c, .func (.func g) #[] #[.pointer (some ⟨tb, 0, none⟩)]] (by kernel_rfl) rfl (by kernel_rfl) (by kernel_rfl) (by kernel_rfl) (by kernel_rfl) (by kernel_rfl) (index_none hb hall hm hg ht) ?_
  rintro e H2 ⟨rfl, hx2⟩
  refine ⟨_, rfl, ?_⟩
  refine AOps.run (n := 9) [] [3, 4] [] (cs := []) (by kernel_rfl) (by kernel_rfl) (by kernel_rfl) ?_ ?_
  · intro x hx; cases hx
  show AWp _ _ _ _ _
  refine AWp.view [(4, .bool false)] (by kernel_rfl) ?_
  exact AWp.ret' (by kernel_rfl) ⟨[.bool false], by kernel_rfl, rfl, hx2⟩

def makeOf (E : AEnv) (o : Oper) : Option (TypeId × Value × Value) := match o.op with
  | .makeSlice t n c => match E.eval n, E.eval c with
    | some n, some c => some (t, n, c)
    | _, _ => none
  | _ => none
theorem AOps.makeSlice {P : Program} {Q : AExit → AEnv → AHeap → Prop} {H : AHeap} {ops : Array Oper} {rb : Nat → Option Nat} {n : Nat} (i : Nat) (l : List Nat) {L : List Nat} {T : Tr Value} {o : Oper} {t : TypeId} {x y : Value} {v : Value} {H' : AHeap} (hl : L = i :: l) (ho : ops[i]? = some o) (hg : guardA ops (envOf n T) o = some true)
    (hf : isFill (rb i) o = none) (hs : makeOf (envOf n T) o = some (t, x, y)) (ha : amakeSlice P H t x y = some (v, H'))
    (k : AOps P ops rb Q l (envOf n (tput T o.dst v)) H') : AOps P ops rb Q L (envOf n T) H := by
  unfold makeOf at hs
  split at hs
  · rename_i t' a b hop
    split at hs
    · rename_i a' b' h3 h4
      cases hs
      refine AOps.write i l v H' hl ho hg (by simp [cls, hop]) hf ?_ k
      simp only [wexec, hop, h3, h4]
      exact ha
    · cases hs
  · cases hs
theorem make_ints {H : AHeap} {n : Nat} (h : n ≤ 200) : amakeSlice Tryz.prog H 38 (.int .i64 ((n : Nat) : Int)) (.int .i64 ((n : Nat) : Int)) = some (.slice (some ⟨H.next, 0, none⟩) n n, H.push (.cells (List.replicate n (.int .i64 0)) 3 false)) := by
  have hs : sliceT Tryz.prog 38 = some (3, 1, 8) := by kernel_rfl
  unfold amakeSlice
  simp only [hs, zero3]
  rw [if_pos ⟨trivial, rfl, by decide, by omega, Int.le_refl _, by omega⟩]
  rfl
theorem slice_front {b n k : Nat} (h1 : k ≤ n) (h2 : n ≤ 200) (h3 : 0 < n) : aslice Tryz.prog 38 (.slice (some ⟨b, 0, none⟩) n n) none (some (.int .i64 ((k : Nat) : Int))) none = some (.slice (some ⟨b, 0 + 0 * 1, none⟩) (k - 0) (n - 0)) := by
  have hs : sliceT Tryz.prog 38 = some (3, 1, 8) := by kernel_rfl
  unfold aslice
  simp only [hs]
  unfold asliceOf
  rw [if_pos (by unfold big; omega)]
  have hb : abounds n n none (some (.int .i64 ((k : Nat) : Int))) none = some (0, k, n) := by
    unfold abounds abound
    simp only [Option.isSome_none]
    rw [if_pos (by omega)]
    simp
  simp only [hb]
  rw [if_neg (by omega)]

/-- How often each number is a kid. -/
def cntL (ks : List Nat) (n : Nat) : List Nat := (List.range n).map fun k => ks.count k
theorem cnt_len (ks : List Nat) (n : Nat) : (cntL ks n).length = n := by simp [cntL]
theorem cnt_get {ks : List Nat} {n k : Nat} (h : k < n) : (cntL ks n)[k]? = some (ks.count k) := by simp [cntL, List.getElem?_range h]
theorem cnt_at {ks : List Nat} {n k c : Nat} (h : (cntL ks n)[k]? = some c) : c = ks.count k := by
  have hk : k < n := by have := (List.getElem?_eq_some_iff.1 h).1; rwa [cnt_len] at this
  rw [cnt_get hk] at h; exact (Option.some.inj h).symm
theorem cnt_nil (n : Nat) : List.replicate n (Value.int .i64 0) = (cntL [] n).map fun (k : Nat) => Value.int .i64 (k : Int) := by
  refine List.ext_getElem? fun i => ?_
  by_cases h : i < n
  · simp [h, List.getElem?_map, cnt_get h]
  · rw [List.getElem?_eq_none (by simp; omega), List.getElem?_eq_none (by simp [cnt_len]; omega)]
theorem cnt_put {ks kl : List Nat} {n j k c : Nat} (hk : kl[j]? = some k) (hc : (cntL (ks ++ kl.take j) n)[k]? = some c) (hkn : k < n) :
    putCells ((cntL (ks ++ kl.take j) n).map fun (k : Nat) => Value.int .i64 (k : Int)) (0 + k * 1) (vcells (.int .i64 ((c + 1 : Nat) : Int))) = (cntL (ks ++ kl.take (j + 1)) n).map fun (k : Nat) => Value.int .i64 (k : Int) := by
  have hlen : ((cntL (ks ++ kl.take j) n).map fun (k : Nat) => Value.int .i64 (k : Int)).length = n := by rw [List.length_map, cnt_len]
  have hv : vcells (Value.int .i64 ((c + 1 : Nat) : Int)) = [Value.int .i64 ((c + 1 : Nat) : Int)] := rfl
  rw [hv]
  refine List.ext_getElem? fun i => ?_
  rw [putCells_get (by rw [hlen]; simp; omega)]
  have hc' := cnt_at hc
  by_cases hi : i = k
  · subst hi
    rw [if_pos (by simp)]
    simp only [Nat.mul_one, Nat.zero_add, Nat.sub_self, List.getElem?_cons_zero, List.getElem?_map, cnt_get hkn, Option.map_some, Option.some.injEq, Value.int.injEq, true_and]
    rw [List.take_add_one, hk, Option.toList_some, ← List.append_assoc, List.count_append, List.count_singleton_self, ← hc']
  · rw [if_neg (by simp; omega)]
    by_cases hin : i < n
    · simp only [List.getElem?_map, cnt_get hin, Option.map_some, Option.some.injEq, Value.int.injEq, true_and]
      rw [List.take_add_one, hk, Option.toList_some, ← List.append_assoc, List.count_append (l₁ := ks ++ kl.take j)]
      have : [k].count i = 0 := List.count_eq_zero.2 (by simpa using hi)
      rw [this]; rfl
    · rw [List.getElem?_eq_none (by simp [cnt_len]; omega), List.getElem?_eq_none (by simp [cnt_len]; omega)]
theorem int_size {vs : List Value} {o : Nat} {x : Int} (h : o + 1 ≤ vs.length) : (decide (szT Tryz.prog 3 = some (vcells (.int .i64 x)).length) && (vcells (.int .i64 x)).all (·.oneCell') && Nat.ble (o + (vcells (.int .i64 x)).length) vs.length) = true := by
  have h1 : szT Tryz.prog 3 = some 1 := by kernel_rfl
  have h2 : Nat.ble (o + 1) vs.length = true := Nat.ble_eq_true_of_le h
  rw [h1]
  show (true && true && Nat.ble (o + 1) vs.length) = true
  rw [h2]; rfl

theorem right_all {B : AHeap} {N nc : Nat} {ns : List Nd} (hN : B.get N = some (.cells (nodeCells ns) 44 false)) (hkids : ∀ nd ∈ ns, KidsAt B nd) (h20 : ∀ nd ∈ ns, ∀ B2, ACall Tryz.prog 20 [.agg ⟨nd.cells⟩, .int .i64 0] B2 fun e B' => e = .ret (.bool true) ∧ Ext B2 B')
    (hkind : ∀ nd ∈ ns, nd.kind ≠ 7) (hn0 : 0 < ns.length) (hn1 : ns.length ≤ 200) (hkl0 : ∀ (i : Nat) (nd : Nd), ns[i]? = some nd → ∀ k ∈ nd.kl, k < i) (hklong : ∀ nd ∈ ns, nd.kl.length < far) (hcount : ∀ k, k + 1 < ns.length → (ns.flatMap Nd.kl).count k = 1)
    (hall : ∀ (i j : Nat) (nd : Nd), ns[i]? = some nd → ((ns.take i).flatMap Nd.kl ++ nd.kl.take j).length < far) :
    ACall Tryz.prog 12 [.agg #[.slice (some ⟨N, 0, none⟩) ns.length nc, .int .i64 0]] B fun e B' => e = .ret (.bool true) ∧ Ext B B' := by
  refine ACall.walk (fn := Tryz.f12) (c := bodyOf Tryz.prog 12) (by kernel_rfl) (by kernel_rfl) (by kernel_rfl) ?_
  refine AWp.seq' (by kernel_rfl) (AWp.region' (by kernel_rfl) ?_)
  refine AOps.write (n := 92) 0 [1] (.pointer (some ⟨B.next, 0, none⟩)) (B.push (.cells [.slice (some ⟨N, 0, none⟩) ns.length nc, .int .i64 0] 31 false)) (by kernel_rfl) rfl (by kernel_rfl) (by kernel_rfl) (by kernel_rfl) (by kernel_rfl) ?_
  refine AOps.run (n := 92) [] [1] [] (cs := []) (by kernel_rfl) (by kernel_rfl) (by kernel_rfl) ?_ ?_
  · intro x hx; cases hx
  show AWp _ _ _ _ _
  have hx0 : Ext B (B.push (.cells [.slice (some ⟨N, 0, none⟩) ns.length nc, .int .i64 0] 31 false)) := Ext.push _ _
  have ht0 : (B.push (.cells [.slice (some ⟨N, 0, none⟩) ns.length nc, .int .i64 0] 31 false)).get B.next = some (.cells [.slice (some ⟨N, 0, none⟩) ns.length nc, .int .i64 0] 31 false) := AHeap.get_push_new _ _
  generalize B.push (.cells [.slice (some ⟨N, 0, none⟩) ns.length nc, .int .i64 0] 31 false) = H0 at hx0 ht0 ⊢
  refine AWp.view [(1, .pointer (some ⟨B.next, 0, none⟩))] (by kernel_rfl) ?_
  refine AWp.seq' (by kernel_rfl) (AWp.region' (by kernel_rfl) ?_)
  refine AOps.run (n := 92) [(1, .blk ([.slice (some ⟨N, 0, none⟩) ns.length nc, .int .i64 0]))] [0, 1, 2, 3] [] (cs := [.blk (B.next) ([.slice (some ⟨N, 0, none⟩) ns.length nc, .int .i64 0])]) (by kernel_rfl) (by kernel_rfl) (by kernel_rfl) ?_ ?_
  · intro x hx
    simp only [List.mem_cons, List.not_mem_nil, or_false] at hx
    subst hx
    exact ⟨31, false, ht0⟩
  show AWp _ _ _ _ _
  refine AWp.view [(1, .pointer (some ⟨B.next, 0, none⟩)), (3, .int .i64 ((ns.length : Nat) : Int))] (by kernel_rfl) ?_
  refine AWp.seq' (by kernel_rfl) ?_
  refine AWp.seq' (by kernel_rfl) (AWp.region' (by kernel_rfl) ?_)
  refine AOps.run (n := 92) [(1, .val (.bool false)), (4, .val (.bool false)), (8, .blk ([.slice (some ⟨N, 0, none⟩) ns.length nc, .int .i64 0])), (13, .blk ([.slice (some ⟨N, 0, none⟩) ns.length nc, .int .i64 0]))] [0, 1, 2, 3, 4, 5, 6, 7, 8, 9, 10, 11, 12, 13, 14, 15] [] (cs := [.some (some (.bool (decide (((ns.length : Nat) : Int) = ((0 : Nat) : Int))))) (.bool false), .some (some (.bool (decide (((ns.length : Nat) : Int) > ((200 : Nat) : Int))))) (.bool false), .blk (B.next) ([.slice (some ⟨N, 0, none⟩) ns.length nc, .int .i64 0]), .blk (B.next) ([.slice (some ⟨N, 0, none⟩) ns.length nc, .int .i64 0])]) (by kernel_rfl) (by kernel_rfl) (by kernel_rfl) ?_ ?_
  · intro x hx
    simp only [List.mem_cons, List.not_mem_nil, or_false] at hx
    rcases hx with rfl | rfl | rfl | rfl
    · exact congrArg (fun b => some (Value.bool b)) (decide_eq_false (by omega))
    · exact congrArg (fun b => some (Value.bool b)) (decide_eq_false (by omega))
    · exact ⟨31, false, ht0⟩
    · exact ⟨31, false, ht0⟩
  show AWp _ _ _ _ _
  refine AWp.view [(1, .pointer (some ⟨B.next, 0, none⟩)), (3, .int .i64 ((ns.length : Nat) : Int)), (29, .bool false)] (by kernel_rfl) ?_
  refine AWp.condF (c := .tmp 29) (by kernel_rfl) (by kernel_rfl) ?_
  refine AWp.skip' (by kernel_rfl) ?_
  show AWp _ _ _ _ _
  refine AWp.view [(1, .pointer (some ⟨B.next, 0, none⟩)), (3, .int .i64 ((ns.length : Nat) : Int))] (by kernel_rfl) ?_
  refine AWp.seq' (by kernel_rfl) (AWp.region' (by kernel_rfl) ?_)
  refine AOps.run (n := 92) [] [0] [1, 2] (cs := []) (by kernel_rfl) (by kernel_rfl) (by kernel_rfl) ?_ ?_
  · intro x hx; cases hx
  refine AOps.makeSlice (n := 92) 1 [2] (t := 38) (v := .slice (some ⟨H0.next, 0, none⟩) ns.length ns.length) (H' := H0.push (.cells (List.replicate ns.length (.int .i64 0)) 3 false)) (x := .int .i64 ((ns.length : Nat) : Int)) (y := .int .i64 ((ns.length : Nat) : Int)) (by kernel_rfl) rfl (by kernel_rfl) (by kernel_rfl) (by kernel_rfl) (make_ints (by omega)) ?_
  refine AOps.run (n := 92) [] [2] [] (cs := []) (by kernel_rfl) (by kernel_rfl) (by kernel_rfl) ?_ ?_
  · intro x hx; cases hx
  show AWp _ _ _ _ _
  have hx1 : Ext H0 (H0.push (.cells (List.replicate ns.length (.int .i64 0)) 3 false)) := Ext.push _ _
  have hp1 : (H0.push (.cells (List.replicate ns.length (.int .i64 0)) 3 false)).get H0.next = some (.cells (List.replicate ns.length (.int .i64 0)) 3 false) := AHeap.get_push_new _ _
  have hn1 : (H0.push (.cells (List.replicate ns.length (.int .i64 0)) 3 false)).next = H0.next + 1 := rfl
  generalize H0.push (.cells (List.replicate ns.length (.int .i64 0)) 3 false) = H1 at hx1 hp1 hn1 ⊢
  refine AWp.view [(1, .pointer (some ⟨B.next, 0, none⟩)), (3, .int .i64 ((ns.length : Nat) : Int)), (4, .slice (some ⟨H0.next, 0, none⟩) ns.length ns.length)] (by kernel_rfl) ?_
  refine AWp.seq' (by kernel_rfl) (AWp.region' (by kernel_rfl) ?_)
  refine AOps.write (n := 92) 0 [] (.pointer (some ⟨H1.next, 0, none⟩)) (H1.push (.cells (List.replicate 10 (.int .i64 0)) 68 false)) (by kernel_rfl) rfl (by kernel_rfl) (by kernel_rfl) (by kernel_rfl) (by kernel_rfl) ?_
  show AWp _ _ _ _ _
  have hx2 : Ext H1 (H1.push (.cells (List.replicate 10 (.int .i64 0)) 68 false)) := Ext.push _ _
  have hq2 : (H1.push (.cells (List.replicate 10 (.int .i64 0)) 68 false)).get H1.next = some (.cells (List.replicate 10 (.int .i64 0)) 68 false) := AHeap.get_push_new _ _
  have hn2 : (H1.push (.cells (List.replicate 10 (.int .i64 0)) 68 false)).next = H1.next + 1 := rfl
  generalize H1.push (.cells (List.replicate 10 (.int .i64 0)) 68 false) = H2 at hx2 hq2 hn2 ⊢
  have hp2 := hx2.get hp1
  have ht2 := hx2.get (hx1.get ht0)
  have hN2 := hx2.get (hx1.get (hx0.get hN))
  have hxB2 : Ext B H2 := (hx0.trans hx1).trans hx2
  have hpB : B.next ≤ H0.next := hx0.next
  refine AWp.view [(1, .pointer (some ⟨B.next, 0, none⟩)), (3, .int .i64 ((ns.length : Nat) : Int)), (4, .slice (some ⟨H0.next, 0, none⟩) ns.length ns.length), (5, .pointer (some ⟨H1.next, 0, none⟩))] (by kernel_rfl) ?_
  refine AWp.seq' (by kernel_rfl) ?_
  refine AWp.seq' (by kernel_rfl) (AWp.region' (by kernel_rfl) ?_)
  refine AOps.run (n := 92) [(1, .blk ([.slice (some ⟨N, 0, none⟩) ns.length nc, .int .i64 0]))] [0, 1, 2, 3] [] (cs := [.blk (B.next) ([.slice (some ⟨N, 0, none⟩) ns.length nc, .int .i64 0])]) (by kernel_rfl) (by kernel_rfl) (by kernel_rfl) ?_ ?_
  · intro x hx
    simp only [List.mem_cons, List.not_mem_nil, or_false] at hx
    subst hx
    exact ⟨31, false, ht2⟩
  show AWp _ _ _ _ _
  refine AWp.view [(1, .pointer (some ⟨B.next, 0, none⟩)), (3, .int .i64 ((ns.length : Nat) : Int)), (4, .slice (some ⟨H0.next, 0, none⟩) ns.length ns.length), (5, .pointer (some ⟨H1.next, 0, none⟩)), (33, .slice (some ⟨N, 0, none⟩) ns.length nc), (34, .int .i64 ((ns.length : Nat) : Int)), (35, .int .i64 ((0 : Nat) : Int))] (by kernel_rfl) ?_
  refine AWp.block' (id := 0) (by kernel_rfl) ?_
  refine AWp.loop' (by kernel_rfl) (N := ns.length - 0) (fun μ E H => ∃ i : Nat, μ = ns.length - i ∧ i ≤ ns.length ∧ AEnv.le (envOf 92 (mkE [(1, .pointer (some ⟨B.next, 0, none⟩)), (3, .int .i64 ((ns.length : Nat) : Int)), (4, .slice (some ⟨H0.next, 0, none⟩) ns.length ns.length), (5, .pointer (some ⟨H1.next, 0, none⟩)), (33, .slice (some ⟨N, 0, none⟩) ns.length nc), (34, .int .i64 ((ns.length : Nat) : Int)), (35, .int .i64 ((i : Nat) : Int))])) E ∧ Grow H0.next H2 H ∧ H.get H0.next = some (.cells ((cntL ((ns.take i).flatMap Nd.kl) ns.length).map fun (k : Nat) => .int .i64 (k : Int)) 3 false)) ⟨0, rfl, Nat.zero_le _, AEnv.le_refl _, Grow.refl _ _, by rw [hp2, List.take_zero, List.flatMap_nil, cnt_nil]⟩ ?_
  rintro μ E H ⟨i, rfl, hi, hE, hg, hP⟩
  refine AWp.env hE ?_
  have hne : ∀ {j : Nat} {bk : ABlk}, H2.get j = some bk → j ≠ H0.next → H.get j = some bk := fun h hj => hg.get h hj
  have htH : H.get B.next = some (.cells [.slice (some ⟨N, 0, none⟩) ns.length nc, .int .i64 0] 31 false) := hne ht2 (by have := AHeap.get_lt ht0; omega)
  refine AWp.seq' (by kernel_rfl) (AWp.region' (by kernel_rfl) ?_)
  refine AOps.run (n := 92) [(0, .val (.bool (decide (((i : Nat) : Int) < ((ns.length : Nat) : Int)))))] [0] [] (cs := [.some (some (.bool (decide (((i : Nat) : Int) < ((ns.length : Nat) : Int))))) (.bool (decide (((i : Nat) : Int) < ((ns.length : Nat) : Int))))]) (by kernel_rfl) (by kernel_rfl) (by kernel_rfl) ?_ ?_
  · intro x hx
    simp only [List.mem_cons, List.not_mem_nil, or_false] at hx
    subst hx
    rfl
  show AWp _ _ _ _ _
  refine AWp.view [(1, .pointer (some ⟨B.next, 0, none⟩)), (3, .int .i64 ((ns.length : Nat) : Int)), (4, .slice (some ⟨H0.next, 0, none⟩) ns.length ns.length), (5, .pointer (some ⟨H1.next, 0, none⟩)), (33, .slice (some ⟨N, 0, none⟩) ns.length nc), (34, .int .i64 ((ns.length : Nat) : Int)), (35, .int .i64 ((i : Nat) : Int)), (36, .bool (decide (((i : Nat) : Int) < ((ns.length : Nat) : Int))))] (by kernel_rfl) ?_
  refine AWp.seq' (by kernel_rfl) (AWp.cond_ (c := .tmp 36) (t := decide (((i : Nat) : Int) < ((ns.length : Nat) : Int))) (by kernel_rfl) (by kernel_rfl) (fun hT => ?_) (fun hF => ?_))
  · have hlt : i < ns.length := by have := of_decide_eq_true hT; omega
    obtain ⟨nd, hnd⟩ : ∃ nd, ns[i]? = some nd := ⟨_, List.getElem?_eq_getElem hlt⟩
    have hmem := List.mem_of_getElem? hnd
    have hNH : H.get N = some (.cells (nodeCells ns) 44 false) := hne hN2 (by have := AHeap.get_lt hN; omega)
    obtain ⟨ka, kb, kc, hkv, hkk⟩ : ∃ ka kb kc, nd.kids = .slice ka nd.kl.length kc ∧ (nd.kl ≠ [] → ka = some ⟨kb, 0, none⟩ ∧ B.get kb = some (.cells (nd.kl.map fun (k : Nat) => .int .i64 (k : Int)) 3 false)) := by
      rcases hkids nd hmem with ⟨h1, h2⟩ | ⟨kb, kc, h1, h2⟩
      · exact ⟨none, 0, 0, by rw [h1, h2]; rfl, fun h => absurd h2 h⟩
      · exact ⟨some ⟨kb, 0, none⟩, kb, kc, h1, fun _ => ⟨rfl, h2⟩⟩
    refine AWp.skip' (by kernel_rfl) ?_
    show AWp _ _ _ _ _
    refine AWp.mid (by kernel_rfl) (fun E' H' => AEnv.le (envOf 92 (mkE [(1, .pointer (some ⟨B.next, 0, none⟩)), (3, .int .i64 ((ns.length : Nat) : Int)), (4, .slice (some ⟨H0.next, 0, none⟩) ns.length ns.length), (5, .pointer (some ⟨H1.next, 0, none⟩)), (33, .slice (some ⟨N, 0, none⟩) ns.length nc), (34, .int .i64 ((ns.length : Nat) : Int)), (35, .int .i64 ((i : Nat) : Int))])) E' ∧ Grow H0.next H2 H' ∧ H'.get H0.next = some (.cells ((cntL ((ns.take (i + 1)).flatMap Nd.kl) ns.length).map fun (k : Nat) => .int .i64 (k : Int)) 3 false)) ?_ ?_
    · refine AWp.block' (id := 1) (by kernel_rfl) ?_
      refine AWp.seq' (by kernel_rfl) (AWp.region' (by kernel_rfl) ?_)
      refine AOps.run (n := 92) [(1, .val (.pointer (some ⟨N, 0 + i * 9, none⟩))), (2, .part (nodeCells ns) (.agg ⟨nd.cells⟩))] [0, 1, 2] [3, 4, 5] (cs := [.some (aindexAddr Tryz.prog 29 (.slice (some ⟨N, 0, none⟩) ns.length nc) (.int .i64 ((i : Nat) : Int))) (.pointer (some ⟨N, 0 + i * 9, none⟩)), .blk (N) (nodeCells ns), .some (apart' (nodeCells ns) (0 + i * 9) 9 true) (.agg ⟨nd.cells⟩)]) (by kernel_rfl) (by kernel_rfl) (by kernel_rfl) ?_ ?_
      · intro x hx
        simp only [List.mem_cons, List.not_mem_nil, or_false] at hx
        rcases hx with rfl | rfl | rfl
        · exact indexAddr_ok (by kernel_rfl : sliceT Tryz.prog 29 = some (44, 9, 112)) hlt
        · exact ⟨44, false, hNH⟩
        · exact node_part hnd
      refine AOps.write (n := 92) 3 [4, 5] (.pointer (some ⟨H.next, 0, none⟩)) (H.push (.cells [.int .u8 0, .int .i32 0, .bool false, .slice none 0 0, .slice none 0 0, .int .i64 0, .int .i64 0, .int .i64 0, .slice none 0 0] 44 false)) (by kernel_rfl) rfl (by kernel_rfl) (by kernel_rfl) (by kernel_rfl) (by kernel_rfl) ?_
      refine AOps.run (n := 92) [] [4] [5] (cs := []) (by kernel_rfl) (by kernel_rfl) (by kernel_rfl) ?_ ?_
      · intro x hx; cases hx
      refine AOps.store (n := 92) 5 [] (t := 44) (v := .agg ⟨nd.cells⟩) (b := H.next) (off := 0) (vs := [.int .u8 0, .int .i32 0, .bool false, .slice none 0 0, .slice none 0 0, .int .i64 0, .int .i64 0, .int .i64 0, .slice none 0 0]) (e := 44) (vs2 := nd.cells) (by kernel_rfl) rfl (by kernel_rfl) (by kernel_rfl) (by kernel_rfl) (AHeap.get_push_new _ _) (node_store nd) (by kernel_rfl) ?_
      show AWp _ _ _ _ _
      obtain ⟨b1, b2, b3⟩ := boxed H (.cells [.int .u8 0, .int .i32 0, .bool false, .slice none 0 0, .slice none 0 0, .int .i64 0, .int .i64 0, .int .i64 0, .slice none 0 0] 44 false) (.cells nd.cells 44 false)
      generalize hHx : (H.push (.cells [.int .u8 0, .int .i32 0, .bool false, .slice none 0 0, .slice none 0 0, .int .i64 0, .int .i64 0, .int .i64 0, .slice none 0 0] 44 false)).set H.next (.cells nd.cells 44 false) = Hx at b1 b2 b3 ⊢
      clear hHx
      refine AWp.view [(1, .pointer (some ⟨B.next, 0, none⟩)), (3, .int .i64 ((ns.length : Nat) : Int)), (4, .slice (some ⟨H0.next, 0, none⟩) ns.length ns.length), (5, .pointer (some ⟨H1.next, 0, none⟩)), (33, .slice (some ⟨N, 0, none⟩) ns.length nc), (34, .int .i64 ((ns.length : Nat) : Int)), (35, .int .i64 ((i : Nat) : Int)), (7, .pointer (some ⟨H.next, 0, none⟩)), (6, .int .i64 ((i : Nat) : Int))] (by kernel_rfl) ?_
      refine AWp.seq' (by kernel_rfl) ?_
      refine AWp.seq' (by kernel_rfl) (AWp.region' (by kernel_rfl) ?_)
      refine AOps.run (n := 92) [(0, .blk (nd.cells)), (2, .blk ([.slice (some ⟨N, 0, none⟩) ns.length nc, .int .i64 0]))] [0, 1, 2] [3, 4] (cs := [.blk (H.next) (nd.cells), .blk (B.next) ([.slice (some ⟨N, 0, none⟩) ns.length nc, .int .i64 0])]) (by kernel_rfl) (by kernel_rfl) (by kernel_rfl) ?_ ?_
      · intro x hx
        simp only [List.mem_cons, List.not_mem_nil, or_false] at hx
        rcases hx with rfl | rfl
        · exact ⟨44, false, b2⟩
        · exact ⟨31, false, (b1.get htH)⟩
      refine AOps.call (n := 92) 3 [4] 20 [.agg ⟨nd.cells⟩, .int .i64 0] (by kernel_rfl) rfl (by kernel_rfl) (by kernel_rfl) (by kernel_rfl) (by kernel_rfl) (by kernel_rfl) (h20 nd hmem Hx) ?_
      rintro e H4 ⟨rfl, hx4⟩
      refine ⟨_, rfl, ?_⟩
      refine AOps.run (n := 92) [] [4] [] (cs := []) (by kernel_rfl) (by kernel_rfl) (by kernel_rfl) ?_ ?_
      · intro x hx; cases hx
      show AWp _ _ _ _ _
      refine AWp.view [(1, .pointer (some ⟨B.next, 0, none⟩)), (3, .int .i64 ((ns.length : Nat) : Int)), (4, .slice (some ⟨H0.next, 0, none⟩) ns.length ns.length), (5, .pointer (some ⟨H1.next, 0, none⟩)), (33, .slice (some ⟨N, 0, none⟩) ns.length nc), (34, .int .i64 ((ns.length : Nat) : Int)), (35, .int .i64 ((i : Nat) : Int)), (7, .pointer (some ⟨H.next, 0, none⟩)), (6, .int .i64 ((i : Nat) : Int)), (44, .bool false)] (by kernel_rfl) ?_
      refine AWp.condF (c := .tmp 44) (by kernel_rfl) (by kernel_rfl) ?_
      refine AWp.skip' (by kernel_rfl) ?_
      show AWp _ _ _ _ _
      have hx14 := b1.trans hx4
      have b4 := hx4.get b2
      have hP4 := hx14.get hP
      have hg4 : Grow H0.next H2 H4 := hg.trans (hx14.grow _)
      generalize hnb : H.next = nb at b4 ⊢
      clear hnb
      refine AWp.view [(1, .pointer (some ⟨B.next, 0, none⟩)), (3, .int .i64 ((ns.length : Nat) : Int)), (4, .slice (some ⟨H0.next, 0, none⟩) ns.length ns.length), (5, .pointer (some ⟨H1.next, 0, none⟩)), (33, .slice (some ⟨N, 0, none⟩) ns.length nc), (34, .int .i64 ((ns.length : Nat) : Int)), (35, .int .i64 ((i : Nat) : Int)), (7, .pointer (some ⟨nb, 0, none⟩)), (6, .int .i64 ((i : Nat) : Int))] (by kernel_rfl) ?_
      refine AWp.seq' (by kernel_rfl) ?_
      refine AWp.seq' (by kernel_rfl) (AWp.region' (by kernel_rfl) ?_)
      refine AOps.run (n := 92) [(1, .blk (nd.cells)), (2, .val (.bool false))] [0, 1, 2] [] (cs := [.blk (nb) (nd.cells), .some (some (.bool (decide (((nd.kind : Nat) : Int) = 7)))) (.bool false)]) (by kernel_rfl) (by kernel_rfl) (by kernel_rfl) ?_ ?_
      · intro x hx
        simp only [List.mem_cons, List.not_mem_nil, or_false] at hx
        rcases hx with rfl | rfl
        · exact ⟨44, false, b4⟩
        · exact congrArg (fun b => some (Value.bool b)) (decide_eq_false (by have := hkind nd hmem; omega))
      show AWp _ _ _ _ _
      refine AWp.view [(1, .pointer (some ⟨B.next, 0, none⟩)), (3, .int .i64 ((ns.length : Nat) : Int)), (4, .slice (some ⟨H0.next, 0, none⟩) ns.length ns.length), (5, .pointer (some ⟨H1.next, 0, none⟩)), (33, .slice (some ⟨N, 0, none⟩) ns.length nc), (34, .int .i64 ((ns.length : Nat) : Int)), (35, .int .i64 ((i : Nat) : Int)), (7, .pointer (some ⟨nb, 0, none⟩)), (6, .int .i64 ((i : Nat) : Int)), (47, .bool false)] (by kernel_rfl) ?_
      refine AWp.condF (c := .tmp 47) (by kernel_rfl) (by kernel_rfl) ?_
      refine AWp.skip' (by kernel_rfl) ?_
      show AWp _ _ _ _ _
      refine AWp.view [(1, .pointer (some ⟨B.next, 0, none⟩)), (3, .int .i64 ((ns.length : Nat) : Int)), (4, .slice (some ⟨H0.next, 0, none⟩) ns.length ns.length), (5, .pointer (some ⟨H1.next, 0, none⟩)), (33, .slice (some ⟨N, 0, none⟩) ns.length nc), (34, .int .i64 ((ns.length : Nat) : Int)), (35, .int .i64 ((i : Nat) : Int)), (7, .pointer (some ⟨nb, 0, none⟩)), (6, .int .i64 ((i : Nat) : Int))] (by kernel_rfl) ?_
      refine AWp.seq' (by kernel_rfl) (AWp.region' (by kernel_rfl) ?_)
      refine AOps.run (n := 92) [(1, .part (nd.cells) (.slice ka nd.kl.length kc))] [0, 1, 2, 3] [] (cs := [.blk (nb) (nd.cells), .some (apart' nd.cells 8 1 false) (.slice ka nd.kl.length kc)]) (by kernel_rfl) (by kernel_rfl) (by kernel_rfl) ?_ ?_
      · intro x hx
        simp only [List.mem_cons, List.not_mem_nil, or_false] at hx
        rcases hx with rfl | rfl
        · exact ⟨44, false, b4⟩
        · exact apart_one (by rw [← hkv]; rfl)
      show AWp _ _ _ _ _
      refine AWp.view [(1, .pointer (some ⟨B.next, 0, none⟩)), (3, .int .i64 ((ns.length : Nat) : Int)), (4, .slice (some ⟨H0.next, 0, none⟩) ns.length ns.length), (5, .pointer (some ⟨H1.next, 0, none⟩)), (33, .slice (some ⟨N, 0, none⟩) ns.length nc), (34, .int .i64 ((ns.length : Nat) : Int)), (35, .int .i64 ((i : Nat) : Int)), (7, .pointer (some ⟨nb, 0, none⟩)), (6, .int .i64 ((i : Nat) : Int)), (55, .slice ka nd.kl.length kc), (56, .int .i64 ((nd.kl.length : Nat) : Int)), (57, .int .i64 ((0 : Nat) : Int))] (by kernel_rfl) ?_
      refine AWp.block' (id := 2) (by kernel_rfl) ?_
      have hkl : nd.kl.length < far := hklong nd hmem
      unfold far at hkl
      refine AWp.loop' (by kernel_rfl) (N := nd.kl.length - 0) (fun μ E H' => ∃ j : Nat, μ = nd.kl.length - j ∧ j ≤ nd.kl.length ∧ AEnv.le (envOf 92 (mkE [(1, .pointer (some ⟨B.next, 0, none⟩)), (3, .int .i64 ((ns.length : Nat) : Int)), (4, .slice (some ⟨H0.next, 0, none⟩) ns.length ns.length), (5, .pointer (some ⟨H1.next, 0, none⟩)), (33, .slice (some ⟨N, 0, none⟩) ns.length nc), (34, .int .i64 ((ns.length : Nat) : Int)), (35, .int .i64 ((i : Nat) : Int)), (7, .pointer (some ⟨nb, 0, none⟩)), (6, .int .i64 ((i : Nat) : Int)), (55, .slice ka nd.kl.length kc), (56, .int .i64 ((nd.kl.length : Nat) : Int)), (57, .int .i64 ((j : Nat) : Int))])) E ∧ Grow H0.next H4 H' ∧ H'.get H0.next = some (.cells ((cntL ((ns.take i).flatMap Nd.kl ++ nd.kl.take j) ns.length).map fun (k : Nat) => .int .i64 (k : Int)) 3 false)) ⟨0, rfl, Nat.zero_le _, AEnv.le_refl _, Grow.refl _ _, by rw [List.take_zero, List.append_nil]; exact hP4⟩ ?_
      rintro μ E H' ⟨j, rfl, hj, hEj, hgj, hPj⟩
      refine AWp.env hEj ?_
      refine AWp.seq' (by kernel_rfl) (AWp.region' (by kernel_rfl) ?_)
      refine AOps.run (n := 92) [(0, .val (.bool (decide (((j : Nat) : Int) < ((nd.kl.length : Nat) : Int)))))] [0] [] (cs := [.some (some (.bool (decide (((j : Nat) : Int) < ((nd.kl.length : Nat) : Int))))) (.bool (decide (((j : Nat) : Int) < ((nd.kl.length : Nat) : Int))))]) (by kernel_rfl) (by kernel_rfl) (by kernel_rfl) ?_ ?_
      · intro x hx
        simp only [List.mem_cons, List.not_mem_nil, or_false] at hx
        subst hx
        rfl
      show AWp _ _ _ _ _
      refine AWp.view [(1, .pointer (some ⟨B.next, 0, none⟩)), (3, .int .i64 ((ns.length : Nat) : Int)), (4, .slice (some ⟨H0.next, 0, none⟩) ns.length ns.length), (5, .pointer (some ⟨H1.next, 0, none⟩)), (33, .slice (some ⟨N, 0, none⟩) ns.length nc), (34, .int .i64 ((ns.length : Nat) : Int)), (35, .int .i64 ((i : Nat) : Int)), (7, .pointer (some ⟨nb, 0, none⟩)), (6, .int .i64 ((i : Nat) : Int)), (55, .slice ka nd.kl.length kc), (56, .int .i64 ((nd.kl.length : Nat) : Int)), (57, .int .i64 ((j : Nat) : Int)), (58, .bool (decide (((j : Nat) : Int) < ((nd.kl.length : Nat) : Int))))] (by kernel_rfl) ?_
      refine AWp.seq' (by kernel_rfl) (AWp.cond_ (c := .tmp 58) (t := decide (((j : Nat) : Int) < ((nd.kl.length : Nat) : Int))) (by kernel_rfl) (by kernel_rfl) (fun hT => ?_) (fun hF => ?_))
      · have hjl : j < nd.kl.length := by have := of_decide_eq_true hT; omega
        obtain ⟨k, hk⟩ : ∃ k, nd.kl[j]? = some k := ⟨_, List.getElem?_eq_getElem hjl⟩
        have hki : k < i := hkl0 i nd hnd k (List.mem_of_getElem? hk)
        obtain ⟨hka, hkb⟩ := hkk (fun e => by rw [e] at hjl; simp at hjl)
        have hkbH : H'.get kb = some (.cells (nd.kl.map fun (k : Nat) => .int .i64 (k : Int)) 3 false) := hgj.get (hg4.get (hxB2.get hkb) (by have := AHeap.get_lt hkb; omega)) (by have := AHeap.get_lt hkb; omega)
        refine AWp.skip' (by kernel_rfl) ?_
        show AWp _ _ _ _ _
        refine AWp.seq' (by kernel_rfl) (AWp.block' (id := 3) (by kernel_rfl) ?_)
        refine AWp.seq' (by kernel_rfl) (AWp.region' (by kernel_rfl) ?_)
        refine AOps.run (n := 92) [(0, .val (.pointer (some ⟨kb, 0 + j * 1, none⟩))), (1, .part (nd.kl.map fun (k : Nat) => .int .i64 (k : Int)) (.int .i64 ((k : Nat) : Int)))] [0, 1, 2] [] (cs := [.some (aindexAddr Tryz.prog 38 (.slice ka nd.kl.length kc) (.int .i64 ((j : Nat) : Int))) (.pointer (some ⟨kb, 0 + j * 1, none⟩)), .blk (kb) (nd.kl.map fun (k : Nat) => .int .i64 (k : Int)), .some (apart' (nd.kl.map fun (k : Nat) => .int .i64 (k : Int)) (0 + j * 1) 1 false) (.int .i64 ((k : Nat) : Int))]) (by kernel_rfl) (by kernel_rfl) (by kernel_rfl) ?_ ?_
        · intro x hx
          simp only [List.mem_cons, List.not_mem_nil, or_false] at hx
          rcases hx with rfl | rfl | rfl
          · rw [hka]; exact indexAddr_ok (by kernel_rfl : sliceT Tryz.prog 38 = some (3, 1, 8)) hjl
          · exact ⟨3, false, hkbH⟩
          · exact apart_one (by simp [hk])
        show AWp _ _ _ _ _
        refine AWp.view [(1, .pointer (some ⟨B.next, 0, none⟩)), (3, .int .i64 ((ns.length : Nat) : Int)), (4, .slice (some ⟨H0.next, 0, none⟩) ns.length ns.length), (5, .pointer (some ⟨H1.next, 0, none⟩)), (33, .slice (some ⟨N, 0, none⟩) ns.length nc), (34, .int .i64 ((ns.length : Nat) : Int)), (35, .int .i64 ((i : Nat) : Int)), (7, .pointer (some ⟨nb, 0, none⟩)), (6, .int .i64 ((i : Nat) : Int)), (55, .slice ka nd.kl.length kc), (56, .int .i64 ((nd.kl.length : Nat) : Int)), (57, .int .i64 ((j : Nat) : Int)), (9, .int .i64 ((k : Nat) : Int))] (by kernel_rfl) ?_
        refine AWp.seq' (by kernel_rfl) ?_
        refine AWp.seq' (by kernel_rfl) (AWp.region' (by kernel_rfl) ?_)
        refine AOps.run (n := 92) [(1, .val (.bool false)), (5, .val (.bool false))] [0, 1, 2, 3, 4, 5, 6] [] (cs := [.some (some (.bool (decide (((k : Nat) : Int) < ((0 : Nat) : Int))))) (.bool false), .some (some (.bool (decide (((k : Nat) : Int) ≥ ((i : Nat) : Int))))) (.bool false)]) (by kernel_rfl) (by kernel_rfl) (by kernel_rfl) ?_ ?_
        · intro x hx
          simp only [List.mem_cons, List.not_mem_nil, or_false] at hx
          rcases hx with rfl | rfl
          · exact congrArg (fun b => some (Value.bool b)) (decide_eq_false (by omega))
          · exact congrArg (fun b => some (Value.bool b)) (decide_eq_false (by omega))
        show AWp _ _ _ _ _
        refine AWp.view [(1, .pointer (some ⟨B.next, 0, none⟩)), (3, .int .i64 ((ns.length : Nat) : Int)), (4, .slice (some ⟨H0.next, 0, none⟩) ns.length ns.length), (5, .pointer (some ⟨H1.next, 0, none⟩)), (33, .slice (some ⟨N, 0, none⟩) ns.length nc), (34, .int .i64 ((ns.length : Nat) : Int)), (35, .int .i64 ((i : Nat) : Int)), (7, .pointer (some ⟨nb, 0, none⟩)), (6, .int .i64 ((i : Nat) : Int)), (55, .slice ka nd.kl.length kc), (56, .int .i64 ((nd.kl.length : Nat) : Int)), (57, .int .i64 ((j : Nat) : Int)), (9, .int .i64 ((k : Nat) : Int)), (67, .bool false)] (by kernel_rfl) ?_
        refine AWp.condF (c := .tmp 67) (by kernel_rfl) (by kernel_rfl) ?_
        refine AWp.skip' (by kernel_rfl) ?_
        show AWp _ _ _ _ _
        refine AWp.view [(1, .pointer (some ⟨B.next, 0, none⟩)), (3, .int .i64 ((ns.length : Nat) : Int)), (4, .slice (some ⟨H0.next, 0, none⟩) ns.length ns.length), (5, .pointer (some ⟨H1.next, 0, none⟩)), (33, .slice (some ⟨N, 0, none⟩) ns.length nc), (34, .int .i64 ((ns.length : Nat) : Int)), (35, .int .i64 ((i : Nat) : Int)), (7, .pointer (some ⟨nb, 0, none⟩)), (6, .int .i64 ((i : Nat) : Int)), (55, .slice ka nd.kl.length kc), (56, .int .i64 ((nd.kl.length : Nat) : Int)), (57, .int .i64 ((j : Nat) : Int)), (9, .int .i64 ((k : Nat) : Int))] (by kernel_rfl) ?_
        obtain ⟨cn, hcn⟩ : ∃ cn, (cntL ((ns.take i).flatMap Nd.kl ++ nd.kl.take j) ns.length)[k]? = some cn := ⟨_, List.getElem?_eq_getElem (by rw [cnt_len]; omega)⟩
        have hcn2 : cn < far := by have h1 := cnt_at hcn; have h2 : (((ns.take i).flatMap Nd.kl ++ nd.kl.take j)).length < far := hall (i) j nd hnd; rw [h1]; exact Nat.lt_of_le_of_lt (List.count_le_length) h2
        unfold far at hcn2
        refine AWp.region' (by kernel_rfl) ?_
        refine AOps.run (n := 92) [(2, .val (.pointer (some ⟨H0.next, 0 + k * 1, none⟩))), (3, .part ((cntL ((ns.take i).flatMap Nd.kl ++ nd.kl.take j) ns.length).map fun (k : Nat) => .int .i64 (k : Int)) (.int .i64 ((cn : Nat) : Int))), (4, .val (.int .i64 ((cn + 1 : Nat) : Int))), (5, .val (.pointer (some ⟨H0.next, 0 + k * 1, none⟩)))] [0, 1, 2, 3, 4, 5] [6] (cs := [.some (aindexAddr Tryz.prog 38 (.slice (some ⟨H0.next, 0, none⟩) ns.length ns.length) (.int .i64 ((k : Nat) : Int))) (.pointer (some ⟨H0.next, 0 + k * 1, none⟩)), .blk (H0.next) ((cntL ((ns.take i).flatMap Nd.kl ++ nd.kl.take j) ns.length).map fun (k : Nat) => .int .i64 (k : Int)), .some (apart' ((cntL ((ns.take i).flatMap Nd.kl ++ nd.kl.take j) ns.length).map fun (k : Nat) => .int .i64 (k : Int)) (0 + k * 1) 1 false) (.int .i64 ((cn : Nat) : Int)), .some (some (.int .i64 (IntKind.i64.wrap (((cn : Nat) : Int) + ((1 : Nat) : Int))))) (.int .i64 ((cn + 1 : Nat) : Int)), .some (aindexAddr Tryz.prog 38 (.slice (some ⟨H0.next, 0, none⟩) ns.length ns.length) (.int .i64 ((k : Nat) : Int))) (.pointer (some ⟨H0.next, 0 + k * 1, none⟩))]) (by kernel_rfl) (by kernel_rfl) (by kernel_rfl) ?_ ?_
        · intro x hx
          simp only [List.mem_cons, List.not_mem_nil, or_false] at hx
          rcases hx with rfl | rfl | rfl | rfl | rfl
          · exact indexAddr_ok (by kernel_rfl : sliceT Tryz.prog 38 = some (3, 1, 8)) (by omega)
          · exact ⟨3, false, hPj⟩
          · exact apart_one (by simp [hcn])
          · exact congrArg (fun x => some (Value.int .i64 x)) (wrap_add (by omega))
          · exact indexAddr_ok (by kernel_rfl : sliceT Tryz.prog 38 = some (3, 1, 8)) (by omega)
        refine AOps.store (n := 92) 6 [] (t := 3) (v := .int .i64 ((cn + 1 : Nat) : Int)) (b := H0.next) (off := 0 + k * 1) (vs := (cntL ((ns.take i).flatMap Nd.kl ++ nd.kl.take j) ns.length).map fun (k : Nat) => .int .i64 (k : Int)) (e := 3) (vs2 := (cntL ((ns.take i).flatMap Nd.kl ++ nd.kl.take (j + 1)) ns.length).map fun (k : Nat) => .int .i64 (k : Int)) (by kernel_rfl) rfl (by kernel_rfl) (by kernel_rfl) (by kernel_rfl) hPj (int_size (by simp only [List.length_map, cnt_len]; omega)) (cnt_put hk hcn (by omega)) ?_
        show AWp _ _ _ _ _
        refine AWp.region' (by kernel_rfl) ?_
        refine AOps.run (n := 92) [(0, .val (.int .i64 ((j + 1 : Nat) : Int)))] [0, 1] [] (cs := [.some (some (.int .i64 (IntKind.i64.wrap (((j : Nat) : Int) + ((1 : Nat) : Int))))) (.int .i64 ((j + 1 : Nat) : Int))]) (by kernel_rfl) (by kernel_rfl) (by kernel_rfl) ?_ ?_
        · intro x hx
          simp only [List.mem_cons, List.not_mem_nil, or_false] at hx
          subst hx
          exact congrArg (fun x => some (Value.int .i64 x)) (wrap_add (by omega))
        exact ⟨nd.kl.length - (j + 1), by omega, j + 1, rfl, hjl, mkE_le [(1, .pointer (some ⟨B.next, 0, none⟩)), (3, .int .i64 ((ns.length : Nat) : Int)), (4, .slice (some ⟨H0.next, 0, none⟩) ns.length ns.length), (5, .pointer (some ⟨H1.next, 0, none⟩)), (33, .slice (some ⟨N, 0, none⟩) ns.length nc), (34, .int .i64 ((ns.length : Nat) : Int)), (35, .int .i64 ((i : Nat) : Int)), (7, .pointer (some ⟨nb, 0, none⟩)), (6, .int .i64 ((i : Nat) : Int)), (55, .slice ka nd.kl.length kc), (56, .int .i64 ((nd.kl.length : Nat) : Int)), (57, .int .i64 ((j + 1 : Nat) : Int))] (by kernel_rfl), hgj.set (.inr rfl) _, AHeap.get_set_same hPj⟩
      · have hjn : j = nd.kl.length := by have := of_decide_eq_false hF; omega
        subst hjn
        refine AWp.exit' (id := 2) (by kernel_rfl) ?_
        refine ⟨AEnv.le_trans (mkE_le [(1, .pointer (some ⟨B.next, 0, none⟩)), (3, .int .i64 ((ns.length : Nat) : Int)), (4, .slice (some ⟨H0.next, 0, none⟩) ns.length ns.length), (5, .pointer (some ⟨H1.next, 0, none⟩)), (33, .slice (some ⟨N, 0, none⟩) ns.length nc), (34, .int .i64 ((ns.length : Nat) : Int)), (35, .int .i64 ((i : Nat) : Int))] (by kernel_rfl)) (AEnv.le_refl _), hg4.trans hgj, ?_⟩
        rw [List.take_length] at hPj; rw [List.take_add_one, hnd, Option.toList_some, List.flatMap_append]; simpa using hPj
    · rintro E' H' ⟨hE', hg', hP'⟩
      refine AWp.env hE' ?_
      refine AWp.region' (by kernel_rfl) ?_
      refine AOps.run (n := 92) [(0, .val (.int .i64 ((i + 1 : Nat) : Int)))] [0, 1] [] (cs := [.some (some (.int .i64 (IntKind.i64.wrap (((i : Nat) : Int) + ((1 : Nat) : Int))))) (.int .i64 ((i + 1 : Nat) : Int))]) (by kernel_rfl) (by kernel_rfl) (by kernel_rfl) ?_ ?_
      · intro x hx
        simp only [List.mem_cons, List.not_mem_nil, or_false] at hx
        subst hx
        exact congrArg (fun x => some (Value.int .i64 x)) (wrap_add (by omega))
      exact ⟨ns.length - (i + 1), by omega, i + 1, rfl, hlt, mkE_le [(1, .pointer (some ⟨B.next, 0, none⟩)), (3, .int .i64 ((ns.length : Nat) : Int)), (4, .slice (some ⟨H0.next, 0, none⟩) ns.length ns.length), (5, .pointer (some ⟨H1.next, 0, none⟩)), (33, .slice (some ⟨N, 0, none⟩) ns.length nc), (34, .int .i64 ((ns.length : Nat) : Int)), (35, .int .i64 ((i + 1 : Nat) : Int))] (by kernel_rfl), hg', hP'⟩
  · have hge : i = ns.length := by have := of_decide_eq_false hF; omega
    rw [hge, List.take_length] at hP
    refine AWp.exit' (id := 0) (by kernel_rfl) ?_
    show AWp _ _ _ _ _
    refine AWp.view [(1, .pointer (some ⟨B.next, 0, none⟩)), (3, .int .i64 ((ns.length : Nat) : Int)), (4, .slice (some ⟨H0.next, 0, none⟩) ns.length ns.length), (5, .pointer (some ⟨H1.next, 0, none⟩))] (by kernel_rfl) ?_
    refine AWp.seq' (by kernel_rfl) (AWp.region' (by kernel_rfl) ?_)
    refine AOps.write (n := 92) 0 [1] (.pointer (some ⟨H.next, 0, none⟩)) (H.push (.cells [.nilFunc] 70 false)) (by kernel_rfl) rfl (by kernel_rfl) (by kernel_rfl) (by kernel_rfl) (by kernel_rfl) ?_
    refine AOps.store (n := 92) 1 [] (t := 70) (v := .func (.func 21) #[] #[]) (b := H.next) (off := 0) (vs := [.nilFunc]) (e := 70) (vs2 := [.func (.func 21) #[] #[]]) (by kernel_rfl) rfl (by kernel_rfl) (by kernel_rfl) (by kernel_rfl) (AHeap.get_push_new _ _) (by kernel_rfl) (by kernel_rfl) ?_
    show AWp _ _ _ _ _
    obtain ⟨y1, y2, y3⟩ := boxed H (.cells [.nilFunc] 70 false) (.cells [.func (.func 21) #[] #[]] 70 false)
    generalize hHy : (H.push (.cells [.nilFunc] 70 false)).set H.next (.cells [.func (.func 21) #[] #[]] 70 false) = Hy at y1 y2 y3 ⊢
    clear hHy
    refine AWp.view [(1, .pointer (some ⟨B.next, 0, none⟩)), (3, .int .i64 ((ns.length : Nat) : Int)), (4, .slice (some ⟨H0.next, 0, none⟩) ns.length ns.length), (5, .pointer (some ⟨H1.next, 0, none⟩)), (10, .pointer (some ⟨H.next, 0, none⟩))] (by kernel_rfl) ?_
    have hPy := y1.get hP
    have hqy := y1.get (hg.get hq2 (by omega))
    have hty := y1.get htH
    refine AWp.seq' (by kernel_rfl) (AWp.region' (by kernel_rfl) ?_)
    refine AOps.run (n := 92) [(2, .val (.int .i64 ((ns.length - 1 : Nat) : Int))), (3, .val (.slice (some ⟨H0.next, 0 + 0 * 1, none⟩) (ns.length - 1 - 0) (ns.length - 0)))] [0, 1, 2, 3, 4] [5, 6, 7, 8, 9, 10, 11, 12, 13, 14, 15, 16] (cs := [.some (some (.int .i64 (IntKind.i64.wrap (((ns.length : Nat) : Int) - ((1 : Nat) : Int))))) (.int .i64 ((ns.length - 1 : Nat) : Int)), .some (aslice Tryz.prog 38 (.slice (some ⟨H0.next, 0, none⟩) ns.length ns.length) none (some (.int .i64 ((ns.length - 1 : Nat) : Int))) none) (.slice (some ⟨H0.next, 0 + 0 * 1, none⟩) (ns.length - 1 - 0) (ns.length - 0))]) (by kernel_rfl) (by kernel_rfl) (by kernel_rfl) ?_ ?_
    · intro x hx
      simp only [List.mem_cons, List.not_mem_nil, or_false] at hx
      rcases hx with rfl | rfl
      · exact congrArg (fun x => some (Value.int .i64 x)) (wrap_sub (by omega) (by omega))
      · exact slice_front (by omega) (by omega) (by omega)
    refine AOps.call (n := 92) 5 [6, 7, 8, 9, 10, 11, 12, 13, 14, 15, 16] 22 [.slice (some ⟨H0.next, 0 + 0 * 1, none⟩) (ns.length - 1 - 0) (ns.length - 0), .func (.func 23) #[] #[.pointer (some ⟨H.next, 0, none⟩)]] (by kernel_rfl) rfl (by kernel_rfl) (by kernel_rfl) (by kernel_rfl) (by kernel_rfl) (by kernel_rfl) (contains_none (b := H0.next) (o := 0 + 0 * 1) (m := ns.length - 1 - 0) hPy (fun k hk => by simp only [Nat.zero_mul, Nat.zero_add, List.getElem?_map]; rw [cnt_get (by omega), hcount k (by omega)]; rfl) (by unfold far; omega) (.inl rfl) y2) ?_
    rintro e H5 ⟨rfl, hx5⟩
    refine ⟨_, rfl, ?_⟩
    refine AOps.run (n := 92) [(9, .blk ([.slice (some ⟨N, 0, none⟩) ns.length nc, .int .i64 0]))] [6, 7, 8, 9, 10, 11, 12] [13, 14, 15, 16] (cs := [.blk (B.next) ([.slice (some ⟨N, 0, none⟩) ns.length nc, .int .i64 0])]) (by kernel_rfl) (by kernel_rfl) (by kernel_rfl) ?_ ?_
    · intro x hx
      simp only [List.mem_cons, List.not_mem_nil, or_false] at hx
      subst hx
      exact ⟨31, false, (hx5.get hty)⟩
    refine AOps.call (n := 92) 13 [14, 15, 16] 22 [.slice (some ⟨H1.next, 0 + 1 * 1, none⟩) 0 9, .func (.func 24) #[] #[.pointer (some ⟨H.next, 0, none⟩)]] (by kernel_rfl) rfl (by kernel_rfl) (by kernel_rfl) (by kernel_rfl) (by kernel_rfl) (by kernel_rfl) (contains_none (b := H1.next) (o := 0 + 1 * 1) (m := 0) (hx5.get hqy) (fun k hk => absurd hk (Nat.not_lt_zero k)) (by decide) (.inr rfl) (hx5.get y2)) ?_
    rintro e H6 ⟨rfl, hx6⟩
    refine ⟨_, rfl, ?_⟩
    refine AOps.run (n := 92) [] [14, 15, 16] [] (cs := []) (by kernel_rfl) (by kernel_rfl) (by kernel_rfl) ?_ ?_
    · intro x hx; cases hx
    show AWp _ _ _ _ _
    refine AWp.view [(2, .bool true)] (by kernel_rfl) ?_
    have hfin : Ext B H := ⟨Nat.le_trans hxB2.next hg.next, fun i hi => by rw [hg.old i (Nat.lt_of_lt_of_le hi hxB2.next) (by omega)]; exact hxB2.old i hi, hg.rs.trans hxB2.rs⟩
    exact AWp.ret' (by kernel_rfl) ⟨[.bool true], by kernel_rfl, rfl, (hfin.trans y1).trans (hx5.trans hx6)⟩
end Go.Proofs.YtihpfgnigpmihaaGreat
