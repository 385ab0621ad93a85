/- Appending one element; law13.Cells. -/
import Derived.Test.YtihpfgnigpmihaaGreatC17
set_option linter.unusedVariables false
set_option linter.unusedSimpArgs false
set_option maxRecDepth 100000
namespace Go.Proofs.YtihpfgnigpmihaaGreat
open Go

/-- A type of elements. -/
structure Elt (P : Program) (α : Type) where
  t : TypeId
  e : TypeId
  s : Nat
  b : Nat
  enc : α → List Value
  hs : sliceT P t = some (e, s, b)
  hz : (zeroT P e).map (fun z => (vcells z).length) = some s
  len : ∀ a, (enc a).length = s
  one : ∀ a, (enc a).all (·.oneCell') = true
  hb : 0 < b ∧ b ≤ 1024
def OwnG {P : Program} {α : Type} (E : Elt P α) (b : Nat) (H : AHeap) (x : Value) (xs : List α) (o : List Nat) : Prop := (xs = [] ∧ x = .slice none 0 0 ∧ o = []) ∨
  ∃ id, x = .slice (some ⟨id, 0, none⟩) xs.length (unk E.s) ∧ H.get id = some (.cells (xs.flatMap E.enc) E.e false) ∧ o = [id] ∧ b ≤ id
section
variable {P : Program} {α : Type} {E : Elt P α}
theorem OwnG.keep {b : Nat} {H H' : AHeap} {x : Value} {xs : List α} {o : List Nat} (h : OwnG E b H x xs o) (hk : ∀ i ∈ o, i < H.next → H'.get i = H.get i) : OwnG E b H' x xs o := by
  rcases h with h | ⟨id, h1, h2, rfl, h4⟩
  · exact .inl h
  · exact .inr ⟨id, h1, by rw [hk id (List.mem_singleton.2 rfl) (AHeap.get_lt h2)]; exact h2, rfl, h4⟩
theorem OwnG.lt {b : Nat} {H : AHeap} {x : Value} {xs : List α} {o : List Nat} (h : OwnG E b H x xs o) : ∀ i ∈ o, i < H.next ∧ b ≤ i := by
  rcases h with ⟨_, _, rfl⟩ | ⟨id, h1, h2, rfl, h4⟩
  · intro i hi; cases hi
  · intro i hi; cases List.mem_singleton.1 hi; exact ⟨AHeap.get_lt h2, h4⟩
theorem OwnG.split {b : Nat} {H : AHeap} {x : Value} {xs : List α} {o : List Nat} (h : OwnG E b H x xs o) : ∃ ra id c, x = .slice ra xs.length c ∧ (xs ≠ [] → ra = some ⟨id, 0, none⟩ ∧ H.get id = some (.cells (xs.flatMap E.enc) E.e false) ∧ b ≤ id) := by
  rcases h with ⟨rfl, rfl, _⟩ | ⟨id, h1, h2, _, h4⟩
  · exact ⟨none, 0, 0, rfl, fun h => absurd rfl h⟩
  · exact ⟨some ⟨id, 0, none⟩, id, _, h1, fun _ => ⟨rfl, h2, h4⟩⟩
/-- One element appended to a slice of one's own. -/
theorem append_ownG (E : Elt P α) {b : Nat} {H : AHeap} {x : Value} {xs : List α} {o : List Nat} {j c : Nat} {a : α} (hx : OwnG E b H x xs o) (hj : H.get j = some (.cells (E.enc a) E.e false)) (hlen : xs.length + 1 < far) (hb : b ≤ H.next) :
    ∃ v H' o', aappend P H E.t E.t x (.slice (some ⟨j, 0, none⟩) 1 c) = some (v, H') ∧ OwnG E b H' v (xs ++ [a]) o' ∧ (∀ i ∈ o', i ∈ o ∨ H.next ≤ i) ∧ (∀ i, i < H.next → i ∉ o → H'.get i = H.get i) ∧ H.next ≤ H'.next ∧ H'.rs = H.rs := by
  obtain ⟨z, hz, hzl⟩ : ∃ z, zeroT P E.e = some z ∧ (vcells z).length = E.s := by
    have := E.hz
    cases h : zeroT P E.e with
    | none => rw [h] at this; cases this
    | some z => rw [h] at this; exact ⟨z, rfl, Option.some.inj this⟩
  unfold far at hlen
  have hb1 := E.hb.1
  have hb2 := E.hb.2
  have hmul : ∀ n, n ≤ 268435456 → n * E.b ≤ 140737488355328 := fun n hn => Nat.le_trans (Nat.mul_le_mul hn hb2) (by decide)
  have src : asrc P H E.t E.s (.slice (some ⟨j, 0, none⟩) 1 c) = some (1, E.enc a) := by
    unfold asrc
    rw [E.hs]
    simp only [hj]
    rw [if_neg (by decide), if_pos (by rw [E.len]; simp)]
    simp only [Nat.one_mul, List.drop_zero]
    rw [← E.len a, List.take_length]
  unfold aappend
  rw [E.hs]
  simp only [hz]
  rw [if_pos ⟨hzl, hb1⟩, src]
  simp only [E.one, if_true]
  rcases hx with ⟨rfl, rfl, rfl⟩ | ⟨id, rfl, h2, rfl, h4⟩
  · unfold aappendTo
    simp only []
    rw [if_neg (by decide), if_pos (hmul 1 (by decide))]
    refine ⟨_, _, [H.next], rfl, .inr ⟨H.next, by simp, by rw [AHeap.get_push_new]; simp, rfl, hb⟩, fun i hi => .inr (by cases List.mem_singleton.1 hi; exact Nat.le_refl _), fun i hi _ => ?_, Nat.le_succ _, rfl⟩
    rw [AHeap.get_push, if_neg (Nat.ne_of_lt hi)]
  · have hfl : (xs.flatMap E.enc).length = xs.length * E.s := flatMap_len E.enc E.s E.len xs
    unfold aappendTo
    simp only [h2]
    rw [if_neg (by decide), if_pos (by rw [hfl]; omega), if_pos trivial, if_pos ⟨trivial, trivial, hmul _ (by omega)⟩]
    refine ⟨_, _, [H.next], rfl, .inr ⟨H.next, by simp, ?_, rfl, hb⟩, fun i hi => .inr (by cases List.mem_singleton.1 hi; exact Nat.le_refl _), fun i hi hn => ?_, Nat.le_succ _, rfl⟩
    · have : ((xs.flatMap E.enc).drop 0).take (xs.length * E.s) = xs.flatMap E.enc := by rw [List.drop_zero, ← hfl, List.take_length]
      show ((H.kill id).push (.cells (((xs.flatMap E.enc).drop 0).take (xs.length * E.s) ++ E.enc a) E.e false)).get (H.kill id).next = _
      rw [AHeap.get_push_new, this, List.flatMap_append]; simp
    · show ((H.kill id).push _).get i = _
      rw [AHeap.get_push, if_neg (show i ≠ (H.kill id).next from Nat.ne_of_lt hi), AHeap.get_kill_ne (by simpa using hn)]
end

def cellElt : Elt Tryz.prog Int := ⟨23, 25, 1, 4, fun c => [.int .i32 c], by kernel_rfl, by kernel_rfl, fun _ => rfl, fun _ => rfl, by decide⟩
theorem cell_enc (l : List Int) : l.flatMap cellElt.enc = l.map fun c => .int .i32 c := by
  induction l with
  | nil => rfl
  | cons a l ih => rw [List.flatMap_cons, ih]; rfl
def cellOf (z : Nat) : Int := if z % 7 = 0 then 97 else if z % 7 = 1 then 98 else if z % 7 = 2 then 99 else if z % 7 = 3 then 65 else if z % 7 = 4 then 97 else if z % 7 = 5 then 98 else 10
theorem cellOf_at (z : Nat) : ([.int .i32 97, .int .i32 98, .int .i32 99, .int .i32 65, .int .i32 97, .int .i32 98, .int .i32 10] : List Value)[0 + z % 7 * 1]? = some (.int .i32 (cellOf z)) := by
  have h : z % 7 < 7 := Nat.mod_lt _ (by decide)
  unfold cellOf
  rcases (show z % 7 = 0 ∨ z % 7 = 1 ∨ z % 7 = 2 ∨ z % 7 = 3 ∨ z % 7 = 4 ∨ z % 7 = 5 ∨ z % 7 = 6 from by omega) with h | h | h | h | h | h | h <;> rw [h] <;> rfl
theorem rem_ok (k : IntKind) (z m : Nat) (hm : 0 < m) : anum .rem k k (z : Int) (m : Int) = some (.int k ((z % m : Nat) : Int)) := by
  unfold anum
  simp only [if_true]
  unfold aint
  simp only []
  rw [if_neg (by omega), Int.ofNat_tmod]

theorem cells_own {B : AHeap} {da : Option Addr} {dc D top : Nat} {zs : List Nat} (h256 : ∀ z ∈ zs, z < 256) (htop : top < 1000) (hd : zs ≠ [] → da = some ⟨D, 0, none⟩ ∧ ∃ e ro, B.get D = some (.cells (zs.map fun (z : Nat) => .int .u8 (z : Int)) e ro)) :
    ACall Tryz.prog 7 [.slice da zs.length dc, .int .i64 (top : Int)] B fun e B' => ∃ v ol, e = .ret v ∧ Ext B B' ∧ OwnG cellElt B.next B' v ((zs.take top).map cellOf) ol := by
  refine ACall.walk (fn := Tryz.f7) (c := bodyOf Tryz.prog 7) (by kernel_rfl) (by kernel_rfl) (by kernel_rfl) ?_
  refine AWp.seq' (by kernel_rfl) (AWp.region' (by kernel_rfl) ?_)
  refine AOps.run (n := 30) [] [0] [] (cs := []) (by kernel_rfl) (by kernel_rfl) (by kernel_rfl) ?_ ?_
  · intro x hx; cases hx
  show AWp _ _ _ _ _
  refine AWp.view [(0, .slice da zs.length dc), (1, .int .i64 ((top : Nat) : Int))] (by kernel_rfl) ?_
  refine AWp.seq' (by kernel_rfl) (AWp.region' (by kernel_rfl) ?_)
  refine AOps.run (n := 30) [] [0] [] (cs := []) (by kernel_rfl) (by kernel_rfl) (by kernel_rfl) ?_ ?_
  · intro x hx; cases hx
  show AWp _ _ _ _ _
  refine AWp.view [(0, .slice da zs.length dc), (1, .int .i64 ((top : Nat) : Int)), (5, .slice none 0 0)] (by kernel_rfl) ?_
  refine AWp.seq' (by kernel_rfl) ?_
  refine AWp.seq' (by kernel_rfl) (AWp.region' (by kernel_rfl) ?_)
  refine AOps.run (n := 30) [] [0] [] (cs := []) (by kernel_rfl) (by kernel_rfl) (by kernel_rfl) ?_ ?_
  · intro x hx; cases hx
  show AWp _ _ _ _ _
  refine AWp.view [(0, .slice da zs.length dc), (1, .int .i64 ((top : Nat) : Int)), (5, .slice none 0 0), (6, .int .i64 ((0 : Nat) : Int))] (by kernel_rfl) ?_
  refine AWp.block' (id := 0) (by kernel_rfl) ?_
  refine AWp.loop' (by kernel_rfl) (N := zs.length - 0) (fun m E H => ∃ (k : Nat) (o : Value) (ol : List Nat), m = zs.length - k ∧ k ≤ zs.length ∧ k ≤ top ∧ AEnv.le (envOf 30 (mkE [(0, .slice da zs.length dc), (1, .int .i64 ((top : Nat) : Int)), (5, o), (6, .int .i64 ((k : Nat) : Int))])) E ∧ Ext B H ∧ OwnG cellElt B.next H o ((zs.take k).map cellOf) ol)
    ⟨0, .slice none 0 0, [], rfl, Nat.zero_le _, Nat.zero_le _, AEnv.le_refl _, Ext.refl B, .inl ⟨rfl, rfl, rfl⟩⟩ ?_
  rintro m E H ⟨k, o, ol, rfl, hk, hkt, hE, hx, ho⟩
  refine AWp.env hE ?_
  refine AWp.seq' (by kernel_rfl) ?_
  by_cases hc : k < zs.length ∧ k < top
  · obtain ⟨hlt, hlt2⟩ := hc
    refine AWp.seq' (by kernel_rfl) (AWp.region' (by kernel_rfl) ?_)
    refine AOps.run (n := 30) [(3, .val (.bool true)), (7, .val (.bool true))] [0, 1, 2, 3, 4, 5, 6, 7, 8] [] (cs := [.some (some (.bool (decide ((k : Int) < (zs.length : Int))))) (.bool true), .some (some (.bool (decide ((k : Int) < (top : Int))))) (.bool true)]) (by kernel_rfl) (by kernel_rfl) (by kernel_rfl) ?_ ?_
    · intro x hx
      simp only [List.mem_cons, List.not_mem_nil, or_false] at hx
      rcases hx with rfl | rfl
      · exact congrArg (fun b => some (Value.bool b)) (decide_eq_true (by omega))
      · exact congrArg (fun b => some (Value.bool b)) (decide_eq_true (by omega))
    show AWp _ _ _ _ _
    refine AWp.view [(0, .slice da zs.length dc), (1, .int .i64 ((top : Nat) : Int)), (5, o), (6, .int .i64 ((k : Nat) : Int)), (15, .bool true)] (by kernel_rfl) ?_
    refine AWp.condT (c := .tmp 15) (by kernel_rfl) (by kernel_rfl) ?_
    refine AWp.skip' (by kernel_rfl) ?_
    show AWp _ _ _ _ _
    refine AWp.seq' (by kernel_rfl) (AWp.block' (id := 1) (by kernel_rfl) ?_)
    obtain ⟨z, hz⟩ : ∃ z, zs[k]? = some z := ⟨_, List.getElem?_eq_getElem hlt⟩
    have hz256 : z < 256 := h256 z (List.mem_of_getElem? hz)
    obtain ⟨hda, e, ro, hD⟩ := hd (fun e => by rw [e] at hlt; simp at hlt)
    refine AWp.region' (by kernel_rfl) ?_
    refine AOps.run (n := 30) [] [0] [1, 2, 3, 4, 5, 6, 7, 8, 9, 10, 11] (cs := []) (by kernel_rfl) (by kernel_rfl) (by kernel_rfl) ?_ ?_
    · intro x hx; cases hx
    refine AOps.write (n := 30) 1 [2, 3, 4, 5, 6, 7, 8, 9, 10, 11] (.slice (some ⟨H.next, 0, none⟩) 7 7) (H.push (.cells [.int .i32 97, .int .i32 98, .int .i32 99, .int .i32 65, .int .i32 97, .int .i32 98, .int .i32 10] 25 false)) (by kernel_rfl) rfl (by kernel_rfl) (by kernel_rfl) (by kernel_rfl) (by kernel_rfl) ?_
    have hH1 : (H.push (.cells [.int .i32 97, .int .i32 98, .int .i32 99, .int .i32 65, .int .i32 97, .int .i32 98, .int .i32 10] 25 false)).get H.next = some (.cells [.int .i32 97, .int .i32 98, .int .i32 99, .int .i32 65, .int .i32 97, .int .i32 98, .int .i32 10] 25 false) := AHeap.get_push_new _ _
    have hx1 : Ext H (H.push (.cells [.int .i32 97, .int .i32 98, .int .i32 99, .int .i32 65, .int .i32 97, .int .i32 98, .int .i32 10] 25 false)) := Ext.push _ _
    have hn1 : (H.push (.cells [.int .i32 97, .int .i32 98, .int .i32 99, .int .i32 65, .int .i32 97, .int .i32 98, .int .i32 10] 25 false)).next = H.next + 1 := rfl
    generalize H.push (.cells [.int .i32 97, .int .i32 98, .int .i32 99, .int .i32 65, .int .i32 97, .int .i32 98, .int .i32 10] 25 false) = H1 at hH1 hx1 hn1 ⊢
    refine AOps.run (n := 30) [(4, .val (.pointer (some ⟨D, 0 + k * 1, none⟩))), (5, .part (zs.map fun (z : Nat) => .int .u8 (z : Int)) (.int .u8 (z : Int))), (6, .val (.int .u8 ((z % 7 : Nat) : Int))), (7, .val (.pointer (some ⟨H.next, 0 + z % 7 * 1, none⟩))), (8, .part ([.int .i32 97, .int .i32 98, .int .i32 99, .int .i32 65, .int .i32 97, .int .i32 98, .int .i32 10]) (.int .i32 (cellOf z)))] [2, 3, 4, 5, 6, 7, 8] [9, 10, 11] (cs := [.some (aindexAddr Tryz.prog 22 (.slice da zs.length dc) (.int .i64 ((k : Nat) : Int))) (.pointer (some ⟨D, 0 + k * 1, none⟩)), .blk (D) (zs.map fun (z : Nat) => .int .u8 (z : Int)), .some (apart' (zs.map fun (z : Nat) => .int .u8 (z : Int)) (0 + k * 1) 1 false) (.int .u8 (z : Int)), .some (anum .rem .u8 .u8 (z : Int) 7) (.int .u8 ((z % 7 : Nat) : Int)), .some (aindexAddr Tryz.prog 23 (.slice (some ⟨H.next, 0, none⟩) 7 7) (.int .u8 ((z % 7 : Nat) : Int))) (.pointer (some ⟨H.next, 0 + z % 7 * 1, none⟩)), .blk (H.next) ([.int .i32 97, .int .i32 98, .int .i32 99, .int .i32 65, .int .i32 97, .int .i32 98, .int .i32 10]), .some (apart' [.int .i32 97, .int .i32 98, .int .i32 99, .int .i32 65, .int .i32 97, .int .i32 98, .int .i32 10] (0 + z % 7 * 1) 1 false) (.int .i32 (cellOf z))]) (by kernel_rfl) (by kernel_rfl) (by kernel_rfl) ?_ ?_
    · intro x hx
      simp only [List.mem_cons, List.not_mem_nil, or_false] at hx
      rcases hx with rfl | rfl | rfl | rfl | rfl | rfl | rfl
      · rw [hda]; exact indexAddr_ok (by kernel_rfl : sliceT Tryz.prog 22 = some (5, 1, 1)) hlt
      · exact ⟨e, ro, hx1.get (hx.get hD)⟩
      · exact apart_one (by simp [hz])
      · exact rem_ok .u8 z 7 (by decide)
      · exact indexAddr_ok (by kernel_rfl : sliceT Tryz.prog 23 = some (25, 1, 4)) (Nat.mod_lt _ (by decide))
      · exact ⟨25, false, hH1⟩
      · exact apart_one (cellOf_at z)
    refine AOps.write (n := 30) 9 [10, 11] (.slice (some ⟨H1.next, 0, none⟩) 1 1) (H1.push (.cells [.int .i32 (cellOf z)] 25 false)) (by kernel_rfl) rfl (by kernel_rfl) (by kernel_rfl) (by kernel_rfl) (by kernel_rfl) ?_
    obtain ⟨v, H3, o3, a1, a2, a3, a4, a5, a6⟩ := append_ownG cellElt (b := B.next) (H := H1.push (.cells [.int .i32 (cellOf z)] 25 false)) (j := H1.next) (a := cellOf z) (c := 1) (ho.keep fun i _ hi => (hx1.trans (Ext.push _ _)).old i hi) (AHeap.get_push_new _ _) (by have := List.length_take_le k zs; simp only [List.length_map]; unfold far; omega) (by have := hx.next; simp only [AHeap.push]; omega)
    refine AOps.append (n := 30) 10 [11] (t := 23) (tx := 23) (x := o) (y := .slice (some ⟨H1.next, 0, none⟩) 1 1) (v := v) (H' := H3) (by kernel_rfl) rfl (by kernel_rfl) (by kernel_rfl) (by kernel_rfl) a1 ?_
    refine AOps.run (n := 30) [] [11] [] (cs := []) (by kernel_rfl) (by kernel_rfl) (by kernel_rfl) ?_ ?_
    · intro x hx; cases hx
    show AWp _ _ _ _ _
    refine AWp.region' (by kernel_rfl) ?_
    refine AOps.run (n := 30) [(1, .val (.int .i64 ((k + 1 : Nat) : Int)))] [0, 1, 2] [] (cs := [.some (some (.int .i64 (IntKind.i64.wrap ((k : Int) + ((1 : Nat) : Int))))) (.int .i64 ((k + 1 : Nat) : Int))]) (by kernel_rfl) (by kernel_rfl) (by kernel_rfl) ?_ ?_
    · intro x hx
      simp only [List.mem_cons, List.not_mem_nil, or_false] at hx
      subst hx
      exact congrArg (fun x => some (Value.int .i64 x)) (wrap_add (by omega))
    have hold : ∀ i, i < B.next → H3.get i = B.get i := fun i hi => by
      have h1 := hx.next; have h2 := hx1.next
      rw [a4 i (by simp only [AHeap.push]; omega) (fun h => by have := ho.lt i h; omega), (Ext.push H1 _).old i (by omega), hx1.old i (by omega), hx.old i hi]
    exact ⟨zs.length - (k + 1), by omega, k + 1, v, o3, rfl, hlt, hlt2, mkE_le [(0, .slice da zs.length dc), (1, .int .i64 ((top : Nat) : Int)), (5, v), (6, .int .i64 ((k + 1 : Nat) : Int))] (by kernel_rfl), ⟨by have h1 := hx.next; have h2 := hx1.next; simp only [AHeap.push] at a5; omega, hold, a6.trans (hx1.rs.trans hx.rs)⟩, by rw [List.take_add_one, hz, List.map_append]; exact a2⟩
  have hend : (zs.take k).map cellOf = (zs.take top).map cellOf := by
    by_cases h1 : k < zs.length
    · rw [show k = top from by omega]
    · rw [List.take_of_length_le (by omega), List.take_of_length_le (by omega)]
  have fin : AWp Tryz.prog (snd (snd (snd (bodyOf Tryz.prog 7)))) (finA Tryz.prog Tryz.f7 fun e B' => ∃ v ol, e = .ret v ∧ Ext B B' ∧ OwnG cellElt B.next B' v ((zs.take top).map cellOf) ol) (envOf 30 (mkE [(5, o)])) H := by
    rw [hend] at ho
    refine AWp.seq' (by kernel_rfl) (AWp.region' (by kernel_rfl) ?_)
    refine AOps.run (n := 30) [] [0, 1] [] (cs := []) (by kernel_rfl) (by kernel_rfl) (by kernel_rfl) ?_ ?_
    · intro x hx; cases hx
    show AWp _ _ _ _ _
    refine AWp.view [(4, o)] (by kernel_rfl) ?_
    exact AWp.ret' (by kernel_rfl) ⟨[o], by kernel_rfl, o, ol, rfl, hx, ho⟩
  by_cases h1 : k < zs.length
  · skip
    refine AWp.seq' (by kernel_rfl) (AWp.region' (by kernel_rfl) ?_)
    refine AOps.run (n := 30) [(3, .val (.bool true)), (7, .val (.bool false))] [0, 1, 2, 3, 4, 5, 6, 7, 8] [] (cs := [.some (some (.bool (decide ((k : Int) < (zs.length : Int))))) (.bool true), .some (some (.bool (decide ((k : Int) < (top : Int))))) (.bool false)]) (by kernel_rfl) (by kernel_rfl) (by kernel_rfl) ?_ ?_
    · intro x hx
      simp only [List.mem_cons, List.not_mem_nil, or_false] at hx
      rcases hx with rfl | rfl
      · exact congrArg (fun b => some (Value.bool b)) (decide_eq_true (by omega))
      · exact congrArg (fun b => some (Value.bool b)) (decide_eq_false (by omega))
    show AWp _ _ _ _ _
    refine AWp.view [(0, .slice da zs.length dc), (1, .int .i64 ((top : Nat) : Int)), (5, o), (6, .int .i64 ((k : Nat) : Int)), (15, .bool false)] (by kernel_rfl) ?_
    refine AWp.condF (c := .tmp 15) (by kernel_rfl) (by kernel_rfl) ?_
    refine AWp.exit' (id := 0) (by kernel_rfl) ?_
    exact AWp.view [(5, o)] (by kernel_rfl) fin
  · skip
    refine AWp.seq' (by kernel_rfl) (AWp.region' (by kernel_rfl) ?_)
    refine AOps.run (n := 30) [(3, .val (.bool false))] [0, 1, 2, 3, 4, 5, 6, 7, 8] [] (cs := [.some (some (.bool (decide ((k : Int) < (zs.length : Int))))) (.bool false)]) (by kernel_rfl) (by kernel_rfl) (by kernel_rfl) ?_ ?_
    · intro x hx
      simp only [List.mem_cons, List.not_mem_nil, or_false] at hx
      subst hx
      exact congrArg (fun b => some (Value.bool b)) (decide_eq_false (by omega))
    show AWp _ _ _ _ _
    refine AWp.view [(0, .slice da zs.length dc), (1, .int .i64 ((top : Nat) : Int)), (5, o), (6, .int .i64 ((k : Nat) : Int)), (15, .bool false)] (by kernel_rfl) ?_
    refine AWp.condF (c := .tmp 15) (by kernel_rfl) (by kernel_rfl) ?_
    refine AWp.exit' (id := 0) (by kernel_rfl) ?_
    exact AWp.view [(5, o)] (by kernel_rfl) fin
theorem cells_spec {B : AHeap} {da : Option Addr} {dc D top : Nat} {zs : List Nat} (h256 : ∀ z ∈ zs, z < 256) (htop : top < 1000) (hd : zs ≠ [] → da = some ⟨D, 0, none⟩ ∧ ∃ e ro, B.get D = some (.cells (zs.map fun (z : Nat) => .int .u8 (z : Int)) e ro)) :
    ACall Tryz.prog 7 [.slice da zs.length dc, .int .i64 (top : Int)] B fun e B' => ∃ ra R rc, e = .ret (.slice ra ((zs.take top).map cellOf).length rc) ∧ Ext B B' ∧
      ((zs.take top).map cellOf ≠ [] → ra = some ⟨R, 0, none⟩ ∧ B.next ≤ R ∧ B'.get R = some (.cells (((zs.take top).map cellOf).map fun c => .int .i32 c) 25 false)) := by
  refine (cells_own h256 htop hd).mono ?_
  rintro e B' ⟨v, ol, rfl, hx, ho⟩
  obtain ⟨ra, R, rc, rfl, ho2⟩ := ho.split
  refine ⟨ra, R, rc, rfl, hx, fun h => ?_⟩
  obtain ⟨q1, q2, q3⟩ := ho2 h
  exact ⟨q1, q3, by rw [q2]; rw [cell_enc]; rfl⟩
end Go.Proofs.YtihpfgnigpmihaaGreat
