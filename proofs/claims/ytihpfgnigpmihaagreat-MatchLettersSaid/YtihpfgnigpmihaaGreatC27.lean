/- MatchLetters. -/
import Derived.Test.YtihpfgnigpmihaaGreatC26
set_option linter.unusedVariables false
set_option linter.unusedSimpArgs false
set_option maxRecDepth 100000
namespace Go.Proofs.YtihpfgnigpmihaaGreat
open Go

theorem conv_u8 {k : Nat} (hk : k < 256) : aconv Tryz.prog 5 3 (.int .u8 (k : Int)) = some (.int .i64 ((k : Nat) : Int)) := by
  have h : aconv Tryz.prog 5 3 (.int .u8 (k : Int)) = some (.int .i64 (IntKind.i64.wrap (k : Int))) := by kernel_rfl
  rw [h, wrap_id (by omega) (by omega)]
theorem Found.split {W : Nat → List Res} {start len : Nat} {e : AEnd} {B : AHeap} (h : Found W start len e B) : ∃ sv b, e = .ret (.tuple #[sv, .bool b]) ∧
    (b = true → ∃ q x l j, start ≤ q ∧ q ≤ len ∧ W q = x :: l ∧ (∀ i, start ≤ i → i < q → W i = []) ∧ sv = .slice (some ⟨j, 0, none⟩) 1 (unk 2) ∧ B.get j = some (.cells [.int .i64 ((q : Nat) : Int), .int .i64 ((x.stop : Nat) : Int)] 35 false)) ∧
    (b = false → ∀ i, start ≤ i → i ≤ len → W i = []) := by
  rcases h with ⟨q, x, l, j, h1, h2, h3, h4, rfl, h5⟩ | ⟨h1, rfl⟩
  · exact ⟨_, true, rfl, fun _ => ⟨q, x, l, j, h1, h2, h3, h4, rfl, h5⟩, (fun h => by cases h)⟩
  · exact ⟨_, false, rfl, (fun h => by cases h), fun _ => h1⟩
theorem eq_span {x y : Operand} (a b : Int) : aagg Tryz.prog .eql 35 x y (.agg #[.int .i64 a, .int .i64 b]) (.agg #[.int .i64 a, .int .i64 b]) = some (.bool true) := by rw [agg35]; simp

theorem cellOf_good (z : Nat) : 0 ≤ cellOf z ∧ cellOf z < 128 := by
  unfold cellOf
  repeat' split
  all_goals decide
theorem node_one (nd : Nd) : nd.cells.all (·.oneCell') = true := by
  have h1 := nd.h1; have h2 := nd.h2; have h3 := nd.h3
  simp only [Nd.cells, List.all_cons, List.all_nil, h1, h2, h3, Bool.and_true]
  rfl
def nodeElt : Elt Tryz.prog Nd := ⟨29, 44, 9, 112, Nd.cells, by kernel_rfl, by kernel_rfl, fun _ => rfl, node_one, by decide⟩
def intElt : Elt Tryz.prog Nat := ⟨38, 3, 1, 8, fun k => [.int .i64 (k : Int)], by kernel_rfl, by kernel_rfl, fun _ => rfl, fun _ => rfl, by decide⟩
theorem int_enc (l : List Nat) : l.flatMap intElt.enc = l.map fun (k : Nat) => .int .i64 (k : Int) := by
  induction l with
  | nil => rfl
  | cons a l ih => rw [List.flatMap_cons, ih]; rfl
theorem own_apart {α β : Type} {E1 : Elt Tryz.prog α} {E2 : Elt Tryz.prog β} {b1 b2 : Nat} {H : AHeap} {x y : Value} {xs : List α} {ys : List β} {l1 l2 : List Nat} (h : OwnG E1 b1 H x xs l1) (k : OwnG E2 b2 H y ys l2) (hne : E1.e ≠ E2.e) : ∀ i ∈ l2, i ∉ l1 := by
  rcases h with ⟨_, _, rfl⟩ | ⟨i1, _, h2, rfl, _⟩
  · intro i _ hm; cases hm
  · rcases k with ⟨_, _, rfl⟩ | ⟨i2, _, k2, rfl, _⟩
    · intro i hm; cases hm
    · intro i hm hm1
      cases List.mem_singleton.1 hm
      cases List.mem_singleton.1 hm1
      rw [h2] at k2
      simp only [Option.some.injEq, ABlk.cells.injEq] at k2
      exact hne k2.2.1
def letterNd (c : Int) : Nd := ⟨1, c, false, .slice none 0 0, .slice none 0 0, 0, 0, 0, .slice none 0 0, [], rfl, rfl, rfl⟩
def emptyNd : Nd := ⟨11, 0, false, .slice none 0 0, .slice none 0 0, 0, 0, 0, .slice none 0 0, [], rfl, rfl, rfl⟩
def rowNd (kb n : Nat) : Nd := ⟨8, 0, false, .slice none 0 0, .slice none 0 0, 0, 0, 0, .slice (some ⟨kb, 0, none⟩) n (unk 1), List.range n, rfl, rfl, rfl⟩
def lettersNs (kb : Nat) (xs : List Int) : List Nd := if xs.length = 0 then [emptyNd] else if xs.length = 1 then xs.map letterNd else xs.map letterNd ++ [rowNd kb xs.length]
def lettersL (xs : List Int) : List NdR := if xs.length = 0 then [⟨11, 0, 0, 0, 0, none, []⟩] else if xs.length = 1 then xs.map (fun c => ⟨1, c, 0, 0, 0, none, []⟩) else xs.map (fun c => ⟨1, c, 0, 0, 0, none, []⟩) ++ [⟨8, 0, 0, 0, 0, none, List.range xs.length⟩]
theorem letters_one {kb : Nat} {xs : List Int} (h0 : xs ≠ []) (h1 : xs.length ≤ 1) : lettersNs kb xs = xs.map letterNd := by
  have h : xs.length ≠ 0 := fun e => h0 (List.eq_nil_of_length_eq_zero e)
  unfold lettersNs; rw [if_neg h, if_pos (by omega)]
theorem letters_many {kb : Nat} {xs : List Int} (h2 : 2 ≤ xs.length) : lettersNs kb xs = xs.map letterNd ++ [rowNd kb xs.length] := by
  unfold lettersNs; rw [if_neg (by omega), if_neg (by omega)]
theorem letters_ne (kb : Nat) (xs : List Int) : lettersNs kb xs ≠ [] := by
  unfold lettersNs
  intro h
  have := congrArg List.length h
  split at this
  · simp at this
  · split at this
    · simp at this; simp_all
    · simp at this
theorem letters_len (kb : Nat) (xs : List Int) : (lettersNs kb xs).length ≤ xs.length + 1 := by
  unfold lettersNs; split
  · simp
  · split <;> simp
theorem letters_pos (xs : List Int) : 0 < (lettersL xs).length := by
  unfold lettersL; split
  · simp
  · split
    · simp; omega
    · simp
theorem letters_pn (kb : Nat) (xs : List Int) : (lettersNs kb xs).map Nd.pn = (lettersL xs).map NdR.pn := by
  unfold lettersNs lettersL
  split
  · rfl
  · split
    · rw [List.map_map, List.map_map]; rfl
    · rw [List.map_append, List.map_append, List.map_map, List.map_map]; rfl
theorem letters_small {xs : List Int} (h : xs.length ≤ 4) : (decide ((lettersL xs).length < far) && (lettersL xs).all fun r => decide (r.kl.length < far)) = true := by
  have hf : far = 268435456 := rfl
  rw [Bool.and_eq_true, decide_eq_true_eq, List.all_eq_true]
  constructor
  · unfold lettersL; split
    · simp [hf]
    · split
      · simp; omega
      · simp; omega
  · intro r hr
    have hk : r.kl = [] ∨ r.kl = List.range xs.length := by
      unfold lettersL at hr
      split at hr
      · cases List.mem_singleton.1 hr; exact .inl rfl
      · split at hr
        · obtain ⟨c, _, rfl⟩ := List.mem_map.1 hr; exact .inl rfl
        · rcases List.mem_append.1 hr with hr | hr
          · obtain ⟨c, _, rfl⟩ := List.mem_map.1 hr; exact .inl rfl
          · cases List.mem_singleton.1 hr; exact .inr rfl
    rw [decide_eq_true_eq]
    rcases hk with hk | hk
    · rw [hk]; simp [hf]
    · rw [hk, List.length_range]; omega
theorem letters_den {xs row : List Int} (h : xs.length ≤ 4) {q : Nat} (hq : q + 5 < far) : ∃ n, den ((lettersL xs).map NdR.pn) row n ⟨(lettersL xs).length - 1, 0, q, minus 10⟩ = some (if stands row xs q then [⟨q + xs.length, minus 10⟩] else []) := by
  unfold lettersL
  split
  · rename_i h0
    have : xs = [] := List.eq_nil_of_length_eq_zero h0
    subst this
    refine ⟨1, ?_⟩
    rw [if_pos (stands_nil row q)]
    exact den_none rfl rfl (by omega)
  · split
    · rename_i h0 h1
      obtain ⟨c, rfl⟩ : ∃ c, xs = [c] := List.length_eq_one_iff.1 h1
      exact ⟨1, den_letter (nd := ⟨1, c, 0, 0, []⟩) rfl rfl (by omega)⟩
    · rename_i h0 h1
      refine ⟨2, den_cells (nd := ⟨8, 0, 0, 0, List.range xs.length⟩) (by simp [NdR.pn]) rfl (by simp) (fun j k hk => ?_) (by omega)⟩
      obtain ⟨hj, rfl⟩ := List.getElem?_eq_some_iff.1 hk
      simp only [List.length_range] at hj
      refine ⟨⟨1, xs[j], 0, 0, []⟩, ?_, rfl, List.getElem?_eq_getElem hj⟩
      simp [NdR.pn, List.getElem?_append, hj]
theorem range_count {n k : Nat} (h : k < n) : (List.range n).count k = 1 := by
  rw [List.nodup_range.count, if_pos (List.mem_range.2 h)]
theorem letters_mem {kb : Nat} {xs : List Int} {nd : Nd} (h : nd ∈ lettersNs kb xs) : (nd = emptyNd) ∨ (∃ c ∈ xs, nd = letterNd c) ∨ (2 ≤ xs.length ∧ nd = rowNd kb xs.length) := by
  unfold lettersNs at h
  split at h
  · exact .inl (List.mem_singleton.1 h)
  · split at h
    · obtain ⟨c, hc, rfl⟩ := List.mem_map.1 h; exact .inr (.inl ⟨c, hc, rfl⟩)
    · rcases List.mem_append.1 h with h | h
      · obtain ⟨c, hc, rfl⟩ := List.mem_map.1 h; exact .inr (.inl ⟨c, hc, rfl⟩)
      · exact .inr (.inr ⟨by omega, List.mem_singleton.1 h⟩)
theorem flat_le {m : Nat} : ∀ (l : List Nd), (∀ nd ∈ l, nd.kl.length ≤ m) → (l.flatMap Nd.kl).length ≤ l.length * m
  | [], _ => by simp
  | x :: l, h => by
    rw [List.flatMap_cons, List.length_append, List.length_cons, Nat.add_mul, Nat.one_mul]
    have := flat_le l (fun nd hnd => h nd (List.mem_cons_of_mem _ hnd))
    have := h x (List.mem_cons_self ..)
    omega
theorem letters_flat (xs : List Int) : (xs.map letterNd).flatMap Nd.kl = [] := by
  induction xs with
  | nil => rfl
  | cons x xs ih => rw [List.map_cons, List.flatMap_cons, ih]; rfl
theorem letters_tree {B : AHeap} {N nc kb : Nat} {xs : List Int} (hN : B.get N = some (.cells (nodeCells (lettersNs kb xs)) 44 false)) (h4 : xs.length ≤ 4) (hgood : ∀ c ∈ xs, 0 ≤ c ∧ c < 128)
    (hkb : 2 ≤ xs.length → B.get kb = some (.cells ((List.range xs.length).map fun (k : Nat) => .int .i64 (k : Int)) 3 false)) : Tree B N nc (lettersNs kb xs) := by
  have hf : far = 268435456 := rfl
  have kids : ∀ B2, Ext B B2 → ∀ nd ∈ lettersNs kb xs, KidsAt B2 nd := fun B2 hx nd hnd => by
    rcases letters_mem hnd with rfl | ⟨c, _, rfl⟩ | ⟨h2, rfl⟩
    · exact .inl ⟨rfl, rfl⟩
    · exact .inl ⟨rfl, rfl⟩
    · exact .inr ⟨kb, unk 1, by show Value.slice _ _ _ = Value.slice _ (List.range xs.length).length _; rw [List.length_range], hx.get (hkb h2)⟩
  have hklen : ∀ nd ∈ lettersNs kb xs, nd.kl.length ≤ 4 := fun nd hnd => by
    rcases letters_mem hnd with rfl | ⟨c, _, rfl⟩ | ⟨h2, rfl⟩
    · exact Nat.zero_le _
    · exact Nat.zero_le _
    · show (List.range xs.length).length ≤ 4; rw [List.length_range]; exact h4
  have hnlen := letters_len kb xs
  refine ⟨hN, kids B (Ext.refl B), fun B2 hx => right_all (hx.get hN) (kids B2 hx) (fun nd hnd B3 => ?_) (fun nd hnd => ?_) ?_ (by omega) (fun i nd hi k hk => ?_) (fun nd hnd => by have := hklen nd hnd; omega) (fun k hk => ?_) (fun i j nd hi => ?_)⟩
  · rcases letters_mem hnd with rfl | ⟨c, hc, rfl⟩ | ⟨h2, rfl⟩
    · exact right_empty B3
    · exact right_one (hgood c hc) B3
    · exact right_row ⟨h2, by omega⟩ B3
  · rcases letters_mem hnd with rfl | ⟨c, _, rfl⟩ | ⟨h2, rfl⟩
    · show (11 : Nat) ≠ 7; decide
    · show (1 : Nat) ≠ 7; decide
    · show (8 : Nat) ≠ 7; decide
  · exact List.length_pos_iff.2 (letters_ne kb xs)
  · rcases letters_mem (List.mem_of_getElem? hi) with rfl | ⟨c, _, rfl⟩ | ⟨h2, rfl⟩
    · cases hk
    · cases hk
    · have hk : k < xs.length := List.mem_range.1 hk
      rw [letters_many h2] at hi
      rcases Nat.lt_or_ge i xs.length with h | h
      · rw [List.getElem?_append_left (by simpa using h), List.getElem?_map, List.getElem?_eq_getElem h] at hi
        have := congrArg Nd.kind (Option.some.inj hi)
        exact absurd this (by show (1 : Nat) ≠ 8; decide)
      · omega
  · by_cases h2 : 2 ≤ xs.length
    · rw [letters_many h2] at hk ⊢
      rw [List.flatMap_append, letters_flat, List.nil_append]
      simp only [List.length_append, List.length_map, List.length_singleton] at hk
      show ((List.range xs.length) ++ []).count k = 1
      rw [List.append_nil]
      exact range_count (by omega)
    · exfalso
      unfold lettersNs at hk
      split at hk
      · simp at hk
      · split at hk
        · simp at hk; omega
        · omega
  · rw [List.length_append]
    have h1 := flat_le (m := 4) ((lettersNs kb xs).take i) (fun nd hnd => hklen nd (List.mem_of_mem_take hnd))
    have h2 := List.length_take_le i (lettersNs kb xs)
    have h3 := hklen nd (List.mem_of_getElem? hi)
    have h5 : (nd.kl.take j).length ≤ nd.kl.length := by rw [List.length_take]; exact Nat.min_le_right _ _
    have h6 : ((lettersNs kb xs).take i).length ≤ 5 := by rw [List.length_take]; omega
    have h7 : ((lettersNs kb xs).take i).length * 4 ≤ 5 * 4 := Nat.mul_le_mul_right 4 h6
    omega

theorem letters_spec {B : AHeap} {da da' : Option Addr} {dc D dc' D' k0 : Nat} {ds ds' : List Nat} (hk0 : k0 < 256) (h256 : ∀ z ∈ ds, z < 256) (hd : ds ≠ [] → da = some ⟨D, 0, none⟩ ∧ ∃ e ro, B.get D = some (.cells (ds.map fun (z : Nat) => .int .u8 (z : Int)) e ro))
    (h256' : ∀ z ∈ ds', z < 256) (hd' : ds' ≠ [] → da' = some ⟨D', 0, none⟩ ∧ ∃ e ro, B.get D' = some (.cells (ds'.map fun (z : Nat) => .int .u8 (z : Int)) e ro)) :
    ACall Tryz.prog 6 [.slice da ds.length dc, .slice da' ds'.length dc', .int .u8 (k0 : Int)] B fun e B' => e = .ret (.bool true) ∧ Ext B B' := by
  refine ACall.walk (fn := Tryz.f6) (c := bodyOf Tryz.prog 6) (by kernel_rfl) (by kernel_rfl) (by kernel_rfl) ?_
  refine AWp.seq' (by kernel_rfl) (AWp.region' (by kernel_rfl) ?_)
  refine AOps.run (n := 96) [] [0] [] (cs := []) (by kernel_rfl) (by kernel_rfl) (by kernel_rfl) ?_ ?_
  · intro x hx; cases hx
  show AWp _ _ _ _ _
  refine AWp.view [(0, .slice da ds.length dc), (1, .slice da' ds'.length dc'), (2, .int .u8 (k0 : Int))] (by kernel_rfl) ?_
  refine AWp.seq' (by kernel_rfl) (AWp.region' (by kernel_rfl) ?_)
  refine AOps.run (n := 96) [] [0] [1, 2] (cs := []) (by kernel_rfl) (by kernel_rfl) (by kernel_rfl) ?_ ?_
  · intro x hx; cases hx
  refine AOps.call (n := 96) 1 [2] 7 [.slice da ds.length dc, .int .i64 ((30 : Nat) : Int)] (by kernel_rfl) rfl (by kernel_rfl) (by kernel_rfl) (by kernel_rfl) (by kernel_rfl) (by kernel_rfl) (cells_own h256 (by decide) hd) ?_
  rintro e B1 ⟨v1, ol1, rfl, hx1, ho1⟩
  refine ⟨_, rfl, ?_⟩
  have hlen : ((ds.take 30).map cellOf).length ≤ 30 := by simp; omega
  generalize (ds.take 30).map cellOf = row at ho1 hlen
  obtain ⟨ra, rc, rfl, hr1, hform⟩ := ho1.isR
  refine AOps.run (n := 96) [] [2] [] (cs := []) (by kernel_rfl) (by kernel_rfl) (by kernel_rfl) ?_ ?_
  · intro x hx; cases hx
  show AWp _ _ _ _ _
  refine AWp.view [(1, .slice da' ds'.length dc'), (2, .int .u8 (k0 : Int)), (7, .slice ra row.length rc)] (by kernel_rfl) ?_
  refine AWp.seq' (by kernel_rfl) (AWp.region' (by kernel_rfl) ?_)
  refine AOps.run (n := 96) [] [0] [1, 2] (cs := []) (by kernel_rfl) (by kernel_rfl) (by kernel_rfl) ?_ ?_
  · intro x hx; cases hx
  refine AOps.call (n := 96) 1 [2] 7 [.slice da' ds'.length dc', .int .i64 ((4 : Nat) : Int)] (by kernel_rfl) rfl (by kernel_rfl) (by kernel_rfl) (by kernel_rfl) (by kernel_rfl) (by kernel_rfl) (cells_own h256' (by decide) (fun h => ⟨(hd' h).1, by obtain ⟨e, ro, h2⟩ := (hd' h).2; exact ⟨e, ro, hx1.get h2⟩⟩)) ?_
  rintro e B2 ⟨v2, ol2, rfl, hx2, ho2⟩
  refine ⟨_, rfl, ?_⟩
  have hlen4 : ((ds'.take 4).map cellOf).length ≤ 4 := by simp; omega
  have hgood : ∀ c ∈ (ds'.take 4).map cellOf, 0 ≤ c ∧ c < 128 := fun c hc => by obtain ⟨z, _, rfl⟩ := List.mem_map.1 hc; exact cellOf_good z
  generalize (ds'.take 4).map cellOf = xs at ho2 hlen4 hgood
  obtain ⟨sa, sc, rfl, hr2, _⟩ := ho2.isR
  have hr1 := hr1.ext hx2
  have hxB : Ext B B2 := hx1.trans hx2
  have hfar : row.length < far := Nat.lt_of_le_of_lt hlen (by decide)
  have hfar4 : xs.length < far := Nat.lt_of_le_of_lt hlen4 (by decide)
  refine AOps.run (n := 96) [] [2] [] (cs := []) (by kernel_rfl) (by kernel_rfl) (by kernel_rfl) ?_ ?_
  · intro x hx; cases hx
  show AWp _ _ _ _ _
  refine AWp.view [(2, .int .u8 (k0 : Int)), (7, .slice ra row.length rc), (8, .slice sa xs.length sc)] (by kernel_rfl) ?_
  refine AWp.seq' (by kernel_rfl) (AWp.region' (by kernel_rfl) ?_)
  refine AOps.run (n := 96) [] [0] [] (cs := []) (by kernel_rfl) (by kernel_rfl) (by kernel_rfl) ?_ ?_
  · intro x hx; cases hx
  show AWp _ _ _ _ _
  refine AWp.view [(2, .int .u8 (k0 : Int)), (7, .slice ra row.length rc), (8, .slice sa xs.length sc), (9, .slice none 0 0)] (by kernel_rfl) ?_
  refine AWp.seq' (by kernel_rfl) (AWp.region' (by kernel_rfl) ?_)
  refine AOps.run (n := 96) [] [0] [] (cs := []) (by kernel_rfl) (by kernel_rfl) (by kernel_rfl) ?_ ?_
  · intro x hx; cases hx
  show AWp _ _ _ _ _
  refine AWp.view [(2, .int .u8 (k0 : Int)), (7, .slice ra row.length rc), (8, .slice sa xs.length sc), (9, .slice none 0 0), (10, .slice none 0 0)] (by kernel_rfl) ?_
  refine AWp.seq' (by kernel_rfl) ?_
  refine AWp.seq' (by kernel_rfl) (AWp.region' (by kernel_rfl) ?_)
  refine AOps.run (n := 96) [] [0] [] (cs := []) (by kernel_rfl) (by kernel_rfl) (by kernel_rfl) ?_ ?_
  · intro x hx; cases hx
  show AWp _ _ _ _ _
  refine AWp.view [(2, .int .u8 (k0 : Int)), (7, .slice ra row.length rc), (8, .slice sa xs.length sc), (9, .slice none 0 0), (10, .slice none 0 0), (11, .int .i64 ((0 : Nat) : Int))] (by kernel_rfl) ?_
  refine AWp.block' (id := 0) (by kernel_rfl) ?_
  refine AWp.loop' (by kernel_rfl) (N := xs.length - 0) (fun μ E H => ∃ (k : Nat) (a b : Value) (l1 l2 : List Nat), μ = xs.length - k ∧ k ≤ xs.length ∧ AEnv.le (envOf 96 (mkE [(2, .int .u8 (k0 : Int)), (7, .slice ra row.length rc), (8, .slice sa xs.length sc), (9, a), (10, b), (11, .int .i64 ((k : Nat) : Int))])) E ∧ Ext B2 H ∧ OwnG nodeElt B2.next H a ((xs.take k).map letterNd) l1 ∧ OwnG intElt B2.next H b (List.range k) l2)
    ⟨0, .slice none 0 0, .slice none 0 0, [], [], rfl, Nat.zero_le _, AEnv.le_refl _, Ext.refl _, .inl ⟨rfl, rfl, rfl⟩, .inl ⟨rfl, rfl, rfl⟩⟩ ?_
  rintro μ E H ⟨k, a, b, l1, l2, rfl, hk, hE, hx, ha, hb⟩
  refine AWp.env hE ?_
  refine AWp.seq' (by kernel_rfl) ?_
  refine AWp.seq' (by kernel_rfl) (AWp.region' (by kernel_rfl) ?_)
  refine AOps.run (n := 96) [(3, .val (.bool (decide (((k : Nat) : Int) < ((xs.length : Nat) : Int)))))] [0, 1, 2, 3] [] (cs := [.some (some (.bool (decide (((k : Nat) : Int) < ((xs.length : Nat) : Int))))) (.bool (decide (((k : Nat) : Int) < ((xs.length : Nat) : Int))))]) (by kernel_rfl) (by kernel_rfl) (by kernel_rfl) ?_ ?_
  · intro x hx
    simp only [List.mem_cons, List.not_mem_nil, or_false] at hx
    subst hx
    rfl
  show AWp _ _ _ _ _
  refine AWp.view [(2, .int .u8 (k0 : Int)), (7, .slice ra row.length rc), (8, .slice sa xs.length sc), (9, a), (10, b), (11, .int .i64 ((k : Nat) : Int)), (23, .bool (decide (((k : Nat) : Int) < ((xs.length : Nat) : Int))))] (by kernel_rfl) ?_
  refine AWp.cond_ (c := .tmp 23) (t := decide (((k : Nat) : Int) < ((xs.length : Nat) : Int))) (by kernel_rfl) (by kernel_rfl) (fun hT => ?_) (fun hF => ?_)
  · have hlt : k < xs.length := by have := of_decide_eq_true hT; omega
    obtain ⟨c, hc⟩ : ∃ c, xs[k]? = some c := ⟨_, List.getElem?_eq_getElem hlt⟩
    obtain ⟨S, o, vs, e0, ro, hsa, hS, hv⟩ := hr2.at hc
    have hSH := hx.get hS
    refine AWp.skip' (by kernel_rfl) ?_
    show AWp _ _ _ _ _
    refine AWp.seq' (by kernel_rfl) (AWp.block' (id := 1) (by kernel_rfl) ?_)
    refine AWp.seq' (by kernel_rfl) (AWp.region' (by kernel_rfl) ?_)
    refine AOps.run (n := 96) [(3, .val (.pointer (some ⟨S, o + k * 1, none⟩))), (4, .part (vs) (.int .i32 c))] [0, 1, 2, 3, 4, 5] [6, 7, 8] (cs := [.some (aindexAddr Tryz.prog 23 (.slice sa xs.length sc) (.int .i64 ((k : Nat) : Int))) (.pointer (some ⟨S, o + k * 1, none⟩)), .blk (S) (vs), .some (apart' vs (o + k * 1) 1 false) (.int .i32 c)]) (by kernel_rfl) (by kernel_rfl) (by kernel_rfl) ?_ ?_
    · intro x hx
      simp only [List.mem_cons, List.not_mem_nil, or_false] at hx
      rcases hx with rfl | rfl | rfl
      · rw [hsa]; exact indexAddr_ok sl23 hlt
      · exact ⟨e0, ro, hSH⟩
      · exact apart_one hv
    refine AOps.write (n := 96) 6 [7, 8] (.slice (some ⟨H.next, 0, none⟩) 1 1) (H.push (.cells (letterNd c).cells 44 false)) (by kernel_rfl) rfl (by kernel_rfl) (by kernel_rfl) (by kernel_rfl) (by kernel_rfl) ?_
    obtain ⟨a2, H3, m1, q1, q2, q3, q4, q5, q6⟩ := append_ownG nodeElt (b := B2.next) (H := H.push (.cells (letterNd c).cells 44 false)) (j := H.next) (a := letterNd c) (c := 1) (ha.keep fun i _ hi => (Ext.push _ _).old i hi) (AHeap.get_push_new _ _) (by have := List.length_take_le k xs; simp only [List.length_map]; unfold far; omega) (Nat.le_succ_of_le hx.next)
    refine AOps.append (n := 96) 7 [8] (t := 29) (tx := 29) (x := a) (y := .slice (some ⟨H.next, 0, none⟩) 1 1) (v := a2) (H' := H3) (by kernel_rfl) rfl (by kernel_rfl) (by kernel_rfl) (by kernel_rfl) q1 ?_
    refine AOps.run (n := 96) [] [8] [] (cs := []) (by kernel_rfl) (by kernel_rfl) (by kernel_rfl) ?_ ?_
    · intro x hx; cases hx
    show AWp _ _ _ _ _
    have hap : ∀ i ∈ l2, i ∉ l1 := own_apart ha hb (by decide)
    have hold : ∀ i, i < H.next → i ∉ l1 → H3.get i = H.get i := fun i hi hn => by rw [q4 i (Nat.lt_succ_of_lt hi) hn, (Ext.push H _).old i hi]
    have hx3 : Ext B2 H3 := ⟨Nat.le_trans hx.next (Nat.le_trans (Nat.le_succ _) q5), fun i hi => by rw [hold i (Nat.lt_of_lt_of_le hi hx.next) (fun h => by have := ha.lt i h; omega)]; exact hx.old i hi, q6.trans hx.rs⟩
    have hb3 : OwnG intElt B2.next H3 b (List.range k) l2 := hb.keep fun i hi hlt' => hold i hlt' (hap i hi)
    refine AWp.view [(2, .int .u8 (k0 : Int)), (7, .slice ra row.length rc), (8, .slice sa xs.length sc), (9, a2), (10, b), (11, .int .i64 ((k : Nat) : Int))] (by kernel_rfl) ?_
    refine AWp.region' (by kernel_rfl) ?_
    refine AOps.run (n := 96) [] [0, 1] [2, 3, 4] (cs := []) (by kernel_rfl) (by kernel_rfl) (by kernel_rfl) ?_ ?_
    · intro x hx; cases hx
    refine AOps.write (n := 96) 2 [3, 4] (.slice (some ⟨H3.next, 0, none⟩) 1 1) (H3.push (.cells [.int .i64 ((k : Nat) : Int)] 3 false)) (by kernel_rfl) rfl (by kernel_rfl) (by kernel_rfl) (by kernel_rfl) (by kernel_rfl) ?_
    obtain ⟨b2, H4, m2, p1, p2, p3, p4, p5, p6⟩ := append_ownG intElt (b := B2.next) (H := H3.push (.cells [.int .i64 ((k : Nat) : Int)] 3 false)) (j := H3.next) (a := k) (c := 1) (hb3.keep fun i _ hi => (Ext.push _ _).old i hi) (AHeap.get_push_new _ _) (by simp only [List.length_range]; unfold far; omega) (Nat.le_succ_of_le hx3.next)
    refine AOps.append (n := 96) 3 [4] (t := 38) (tx := 38) (x := b) (y := .slice (some ⟨H3.next, 0, none⟩) 1 1) (v := b2) (H' := H4) (by kernel_rfl) rfl (by kernel_rfl) (by kernel_rfl) (by kernel_rfl) p1 ?_
    refine AOps.run (n := 96) [] [4] [] (cs := []) (by kernel_rfl) (by kernel_rfl) (by kernel_rfl) ?_ ?_
    · intro x hx; cases hx
    show AWp _ _ _ _ _
    have hap2 : ∀ i ∈ m1, i ∉ l2 := own_apart hb3 q2 (by decide)
    have hold2 : ∀ i, i < H3.next → i ∉ l2 → H4.get i = H3.get i := fun i hi hn => by rw [p4 i (Nat.lt_succ_of_lt hi) hn, (Ext.push H3 _).old i hi]
    have hx4 : Ext B2 H4 := ⟨Nat.le_trans hx3.next (Nat.le_trans (Nat.le_succ _) p5), fun i hi => by rw [hold2 i (Nat.lt_of_lt_of_le hi hx3.next) (fun h => by have := hb3.lt i h; omega)]; exact hx3.old i hi, p6.trans hx3.rs⟩
    have ha4 := q2.keep fun i hi hlt' => hold2 i hlt' (hap2 i hi)
    refine AWp.view [(2, .int .u8 (k0 : Int)), (7, .slice ra row.length rc), (8, .slice sa xs.length sc), (9, a2), (10, b2), (11, .int .i64 ((k : Nat) : Int))] (by kernel_rfl) ?_
    refine AWp.region' (by kernel_rfl) ?_
    refine AOps.run (n := 96) [(1, .val (.int .i64 ((k + 1 : Nat) : Int)))] [0, 1, 2] [] (cs := [.some (some (.int .i64 (IntKind.i64.wrap (((k : Nat) : Int) + ((1 : Nat) : Int))))) (.int .i64 ((k + 1 : Nat) : Int))]) (by kernel_rfl) (by kernel_rfl) (by kernel_rfl) ?_ ?_
    · intro x hx
      simp only [List.mem_cons, List.not_mem_nil, or_false] at hx
      subst hx
      exact congrArg (fun x => some (Value.int .i64 x)) (wrap_add (by omega))
    exact ⟨xs.length - (k + 1), by omega, k + 1, a2, b2, m1, m2, rfl, hlt, mkE_le [(2, .int .u8 (k0 : Int)), (7, .slice ra row.length rc), (8, .slice sa xs.length sc), (9, a2), (10, b2), (11, .int .i64 ((k + 1 : Nat) : Int))] (by kernel_rfl), hx4, by rw [List.take_add_one, hc, Option.toList_some, List.map_append]; exact ha4, by rw [List.range_succ]; exact p2⟩
  · have hge : k = xs.length := by have := of_decide_eq_false hF; omega
    rw [hge, List.take_length] at ha
    rw [hge] at hb
    refine AWp.exit' (id := 0) (by kernel_rfl) ?_
    show AWp _ _ _ _ _
    refine AWp.view [(2, .int .u8 (k0 : Int)), (7, .slice ra row.length rc), (8, .slice sa xs.length sc), (9, a), (10, b)] (by kernel_rfl) ?_
    refine AWp.mid (by kernel_rfl) (fun E' H' => ∃ (a' : Value) (ns : List Nd) (l' : List Nat), AEnv.le (envOf 96 (mkE [(2, .int .u8 (k0 : Int)), (7, .slice ra row.length rc), (8, .slice sa xs.length sc), (9, a')])) E' ∧ Ext B2 H' ∧ OwnG nodeElt B2.next H' a' ns l' ∧ ((xs.length ≤ 1 ∧ ns = xs.map letterNd) ∨ (2 ≤ xs.length ∧ ∃ kb, ns = xs.map letterNd ++ [rowNd kb xs.length] ∧ H'.get kb = some (.cells ((List.range xs.length).map fun (k : Nat) => .int .i64 (k : Int)) 3 false)))) ?_ ?_
    · skip
      refine AWp.seq' (by kernel_rfl) (AWp.region' (by kernel_rfl) ?_)
      refine AOps.run (n := 96) [(2, .val (.bool (decide (((xs.length : Nat) : Int) > ((1 : Nat) : Int)))))] [0, 1, 2] [] (cs := [.some (some (.bool (decide (((xs.length : Nat) : Int) > ((1 : Nat) : Int))))) (.bool (decide (((xs.length : Nat) : Int) > ((1 : Nat) : Int))))]) (by kernel_rfl) (by kernel_rfl) (by kernel_rfl) ?_ ?_
      · intro x hx
        simp only [List.mem_cons, List.not_mem_nil, or_false] at hx
        subst hx
        rfl
      show AWp _ _ _ _ _
      refine AWp.view [(2, .int .u8 (k0 : Int)), (7, .slice ra row.length rc), (8, .slice sa xs.length sc), (9, a), (10, b), (40, .bool (decide (((xs.length : Nat) : Int) > ((1 : Nat) : Int))))] (by kernel_rfl) ?_
      refine AWp.cond_ (c := .tmp 40) (t := decide (((xs.length : Nat) : Int) > ((1 : Nat) : Int))) (by kernel_rfl) (by kernel_rfl) (fun hT => ?_) (fun hF => ?_)
      · have h2 : 2 ≤ xs.length := by have := of_decide_eq_true hT; omega
        obtain ⟨kb, rfl, hkb, hl2⟩ : ∃ kb, b = .slice (some ⟨kb, 0, none⟩) xs.length (unk 1) ∧ H.get kb = some (.cells ((List.range xs.length).map fun (k : Nat) => .int .i64 (k : Int)) 3 false) ∧ l2 = [kb] := by
          rcases hb with ⟨h, _, _⟩ | ⟨kb, h1, h3, h4, _⟩
          · have := congrArg List.length h; simp only [List.length_range, List.length_nil] at this; omega
          · exact ⟨kb, by rw [h1, List.length_range]; rfl, by rw [h3]; congr 2; exact int_enc _, h4⟩
        refine AWp.region' (by kernel_rfl) ?_
        refine AOps.run (n := 96) [] [0, 1, 2] [3, 4, 5] (cs := []) (by kernel_rfl) (by kernel_rfl) (by kernel_rfl) ?_ ?_
        · intro x hx; cases hx
        refine AOps.write (n := 96) 3 [4, 5] (.slice (some ⟨H.next, 0, none⟩) 1 1) (H.push (.cells (rowNd kb xs.length).cells 44 false)) (by kernel_rfl) rfl (by kernel_rfl) (by kernel_rfl) (by kernel_rfl) (by kernel_rfl) ?_
        obtain ⟨a2, H3, m1, q1, q2, q3, q4, q5, q6⟩ := append_ownG nodeElt (b := B2.next) (H := H.push (.cells (rowNd kb xs.length).cells 44 false)) (j := H.next) (a := rowNd kb xs.length) (c := 1) (ha.keep fun i _ hi => (Ext.push _ _).old i hi) (AHeap.get_push_new _ _) (by simp only [List.length_map]; unfold far; omega) (Nat.le_succ_of_le hx.next)
        refine AOps.append (n := 96) 4 [5] (t := 29) (tx := 29) (x := a) (y := .slice (some ⟨H.next, 0, none⟩) 1 1) (v := a2) (H' := H3) (by kernel_rfl) rfl (by kernel_rfl) (by kernel_rfl) (by kernel_rfl) q1 ?_
        refine AOps.run (n := 96) [] [5] [] (cs := []) (by kernel_rfl) (by kernel_rfl) (by kernel_rfl) ?_ ?_
        · intro x hx; cases hx
        have hold : ∀ i, i < H.next → i ∉ l1 → H3.get i = H.get i := fun i hi hn => by rw [q4 i (Nat.lt_succ_of_lt hi) hn, (Ext.push H _).old i hi]
        have hx3 : Ext B2 H3 := ⟨Nat.le_trans hx.next (Nat.le_trans (Nat.le_succ _) q5), fun i hi => by rw [hold i (Nat.lt_of_lt_of_le hi hx.next) (fun h => by have := ha.lt i h; omega)]; exact hx.old i hi, q6.trans hx.rs⟩
        exact ⟨a2, _, m1, mkE_le [(2, .int .u8 (k0 : Int)), (7, .slice ra row.length rc), (8, .slice sa xs.length sc), (9, a2)] (by kernel_rfl), hx3, q2, .inr ⟨h2, kb, rfl, by rw [hold kb (AHeap.get_lt hkb) (own_apart ha hb (by decide) kb (by rw [hl2]; exact List.mem_singleton.2 rfl))]; exact hkb⟩⟩
      · have h1 : xs.length ≤ 1 := by have := of_decide_eq_false hF; omega
        refine AWp.skip' (by kernel_rfl) ?_
        exact ⟨a, _, l1, mkE_le [(2, .int .u8 (k0 : Int)), (7, .slice ra row.length rc), (8, .slice sa xs.length sc), (9, a)] (by kernel_rfl), hx, ha, .inl ⟨h1, rfl⟩⟩
    clear ha hb hx hE
    rintro E1 H1 ⟨a1, ns1, l1', hE, hx, ha, hshape⟩
    refine AWp.env hE ?_
    refine AWp.mid (by kernel_rfl) (fun E' H' => ∃ (a' : Value) (kb : Nat) (l' : List Nat), AEnv.le (envOf 96 (mkE [(2, .int .u8 (k0 : Int)), (7, .slice ra row.length rc), (8, .slice sa xs.length sc), (9, a')])) E' ∧ Ext B2 H' ∧ OwnG nodeElt B2.next H' a' (lettersNs kb xs) l' ∧ (2 ≤ xs.length → H'.get kb = some (.cells ((List.range xs.length).map fun (k : Nat) => .int .i64 (k : Int)) 3 false))) ?_ ?_
    · skip
      refine AWp.seq' (by kernel_rfl) (AWp.region' (by kernel_rfl) ?_)
      refine AOps.run (n := 96) [(2, .val (.bool (decide (((xs.length : Nat) : Int) = ((0 : Nat) : Int)))))] [0, 1, 2] [] (cs := [.some (some (.bool (decide (((xs.length : Nat) : Int) = ((0 : Nat) : Int))))) (.bool (decide (((xs.length : Nat) : Int) = ((0 : Nat) : Int))))]) (by kernel_rfl) (by kernel_rfl) (by kernel_rfl) ?_ ?_
      · intro x hx
        simp only [List.mem_cons, List.not_mem_nil, or_false] at hx
        subst hx
        rfl
      show AWp _ _ _ _ _
      refine AWp.view [(2, .int .u8 (k0 : Int)), (7, .slice ra row.length rc), (8, .slice sa xs.length sc), (9, a1), (48, .bool (decide (((xs.length : Nat) : Int) = ((0 : Nat) : Int))))] (by kernel_rfl) ?_
      refine AWp.cond_ (c := .tmp 48) (t := decide (((xs.length : Nat) : Int) = ((0 : Nat) : Int))) (by kernel_rfl) (by kernel_rfl) (fun hT => ?_) (fun hF => ?_)
      · have h0 : xs = [] := List.eq_nil_of_length_eq_zero (by have := of_decide_eq_true hT; omega)
        have hns : ns1 = [] := by rcases hshape with ⟨_, h⟩ | ⟨h, _⟩; rw [h, h0]; rfl; rw [h0] at h; simp at h
        rw [hns] at ha
        refine AWp.region' (by kernel_rfl) ?_
        refine AOps.run (n := 96) [] [0, 1] [2, 3, 4] (cs := []) (by kernel_rfl) (by kernel_rfl) (by kernel_rfl) ?_ ?_
        · intro x hx; cases hx
        refine AOps.write (n := 96) 2 [3, 4] (.slice (some ⟨H1.next, 0, none⟩) 1 1) (H1.push (.cells emptyNd.cells 44 false)) (by kernel_rfl) rfl (by kernel_rfl) (by kernel_rfl) (by kernel_rfl) (by kernel_rfl) ?_
        obtain ⟨a2, H3, m1, q1, q2, q3, q4, q5, q6⟩ := append_ownG nodeElt (b := B2.next) (H := H1.push (.cells emptyNd.cells 44 false)) (j := H1.next) (a := emptyNd) (c := 1) (ha.keep fun i _ hi => (Ext.push _ _).old i hi) (AHeap.get_push_new _ _) (by decide) (Nat.le_succ_of_le hx.next)
        refine AOps.append (n := 96) 3 [4] (t := 29) (tx := 29) (x := a1) (y := .slice (some ⟨H1.next, 0, none⟩) 1 1) (v := a2) (H' := H3) (by kernel_rfl) rfl (by kernel_rfl) (by kernel_rfl) (by kernel_rfl) q1 ?_
        refine AOps.run (n := 96) [] [4] [] (cs := []) (by kernel_rfl) (by kernel_rfl) (by kernel_rfl) ?_ ?_
        · intro x hx; cases hx
        have hold : ∀ i, i < H1.next → i ∉ l1' → H3.get i = H1.get i := fun i hi hn => by rw [q4 i (Nat.lt_succ_of_lt hi) hn, (Ext.push H1 _).old i hi]
        have hx3 : Ext B2 H3 := ⟨Nat.le_trans hx.next (Nat.le_trans (Nat.le_succ _) q5), fun i hi => by rw [hold i (Nat.lt_of_lt_of_le hi hx.next) (fun h => by have := ha.lt i h; omega)]; exact hx.old i hi, q6.trans hx.rs⟩
        exact ⟨a2, 0, m1, mkE_le [(2, .int .u8 (k0 : Int)), (7, .slice ra row.length rc), (8, .slice sa xs.length sc), (9, a2)] (by kernel_rfl), hx3, by rw [h0]; exact q2, fun h => by rw [h0] at h; simp at h⟩
      · have h0 : xs ≠ [] := fun e => by rw [e] at hF; simp at hF
        refine AWp.skip' (by kernel_rfl) ?_
        rcases hshape with ⟨h1, rfl⟩ | ⟨h2, kb, rfl, hkb⟩
        · exact ⟨a1, 0, l1', mkE_le [(2, .int .u8 (k0 : Int)), (7, .slice ra row.length rc), (8, .slice sa xs.length sc), (9, a1)] (by kernel_rfl), hx, by rw [letters_one h0 h1]; exact ha, fun h => absurd h (by omega)⟩
        · exact ⟨a1, kb, l1', mkE_le [(2, .int .u8 (k0 : Int)), (7, .slice ra row.length rc), (8, .slice sa xs.length sc), (9, a1)] (by kernel_rfl), hx, by rw [letters_many h2]; exact ha, fun _ => hkb⟩
    clear ha hx hE hshape
    rintro E2 H2 ⟨a2, kb, l2', hE, hx, ha, hkb⟩
    refine AWp.env hE ?_
    obtain ⟨N, rfl, hN⟩ : ∃ N, a2 = .slice (some ⟨N, 0, none⟩) (lettersNs kb xs).length (unk 9) ∧ H2.get N = some (.cells (nodeCells (lettersNs kb xs)) 44 false) := by
      rcases ha with ⟨h, _, _⟩ | ⟨N, h1, h2, _, _⟩
      · exact absurd h (letters_ne kb xs)
      · exact ⟨N, h1, h2⟩
    have hT := letters_tree (nc := unk 9) hN hlen4 hgood hkb
    have hr1 := hr1.ext hx
    have hr2 := hr2.ext hx
    have hxB2 := hxB.trans hx
    refine AWp.view [(2, .int .u8 (k0 : Int)), (7, .slice ra row.length rc), (8, .slice sa xs.length sc), (9, .slice (some ⟨N, 0, none⟩) (lettersNs kb xs).length (unk 9))] (by kernel_rfl) ?_
    refine AWp.seq' (by kernel_rfl) (AWp.region' (by kernel_rfl) ?_)
    refine AOps.run (n := 96) [(1, .val (.int .i64 ((k0 : Nat) : Int))), (4, .val (.int .i64 ((row.length + 1 : Nat) : Int))), (5, .val (.int .i64 ((k0 % (row.length + 1) : Nat) : Int)))] [0, 1, 2, 3, 4, 5, 6] [] (cs := [.some (aconv Tryz.prog 5 3 (.int .u8 (k0 : Int))) (.int .i64 ((k0 : Nat) : Int)), .some (some (.int .i64 (IntKind.i64.wrap (((row.length : Nat) : Int) + ((1 : Nat) : Int))))) (.int .i64 ((row.length + 1 : Nat) : Int)), .some (anum .rem .i64 .i64 (k0 : Int) ((row.length + 1 : Nat) : Int)) (.int .i64 ((k0 % (row.length + 1) : Nat) : Int))]) (by kernel_rfl) (by kernel_rfl) (by kernel_rfl) ?_ ?_
    · intro x hx
      simp only [List.mem_cons, List.not_mem_nil, or_false] at hx
      rcases hx with rfl | rfl | rfl
      · exact conv_u8 hk0
      · exact congrArg (fun x => some (Value.int .i64 x)) (wrap_add (by omega))
      · exact rem_ok .i64 k0 _ (by omega)
    have hat : k0 % (row.length + 1) ≤ row.length := Nat.le_of_lt_succ (Nat.mod_lt _ (Nat.succ_pos _))
    show AWp _ _ _ _ _
    generalize k0 % (row.length + 1) = start at hat ⊢
    refine AWp.view [(7, .slice ra row.length rc), (8, .slice sa xs.length sc), (9, .slice (some ⟨N, 0, none⟩) (lettersNs kb xs).length (unk 9)), (12, .int .i64 ((start : Nat) : Int))] (by kernel_rfl) ?_
    refine AWp.seq' (by kernel_rfl) (AWp.region' (by kernel_rfl) ?_)
    refine AOps.run (n := 96) [] [0, 1, 2] [3, 4] (cs := []) (by kernel_rfl) (by kernel_rfl) (by kernel_rfl) ?_ ?_
    · intro x hx; cases hx
    refine AOps.call (n := 96) 3 [4] 11 [.slice ra row.length rc, .slice sa xs.length sc, .int .i64 ((start : Nat) : Int)] (by kernel_rfl) rfl (by kernel_rfl) (by kernel_rfl) (by kernel_rfl) (by kernel_rfl) (by kernel_rfl) (find01_spec hr1 hform hr2 hfar hfar4) ?_
    rintro e B' ⟨rfl, r, rfl, hr⟩
    refine ⟨_, rfl, ?_⟩
    refine AOps.run (n := 96) [] [4] [] (cs := []) (by kernel_rfl) (by kernel_rfl) (by kernel_rfl) ?_ ?_
    · intro x hx; cases hx
    show AWp _ _ _ _ _
    refine AWp.view [(7, .slice ra row.length rc), (8, .slice sa xs.length sc), (9, .slice (some ⟨N, 0, none⟩) (lettersNs kb xs).length (unk 9)), (12, .int .i64 ((start : Nat) : Int)), (13, .int .i64 r)] (by kernel_rfl) ?_
    have hrowF : row ≠ [] → ∃ R, ra = some ⟨R, 0, none⟩ ∧ ∃ e ro, B'.get R = some (.cells (row.map fun c => .int .i32 c) e ro) := fun hne => by
      rcases ho1 with ⟨h, _, _⟩ | ⟨id, h1, h2, _, _⟩
      · exact absurd h hne
      · cases h1; exact ⟨id, rfl, 25, false, by rw [(hx2.trans hx).get h2, cell_enc]; rfl⟩
    obtain ⟨R, hrowR⟩ : ∃ R, row ≠ [] → ra = some ⟨R, 0, none⟩ ∧ ∃ e ro, B'.get R = some (.cells (row.map fun c => .int .i32 c) e ro) := by
      by_cases hne : row = []
      · exact ⟨0, fun h => absurd hne h⟩
      · obtain ⟨R, h⟩ := hrowF hne; exact ⟨R, fun _ => h⟩
    refine AWp.seq' (by kernel_rfl) (AWp.region' (by kernel_rfl) ?_)
    refine AOps.run (n := 96) [] [0, 1, 2, 3] [4, 5, 6, 7, 8, 9] (cs := []) (by kernel_rfl) (by kernel_rfl) (by kernel_rfl) ?_ ?_
    · intro x hx; cases hx
    refine AOps.call (n := 96) 4 [5, 6, 7, 8, 9] 8 [.agg #[.slice (some ⟨N, 0, none⟩) (lettersNs kb xs).length (unk 9), .int .i64 0], .slice ra row.length rc, .int .i64 ((start : Nat) : Int), .pointer none] (by kernel_rfl) rfl (by kernel_rfl) (by kernel_rfl) (by kernel_rfl) (by kernel_rfl) (by kernel_rfl) (tree_find (l := lettersL xs) (letters_pos xs) (letters_small hlen4) hT (letters_pn kb xs) hrowR hfar (start := start) (fun q => if stands row xs q then [⟨q + xs.length, minus 10⟩] else []) (fun q _ hq => letters_den hlen4 (by unfold far; omega))) ?_
    rintro e B3 ⟨hx3, hF⟩
    obtain ⟨sv, fb, rfl, hyes, hno⟩ := hF.split
    refine ⟨_, rfl, ?_⟩
    refine AOps.run (n := 96) [] [5, 6, 7, 8, 9] [] (cs := []) (by kernel_rfl) (by kernel_rfl) (by kernel_rfl) ?_ ?_
    · intro x hx; cases hx
    show AWp _ _ _ _ _
    have hxF := hxB2.trans hx3
    cases fb with
    | false =>
      have hr0 : r = -1 := by
        rcases hr with ⟨i, h1, h2, h3, _, _⟩ | ⟨_, h⟩
        · have := hno rfl i h1 (by omega)
          simp only [h2, if_true] at this; cases this
        · exact h
      subst hr0
      refine AWp.view [(13, .int .i64 (-1)), (15, .bool false)] (by kernel_rfl) ?_
      refine AWp.seq' (by kernel_rfl) ?_
      refine AWp.seq' (by kernel_rfl) (AWp.region' (by kernel_rfl) ?_)
      refine AOps.run (n := 96) [] [0, 1] [] (cs := []) (by kernel_rfl) (by kernel_rfl) (by kernel_rfl) ?_ ?_
      · intro x hx; cases hx
      show AWp _ _ _ _ _
      refine AWp.view [(13, .int .i64 (-1)), (72, .bool true)] (by kernel_rfl) ?_
      refine AWp.condT (c := .tmp 72) (by kernel_rfl) (by kernel_rfl) ?_
      refine AWp.seq' (by kernel_rfl) (AWp.region' (by kernel_rfl) ?_)
      refine AOps.call (n := 96) 0 [1, 2, 3, 4, 5] 10 [] (by kernel_rfl) rfl (by kernel_rfl) (by kernel_rfl) (by kernel_rfl) (by kernel_rfl) (by kernel_rfl) (known_at _) ?_
      rintro e B6 ⟨rfl, rfl⟩
      refine ⟨_, rfl, ?_⟩
      refine AOps.run (n := 96) [] [1, 2, 3, 4, 5] [] (cs := []) (by kernel_rfl) (by kernel_rfl) (by kernel_rfl) ?_ ?_
      · intro x hx; cases hx
      show AWp _ _ _ _ _
      refine AWp.view [(6, .bool true)] (by kernel_rfl) ?_
      exact AWp.ret' (by kernel_rfl) ⟨[.bool true], by kernel_rfl, rfl, hxF⟩
    | true =>
      obtain ⟨q, x, l, j, hq1, hq2, hq3, hq4, rfl, hj⟩ := hyes rfl
      have hst : stands row xs q := by by_cases h : stands row xs q; exact h; simp only [h, if_false] at hq3; cases hq3
      simp only [hst, if_true, List.cons.injEq] at hq3
      have hxs : x.stop = q + xs.length := by rw [← hq3.1]
      rw [hxs] at hj
      have hr0 : r = (q : Int) := by
        rcases hr with ⟨i, h1, h2, h3, h4, h5⟩ | ⟨h, _⟩
        · have : i = q := by
            rcases Nat.lt_trichotomy i q with e | e | e
            · have := hq4 i h1 e
              simp only [h2, if_true] at this; cases this
            · exact e
            · exact absurd hst (h4 q hq1 e)
          rw [h5, this]
        · exact absurd hst (h q hq1 hq2)
      subst hr0
      refine AWp.view [(8, .slice sa xs.length sc), (13, .int .i64 ((q : Nat) : Int)), (14, .slice (some ⟨j, 0, none⟩) 1 (unk 2)), (15, .bool true)] (by kernel_rfl) ?_
      refine AWp.seq' (by kernel_rfl) ?_
      refine AWp.seq' (by kernel_rfl) (AWp.region' (by kernel_rfl) ?_)
      refine AOps.run (n := 96) [] [0, 1] [] (cs := []) (by kernel_rfl) (by kernel_rfl) (by kernel_rfl) ?_ ?_
      · intro x hx; cases hx
      show AWp _ _ _ _ _
      refine AWp.view [(8, .slice sa xs.length sc), (13, .int .i64 ((q : Nat) : Int)), (14, .slice (some ⟨j, 0, none⟩) 1 (unk 2)), (72, .bool false)] (by kernel_rfl) ?_
      refine AWp.condF (c := .tmp 72) (by kernel_rfl) (by kernel_rfl) ?_
      refine AWp.skip' (by kernel_rfl) ?_
      show AWp _ _ _ _ _
      refine AWp.view [(8, .slice sa xs.length sc), (13, .int .i64 ((q : Nat) : Int)), (14, .slice (some ⟨j, 0, none⟩) 1 (unk 2))] (by kernel_rfl) ?_
      refine AWp.seq' (by kernel_rfl) (AWp.region' (by kernel_rfl) ?_)
      refine AOps.call (n := 96) 0 [1, 2, 3, 4, 5, 6, 7, 8, 9, 10, 11, 12, 13, 14, 15, 16, 17, 18] 10 [] (by kernel_rfl) rfl (by kernel_rfl) (by kernel_rfl) (by kernel_rfl) (by kernel_rfl) (by kernel_rfl) (known_at _) ?_
      rintro e B6 ⟨rfl, rfl⟩
      refine ⟨_, rfl, ?_⟩
      refine AOps.run (n := 96) [(9, .blk ([.int .i64 ((q : Nat) : Int), .int .i64 ((q + xs.length : Nat) : Int)])), (14, .val (.int .i64 ((q + xs.length : Nat) : Int))), (16, .val (.bool true))] [1, 2, 3, 4, 5, 6, 7, 8, 9, 10, 11, 12, 13, 14, 15, 16, 17, 18] [] (cs := [.blk (j) ([.int .i64 ((q : Nat) : Int), .int .i64 ((q + xs.length : Nat) : Int)]), .some (some (.int .i64 (IntKind.i64.wrap (((q : Nat) : Int) + ((xs.length : Nat) : Int))))) (.int .i64 ((q + xs.length : Nat) : Int)), .some (aagg Tryz.prog .eql 35 (.tmp 87) (.tmp 93) (.agg #[.int .i64 ((q : Nat) : Int), .int .i64 ((q + xs.length : Nat) : Int)]) (.agg #[.int .i64 ((q : Nat) : Int), .int .i64 ((q + xs.length : Nat) : Int)])) (.bool true)]) (by kernel_rfl) (by kernel_rfl) (by kernel_rfl) ?_ ?_
      · intro x hx
        simp only [List.mem_cons, List.not_mem_nil, or_false] at hx
        rcases hx with rfl | rfl | rfl
        · exact ⟨35, false, hj⟩
        · exact congrArg (fun x => some (Value.int .i64 x)) (wrap_add (by omega))
        · exact eq_span _ _
      show AWp _ _ _ _ _
      refine AWp.view [(6, .bool true)] (by kernel_rfl) ?_
      exact AWp.ret' (by kernel_rfl) ⟨[.bool true], by kernel_rfl, rfl, hxF⟩
end Go.Proofs.YtihpfgnigpmihaaGreat
