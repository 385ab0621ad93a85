/- ask's closure over any heap, as it is reckoned. -/
import Derived.Test.YtfolofhknhgpiaaGreatDoorE8
set_option linter.unusedVariables false
set_option linter.unusedSimpArgs false
set_option maxRecDepth 100000
namespace Go.Proofs.YtfolofhknhgpiaaGreatDoor
open Go

theorem of_blt {a n : Nat} (h : Nat.blt a n = true) : a < n := Nat.lt_of_succ_le (Nat.le_of_ble_eq_true h)
mutual
theorem boundV_ren {n : Nat} {ρ : Nat → Nat} (h : ∀ i, i < n → ρ i = i) : ∀ (v : Value), boundV n v = true → ren ρ v = v
  | .bool _, _ => rfl
  | .int _ _, _ => rfl
  | .float _ _, _ => rfl
  | .complex _ _ _, _ => rfl
  | .string _, _ => rfl
  | .pointer none, _ => rfl
  | .pointer (some a), hb => by
    have := h _ (of_blt hb)
    rw [ren, this]
  | .slice none _ _, _ => rfl
  | .slice (some a) n c, hb => by
    have := h _ (of_blt hb)
    rw [ren, this]
  | .map none, _ => rfl
  | .map (some m), hb => by
    have := h _ (of_blt hb)
    rw [ren, this]
  | .chan _, _ => rfl
  | .func f ⟨x⟩ ⟨y⟩, hb => by
    simp only [boundV, Bool.and_eq_true] at hb
    rw [ren, boundL_ren h x hb.1, boundL_ren h y hb.2]
  | .nilFunc, _ => rfl
  | .iface t v, hb => by
    rw [ren, boundV_ren h v hb]
  | .nilIface, _ => rfl
  | .agg ⟨x⟩, hb => by rw [ren, boundL_ren h x hb]
  | .tuple ⟨x⟩, hb => by rw [ren, boundL_ren h x hb]
theorem boundL_ren {n : Nat} {ρ : Nat → Nat} (h : ∀ i, i < n → ρ i = i) : ∀ (l : List Value), boundL n l = true → renL ρ l = l
  | [], _ => rfl
  | v :: l, hb => by
    simp only [boundL, Bool.and_eq_true] at hb
    rw [renL, boundV_ren h v hb.1, boundL_ren h l hb.2]
end
theorem boundB_ren {n : Nat} {ρ : Nat → Nat} (h : ∀ i, i < n → ρ i = i) (b : ABlk) (hb : boundB n b = true) : renB ρ b = b := by
  cases b with
  | cells vs e ro => rw [renB, ← renL_map, boundL_ren h vs hb]
  | map es ck =>
    rw [renB]
    have : es.map (renE ρ) = es := by
      unfold boundB at hb
      induction es with
      | nil => rfl
      | cons e es ih =>
        simp only [List.all_cons, Bool.and_eq_true] at hb
        rw [List.map_cons, ih hb.2]
        obtain ⟨k, v, bn⟩ := e
        simp only [renE]
        rw [boundV_ren h v hb.1]
    rw [this]
  | iter s p => rfl
theorem boundH_ren {H : AHeap} {ρ : Nat → Nat} (hb : boundH H = true) (h : ∀ i, i < H.next → ρ i = i) {i : Nat} {b : ABlk} (hi : H.get i = some b) : renB ρ b = b := by
  have := List.all_eq_true.1 hb i (List.mem_range.2 (AHeap.get_lt hi))
  rw [hi] at this
  exact boundB_ren h b this

theorem heap6_next (H : AHeap) (t : Nat) (tc : List Value) (et : TypeId) (u l : List MapEntry × Nat) : (heap6 H t tc et u l).next = H.next + 6 := rfl
theorem heap6_t {H : AHeap} {t : Nat} (ht : t < H.next) (tc : List Value) (et : TypeId) (u l : List MapEntry × Nat) : (heap6 H t tc et u l).get t = some (.cells (putCells tc 8 (maps6 H.next)) et false) := by
  unfold heap6
  rw [AHeap.get_set, if_pos ⟨rfl, by show t < H.next + 6; omega⟩]
theorem heap6_old {H : AHeap} {t i : Nat} (hi : i < H.next) (hne : i ≠ t) (tc : List Value) (et : TypeId) (u l : List MapEntry × Nat) : (heap6 H t tc et u l).get i = H.get i := by
  unfold heap6
  rw [AHeap.get_set_ne hne]
  iterate 5 rw [AHeap.get_push, if_neg (by simp only [AHeap.next_push]; omega)]
  rw [AHeap.get_push, if_neg (by omega)]
theorem heap6_new {H : AHeap} {t : Nat} (ht : t < H.next) (tc : List Value) (et : TypeId) (u l : List MapEntry × Nat) : (heap6 H t tc et u l).get H.next = some (.map [] 0) ∧ (heap6 H t tc et u l).get (H.next + 1) = some (.map u.1 u.2) ∧
    (heap6 H t tc et u l).get (H.next + 2) = some (.map l.1 l.2) ∧ (heap6 H t tc et u l).get (H.next + 3) = some (.map [] 0) ∧ (heap6 H t tc et u l).get (H.next + 4) = some (.map [] 0) ∧ (heap6 H t tc et u l).get (H.next + 5) = some (.map [] 0) := by
  unfold heap6
  refine ⟨?_, ?_, ?_, ?_, ?_, ?_⟩ <;> rw [AHeap.get_set_ne (by omega)]
  · iterate 5 rw [AHeap.get_push, if_neg (by simp only [AHeap.next_push]; omega)]
    rw [AHeap.get_push, if_pos rfl]
  · iterate 4 rw [AHeap.get_push, if_neg (by simp only [AHeap.next_push]; omega)]
    rw [AHeap.get_push, if_pos (by simp only [AHeap.next_push])]
  · iterate 3 rw [AHeap.get_push, if_neg (by simp only [AHeap.next_push]; omega)]
    rw [AHeap.get_push, if_pos (by simp only [AHeap.next_push])]
  · iterate 2 rw [AHeap.get_push, if_neg (by simp only [AHeap.next_push]; omega)]
    rw [AHeap.get_push, if_pos (by simp only [AHeap.next_push])]
  · rw [AHeap.get_push, if_neg (by simp only [AHeap.next_push]; omega)]
    rw [AHeap.get_push, if_pos (by simp only [AHeap.next_push])]
  · rw [AHeap.get_push, if_pos (by simp only [AHeap.next_push])]
theorem pairsOf_flat {P : Program} {H : AHeap} {v : Value} {pu : List MapEntry × Nat} (h : pairsOf P H v = some pu) : flatE pu.1 = true := by
  unfold pairsOf at h
  split at h
  · split at h
    · split at h
      · split at h
        · split at h
          · rename_i hc
            cases h
            simp only [Bool.and_eq_true] at hc
            exact hc.1.1.1.2
          · cases h
        · cases h
      · cases h
    · cases h
  · cases h

/-- The canonical heap's numbers. -/
def rho96 (N M : Nat) (A : Nat → Nat) (i : Nat) : Nat := if i < N then i else if i = N then A 1 else if i = N + 1 then A 7 else if i = N + 2 then A 13 else if i = N + 3 then A 14 else if i = N + 4 then A 15 else if i = N + 5 then A 16 else M + i
theorem list14 {l : List Value} (h : l.length = 14) : ∃ a b c d e f g i j k m n o p, l = [a, b, c, d, e, f, g, i, j, k, m, n, o, p] := by
  match l, h with
  | [a, b, c, d, e, f, g, i, j, k, m, n, o, p], _ => exact ⟨a, b, c, d, e, f, g, i, j, k, m, n, o, p, rfl⟩
theorem small96 {H Hf : AHeap} {t : Nat} {tc : List Value} {et : TypeId} {pu pl : List MapEntry × Nat} {A : Nat → Nat} (hb : boundH H = true) (hT : H.get t = some (.cells tc et false)) (hlen : tc.length = 14) (hrs : H.rs = []) (fu : flatE pu.1 = true) (fl : flatE pl.1 = true)
    (hn : H.next ≤ Hf.next) (hold : ∀ j, j < H.next → j ≠ t → Hf.get j = H.get j) (hA : ∀ i, i ∈ al96 → Hf.get (A i) = some (blk96 pu pl i) ∧ H.next ≤ A i) (hinj : ∀ i j, i ∈ al96 → j ∈ al96 → A i = A j → i = j) (hTf : Hf.get t = some (.cells (putCells tc 8 (agg96 A)) et false)) :
    Small (rho96 H.next Hf.next A) (heap6 H t tc et pu pl) Hf := by
  have ht : t < H.next := AHeap.get_lt hT
  have low : ∀ i, i < H.next → rho96 H.next Hf.next A i = i := fun i hi => if_pos hi
  have r0 : rho96 H.next Hf.next A H.next = A 1 := by unfold rho96; rw [if_neg (by omega), if_pos rfl]
  have r1 : rho96 H.next Hf.next A (H.next + 1) = A 7 := by unfold rho96; rw [if_neg (by omega), if_neg (by omega), if_pos rfl]
  have r2 : rho96 H.next Hf.next A (H.next + 2) = A 13 := by unfold rho96; rw [if_neg (by omega), if_neg (by omega), if_neg (by omega), if_pos rfl]
  have r3 : rho96 H.next Hf.next A (H.next + 3) = A 14 := by unfold rho96; rw [if_neg (by omega), if_neg (by omega), if_neg (by omega), if_neg (by omega), if_pos rfl]
  have r4 : rho96 H.next Hf.next A (H.next + 4) = A 15 := by unfold rho96; rw [if_neg (by omega), if_neg (by omega), if_neg (by omega), if_neg (by omega), if_neg (by omega), if_pos rfl]
  have r5 : rho96 H.next Hf.next A (H.next + 5) = A 16 := by unfold rho96; rw [if_neg (by omega), if_neg (by omega), if_neg (by omega), if_neg (by omega), if_neg (by omega), if_neg (by omega), if_pos rfl]
  obtain ⟨n0, n1, n2, n3, n4, n5⟩ := heap6_new ht tc et pu pl
  have six : ∀ i, H.next ≤ i → i < H.next + 6 → ∃ a, a ∈ al96 ∧ rho96 H.next Hf.next A i = A a ∧ (∀ b, (heap6 H t tc et pu pl).get i = some b → b = blk96 pu pl a) ∧ (a = 1 ∧ i = H.next ∨ a = 7 ∧ i = H.next + 1 ∨ a = 13 ∧ i = H.next + 2 ∨ a = 14 ∧ i = H.next + 3 ∨ a = 15 ∧ i = H.next + 4 ∨ a = 16 ∧ i = H.next + 5) := fun i h1 h2 => by
    rcases (by omega : i = H.next ∨ i = H.next + 1 ∨ i = H.next + 2 ∨ i = H.next + 3 ∨ i = H.next + 4 ∨ i = H.next + 5) with e | e | e | e | e | e
    · subst e; exact ⟨1, by decide, r0, fun b hb => by rw [n0] at hb; cases hb; rfl, .inl ⟨rfl, rfl⟩⟩
    · subst e; exact ⟨7, by decide, r1, fun b hb => by rw [n1] at hb; cases hb; rfl, .inr (.inl ⟨rfl, rfl⟩)⟩
    · subst e; exact ⟨13, by decide, r2, fun b hb => by rw [n2] at hb; cases hb; rfl, .inr (.inr (.inl ⟨rfl, rfl⟩))⟩
    · subst e; exact ⟨14, by decide, r3, fun b hb => by rw [n3] at hb; cases hb; rfl, .inr (.inr (.inr (.inl ⟨rfl, rfl⟩)))⟩
    · subst e; exact ⟨15, by decide, r4, fun b hb => by rw [n4] at hb; cases hb; rfl, .inr (.inr (.inr (.inr (.inl ⟨rfl, rfl⟩))))⟩
    · subst e; exact ⟨16, by decide, r5, fun b hb => by rw [n5] at hb; cases hb; rfl, .inr (.inr (.inr (.inr (.inr ⟨rfl, rfl⟩))))⟩
  refine ⟨fun i j hi hj e => ?_, fun i hi => ?_, fun i b hib => ?_, hrs⟩
  · rw [heap6_next] at hi hj
    by_cases h1 : i < H.next <;> by_cases h2 : j < H.next
    · rw [low i h1, low j h2] at e; exact e
    · obtain ⟨a, a1, a2, _⟩ := six j (by omega) hj
      rw [low i h1, a2] at e
      have := (hA a a1).2; omega
    · obtain ⟨a, a1, a2, _⟩ := six i (by omega) hi
      rw [low j h2, a2] at e
      have := (hA a a1).2; omega
    · obtain ⟨a, a1, a2, _, a4⟩ := six i (by omega) hi
      obtain ⟨c, c1, c2, _, c4⟩ := six j (by omega) hj
      rw [a2, c2] at e
      have hac := hinj a c a1 c1 e
      omega
  · rw [heap6_next] at hi
    unfold rho96
    rw [if_neg (by omega), if_neg (by omega), if_neg (by omega), if_neg (by omega), if_neg (by omega), if_neg (by omega), if_neg (by omega)]
    omega
  · have hi6 : i < H.next + 6 := by have := AHeap.get_lt hib; rwa [heap6_next] at this
    by_cases hi : i < H.next
    · rw [low i hi]
      by_cases hit : i = t
      · subst hit
        rw [heap6_t ht] at hib
        cases hib
        rw [hTf]
        have htcb := boundH_ren hb low hT
        rw [renB] at htcb
        have htcm : tc.map (ren (rho96 H.next Hf.next A)) = tc := ABlk.cells.inj htcb |>.1
        obtain ⟨a, b, c, d, e, f, g, i2, j, k, m, n, o, p, rfl⟩ := list14 hlen
        simp only [List.map_cons, List.cons.injEq, List.map_nil, and_true] at htcm
        obtain ⟨q1, q2, q3, q4, q5, q6, q7, q8, _⟩ := htcm
        congr 1
        rw [renB]
        congr 1
        show [a, b, c, d, e, f, g, i2, _, _, _, _, _, _] = [ren _ a, ren _ b, ren _ c, ren _ d, ren _ e, ren _ f, ren _ g, ren _ i2, ren _ (.map (some H.next)), ren _ (.map (some (H.next + 1))), ren _ (.map (some (H.next + 2))), ren _ (.map (some (H.next + 3))), ren _ (.map (some (H.next + 4))), ren _ (.map (some (H.next + 5)))]
        rw [q1, q2, q3, q4, q5, q6, q7, q8]
        simp only [ren, r0, r1, r2, r3, r4, r5]
      · rw [heap6_old hi hit] at hib
        rw [hold i hi hit, hib, boundH_ren hb low hib]
    · obtain ⟨a, a1, a2, a3, _⟩ := six i (by omega) hi6
      rw [a2, (hA a a1).1, a3 b hib]
      simp only [al96, List.mem_cons, List.not_mem_nil, or_false] at a1
      rcases a1 with rfl | rfl | rfl | rfl | rfl | rfl
      · rfl
      · show some (ABlk.map pu.1 pu.2) = some (renB _ (.map pu.1 pu.2)); rw [renB, renE_flat _ fu]
      · show some (ABlk.map pl.1 pl.2) = some (renB _ (.map pl.1 pl.2)); rw [renB, renE_flat _ fl]
      · rfl
      · rfl
      · rfl

theorem base96_ok {call : Caller} (hc : CallOk Tryz.prog call) (fuel : Nat) : CallOk Tryz.prog (base96 Tryz.prog call fuel) := by
  intro g args H v H' h
  unfold base96 at h
  split at h
  · rename_i hg
    subst hg
    split at h
    · rename_i c
      split at h
      · rename_i tp ec rc hC
        split at h
        · rename_i tc et hT
          split at h
          · rename_i u l hu hl
            split at h
            · rename_i pu pl hpu hpl
              split at h
              · rename_i hcond
                split at h
                · rename_i H2 hends
                  cases h
                  simp only [Bool.and_eq_true, Bool.not_eq_true'] at hcond
                  obtain ⟨⟨⟨⟨⟨k1, k2⟩, k3⟩, k4⟩, k5⟩, k6⟩ := hcond
                  have hlen := Nat.eq_of_beq_eq_true k3
                  have hrs : H.rs = [] := List.isEmpty_iff.1 k4
                  have hct : c.block ≠ tp.block := fun e => by rw [e] at k5; simp at k5
                  have ec1 := addr_ok k1
                  have et1 := addr_ok k2
                  have hC' : ∃ ec rc, H.get c.block = some (.cells [pt tp.block 0] ec rc) := ⟨ec, rc, by rw [hC, et1]; rfl⟩
                  obtain ⟨e0, T0, H0, hd, hk⟩ := endsA_ok hends
                  refine ACall.of_bodyR (fn := Tryz.f96) (c := bodyOf Tryz.prog 96) (by kernel_rfl) (by kernel_rfl) (by show 1 ≤ 95; decide) ?_
                  refine AWr.seq' (by kernel_rfl) (AWp.toR (AWp.drawAny mixed (by kernel_rfl) (by kernel_rfl) (I96 H c.block tp.block tc et u l pu pl) ?_ ?_ ?_))
                  · refine ⟨rfl, rfl, ?_, Nat.le_refl _, hrs, fun _ _ _ => rfl, fun q => by simp at q, fun q => by simp at q, fun q => by simp at q, fun _ => 0, fun i hi => by simp at hi, fun i hi => by simp at hi, fun i j hi => by simp at hi, fun q => by simp at q⟩
                    show some (Value.pointer (some c)) = some (pt c.block 0)
                    rw [ec1]; rfl
                  · intro D i o E H1 hI ho hi hed
                    have hlt : i < 21 := by
                      have := (Array.getElem?_eq_some_iff.1 ho).1
                      rwa [sz96] at this
                    match i, hlt with
                    | 0, _ => exact step96_0 hC' hT hct hu hl hlen hpu hpl hI ho hi hed
                    | 1, _ => exact step96_1 hC' hT hct hu hl hlen hpu hpl hI ho hi hed
                    | 2, _ => exact step96_2 hC' hT hct hu hl hlen hpu hpl hI ho hi hed
                    | 3, _ => exact step96_3 hC' hT hct hu hl hlen hpu hpl hI ho hi hed
                    | 4, _ => exact step96_4 hC' hT hct hu hl hlen hpu hpl hI ho hi hed
                    | 5, _ => exact step96_5 hC' hT hct hu hl hlen hpu hpl hI ho hi hed
                    | 6, _ => exact step96_6 hC' hT hct hu hl hlen hpu hpl hI ho hi hed
                    | 7, _ => exact step96_7 hC' hT hct hu hl hlen hpu hpl hI ho hi hed
                    | 8, _ => exact step96_8 hC' hT hct hu hl hlen hpu hpl hI ho hi hed
                    | 9, _ => exact step96_9 hC' hT hct hu hl hlen hpu hpl hI ho hi hed
                    | 10, _ => exact step96_10 hC' hT hct hu hl hlen hpu hpl hI ho hi hed
                    | 11, _ => exact step96_11 hC' hT hct hu hl hlen hpu hpl hI ho hi hed
                    | 12, _ => exact step96_12 hC' hT hct hu hl hlen hpu hpl hI ho hi hed
                    | 13, _ => exact step96_13 hC' hT hct hu hl hlen hpu hpl hI ho hi hed
                    | 14, _ => exact step96_14 hC' hT hct hu hl hlen hpu hpl hI ho hi hed
                    | 15, _ => exact step96_15 hC' hT hct hu hl hlen hpu hpl hI ho hi hed
                    | 16, _ => exact step96_16 hC' hT hct hu hl hlen hpu hpl hI ho hi hed
                    | 17, _ => exact step96_17 hC' hT hct hu hl hlen hpu hpl hI ho hi hed
                    | 18, _ => exact step96_18 hC' hT hct hu hl hlen hpu hpl hI ho hi hed
                    | 19, _ => exact step96_19 hC' hT hct hu hl hlen hpu hpl hI ho hi hed
                    | 20, _ => exact step96_20 hC' hT hct hu hl hlen hpu hpl hI ho hi hed
                    | i + 21, hlt => omega
                  · intro D E Hf hI hall
                    have hall : ∀ i, i < 21 → i ∈ D := fun i hi => hall i (by rw [sz96]; exact hi)
                    obtain ⟨A, a1, a2, a3, a4⟩ := hI.ex
                    have hal : ∀ i, i ∈ al96 → i ∈ D := fun i hi => hall i (by simp only [al96, List.mem_cons, List.not_mem_nil, or_false] at hi; omega)
                    have hs := small96 k6 hT hlen hrs (pairsOf_flat hpu) (pairsOf_flat hpl) hI.next (fun j hj hjt => hI.old j hj (fun e => absurd e hjt)) (fun i hi => a2 i (hal i hi) hi) (fun i j hi hj => a3 i j (hal i hi) (hal j hj) hi hj) (a4 (hall 20 (by decide)))
                    refine AWr.renum (F := envOf 95 (mkE [(0, .pointer (some c))])) hs (fun i hi => if_pos hi) hI.n.symm ⟨mkE_ds _ _, hI.ds⟩ (fun t v hv => ?_) (AWp.toR ((dcode_sound mixed hc fuel (snd (bodyOf Tryz.prog 96)) (by kernel_rfl) _ T0 _ H0 _ hd).mono ?_))
                    · have ht0 : t = 0 ∧ v = .pointer (some c) := by
                        unfold AEnv.get envOf at hv
                        simp only at hv
                        split at hv
                        · rw [mkE, Tr.get_set] at hv
                          split at hv
                          · rename_i e; cases hv; exact ⟨by omega, rfl⟩
                          · simp [mkE, Tr.get] at hv
                        · cases hv
                      obtain ⟨rfl, rfl⟩ := ht0
                      rw [hI.e0]
                      obtain ⟨_, _, hCC⟩ := hC'
                      have : rho96 H.next Hf.next A c.block = c.block := if_pos (AHeap.get_lt hCC)
                      rw [ren, this, ec1]; rfl
                    · rintro e2 E2 H4 hi
                      obtain ⟨rfl, _⟩ := id hi
                      have hg := hk (fun H3 => H3 = H') rfl E2 H4 hi
                      have hres : ∀ vs, resultsA Tryz.prog E2 H4 (fn96 Tryz.prog).results.toList = some vs → vs = [] ∧ resultsA Tryz.prog E2 H4 (Tryz.f96).results.toList = some [] := fun vs hvs => by
                        have e1 : (fn96 Tryz.prog).results.toList = [] := by kernel_rfl
                        have e2 : (Tryz.f96).results.toList = [] := by kernel_rfl
                        rw [e1] at hvs
                        have h3 := resultsA_some hvs
                        have : vs = [] := by have := h3.2; simp only [resultsV, Option.some.injEq] at this; exact this.symm
                        subst this
                        exact ⟨rfl, by rw [e2]; exact hvs⟩
                      unfold goesOn at hg
                      unfold finA
                      cases e2 with
                      | normal =>
                        obtain ⟨vs, h1, h2⟩ := hg
                        exact ⟨[], (hres vs h1).2, rfl, h2⟩
                      | ret =>
                        obtain ⟨vs, h1, h2⟩ := hg
                        exact ⟨[], (hres vs h1).2, rfl, h2⟩
                      | _ => exact hg.elim
                · cases h
              · cases h
            · cases h
          · cases h
        · cases h
      · cases h
    · cases h
  · cases h

theorem either_ok {a b : Caller} (ha : CallOk Tryz.prog a) (hb : CallOk Tryz.prog b) : CallOk Tryz.prog (either a b) := by
  intro g args H v H' h
  unfold either at h
  split at h
  · rename_i r hr; cases h; exact ha g args H v H' hr
  · exact hb g args H v H' h
end Go.Proofs.YtfolofhknhgpiaaGreatDoor
