/- What pairs makes of a slice, over any heap; the first statement of ask's closure, in any order. -/
import Derived.Test.YtfolofhknhgpiaaGreatDoorE7
set_option linter.unusedVariables false
set_option linter.unusedSimpArgs false
set_option maxRecDepth 100000
namespace Go.Proofs.YtfolofhknhgpiaaGreatDoor
open Go


theorem renE_flat (ρ : Nat → Nat) {es : List MapEntry} (h : flatE es = true) : es.map (renE ρ) = es := by
  induction es with
  | nil => rfl
  | cons e es ih =>
    unfold flatE at h ih
    simp only [List.all_cons, Bool.and_eq_true] at h
    rw [List.map_cons, ih h.2]
    obtain ⟨k, v, b⟩ := e
    simp only [renE]
    rw [ren_scalar ρ h.1.2]
theorem ren_scalars (ρ : Nat → Nat) : ∀ {l : List Value}, l.all scalar = true → l.map (ren ρ) = l
  | [], _ => rfl
  | v :: l, h => by
    simp only [List.all_cons, Bool.and_eq_true] at h
    rw [List.map_cons, ren_scalar ρ h.1, ren_scalars ρ h.2]
theorem addr_ok {a : Addr} (h : addrOk a = true) : a = ⟨a.block, 0, none⟩ := by
  unfold addrOk at h
  simp only [Bool.and_eq_true] at h
  obtain ⟨b, o, s⟩ := a
  have h1 : o = 0 := Nat.eq_of_beq_eq_true h.1
  have h2 : s = none := Option.isNone_iff_eq_none.1 h.2
  subst h1 h2
  rfl

theorem pairs_at {H B : AHeap} {u : Value} {pu : List MapEntry × Nat} (h : pairsOf Tryz.prog H u = some pu) (hx : ∀ i, i < H.next → (∃ vs e ro, H.get i = some (.cells vs e ro)) → B.get i = H.get i) (hrs : B.rs = []) :
    ACall Tryz.prog 97 [u] B fun e B' => ∃ id, e = .ret (.map (some id)) ∧ Ext B B' ∧ B.next ≤ id ∧ id < B'.next ∧ B'.get id = some (.map pu.1 pu.2) := by
  unfold pairsOf at h
  split at h
  · rename_i a n c
    split at h
    · rename_i us e ro hU
      split at h
      · rename_i m Hs hd
        split at h
        · rename_i es ck hm
          split at h
          · rename_i hc
            cases h
            simp only [Bool.and_eq_true] at hc
            obtain ⟨⟨⟨⟨⟨⟨ha, h1⟩, h2⟩, h3⟩, h4⟩, h5⟩, h6⟩ := hc
            have h1 := Nat.le_of_ble_eq_true h1
            have h2 := Nat.le_of_ble_eq_true h2
            have h6 := beqO_eq beqB_eq _ _ h6
            have hBU : B.get a.block = some (.cells us e ro) := by rw [hx _ (AHeap.get_lt hU) ⟨_, _, _, hU⟩]; exact hU
            have haB : a.block < B.next := AHeap.get_lt hBU
            let ρ : Nat → Nat := fun i => if i = 0 then a.block else B.next + (i - 1)
            have hst : Stands ρ (mkH [some (.cells us e ro)]) B := by
              refine ⟨fun i j hij => ?_, fun i hi => ?_, fun i hi => ?_, fun i b hb => ?_, rfl, fun i hi => by rw [hrs]; simp⟩
              · simp only [ρ] at hij
                split at hij <;> split at hij <;> omega
              · have : i < 1 := hi
                have h0 : i = 0 := by omega
                subst h0; exact haB
              · have : 1 ≤ i := hi
                simp only [ρ]
                rw [if_neg (by omega)]
                show B.next + (i - 1) = B.next + (i - 1)
                rfl
              · have hi : i < 1 := AHeap.get_lt hb
                have h0 : i = 0 := by omega
                subst h0
                rw [mkH_get] at hb
                cases hb
                show B.get a.block = some (renB ρ (.cells us e ro))
                rw [renB, ren_scalars ρ h5]; exact hBU
            have hcall := ACall.frame hst (call_ok noBase_ok 1000 3 97 _ _ _ _ hd) (fun ae H' ⟨_, e2⟩ => by
              subst e2
              refine ⟨h2, fun i vs e3 hi => ?_⟩
              have := List.all_eq_true.1 h4 i (List.mem_range.2 (AHeap.get_lt hi))
              rw [hi] at this
              simp only [Bool.or_false] at this
              have h0 : i = 0 := Nat.eq_of_beq_eq_true this
              subst h0
              exact ⟨.cells us e ro, by rw [mkH_get]; rfl⟩)
            have hargs : [Value.slice (some ⟨0, 0, none⟩) n c].map (ren ρ) = [.slice (some a) n c] := by
              rw [addr_ok ha]; rfl
            rw [hargs] at hcall
            refine hcall.mono ?_
            rintro e2 B' ⟨a0, H', ⟨rfl, rfl⟩, rfl, _, hmg⟩
            have hmlt : m < H'.next := AHeap.get_lt hm
            have hnx : (mkH [some (.cells us e ro)]).next = 1 := rfl
            have hρm : ρ m = B.next + (m - 1) := if_neg (by omega)
            refine ⟨ρ m, rfl, ⟨by rw [hmg.next]; omega, fun j hj => ?_, hmg.rs⟩, by omega, by rw [hmg.next, hnx]; omega, ?_⟩
            · by_cases hja : j = a.block
              · have := hmg.new 0 (by omega)
                have h0 : ρ 0 = a.block := rfl
                rw [h0, h6] at this
                rw [hja, this, hBU]
                show some (renB ρ _) = _
                rw [renB, ren_scalars ρ h5]
              · refine hmg.old j hj fun i hi => ?_
                have : i < 1 := hi
                have h0 : i = 0 := by omega
                subst h0
                exact fun q => hja q.symm
            · rw [hmg.new m hmlt, hm]
              show some (renB ρ _) = _
              rw [renB, renE_flat ρ h3]
          · cases h
        · cases h
      · cases h
    · cases h
  · cases h

/-! ### The first statement -/
def x96 (P : Program) : Code := fst (bodyOf P 96)
def al96 : List Nat := [1, 7, 13, 14, 15, 16]
def pt (t o : Nat) : Value := .pointer (some ⟨t, o, none⟩)
def agg96 (A : Nat → Nat) : List Value := [.map (some (A 1)), .map (some (A 7)), .map (some (A 13)), .map (some (A 14)), .map (some (A 15)), .map (some (A 16))]
def val96 (t : Nat) (u l : Value) (A : Nat → Nat) : Nat → Value
  | 0 | 2 | 3 | 8 | 9 | 18 => pt t 0
  | 4 | 10 => pt t 0
  | 5 => pt t 1
  | 6 => u
  | 11 => pt t 2
  | 12 => l
  | 17 => .agg ⟨agg96 A⟩
  | 19 => pt t 8
  | i => .map (some (A i))
def blk96 (pu pl : List MapEntry × Nat) : Nat → ABlk
  | 7 => .map pu.1 pu.2
  | 13 => .map pl.1 pl.2
  | _ => .map [] 0
structure I96 (B : AHeap) (c t : Nat) (tc : List Value) (et : TypeId) (u l : Value) (pu pl : List MapEntry × Nat) (D : List Nat) (E : AEnv) (H : AHeap) : Prop where
  n : E.n = 95
  ds : E.ds = []
  e0 : E.get 0 = some (pt c 0)
  next : B.next ≤ H.next
  rs : H.rs = []
  old : ∀ j, j < B.next → (j = t → 20 ∉ D) → H.get j = B.get j
  d17 : 17 ∈ D → ∀ j, j ∈ al96 → j ∈ D
  d19 : 19 ∈ D → 18 ∈ D
  d20 : 20 ∈ D → ∀ j, j < 20 → j ∈ D
  ex : ∃ A : Nat → Nat, (∀ i, i ∈ D → i < 20 → E.get (i + 5) = some (val96 t u l A i)) ∧ (∀ i, i ∈ D → i ∈ al96 → H.get (A i) = some (blk96 pu pl i) ∧ B.next ≤ A i) ∧ (∀ i j, i ∈ D → j ∈ D → i ∈ al96 → j ∈ al96 → A i = A j → i = j) ∧
    (20 ∈ D → H.get t = some (.cells (putCells tc 8 (agg96 A)) et false))

section
variable {B : AHeap} {c t : Nat} {tc : List Value} {et : TypeId} {u l : Value} {pu pl : List MapEntry × Nat} {D : List Nat} {E : AEnv} {H : AHeap}
theorem stepA.of_run {P : Program} {ops : Array Oper} {rb : Nat → Option Nat} {i d n : Nat} {o : Oper} {T : Tr Value} {H : AHeap} {K Kp : Value → AHeap → Prop} (ho : ops[i]? = some o) (hd : dstAt ops i = some d)
    (h : AOps P ops rb (only fun F' H' => ∃ v, F'.get d = some v ∧ K v H') [i] (envOf n T) H) : stepA P ops o (rb i) (envOf n T) H K Kp := by
  rw [AOps.cons_eq ho] at h
  refine stepA.mono (fun v H' hk => ?_) (fun v H' hk => hk.elim) h
  obtain ⟨v', h1, h2⟩ := hk
  have hod : o.dst = some d := by unfold dstAt at hd; rw [ho] at hd; exact hd
  rw [hod] at h1
  simp only [AEnv.put, AEnv.get_set, if_true] at h1
  split at h1
  · cases h1; exact h2
  · cases h1
theorem stepA.of_run0 {P : Program} {ops : Array Oper} {rb : Nat → Option Nat} {i n : Nat} {o : Oper} {T : Tr Value} {H : AHeap} {K : AHeap → Prop} {Kp : Value → AHeap → Prop} (ho : ops[i]? = some o)
    (h : AOps P ops rb (only fun F' H' => K H') [i] (envOf n T) H) : stepA P ops o (rb i) (envOf n T) H (fun _ H' => K H') Kp := by
  rw [AOps.cons_eq ho] at h
  exact stepA.mono (fun v H' hk => hk) (fun v H' hk => hk.elim) h
theorem mkE_look : ∀ (F : List (Nat × Value)) (t : Nat) (x : Value), (∀ p ∈ F, E.get p.1 = some p.2) → t ∈ F.map (·.1) → (mkE F).get (t + 1) = E.get t
  | [], _, _, _, h => by simp at h
  | (s, v) :: F, t, x, hF, h => by
    rw [mkE, Tr.get_set]
    by_cases e : t = s
    · subst e; rw [if_pos rfl, hF _ (List.mem_cons_self ..)]
    · rw [if_neg (by omega)]
      refine mkE_look F t x (fun p hp => hF p (List.mem_cons_of_mem _ hp)) ?_
      simp only [List.map_cons, List.mem_cons] at h
      exact h.resolve_left e
theorem dst_of {ops : Array Oper} {i : Nat} {o : Oper} {d : Option Tmp} (ho : ops[i]? = some o) (hd : dstAt ops i = d) : o.dst = d := by
  unfold dstAt at hd; rw [ho] at hd; exact hd
/-- An operation from the variables that it looks at. -/
theorem look_at {P : Program} {ops : Array Oper} {i n : Nat} {o : Oper} (F : List (Nat × Value)) {r : Option Nat} {K Kp : Value → AHeap → Prop} (ho : ops[i]? = some o) (hn : E.n = n) (hl : looksL ops i = F.map (·.1)) (hF : ∀ p ∈ F, E.get p.1 = some p.2)
    (h : stepA P ops o r (envOf n (mkE F)) H K Kp) : stepA P ops o r E H K Kp := by
  refine stepA.at (fun t ht => ?_) h
  have hl' : looksL ops i = o.looksAt ops := by unfold looksL; rw [ho]
  have htF : t ∈ F.map (·.1) := by rw [← hl, hl']; exact ht
  have h1 := mkE_look F t undef hF htF
  obtain ⟨p, hp, rfl⟩ := List.mem_map.1 htF
  have h2 := hF p hp
  have hlt : p.1 < n := by
    unfold AEnv.get at h2
    split at h2
    · rw [← hn]; assumption
    · cases h2
  show E.get p.1 = (envOf n (mkE F)).get p.1
  unfold AEnv.get envOf
  simp only
  rw [if_pos hlt, h1]
  unfold AEnv.get
  rw [hn, if_pos hlt]
theorem get_put_at {E : AEnv} {d : Nat} {v : Value} (h : d < E.n) : (E.put (some d) v).get d = some v := by
  simp only [AEnv.put, AEnv.get_set, if_true]; rw [if_pos h]
theorem get_put_ne {E : AEnv} {d j : Nat} {v : Value} (h : j ≠ d) : (E.put (some d) v).get j = E.get j := by
  simp only [AEnv.put, AEnv.get_set]; rw [if_neg h]

/-- What is reckoned or read. -/
theorem I96.pure (h : I96 B c t tc et u l pu pl D E H) {i : Nat} {v : Value} (hi : i < 20) (ha : i ∉ al96) (h17 : i = 17 → ∀ j, j ∈ al96 → j ∈ D) (h19 : i = 19 → 18 ∈ D) (hv : ∀ A : Nat → Nat, (∀ i, i ∈ D → i < 20 → E.get (i + 5) = some (val96 t u l A i)) → v = val96 t u l A i) :
    I96 B c t tc et u l pu pl (i :: D) (E.put (some (i + 5)) v) H := by
  have hn := h.n
  obtain ⟨A, a1, a2, a3, a4⟩ := h.ex
  have h20 : 20 ∈ i :: D → 20 ∈ D := fun q => (List.mem_cons.1 q).resolve_left (by omega)
  refine ⟨h.n, h.ds, by rw [get_put_ne (by omega)]; exact h.e0, h.next, h.rs, fun j hj hjt => h.old j hj (fun e q => hjt e (List.mem_cons_of_mem _ q)), fun q j hj => ?_, fun q => List.mem_cons_of_mem _ ((List.mem_cons.1 q).elim (fun e => h19 e.symm) h.d19), fun q j hj => List.mem_cons_of_mem _ (h.d20 (h20 q) j hj), A, fun j hj hj2 => ?_, fun j hj hja => ?_, fun j k hj hk hja hka => ?_, fun q => a4 (h20 q)⟩
  · rcases List.mem_cons.1 q with q | q
    · exact List.mem_cons_of_mem _ (h17 q.symm j hj)
    · exact List.mem_cons_of_mem _ (h.d17 q j hj)
  · by_cases e : j = i
    · subst e; rw [get_put_at (by omega), hv A a1]
    · rw [get_put_ne (by omega)]
      exact a1 j ((List.mem_cons.1 hj).resolve_left e) hj2
  · refine a2 j ((List.mem_cons.1 hj).resolve_left fun e => ha (e ▸ hja)) hja
  · exact a3 j k ((List.mem_cons.1 hj).resolve_left fun e => ha (e ▸ hja)) ((List.mem_cons.1 hk).resolve_left fun e => ha (e ▸ hka)) hja hka
/-- What is new. -/
theorem I96.new (h : I96 B c t tc et u l pu pl D E H) {i id : Nat} {H' : AHeap} (hi : i < 17) (hiD : i ∉ D) (ha : i ∈ al96) (hx : Ext H H') (hid : H.next ≤ id) (hg : H'.get id = some (blk96 pu pl i)) (ht : t < B.next) :
    I96 B c t tc et u l pu pl (i :: D) (E.put (some (i + 5)) (.map (some id))) H' := by
  have hn := h.n
  have hnext := h.next
  obtain ⟨A, a1, a2, a3, a4⟩ := h.ex
  have h17 : 17 ∉ D := fun q => hiD (h.d17 q i ha)
  have h20 : 20 ∉ D := fun q => hiD (h.d20 q i (by omega))
  have hlt : ∀ j, j ∈ D → j ∈ al96 → A j < H.next := fun j hj hja => AHeap.get_lt (a2 j hj hja).1
  have hval : ∀ j, j ≠ i → j ≠ 17 → val96 t u l (fun k => if k = i then id else A k) j = val96 t u l A j := fun j hj1 hj2 => by
    unfold val96
    split <;> first | rfl | exact absurd rfl hj2 | (simp only; rw [if_neg hj1])
  refine ⟨h.n, h.ds, by rw [get_put_ne (by omega)]; exact h.e0, Nat.le_trans h.next hx.next, hx.rs.trans h.rs, fun j hj hjt => by rw [hx.old j (by omega)]; exact h.old j hj (fun e q => hjt e (List.mem_cons_of_mem _ q)), fun q j hj => ?_, fun q => List.mem_cons_of_mem _ (h.d19 ((List.mem_cons.1 q).resolve_left (by omega))), fun q j hj => ?_, fun k => if k = i then id else A k, fun j hj hj2 => ?_, fun j hj hja => ?_, fun j k hj hk hja hka hjk => ?_, fun q => ?_⟩
  · exact absurd ((List.mem_cons.1 q).resolve_left (by omega)) h17
  · exact absurd ((List.mem_cons.1 q).resolve_left (by omega)) h20
  · by_cases e : j = i
    · subst e
      rw [get_put_at (by omega)]
      have : val96 t u l (fun k => if k = j then id else A k) j = .map (some id) := by
        simp only [al96, List.mem_cons, List.not_mem_nil, or_false] at ha
        rcases ha with rfl | rfl | rfl | rfl | rfl | rfl <;> rfl
      rw [this]
    · have hjD := (List.mem_cons.1 hj).resolve_left e
      rw [get_put_ne (by omega), hval j e (fun q => h17 (q ▸ hjD))]
      exact a1 j hjD hj2
  · by_cases e : j = i
    · subst e; simp only [if_true]; exact ⟨hg, by omega⟩
    · simp only [if_neg e]
      have hjD := (List.mem_cons.1 hj).resolve_left e
      obtain ⟨b1, b2⟩ := a2 j hjD hja
      exact ⟨by rw [hx.old _ (hlt j hjD hja)]; exact b1, b2⟩
  · simp only at hjk
    by_cases ej : j = i <;> by_cases ek : k = i
    · rw [ej, ek]
    · rw [if_pos ej, if_neg ek] at hjk
      have := hlt k ((List.mem_cons.1 hk).resolve_left ek) hka
      omega
    · rw [if_neg ej, if_pos ek] at hjk
      have := hlt j ((List.mem_cons.1 hj).resolve_left ej) hja
      omega
    · rw [if_neg ej, if_neg ek] at hjk
      exact a3 j k ((List.mem_cons.1 hj).resolve_left ej) ((List.mem_cons.1 hk).resolve_left ek) hja hka hjk
  · exact absurd ((List.mem_cons.1 q).resolve_left (by omega)) h20
end
theorem sz96 : (opsOf (fst (bodyOf Tryz.prog 96))).size = 21 := by kernel_rfl
theorem step96_0 {B : AHeap} {c t : Nat} {tc : List Value} {et : TypeId} {u l : Value} {pu pl : List MapEntry × Nat} {D : List Nat} {E : AEnv} {H : AHeap} (hC : ∃ ec rc, B.get c = some (.cells [pt t 0] ec rc)) (hT : B.get t = some (.cells tc et false)) (hct : c ≠ t) (hu : tc[1]? = some u) (hl : tc[2]? = some l) (hlen : tc.length = 14) (hpu : pairsOf Tryz.prog B u = some pu) (hpl : pairsOf Tryz.prog B l = some pl)
    (h : I96 B c t tc et u l pu pl D E H) {o : Oper} (ho : (opsOf (fst (bodyOf Tryz.prog 96)))[0]? = some o) (hi : 0 ∉ D) (hed : ∀ y, y < (opsOf (fst (bodyOf Tryz.prog 96))).size → edge (opsOf (fst (bodyOf Tryz.prog 96))) y 0 = true → y ∈ D) :
    stepA Tryz.prog (opsOf (fst (bodyOf Tryz.prog 96))) o none E H (fun v H' => I96 B c t tc et u l pu pl (0 :: D) (E.put o.dst v) H') fun _ _ => False := by
  have ht : t < B.next := AHeap.get_lt hT
  have h20 : 20 ∉ D := fun q => hi (h.d20 q 0 (by decide))
  have hod : o.dst = some 5 := dst_of ho (by kernel_rfl)
  rw [hod]
  obtain ⟨ec, rc, hC⟩ := hC
  have hCH : H.get c = some (.cells [pt t 0] ec rc) := by rw [h.old c (AHeap.get_lt hC) (fun e => absurd e hct)]; exact hC
  refine look_at (n := 95) [(0, pt c 0)] ho h.n (by kernel_rfl) ?_ ?_
  · intro p hp; rw [List.mem_singleton.1 hp]; exact h.e0
  refine stepA.of_run (rb := fun _ => none) (d := 5) (n := 95) ho (by kernel_rfl) ?_
  refine AOps.run (n := 95) [(0, .blk [pt t 0])] [0] [] (cs := [.blk c [pt t 0]]) (by kernel_rfl) (by kernel_rfl) (by kernel_rfl) ?_ ?_
  · intro x hx; simp only [List.mem_cons, List.not_mem_nil, or_false] at hx
    subst hx; exact ⟨ec, rc, hCH⟩
  exact ⟨pt t 0, by kernel_rfl, h.pure (by decide) (by decide) (fun e => by cases e) (fun e => by cases e) (fun A _ => rfl)⟩
theorem step96_1 {B : AHeap} {c t : Nat} {tc : List Value} {et : TypeId} {u l : Value} {pu pl : List MapEntry × Nat} {D : List Nat} {E : AEnv} {H : AHeap} (hC : ∃ ec rc, B.get c = some (.cells [pt t 0] ec rc)) (hT : B.get t = some (.cells tc et false)) (hct : c ≠ t) (hu : tc[1]? = some u) (hl : tc[2]? = some l) (hlen : tc.length = 14) (hpu : pairsOf Tryz.prog B u = some pu) (hpl : pairsOf Tryz.prog B l = some pl)
    (h : I96 B c t tc et u l pu pl D E H) {o : Oper} (ho : (opsOf (fst (bodyOf Tryz.prog 96)))[1]? = some o) (hi : 1 ∉ D) (hed : ∀ y, y < (opsOf (fst (bodyOf Tryz.prog 96))).size → edge (opsOf (fst (bodyOf Tryz.prog 96))) y 1 = true → y ∈ D) :
    stepA Tryz.prog (opsOf (fst (bodyOf Tryz.prog 96))) o none E H (fun v H' => I96 B c t tc et u l pu pl (1 :: D) (E.put o.dst v) H') fun _ _ => False := by
  have ht : t < B.next := AHeap.get_lt hT
  have h20 : 20 ∉ D := fun q => hi (h.d20 q 1 (by decide))
  have hod : o.dst = some 6 := dst_of ho (by kernel_rfl)
  rw [hod]
  refine look_at (n := 95) [] ho h.n (by kernel_rfl) ?_ ?_
  · intro p hp; cases hp
  refine stepA.of_run (rb := fun _ => none) (d := 6) (n := 95) ho (by kernel_rfl) ?_
  refine AOps.write (n := 95) 1 [] (.map (some H.next)) (H.push (.map [] 0)) (by kernel_rfl) rfl (by kernel_rfl) (by kernel_rfl) (by kernel_rfl) (by kernel_rfl) ?_
  exact ⟨.map (some H.next), by kernel_rfl, h.new (by decide) hi (by decide) (Ext.push _ _) (Nat.le_refl _) (AHeap.get_push_new _ _) ht⟩
theorem step96_2 {B : AHeap} {c t : Nat} {tc : List Value} {et : TypeId} {u l : Value} {pu pl : List MapEntry × Nat} {D : List Nat} {E : AEnv} {H : AHeap} (hC : ∃ ec rc, B.get c = some (.cells [pt t 0] ec rc)) (hT : B.get t = some (.cells tc et false)) (hct : c ≠ t) (hu : tc[1]? = some u) (hl : tc[2]? = some l) (hlen : tc.length = 14) (hpu : pairsOf Tryz.prog B u = some pu) (hpl : pairsOf Tryz.prog B l = some pl)
    (h : I96 B c t tc et u l pu pl D E H) {o : Oper} (ho : (opsOf (fst (bodyOf Tryz.prog 96)))[2]? = some o) (hi : 2 ∉ D) (hed : ∀ y, y < (opsOf (fst (bodyOf Tryz.prog 96))).size → edge (opsOf (fst (bodyOf Tryz.prog 96))) y 2 = true → y ∈ D) :
    stepA Tryz.prog (opsOf (fst (bodyOf Tryz.prog 96))) o none E H (fun v H' => I96 B c t tc et u l pu pl (2 :: D) (E.put o.dst v) H') fun _ _ => False := by
  have ht : t < B.next := AHeap.get_lt hT
  have h20 : 20 ∉ D := fun q => hi (h.d20 q 2 (by decide))
  have hod : o.dst = some 7 := dst_of ho (by kernel_rfl)
  rw [hod]
  obtain ⟨ec, rc, hC⟩ := hC
  have hCH : H.get c = some (.cells [pt t 0] ec rc) := by rw [h.old c (AHeap.get_lt hC) (fun e => absurd e hct)]; exact hC
  refine look_at (n := 95) [(0, pt c 0)] ho h.n (by kernel_rfl) ?_ ?_
  · intro p hp; rw [List.mem_singleton.1 hp]; exact h.e0
  refine stepA.of_run (rb := fun _ => none) (d := 7) (n := 95) ho (by kernel_rfl) ?_
  refine AOps.run (n := 95) [(2, .blk [pt t 0])] [2] [] (cs := [.blk c [pt t 0]]) (by kernel_rfl) (by kernel_rfl) (by kernel_rfl) ?_ ?_
  · intro x hx; simp only [List.mem_cons, List.not_mem_nil, or_false] at hx
    subst hx; exact ⟨ec, rc, hCH⟩
  exact ⟨pt t 0, by kernel_rfl, h.pure (by decide) (by decide) (fun e => by cases e) (fun e => by cases e) (fun A _ => rfl)⟩
theorem step96_3 {B : AHeap} {c t : Nat} {tc : List Value} {et : TypeId} {u l : Value} {pu pl : List MapEntry × Nat} {D : List Nat} {E : AEnv} {H : AHeap} (hC : ∃ ec rc, B.get c = some (.cells [pt t 0] ec rc)) (hT : B.get t = some (.cells tc et false)) (hct : c ≠ t) (hu : tc[1]? = some u) (hl : tc[2]? = some l) (hlen : tc.length = 14) (hpu : pairsOf Tryz.prog B u = some pu) (hpl : pairsOf Tryz.prog B l = some pl)
    (h : I96 B c t tc et u l pu pl D E H) {o : Oper} (ho : (opsOf (fst (bodyOf Tryz.prog 96)))[3]? = some o) (hi : 3 ∉ D) (hed : ∀ y, y < (opsOf (fst (bodyOf Tryz.prog 96))).size → edge (opsOf (fst (bodyOf Tryz.prog 96))) y 3 = true → y ∈ D) :
    stepA Tryz.prog (opsOf (fst (bodyOf Tryz.prog 96))) o none E H (fun v H' => I96 B c t tc et u l pu pl (3 :: D) (E.put o.dst v) H') fun _ _ => False := by
  have ht : t < B.next := AHeap.get_lt hT
  have h20 : 20 ∉ D := fun q => hi (h.d20 q 3 (by decide))
  have hod : o.dst = some 8 := dst_of ho (by kernel_rfl)
  rw [hod]
  obtain ⟨A, a1, a2, a3, a4⟩ := h.ex
  refine look_at (n := 95) [(7, pt t 0)] ho h.n (by kernel_rfl) ?_ ?_
  · intro p hp; rw [List.mem_singleton.1 hp]; exact a1 2 (hed 2 (by decide) (by kernel_rfl)) (by decide)
  refine stepA.of_run (rb := fun _ => none) (d := 8) (n := 95) ho (by kernel_rfl) ?_
  refine AOps.run (n := 95) [] [3] [] (cs := []) (by kernel_rfl) (by kernel_rfl) (by kernel_rfl) ?_ ?_
  · intro x hx; cases hx
  exact ⟨pt t 0, by kernel_rfl, h.pure (by decide) (by decide) (fun e => by cases e) (fun e => by cases e) (fun A _ => rfl)⟩
theorem step96_4 {B : AHeap} {c t : Nat} {tc : List Value} {et : TypeId} {u l : Value} {pu pl : List MapEntry × Nat} {D : List Nat} {E : AEnv} {H : AHeap} (hC : ∃ ec rc, B.get c = some (.cells [pt t 0] ec rc)) (hT : B.get t = some (.cells tc et false)) (hct : c ≠ t) (hu : tc[1]? = some u) (hl : tc[2]? = some l) (hlen : tc.length = 14) (hpu : pairsOf Tryz.prog B u = some pu) (hpl : pairsOf Tryz.prog B l = some pl)
    (h : I96 B c t tc et u l pu pl D E H) {o : Oper} (ho : (opsOf (fst (bodyOf Tryz.prog 96)))[4]? = some o) (hi : 4 ∉ D) (hed : ∀ y, y < (opsOf (fst (bodyOf Tryz.prog 96))).size → edge (opsOf (fst (bodyOf Tryz.prog 96))) y 4 = true → y ∈ D) :
    stepA Tryz.prog (opsOf (fst (bodyOf Tryz.prog 96))) o none E H (fun v H' => I96 B c t tc et u l pu pl (4 :: D) (E.put o.dst v) H') fun _ _ => False := by
  have ht : t < B.next := AHeap.get_lt hT
  have h20 : 20 ∉ D := fun q => hi (h.d20 q 4 (by decide))
  have hod : o.dst = some 9 := dst_of ho (by kernel_rfl)
  rw [hod]
  obtain ⟨A, a1, a2, a3, a4⟩ := h.ex
  refine look_at (n := 95) [(8, pt t 0)] ho h.n (by kernel_rfl) ?_ ?_
  · intro p hp; rw [List.mem_singleton.1 hp]; exact a1 3 (hed 3 (by decide) (by kernel_rfl)) (by decide)
  refine stepA.of_run (rb := fun _ => none) (d := 9) (n := 95) ho (by kernel_rfl) ?_
  refine AOps.run (n := 95) [] [4] [] (cs := []) (by kernel_rfl) (by kernel_rfl) (by kernel_rfl) ?_ ?_
  · intro x hx; cases hx
  exact ⟨pt t 0, by kernel_rfl, h.pure (by decide) (by decide) (fun e => by cases e) (fun e => by cases e) (fun A _ => rfl)⟩
theorem step96_5 {B : AHeap} {c t : Nat} {tc : List Value} {et : TypeId} {u l : Value} {pu pl : List MapEntry × Nat} {D : List Nat} {E : AEnv} {H : AHeap} (hC : ∃ ec rc, B.get c = some (.cells [pt t 0] ec rc)) (hT : B.get t = some (.cells tc et false)) (hct : c ≠ t) (hu : tc[1]? = some u) (hl : tc[2]? = some l) (hlen : tc.length = 14) (hpu : pairsOf Tryz.prog B u = some pu) (hpl : pairsOf Tryz.prog B l = some pl)
    (h : I96 B c t tc et u l pu pl D E H) {o : Oper} (ho : (opsOf (fst (bodyOf Tryz.prog 96)))[5]? = some o) (hi : 5 ∉ D) (hed : ∀ y, y < (opsOf (fst (bodyOf Tryz.prog 96))).size → edge (opsOf (fst (bodyOf Tryz.prog 96))) y 5 = true → y ∈ D) :
    stepA Tryz.prog (opsOf (fst (bodyOf Tryz.prog 96))) o none E H (fun v H' => I96 B c t tc et u l pu pl (5 :: D) (E.put o.dst v) H') fun _ _ => False := by
  have ht : t < B.next := AHeap.get_lt hT
  have h20 : 20 ∉ D := fun q => hi (h.d20 q 5 (by decide))
  have hod : o.dst = some 10 := dst_of ho (by kernel_rfl)
  rw [hod]
  obtain ⟨A, a1, a2, a3, a4⟩ := h.ex
  refine look_at (n := 95) [(9, pt t 0)] ho h.n (by kernel_rfl) ?_ ?_
  · intro p hp; rw [List.mem_singleton.1 hp]; exact a1 4 (hed 4 (by decide) (by kernel_rfl)) (by decide)
  refine stepA.of_run (rb := fun _ => none) (d := 10) (n := 95) ho (by kernel_rfl) ?_
  refine AOps.run (n := 95) [] [5] [] (cs := []) (by kernel_rfl) (by kernel_rfl) (by kernel_rfl) ?_ ?_
  · intro x hx; cases hx
  exact ⟨pt t 1, by kernel_rfl, h.pure (by decide) (by decide) (fun e => by cases e) (fun e => by cases e) (fun A _ => rfl)⟩
theorem step96_6 {B : AHeap} {c t : Nat} {tc : List Value} {et : TypeId} {u l : Value} {pu pl : List MapEntry × Nat} {D : List Nat} {E : AEnv} {H : AHeap} (hC : ∃ ec rc, B.get c = some (.cells [pt t 0] ec rc)) (hT : B.get t = some (.cells tc et false)) (hct : c ≠ t) (hu : tc[1]? = some u) (hl : tc[2]? = some l) (hlen : tc.length = 14) (hpu : pairsOf Tryz.prog B u = some pu) (hpl : pairsOf Tryz.prog B l = some pl)
    (h : I96 B c t tc et u l pu pl D E H) {o : Oper} (ho : (opsOf (fst (bodyOf Tryz.prog 96)))[6]? = some o) (hi : 6 ∉ D) (hed : ∀ y, y < (opsOf (fst (bodyOf Tryz.prog 96))).size → edge (opsOf (fst (bodyOf Tryz.prog 96))) y 6 = true → y ∈ D) :
    stepA Tryz.prog (opsOf (fst (bodyOf Tryz.prog 96))) o none E H (fun v H' => I96 B c t tc et u l pu pl (6 :: D) (E.put o.dst v) H') fun _ _ => False := by
  have ht : t < B.next := AHeap.get_lt hT
  have h20 : 20 ∉ D := fun q => hi (h.d20 q 6 (by decide))
  have hod : o.dst = some 11 := dst_of ho (by kernel_rfl)
  rw [hod]
  obtain ⟨A, a1, a2, a3, a4⟩ := h.ex
  have hTH : H.get t = some (.cells tc et false) := by rw [h.old t ht (fun _ => h20)]; exact hT
  refine look_at (n := 95) [(10, pt t 1)] ho h.n (by kernel_rfl) ?_ ?_
  · intro p hp; rw [List.mem_singleton.1 hp]; exact a1 5 (hed 5 (by decide) (by kernel_rfl)) (by decide)
  refine stepA.of_run (rb := fun _ => none) (d := 11) (n := 95) ho (by kernel_rfl) ?_
  refine AOps.run (n := 95) [(6, .part tc u)] [6] [] (cs := [.blk t tc, .some (apart' tc 1 1 false) u]) (by kernel_rfl) (by kernel_rfl) (by kernel_rfl) ?_ ?_
  · intro x hx; simp only [List.mem_cons, List.not_mem_nil, or_false] at hx
    rcases hx with rfl | rfl
    · exact ⟨et, false, hTH⟩
    · exact hu
  exact ⟨u, by kernel_rfl, h.pure (by decide) (by decide) (fun e => by cases e) (fun e => by cases e) (fun A _ => rfl)⟩
theorem step96_7 {B : AHeap} {c t : Nat} {tc : List Value} {et : TypeId} {u l : Value} {pu pl : List MapEntry × Nat} {D : List Nat} {E : AEnv} {H : AHeap} (hC : ∃ ec rc, B.get c = some (.cells [pt t 0] ec rc)) (hT : B.get t = some (.cells tc et false)) (hct : c ≠ t) (hu : tc[1]? = some u) (hl : tc[2]? = some l) (hlen : tc.length = 14) (hpu : pairsOf Tryz.prog B u = some pu) (hpl : pairsOf Tryz.prog B l = some pl)
    (h : I96 B c t tc et u l pu pl D E H) {o : Oper} (ho : (opsOf (fst (bodyOf Tryz.prog 96)))[7]? = some o) (hi : 7 ∉ D) (hed : ∀ y, y < (opsOf (fst (bodyOf Tryz.prog 96))).size → edge (opsOf (fst (bodyOf Tryz.prog 96))) y 7 = true → y ∈ D) :
    stepA Tryz.prog (opsOf (fst (bodyOf Tryz.prog 96))) o none E H (fun v H' => I96 B c t tc et u l pu pl (7 :: D) (E.put o.dst v) H') fun _ _ => False := by
  have ht : t < B.next := AHeap.get_lt hT
  have h20 : 20 ∉ D := fun q => hi (h.d20 q 7 (by decide))
  have hod : o.dst = some 12 := dst_of ho (by kernel_rfl)
  rw [hod]
  obtain ⟨A, a1, a2, a3, a4⟩ := h.ex
  refine look_at (n := 95) [(11, u)] ho h.n (by kernel_rfl) ?_ ?_
  · intro p hp; rw [List.mem_singleton.1 hp]; exact a1 6 (hed 6 (by decide) (by kernel_rfl)) (by decide)
  refine stepA.of_run (rb := fun _ => none) (d := 12) (n := 95) ho (by kernel_rfl) ?_
  refine AOps.call (n := 95) 7 [] 97 [u] (by kernel_rfl) rfl (by kernel_rfl) (by kernel_rfl) (by kernel_rfl) (by kernel_rfl) (by kernel_rfl) (pairs_at (B := H) hpu (fun j hj hb => h.old j hj (fun _ => h20)) h.rs) ?_
  rintro e H' ⟨id, rfl, hx, hid, _, hg⟩
  exact ⟨_, rfl, .map (some id), by kernel_rfl, h.new (by decide) hi (by decide) hx hid hg ht⟩
theorem step96_8 {B : AHeap} {c t : Nat} {tc : List Value} {et : TypeId} {u l : Value} {pu pl : List MapEntry × Nat} {D : List Nat} {E : AEnv} {H : AHeap} (hC : ∃ ec rc, B.get c = some (.cells [pt t 0] ec rc)) (hT : B.get t = some (.cells tc et false)) (hct : c ≠ t) (hu : tc[1]? = some u) (hl : tc[2]? = some l) (hlen : tc.length = 14) (hpu : pairsOf Tryz.prog B u = some pu) (hpl : pairsOf Tryz.prog B l = some pl)
    (h : I96 B c t tc et u l pu pl D E H) {o : Oper} (ho : (opsOf (fst (bodyOf Tryz.prog 96)))[8]? = some o) (hi : 8 ∉ D) (hed : ∀ y, y < (opsOf (fst (bodyOf Tryz.prog 96))).size → edge (opsOf (fst (bodyOf Tryz.prog 96))) y 8 = true → y ∈ D) :
    stepA Tryz.prog (opsOf (fst (bodyOf Tryz.prog 96))) o none E H (fun v H' => I96 B c t tc et u l pu pl (8 :: D) (E.put o.dst v) H') fun _ _ => False := by
  have ht : t < B.next := AHeap.get_lt hT
  have h20 : 20 ∉ D := fun q => hi (h.d20 q 8 (by decide))
  have hod : o.dst = some 13 := dst_of ho (by kernel_rfl)
  rw [hod]
  obtain ⟨ec, rc, hC⟩ := hC
  have hCH : H.get c = some (.cells [pt t 0] ec rc) := by rw [h.old c (AHeap.get_lt hC) (fun e => absurd e hct)]; exact hC
  refine look_at (n := 95) [(0, pt c 0)] ho h.n (by kernel_rfl) ?_ ?_
  · intro p hp; rw [List.mem_singleton.1 hp]; exact h.e0
  refine stepA.of_run (rb := fun _ => none) (d := 13) (n := 95) ho (by kernel_rfl) ?_
  refine AOps.run (n := 95) [(8, .blk [pt t 0])] [8] [] (cs := [.blk c [pt t 0]]) (by kernel_rfl) (by kernel_rfl) (by kernel_rfl) ?_ ?_
  · intro x hx; simp only [List.mem_cons, List.not_mem_nil, or_false] at hx
    subst hx; exact ⟨ec, rc, hCH⟩
  exact ⟨pt t 0, by kernel_rfl, h.pure (by decide) (by decide) (fun e => by cases e) (fun e => by cases e) (fun A _ => rfl)⟩
theorem step96_9 {B : AHeap} {c t : Nat} {tc : List Value} {et : TypeId} {u l : Value} {pu pl : List MapEntry × Nat} {D : List Nat} {E : AEnv} {H : AHeap} (hC : ∃ ec rc, B.get c = some (.cells [pt t 0] ec rc)) (hT : B.get t = some (.cells tc et false)) (hct : c ≠ t) (hu : tc[1]? = some u) (hl : tc[2]? = some l) (hlen : tc.length = 14) (hpu : pairsOf Tryz.prog B u = some pu) (hpl : pairsOf Tryz.prog B l = some pl)
    (h : I96 B c t tc et u l pu pl D E H) {o : Oper} (ho : (opsOf (fst (bodyOf Tryz.prog 96)))[9]? = some o) (hi : 9 ∉ D) (hed : ∀ y, y < (opsOf (fst (bodyOf Tryz.prog 96))).size → edge (opsOf (fst (bodyOf Tryz.prog 96))) y 9 = true → y ∈ D) :
    stepA Tryz.prog (opsOf (fst (bodyOf Tryz.prog 96))) o none E H (fun v H' => I96 B c t tc et u l pu pl (9 :: D) (E.put o.dst v) H') fun _ _ => False := by
  have ht : t < B.next := AHeap.get_lt hT
  have h20 : 20 ∉ D := fun q => hi (h.d20 q 9 (by decide))
  have hod : o.dst = some 14 := dst_of ho (by kernel_rfl)
  rw [hod]
  obtain ⟨A, a1, a2, a3, a4⟩ := h.ex
  refine look_at (n := 95) [(13, pt t 0)] ho h.n (by kernel_rfl) ?_ ?_
  · intro p hp; rw [List.mem_singleton.1 hp]; exact a1 8 (hed 8 (by decide) (by kernel_rfl)) (by decide)
  refine stepA.of_run (rb := fun _ => none) (d := 14) (n := 95) ho (by kernel_rfl) ?_
  refine AOps.run (n := 95) [] [9] [] (cs := []) (by kernel_rfl) (by kernel_rfl) (by kernel_rfl) ?_ ?_
  · intro x hx; cases hx
  exact ⟨pt t 0, by kernel_rfl, h.pure (by decide) (by decide) (fun e => by cases e) (fun e => by cases e) (fun A _ => rfl)⟩
theorem step96_10 {B : AHeap} {c t : Nat} {tc : List Value} {et : TypeId} {u l : Value} {pu pl : List MapEntry × Nat} {D : List Nat} {E : AEnv} {H : AHeap} (hC : ∃ ec rc, B.get c = some (.cells [pt t 0] ec rc)) (hT : B.get t = some (.cells tc et false)) (hct : c ≠ t) (hu : tc[1]? = some u) (hl : tc[2]? = some l) (hlen : tc.length = 14) (hpu : pairsOf Tryz.prog B u = some pu) (hpl : pairsOf Tryz.prog B l = some pl)
    (h : I96 B c t tc et u l pu pl D E H) {o : Oper} (ho : (opsOf (fst (bodyOf Tryz.prog 96)))[10]? = some o) (hi : 10 ∉ D) (hed : ∀ y, y < (opsOf (fst (bodyOf Tryz.prog 96))).size → edge (opsOf (fst (bodyOf Tryz.prog 96))) y 10 = true → y ∈ D) :
    stepA Tryz.prog (opsOf (fst (bodyOf Tryz.prog 96))) o none E H (fun v H' => I96 B c t tc et u l pu pl (10 :: D) (E.put o.dst v) H') fun _ _ => False := by
  have ht : t < B.next := AHeap.get_lt hT
  have h20 : 20 ∉ D := fun q => hi (h.d20 q 10 (by decide))
  have hod : o.dst = some 15 := dst_of ho (by kernel_rfl)
  rw [hod]
  obtain ⟨A, a1, a2, a3, a4⟩ := h.ex
  refine look_at (n := 95) [(14, pt t 0)] ho h.n (by kernel_rfl) ?_ ?_
  · intro p hp; rw [List.mem_singleton.1 hp]; exact a1 9 (hed 9 (by decide) (by kernel_rfl)) (by decide)
  refine stepA.of_run (rb := fun _ => none) (d := 15) (n := 95) ho (by kernel_rfl) ?_
  refine AOps.run (n := 95) [] [10] [] (cs := []) (by kernel_rfl) (by kernel_rfl) (by kernel_rfl) ?_ ?_
  · intro x hx; cases hx
  exact ⟨pt t 0, by kernel_rfl, h.pure (by decide) (by decide) (fun e => by cases e) (fun e => by cases e) (fun A _ => rfl)⟩
theorem step96_11 {B : AHeap} {c t : Nat} {tc : List Value} {et : TypeId} {u l : Value} {pu pl : List MapEntry × Nat} {D : List Nat} {E : AEnv} {H : AHeap} (hC : ∃ ec rc, B.get c = some (.cells [pt t 0] ec rc)) (hT : B.get t = some (.cells tc et false)) (hct : c ≠ t) (hu : tc[1]? = some u) (hl : tc[2]? = some l) (hlen : tc.length = 14) (hpu : pairsOf Tryz.prog B u = some pu) (hpl : pairsOf Tryz.prog B l = some pl)
    (h : I96 B c t tc et u l pu pl D E H) {o : Oper} (ho : (opsOf (fst (bodyOf Tryz.prog 96)))[11]? = some o) (hi : 11 ∉ D) (hed : ∀ y, y < (opsOf (fst (bodyOf Tryz.prog 96))).size → edge (opsOf (fst (bodyOf Tryz.prog 96))) y 11 = true → y ∈ D) :
    stepA Tryz.prog (opsOf (fst (bodyOf Tryz.prog 96))) o none E H (fun v H' => I96 B c t tc et u l pu pl (11 :: D) (E.put o.dst v) H') fun _ _ => False := by
  have ht : t < B.next := AHeap.get_lt hT
  have h20 : 20 ∉ D := fun q => hi (h.d20 q 11 (by decide))
  have hod : o.dst = some 16 := dst_of ho (by kernel_rfl)
  rw [hod]
  obtain ⟨A, a1, a2, a3, a4⟩ := h.ex
  refine look_at (n := 95) [(15, pt t 0)] ho h.n (by kernel_rfl) ?_ ?_
  · intro p hp; rw [List.mem_singleton.1 hp]; exact a1 10 (hed 10 (by decide) (by kernel_rfl)) (by decide)
  refine stepA.of_run (rb := fun _ => none) (d := 16) (n := 95) ho (by kernel_rfl) ?_
  refine AOps.run (n := 95) [] [11] [] (cs := []) (by kernel_rfl) (by kernel_rfl) (by kernel_rfl) ?_ ?_
  · intro x hx; cases hx
  exact ⟨pt t 2, by kernel_rfl, h.pure (by decide) (by decide) (fun e => by cases e) (fun e => by cases e) (fun A _ => rfl)⟩
theorem step96_12 {B : AHeap} {c t : Nat} {tc : List Value} {et : TypeId} {u l : Value} {pu pl : List MapEntry × Nat} {D : List Nat} {E : AEnv} {H : AHeap} (hC : ∃ ec rc, B.get c = some (.cells [pt t 0] ec rc)) (hT : B.get t = some (.cells tc et false)) (hct : c ≠ t) (hu : tc[1]? = some u) (hl : tc[2]? = some l) (hlen : tc.length = 14) (hpu : pairsOf Tryz.prog B u = some pu) (hpl : pairsOf Tryz.prog B l = some pl)
    (h : I96 B c t tc et u l pu pl D E H) {o : Oper} (ho : (opsOf (fst (bodyOf Tryz.prog 96)))[12]? = some o) (hi : 12 ∉ D) (hed : ∀ y, y < (opsOf (fst (bodyOf Tryz.prog 96))).size → edge (opsOf (fst (bodyOf Tryz.prog 96))) y 12 = true → y ∈ D) :
    stepA Tryz.prog (opsOf (fst (bodyOf Tryz.prog 96))) o none E H (fun v H' => I96 B c t tc et u l pu pl (12 :: D) (E.put o.dst v) H') fun _ _ => False := by
  have ht : t < B.next := AHeap.get_lt hT
  have h20 : 20 ∉ D := fun q => hi (h.d20 q 12 (by decide))
  have hod : o.dst = some 17 := dst_of ho (by kernel_rfl)
  rw [hod]
  obtain ⟨A, a1, a2, a3, a4⟩ := h.ex
  have hTH : H.get t = some (.cells tc et false) := by rw [h.old t ht (fun _ => h20)]; exact hT
  refine look_at (n := 95) [(16, pt t 2)] ho h.n (by kernel_rfl) ?_ ?_
  · intro p hp; rw [List.mem_singleton.1 hp]; exact a1 11 (hed 11 (by decide) (by kernel_rfl)) (by decide)
  refine stepA.of_run (rb := fun _ => none) (d := 17) (n := 95) ho (by kernel_rfl) ?_
  refine AOps.run (n := 95) [(12, .part tc l)] [12] [] (cs := [.blk t tc, .some (apart' tc 2 1 false) l]) (by kernel_rfl) (by kernel_rfl) (by kernel_rfl) ?_ ?_
  · intro x hx; simp only [List.mem_cons, List.not_mem_nil, or_false] at hx
    rcases hx with rfl | rfl
    · exact ⟨et, false, hTH⟩
    · exact hl
  exact ⟨l, by kernel_rfl, h.pure (by decide) (by decide) (fun e => by cases e) (fun e => by cases e) (fun A _ => rfl)⟩
theorem step96_13 {B : AHeap} {c t : Nat} {tc : List Value} {et : TypeId} {u l : Value} {pu pl : List MapEntry × Nat} {D : List Nat} {E : AEnv} {H : AHeap} (hC : ∃ ec rc, B.get c = some (.cells [pt t 0] ec rc)) (hT : B.get t = some (.cells tc et false)) (hct : c ≠ t) (hu : tc[1]? = some u) (hl : tc[2]? = some l) (hlen : tc.length = 14) (hpu : pairsOf Tryz.prog B u = some pu) (hpl : pairsOf Tryz.prog B l = some pl)
    (h : I96 B c t tc et u l pu pl D E H) {o : Oper} (ho : (opsOf (fst (bodyOf Tryz.prog 96)))[13]? = some o) (hi : 13 ∉ D) (hed : ∀ y, y < (opsOf (fst (bodyOf Tryz.prog 96))).size → edge (opsOf (fst (bodyOf Tryz.prog 96))) y 13 = true → y ∈ D) :
    stepA Tryz.prog (opsOf (fst (bodyOf Tryz.prog 96))) o none E H (fun v H' => I96 B c t tc et u l pu pl (13 :: D) (E.put o.dst v) H') fun _ _ => False := by
  have ht : t < B.next := AHeap.get_lt hT
  have h20 : 20 ∉ D := fun q => hi (h.d20 q 13 (by decide))
  have hod : o.dst = some 18 := dst_of ho (by kernel_rfl)
  rw [hod]
  obtain ⟨A, a1, a2, a3, a4⟩ := h.ex
  refine look_at (n := 95) [(17, l)] ho h.n (by kernel_rfl) ?_ ?_
  · intro p hp; rw [List.mem_singleton.1 hp]; exact a1 12 (hed 12 (by decide) (by kernel_rfl)) (by decide)
  refine stepA.of_run (rb := fun _ => none) (d := 18) (n := 95) ho (by kernel_rfl) ?_
  refine AOps.call (n := 95) 13 [] 97 [l] (by kernel_rfl) rfl (by kernel_rfl) (by kernel_rfl) (by kernel_rfl) (by kernel_rfl) (by kernel_rfl) (pairs_at (B := H) hpl (fun j hj hb => h.old j hj (fun _ => h20)) h.rs) ?_
  rintro e H' ⟨id, rfl, hx, hid, _, hg⟩
  exact ⟨_, rfl, .map (some id), by kernel_rfl, h.new (by decide) hi (by decide) hx hid hg ht⟩
theorem step96_14 {B : AHeap} {c t : Nat} {tc : List Value} {et : TypeId} {u l : Value} {pu pl : List MapEntry × Nat} {D : List Nat} {E : AEnv} {H : AHeap} (hC : ∃ ec rc, B.get c = some (.cells [pt t 0] ec rc)) (hT : B.get t = some (.cells tc et false)) (hct : c ≠ t) (hu : tc[1]? = some u) (hl : tc[2]? = some l) (hlen : tc.length = 14) (hpu : pairsOf Tryz.prog B u = some pu) (hpl : pairsOf Tryz.prog B l = some pl)
    (h : I96 B c t tc et u l pu pl D E H) {o : Oper} (ho : (opsOf (fst (bodyOf Tryz.prog 96)))[14]? = some o) (hi : 14 ∉ D) (hed : ∀ y, y < (opsOf (fst (bodyOf Tryz.prog 96))).size → edge (opsOf (fst (bodyOf Tryz.prog 96))) y 14 = true → y ∈ D) :
    stepA Tryz.prog (opsOf (fst (bodyOf Tryz.prog 96))) o none E H (fun v H' => I96 B c t tc et u l pu pl (14 :: D) (E.put o.dst v) H') fun _ _ => False := by
  have ht : t < B.next := AHeap.get_lt hT
  have h20 : 20 ∉ D := fun q => hi (h.d20 q 14 (by decide))
  have hod : o.dst = some 19 := dst_of ho (by kernel_rfl)
  rw [hod]
  refine look_at (n := 95) [] ho h.n (by kernel_rfl) ?_ ?_
  · intro p hp; cases hp
  refine stepA.of_run (rb := fun _ => none) (d := 19) (n := 95) ho (by kernel_rfl) ?_
  refine AOps.write (n := 95) 14 [] (.map (some H.next)) (H.push (.map [] 0)) (by kernel_rfl) rfl (by kernel_rfl) (by kernel_rfl) (by kernel_rfl) (by kernel_rfl) ?_
  exact ⟨.map (some H.next), by kernel_rfl, h.new (by decide) hi (by decide) (Ext.push _ _) (Nat.le_refl _) (AHeap.get_push_new _ _) ht⟩
theorem step96_15 {B : AHeap} {c t : Nat} {tc : List Value} {et : TypeId} {u l : Value} {pu pl : List MapEntry × Nat} {D : List Nat} {E : AEnv} {H : AHeap} (hC : ∃ ec rc, B.get c = some (.cells [pt t 0] ec rc)) (hT : B.get t = some (.cells tc et false)) (hct : c ≠ t) (hu : tc[1]? = some u) (hl : tc[2]? = some l) (hlen : tc.length = 14) (hpu : pairsOf Tryz.prog B u = some pu) (hpl : pairsOf Tryz.prog B l = some pl)
    (h : I96 B c t tc et u l pu pl D E H) {o : Oper} (ho : (opsOf (fst (bodyOf Tryz.prog 96)))[15]? = some o) (hi : 15 ∉ D) (hed : ∀ y, y < (opsOf (fst (bodyOf Tryz.prog 96))).size → edge (opsOf (fst (bodyOf Tryz.prog 96))) y 15 = true → y ∈ D) :
    stepA Tryz.prog (opsOf (fst (bodyOf Tryz.prog 96))) o none E H (fun v H' => I96 B c t tc et u l pu pl (15 :: D) (E.put o.dst v) H') fun _ _ => False := by
  have ht : t < B.next := AHeap.get_lt hT
  have h20 : 20 ∉ D := fun q => hi (h.d20 q 15 (by decide))
  have hod : o.dst = some 20 := dst_of ho (by kernel_rfl)
  rw [hod]
  refine look_at (n := 95) [] ho h.n (by kernel_rfl) ?_ ?_
  · intro p hp; cases hp
  refine stepA.of_run (rb := fun _ => none) (d := 20) (n := 95) ho (by kernel_rfl) ?_
  refine AOps.write (n := 95) 15 [] (.map (some H.next)) (H.push (.map [] 0)) (by kernel_rfl) rfl (by kernel_rfl) (by kernel_rfl) (by kernel_rfl) (by kernel_rfl) ?_
  exact ⟨.map (some H.next), by kernel_rfl, h.new (by decide) hi (by decide) (Ext.push _ _) (Nat.le_refl _) (AHeap.get_push_new _ _) ht⟩
theorem step96_16 {B : AHeap} {c t : Nat} {tc : List Value} {et : TypeId} {u l : Value} {pu pl : List MapEntry × Nat} {D : List Nat} {E : AEnv} {H : AHeap} (hC : ∃ ec rc, B.get c = some (.cells [pt t 0] ec rc)) (hT : B.get t = some (.cells tc et false)) (hct : c ≠ t) (hu : tc[1]? = some u) (hl : tc[2]? = some l) (hlen : tc.length = 14) (hpu : pairsOf Tryz.prog B u = some pu) (hpl : pairsOf Tryz.prog B l = some pl)
    (h : I96 B c t tc et u l pu pl D E H) {o : Oper} (ho : (opsOf (fst (bodyOf Tryz.prog 96)))[16]? = some o) (hi : 16 ∉ D) (hed : ∀ y, y < (opsOf (fst (bodyOf Tryz.prog 96))).size → edge (opsOf (fst (bodyOf Tryz.prog 96))) y 16 = true → y ∈ D) :
    stepA Tryz.prog (opsOf (fst (bodyOf Tryz.prog 96))) o none E H (fun v H' => I96 B c t tc et u l pu pl (16 :: D) (E.put o.dst v) H') fun _ _ => False := by
  have ht : t < B.next := AHeap.get_lt hT
  have h20 : 20 ∉ D := fun q => hi (h.d20 q 16 (by decide))
  have hod : o.dst = some 21 := dst_of ho (by kernel_rfl)
  rw [hod]
  refine look_at (n := 95) [] ho h.n (by kernel_rfl) ?_ ?_
  · intro p hp; cases hp
  refine stepA.of_run (rb := fun _ => none) (d := 21) (n := 95) ho (by kernel_rfl) ?_
  refine AOps.write (n := 95) 16 [] (.map (some H.next)) (H.push (.map [] 0)) (by kernel_rfl) rfl (by kernel_rfl) (by kernel_rfl) (by kernel_rfl) (by kernel_rfl) ?_
  exact ⟨.map (some H.next), by kernel_rfl, h.new (by decide) hi (by decide) (Ext.push _ _) (Nat.le_refl _) (AHeap.get_push_new _ _) ht⟩
theorem step96_17 {B : AHeap} {c t : Nat} {tc : List Value} {et : TypeId} {u l : Value} {pu pl : List MapEntry × Nat} {D : List Nat} {E : AEnv} {H : AHeap} (hC : ∃ ec rc, B.get c = some (.cells [pt t 0] ec rc)) (hT : B.get t = some (.cells tc et false)) (hct : c ≠ t) (hu : tc[1]? = some u) (hl : tc[2]? = some l) (hlen : tc.length = 14) (hpu : pairsOf Tryz.prog B u = some pu) (hpl : pairsOf Tryz.prog B l = some pl)
    (h : I96 B c t tc et u l pu pl D E H) {o : Oper} (ho : (opsOf (fst (bodyOf Tryz.prog 96)))[17]? = some o) (hi : 17 ∉ D) (hed : ∀ y, y < (opsOf (fst (bodyOf Tryz.prog 96))).size → edge (opsOf (fst (bodyOf Tryz.prog 96))) y 17 = true → y ∈ D) :
    stepA Tryz.prog (opsOf (fst (bodyOf Tryz.prog 96))) o none E H (fun v H' => I96 B c t tc et u l pu pl (17 :: D) (E.put o.dst v) H') fun _ _ => False := by
  have ht : t < B.next := AHeap.get_lt hT
  have h20 : 20 ∉ D := fun q => hi (h.d20 q 17 (by decide))
  have hod : o.dst = some 22 := dst_of ho (by kernel_rfl)
  rw [hod]
  obtain ⟨A, a1, a2, a3, a4⟩ := h.ex
  refine look_at (n := 95) [(6, .map (some (A 1))), (12, .map (some (A 7))), (18, .map (some (A 13))), (19, .map (some (A 14))), (20, .map (some (A 15))), (21, .map (some (A 16)))] ho h.n (by kernel_rfl) ?_ ?_
  · intro p hp; simp only [List.mem_cons, List.not_mem_nil, or_false] at hp
    rcases hp with rfl | rfl | rfl | rfl | rfl | rfl
    · exact a1 1 (hed 1 (by decide) (by kernel_rfl)) (by decide)
    · exact a1 7 (hed 7 (by decide) (by kernel_rfl)) (by decide)
    · exact a1 13 (hed 13 (by decide) (by kernel_rfl)) (by decide)
    · exact a1 14 (hed 14 (by decide) (by kernel_rfl)) (by decide)
    · exact a1 15 (hed 15 (by decide) (by kernel_rfl)) (by decide)
    · exact a1 16 (hed 16 (by decide) (by kernel_rfl)) (by decide)
  refine stepA.of_run (rb := fun _ => none) (d := 22) (n := 95) ho (by kernel_rfl) ?_
  refine AOps.run (n := 95) [] [17] [] (cs := []) (by kernel_rfl) (by kernel_rfl) (by kernel_rfl) ?_ ?_
  · intro x hx; cases hx
  refine ⟨.agg ⟨agg96 A⟩, by kernel_rfl, h.pure (by decide) (by decide) (fun _ j hj => ?_) (fun e => by cases e) (fun A' b1 => ?_)⟩
  · simp only [al96, List.mem_cons, List.not_mem_nil, or_false] at hj
    rcases hj with rfl | rfl | rfl | rfl | rfl | rfl
    · exact hed 1 (by decide) (by kernel_rfl)
    · exact hed 7 (by decide) (by kernel_rfl)
    · exact hed 13 (by decide) (by kernel_rfl)
    · exact hed 14 (by decide) (by kernel_rfl)
    · exact hed 15 (by decide) (by kernel_rfl)
    · exact hed 16 (by decide) (by kernel_rfl)
  · show Value.agg ⟨agg96 A⟩ = .agg ⟨agg96 A'⟩
    have q1 : A 1 = A' 1 := Option.some.inj (Value.map.inj (Option.some.inj ((a1 1 (hed 1 (by decide) (by kernel_rfl)) (by decide)).symm.trans (b1 1 (hed 1 (by decide) (by kernel_rfl)) (by decide)))))
    have q7 : A 7 = A' 7 := Option.some.inj (Value.map.inj (Option.some.inj ((a1 7 (hed 7 (by decide) (by kernel_rfl)) (by decide)).symm.trans (b1 7 (hed 7 (by decide) (by kernel_rfl)) (by decide)))))
    have q13 : A 13 = A' 13 := Option.some.inj (Value.map.inj (Option.some.inj ((a1 13 (hed 13 (by decide) (by kernel_rfl)) (by decide)).symm.trans (b1 13 (hed 13 (by decide) (by kernel_rfl)) (by decide)))))
    have q14 : A 14 = A' 14 := Option.some.inj (Value.map.inj (Option.some.inj ((a1 14 (hed 14 (by decide) (by kernel_rfl)) (by decide)).symm.trans (b1 14 (hed 14 (by decide) (by kernel_rfl)) (by decide)))))
    have q15 : A 15 = A' 15 := Option.some.inj (Value.map.inj (Option.some.inj ((a1 15 (hed 15 (by decide) (by kernel_rfl)) (by decide)).symm.trans (b1 15 (hed 15 (by decide) (by kernel_rfl)) (by decide)))))
    have q16 : A 16 = A' 16 := Option.some.inj (Value.map.inj (Option.some.inj ((a1 16 (hed 16 (by decide) (by kernel_rfl)) (by decide)).symm.trans (b1 16 (hed 16 (by decide) (by kernel_rfl)) (by decide)))))
    unfold agg96; rw [q1, q7, q13, q14, q15, q16]
theorem step96_18 {B : AHeap} {c t : Nat} {tc : List Value} {et : TypeId} {u l : Value} {pu pl : List MapEntry × Nat} {D : List Nat} {E : AEnv} {H : AHeap} (hC : ∃ ec rc, B.get c = some (.cells [pt t 0] ec rc)) (hT : B.get t = some (.cells tc et false)) (hct : c ≠ t) (hu : tc[1]? = some u) (hl : tc[2]? = some l) (hlen : tc.length = 14) (hpu : pairsOf Tryz.prog B u = some pu) (hpl : pairsOf Tryz.prog B l = some pl)
    (h : I96 B c t tc et u l pu pl D E H) {o : Oper} (ho : (opsOf (fst (bodyOf Tryz.prog 96)))[18]? = some o) (hi : 18 ∉ D) (hed : ∀ y, y < (opsOf (fst (bodyOf Tryz.prog 96))).size → edge (opsOf (fst (bodyOf Tryz.prog 96))) y 18 = true → y ∈ D) :
    stepA Tryz.prog (opsOf (fst (bodyOf Tryz.prog 96))) o none E H (fun v H' => I96 B c t tc et u l pu pl (18 :: D) (E.put o.dst v) H') fun _ _ => False := by
  have ht : t < B.next := AHeap.get_lt hT
  have h20 : 20 ∉ D := fun q => hi (h.d20 q 18 (by decide))
  have hod : o.dst = some 23 := dst_of ho (by kernel_rfl)
  rw [hod]
  obtain ⟨A, a1, a2, a3, a4⟩ := h.ex
  refine look_at (n := 95) [(5, pt t 0)] ho h.n (by kernel_rfl) ?_ ?_
  · intro p hp; rw [List.mem_singleton.1 hp]; exact a1 0 (hed 0 (by decide) (by kernel_rfl)) (by decide)
  refine stepA.of_run (rb := fun _ => none) (d := 23) (n := 95) ho (by kernel_rfl) ?_
  refine AOps.run (n := 95) [] [18] [] (cs := []) (by kernel_rfl) (by kernel_rfl) (by kernel_rfl) ?_ ?_
  · intro x hx; cases hx
  exact ⟨pt t 0, by kernel_rfl, h.pure (by decide) (by decide) (fun e => by cases e) (fun e => by cases e) (fun A _ => rfl)⟩
theorem step96_19 {B : AHeap} {c t : Nat} {tc : List Value} {et : TypeId} {u l : Value} {pu pl : List MapEntry × Nat} {D : List Nat} {E : AEnv} {H : AHeap} (hC : ∃ ec rc, B.get c = some (.cells [pt t 0] ec rc)) (hT : B.get t = some (.cells tc et false)) (hct : c ≠ t) (hu : tc[1]? = some u) (hl : tc[2]? = some l) (hlen : tc.length = 14) (hpu : pairsOf Tryz.prog B u = some pu) (hpl : pairsOf Tryz.prog B l = some pl)
    (h : I96 B c t tc et u l pu pl D E H) {o : Oper} (ho : (opsOf (fst (bodyOf Tryz.prog 96)))[19]? = some o) (hi : 19 ∉ D) (hed : ∀ y, y < (opsOf (fst (bodyOf Tryz.prog 96))).size → edge (opsOf (fst (bodyOf Tryz.prog 96))) y 19 = true → y ∈ D) :
    stepA Tryz.prog (opsOf (fst (bodyOf Tryz.prog 96))) o none E H (fun v H' => I96 B c t tc et u l pu pl (19 :: D) (E.put o.dst v) H') fun _ _ => False := by
  have ht : t < B.next := AHeap.get_lt hT
  have h20 : 20 ∉ D := fun q => hi (h.d20 q 19 (by decide))
  have hod : o.dst = some 24 := dst_of ho (by kernel_rfl)
  rw [hod]
  obtain ⟨A, a1, a2, a3, a4⟩ := h.ex
  refine look_at (n := 95) [(23, pt t 0)] ho h.n (by kernel_rfl) ?_ ?_
  · intro p hp; rw [List.mem_singleton.1 hp]; exact a1 18 (hed 18 (by decide) (by kernel_rfl)) (by decide)
  refine stepA.of_run (rb := fun _ => none) (d := 24) (n := 95) ho (by kernel_rfl) ?_
  refine AOps.run (n := 95) [] [19] [] (cs := []) (by kernel_rfl) (by kernel_rfl) (by kernel_rfl) ?_ ?_
  · intro x hx; cases hx
  exact ⟨pt t 8, by kernel_rfl, h.pure (by decide) (by decide) (fun e => by cases e) (fun e => hed 18 (by decide) (by kernel_rfl)) (fun A _ => rfl)⟩
theorem step96_20 {B : AHeap} {c t : Nat} {tc : List Value} {et : TypeId} {u l : Value} {pu pl : List MapEntry × Nat} {D : List Nat} {E : AEnv} {H : AHeap} (hC : ∃ ec rc, B.get c = some (.cells [pt t 0] ec rc)) (hT : B.get t = some (.cells tc et false)) (hct : c ≠ t) (hu : tc[1]? = some u) (hl : tc[2]? = some l) (hlen : tc.length = 14) (hpu : pairsOf Tryz.prog B u = some pu) (hpl : pairsOf Tryz.prog B l = some pl)
    (h : I96 B c t tc et u l pu pl D E H) {o : Oper} (ho : (opsOf (fst (bodyOf Tryz.prog 96)))[20]? = some o) (hi : 20 ∉ D) (hed : ∀ y, y < (opsOf (fst (bodyOf Tryz.prog 96))).size → edge (opsOf (fst (bodyOf Tryz.prog 96))) y 20 = true → y ∈ D) :
    stepA Tryz.prog (opsOf (fst (bodyOf Tryz.prog 96))) o none E H (fun v H' => I96 B c t tc et u l pu pl (20 :: D) (E.put o.dst v) H') fun _ _ => False := by
  have ht : t < B.next := AHeap.get_lt hT
  skip
  obtain ⟨A, a1, a2, a3, a4⟩ := h.ex
  have hd : o.dst = none := dst_of ho (by kernel_rfl)
  rw [hd]
  have hTH : H.get t = some (.cells tc et false) := by rw [h.old t ht (fun _ => hi)]; exact hT
  refine look_at (n := 95) [(24, pt t 8), (22, .agg ⟨agg96 A⟩)] ho h.n (by kernel_rfl) ?_ ?_
  · intro p hp; simp only [List.mem_cons, List.not_mem_nil, or_false] at hp
    rcases hp with rfl | rfl
    · exact a1 19 (hed 19 (by decide) (by kernel_rfl)) (by decide)
    · exact a1 17 (hed 17 (by decide) (by kernel_rfl)) (by decide)
  show stepA Tryz.prog (opsOf (fst (bodyOf Tryz.prog 96))) o none (envOf 95 (mkE [(24, pt t 8), (22, .agg ⟨agg96 A⟩)])) H (fun _ H' => I96 B c t tc et u l pu pl (20 :: D) E H') _
  refine stepA.of_run0 (rb := fun _ => none) (n := 95) ho ?_
  refine AOps.store (n := 95) 20 [] (t := 97) (v := .agg ⟨agg96 A⟩) (b := t) (off := 8) (vs := tc) (e := et) (vs2 := putCells tc 8 (agg96 A)) (by kernel_rfl) rfl (by kernel_rfl) (by kernel_rfl) (by kernel_rfl) hTH ?_ rfl ?_
  · rw [hlen]; kernel_rfl
  have hall : ∀ j, j < 20 → j ∈ D := fun j hj => by
    match j, hj with
    | 0, _ => exact hed 0 (by decide) (by kernel_rfl)
    | 1, _ => exact hed 1 (by decide) (by kernel_rfl)
    | 2, _ => exact hed 2 (by decide) (by kernel_rfl)
    | 3, _ => exact hed 3 (by decide) (by kernel_rfl)
    | 4, _ => exact hed 4 (by decide) (by kernel_rfl)
    | 5, _ => exact hed 5 (by decide) (by kernel_rfl)
    | 6, _ => exact hed 6 (by decide) (by kernel_rfl)
    | 7, _ => exact hed 7 (by decide) (by kernel_rfl)
    | 8, _ => exact hed 8 (by decide) (by kernel_rfl)
    | 9, _ => exact hed 9 (by decide) (by kernel_rfl)
    | 10, _ => exact hed 10 (by decide) (by kernel_rfl)
    | 11, _ => exact hed 11 (by decide) (by kernel_rfl)
    | 12, _ => exact hed 12 (by decide) (by kernel_rfl)
    | 13, _ => exact hed 13 (by decide) (by kernel_rfl)
    | 14, _ => exact hed 14 (by decide) (by kernel_rfl)
    | 15, _ => exact hed 15 (by decide) (by kernel_rfl)
    | 16, _ => exact hed 16 (by decide) (by kernel_rfl)
    | 17, _ => exact hed 17 (by decide) (by kernel_rfl)
    | 18, _ => exact h.d19 (hed 19 (by decide) (by kernel_rfl))
    | 19, _ => exact hed 19 (by decide) (by kernel_rfl)
    | j + 20, hj => omega
  refine ⟨h.n, h.ds, h.e0, h.next, h.rs, fun j hj hjt => ?_, fun q j hj => List.mem_cons_of_mem _ (hall j (by simp only [al96, List.mem_cons, List.not_mem_nil, or_false] at hj; omega)), fun q => List.mem_cons_of_mem _ (hall 18 (by decide)), fun q j hj => List.mem_cons_of_mem _ (hall j hj), A, fun j hj hj2 => a1 j ((List.mem_cons.1 hj).resolve_left (by omega)) hj2, fun j hj hja => ?_, fun j k hj hk hja hka => ?_, fun _ => AHeap.get_set_same hTH⟩
  · have hjt2 : j ≠ t := fun e => hjt e (List.mem_cons_self ..)
    rw [AHeap.get_set_ne hjt2]; exact h.old j hj (fun e => absurd e hjt2)
  · have hjD : j ∈ D := (List.mem_cons.1 hj).resolve_left (fun e => by rw [e] at hja; exact absurd hja (by decide))
    obtain ⟨b1, b2⟩ := a2 j hjD hja
    exact ⟨by rw [AHeap.get_set_ne (by omega)]; exact b1, b2⟩
  · have n20 : ∀ j, j ∈ 20 :: D → j ∈ al96 → j ∈ D := fun j hj hja => (List.mem_cons.1 hj).resolve_left (fun e => by rw [e] at hja; exact absurd hja (by decide))
    exact a3 j k (n20 j hj hja) (n20 k hk hka) hja hka
end Go.Proofs.YtfolofhknhgpiaaGreatDoor
