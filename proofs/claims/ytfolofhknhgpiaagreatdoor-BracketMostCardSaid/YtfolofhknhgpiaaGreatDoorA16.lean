/- States cut down to what is reached from them; calls whose outcome is known. -/
import Derived.Test.YtfolofhknhgpiaaGreatDoorA15
set_option linter.unusedVariables false
set_option linter.unusedSimpArgs false
namespace Go.Proofs.YtfolofhknhgpiaaGreatDoor
open Go

/-! ### Numbers anew -/
/-- A small heap is a part of a great one. -/
structure Small (ρ : Nat → Nat) (L H : AHeap) : Prop where
  inj : ∀ i j, i < L.next → j < L.next → ρ i = ρ j → i = j
  high : ∀ i, L.next ≤ i → H.next ≤ ρ i
  blks : ∀ i b, L.get i = some b → H.get (ρ i) = some (renB ρ b)
  rs : L.rs = []

section
variable {P : Program} {w0 : World} {fr : Nat → Option Obj} {φ : Plan} {w : World} {ρ : Nat → Nat} {H L : AHeap}
theorem Rel.renum (h : Rel P w0 fr φ H w) (hs : Small ρ L H) : Rel P w0 fr (fun i => φ (ρ i)) L w := by
  refine ⟨h.os, h.tape, h.output, h.size, h.frame, fun i hi => ?_, fun i b hb => ?_, fun i hi => ?_, fun i j b c l k hne e f hb hl hk => ?_⟩
  · exact h.dom _ (hs.high i hi)
  · obtain ⟨l, q1, q2⟩ := h.lies _ _ (hs.blks i b hb)
    refine ⟨l, q1, ?_⟩
    cases b with
    | cells vs e ro =>
      obtain ⟨cs, e', z, h1, h2, h3, h4, h5⟩ := q2
      refine ⟨cs, e', z, h1, by simpa using h2, h3, fun j v hv => ?_, h5⟩
      obtain ⟨cv, a, r⟩ := h4 j (ren ρ v) (by rw [List.getElem?_map, hv]; rfl)
      exact ⟨cv, a, r.unren (fun _ _ e => e) _⟩
    | map es ck =>
      obtain ⟨h0, h1, h2, fs, h3, h4⟩ := q2
      refine ⟨h0, h1, h2, fs, h3, by simpa using h4.1, fun j x y hx hy => ?_⟩
      obtain ⟨a, b, c, d⟩ := h4.2 j (renE ρ x) y (by rw [List.getElem?_map, hx]; rfl) hy
      exact ⟨a, b, c, RV.unren (fun _ _ e => e) _ d⟩
    | iter s p => exact q2
  · rw [hs.rs] at hi; cases hi
  · exact h.disj (ρ i) (ρ j) _ _ l k (fun q => hne (hs.inj _ _ (AHeap.get_lt e) (AHeap.get_lt f) q)) (hs.blks i b e) (hs.blks j c f) (by rw [renB_rw]; exact hb) hl hk

/-- Nothing is planned for an empty heap. -/
theorem Rel.empty_le (h : Rel P w0 fr φ AHeap.empty w) (ψ : Plan) : φ.le ψ := fun i l e => by
  rw [h.dom i (Nat.zero_le _)] at e; cases e
end

/-! ### Heaps and environments given by lists -/
def mkT : Nat → List (Option ABlk) → Tr ABlk → Tr ABlk
  | _, [], T => T
  | i, b :: l, T => mkT (i + 1) l (T.set i b)
theorem mkT_get : ∀ (l : List (Option ABlk)) (i : Nat) (T : Tr ABlk) (j : Nat), (mkT i l T).get j = if i ≤ j ∧ j < i + l.length then (l[j - i]?).join else T.get j
  | [], i, T, j => by rw [mkT, if_neg (by simp)]
  | b :: l, i, T, j => by
    rw [mkT, mkT_get l]
    by_cases h1 : i + 1 ≤ j ∧ j < i + 1 + l.length
    · rw [if_pos h1, if_pos (by simp; omega)]
      obtain ⟨d, rfl⟩ : ∃ d, j = i + 1 + d := ⟨j - (i + 1), by omega⟩
      rw [show i + 1 + d - (i + 1) = d from by omega, show i + 1 + d - i = d + 1 from by omega]; rfl
    · rw [if_neg h1, Tr.get_set]
      by_cases h2 : j = i
      · subst h2; rw [if_pos rfl, if_pos (by simp), Nat.sub_self]; rfl
      · rw [if_neg h2, if_neg (by simp; omega)]
def mkH (l : List (Option ABlk)) : AHeap := ⟨l.length, mkT 0 l .nil, []⟩
theorem mkH_get (l : List (Option ABlk)) (i : Nat) : (mkH l).get i = (l[i]?).join := by
  unfold AHeap.get mkH
  simp only
  split
  · rename_i h; rw [mkT_get, if_pos (by omega)]; rfl
  · rename_i h; rw [List.getElem?_eq_none (by omega)]; rfl
def mkE : List (Nat × Value) → Tr Value
  | [] => .nil
  | (t, v) :: l => (mkE l).set (t + 1) (some v)
theorem mkE_zero : ∀ (l : List (Nat × Value)), (mkE l).get 0 = none
  | [] => rfl
  | (t, v) :: l => by rw [mkE, Tr.get_set, if_neg (by omega), mkE_zero l]
theorem mkE_ds (n : Nat) (l : List (Nat × Value)) : (envOf n (mkE l)).ds = [] := by
  show defsOf _ = []
  unfold defsOf
  rw [mkE_zero]; rfl

/-- The great heap's numbers. -/
def idx (ids : List Nat) (m : Nat) (i : Nat) : Nat := match ids[i]? with
  | some x => x
  | none => m + i
def fitB (ρ : Nat → Nat) (H : AHeap) : List Nat → List (Option ABlk) → Bool
  | [], [] => true
  | _ :: ids, none :: L => fitB ρ H ids L
  | x :: ids, some b :: L => beqO beqB (H.get x) (some (renB ρ b)) && fitB ρ H ids L
  | _, _ => false
theorem fitB_len {ρ : Nat → Nat} {H : AHeap} : ∀ (ids : List Nat) (L : List (Option ABlk)), fitB ρ H ids L = true → ids.length = L.length
  | [], [], _ => rfl
  | [], _ :: _, h => by cases h
  | _ :: _, [], h => by cases h
  | x :: ids, none :: L, h => by rw [fitB] at h; simp [fitB_len ids L h]
  | x :: ids, some b :: L, h => by
    rw [fitB, Bool.and_eq_true] at h; simp [fitB_len ids L h.2]
theorem fitB_get {ρ : Nat → Nat} {H : AHeap} : ∀ (ids : List Nat) (L : List (Option ABlk)), fitB ρ H ids L = true → ∀ (i x : Nat) (b : ABlk), ids[i]? = some x → L[i]? = some (some b) → H.get x = some (renB ρ b)
  | [], [], _, i, x, b, h1, h2 => by simp at h1
  | [], _ :: _, h, _, _, _, _, _ => by cases h
  | _ :: _, [], h, _, _, _, _, _ => by cases h
  | x :: ids, none :: L, h, i, y, b, h1, h2 => by
    rw [fitB] at h
    cases i with
    | zero => simp at h2
    | succ i => exact fitB_get ids L h i y b (by simpa using h1) (by simpa using h2)
  | x :: ids, some c :: L, h, i, y, b, h1, h2 => by
    rw [fitB, Bool.and_eq_true] at h
    cases i with
    | zero =>
      simp only [List.getElem?_cons_zero, Option.some.injEq] at h1 h2
      subst h1; subst h2
      exact beqO_eq beqB_eq _ _ h.1
    | succ i => exact fitB_get ids L h.2 i y b (by simpa using h1) (by simpa using h2)
def nodupN : List Nat → Bool
  | [] => true
  | x :: l => !l.contains x && nodupN l
theorem nodupN_inj : ∀ (l : List Nat), nodupN l = true → ∀ (i j x : Nat), l[i]? = some x → l[j]? = some x → i = j
  | [], _, i, j, x, h, _ => by simp at h
  | y :: l, hn, i, j, x, h1, h2 => by
    rw [nodupN, Bool.and_eq_true] at hn
    have hy : ¬ y ∈ l := by simpa using hn.1
    cases i with
    | zero =>
      cases j with
      | zero => rfl
      | succ j => simp at h1 h2; subst h1; exact absurd (List.mem_of_getElem? h2) hy
    | succ i =>
      cases j with
      | zero => simp at h1 h2; subst h2; exact absurd (List.mem_of_getElem? h1) hy
      | succ j => rw [nodupN_inj l hn.2 i j x (by simpa using h1) (by simpa using h2)]
def fitsB (ids : List Nat) (H : AHeap) (L : List (Option ABlk)) : Bool := nodupN ids && fitB (idx ids H.next) H ids L
theorem fitsB_small {ids : List Nat} {H : AHeap} {L : List (Option ABlk)} (h : fitsB ids H L = true) : Small (idx ids H.next) (mkH L) H := by
  rw [fitsB, Bool.and_eq_true] at h
  have hl := fitB_len _ _ h.2
  have hget : ∀ i, i < L.length → ∃ x, ids[i]? = some x ∧ idx ids H.next i = x := fun i hi =>
    ⟨ids[i]'(by omega), List.getElem?_eq_getElem (by omega), by unfold idx; rw [List.getElem?_eq_getElem (by omega)]⟩
  refine ⟨fun i j hi hj e => ?_, fun i hi => ?_, fun i b hb => ?_, rfl⟩
  · obtain ⟨x, a1, a2⟩ := hget i hi
    obtain ⟨y, b1, b2⟩ := hget j hj
    rw [a2, b2] at e; subst e
    exact nodupN_inj ids h.1 i j _ a1 b1
  · have : ids[i]? = none := List.getElem?_eq_none (by rw [hl]; exact hi)
    unfold idx; rw [this]; exact Nat.le_add_right _ _
  · have hi : i < L.length := AHeap.get_lt hb
    obtain ⟨x, a1, a2⟩ := hget i hi
    rw [mkH_get, List.getElem?_eq_getElem hi] at hb
    rw [a2]
    exact fitB_get ids L h.2 i x b a1 (by rw [List.getElem?_eq_getElem hi]; exact congrArg some hb)

/-! ### Calls whose outcome is known -/
section
variable {P : Program}
/-- A call of arguments that bear no address, and what it gives. -/
structure Gives (P : Program) (f : FuncId) (args : List Value) (v : Value) (L : AHeap) : Prop where
  call : ACall P f args AHeap.empty fun ae H => ae = .ret v ∧ H = L
  flat : args.all flat = true
  ro : ∀ i vs e, L.get i ≠ some (.cells vs e true)

def noRo : List (Option ABlk) → Bool
  | [] => true
  | some (.cells _ _ true) :: _ => false
  | _ :: l => noRo l
theorem noRo_get : ∀ (l : List (Option ABlk)), noRo l = true → ∀ (i : Nat) (vs : List Value) (e : TypeId), l[i]? ≠ some (some (ABlk.cells vs e true))
  | [], _, i, vs, e, h => by simp at h
  | b :: l, hn, i, vs, e, h => by
    cases i with
    | zero =>
      simp only [List.getElem?_cons_zero, Option.some.injEq] at h
      subst h; simp [noRo] at hn
    | succ i =>
      have hl : noRo l = true := by
        rw [noRo.eq_def] at hn
        split at hn
        · rename_i h; cases h
        · cases hn
        · rename_i h; cases h; exact hn
      exact noRo_get l hl i vs e (by simpa using h)

def givesB (r : Option (AEnd × AHeap)) (ids : List Nat) (v : Value) (L : List (Option ABlk)) : Bool := match r with
  | some (.ret v', H') => beqV v' (ren (idx ids H'.next) v) && (fitsB ids H' L && noRo L)
  | _ => false
theorem Gives.of_dcall {call : Caller} (hc : CallOk P call) {f : FuncId} {args : List Value} {ids : List Nat} {v : Value} {L : List (Option ABlk)} (ha : args.all Go.Proofs.YtfolofhknhgpiaaGreatDoor.flat = true)
    (h : givesB (call f args AHeap.empty) ids v L = true) : Gives P f args v (mkH L) := by
  unfold givesB at h
  split at h
  · rename_i v' H' hd
    simp only [Bool.and_eq_true] at h
    have hv := beqV_eq _ _ h.1
    have hs := fitsB_small h.2.1
    refine ⟨fun w0 fr φ w cs hR hA => ?_, ha, fun i vs e hi => ?_⟩
    · refine (hc f args _ _ _ hd w0 fr φ w cs hR hA).mono fun e w' ⟨ae, H1, ψ, a, b, c, d⟩ => ?_
      obtain ⟨rfl, rfl⟩ := d
      refine ⟨.ret v, mkH L, _, hR.empty_le _, b.renum hs, ?_, rfl, rfl⟩
      cases c with
      | ret r => exact .ret (RV.unren (fun _ _ e => e) v (hv ▸ r))
    · rw [mkH_get] at hi
      have hi' : L[i]? = some (some (.cells vs e true)) := by
        cases hL : L[i]? with
        | none => rw [hL] at hi; cases hi
        | some b => rw [hL] at hi; exact congrArg some hi
      exact noRo_get L h.2.2 i vs e hi'
  · cases h

theorem map_ren_flat (ρ : Nat → Nat) : ∀ (l : List Value), l.all flat = true → l.map (ren ρ) = l
  | [], _ => rfl
  | v :: l, h => by
    simp only [List.all_cons, Bool.and_eq_true] at h
    rw [List.map_cons, ren_flat ρ h.1, map_ren_flat ρ l h.2]
theorem Gives.at {f : FuncId} {args : List Value} {v : Value} {L : AHeap} (h : Gives P f args v L) (B : AHeap) :
    ACall P f args B fun ae B' => ae = .ret (ren (shift 0 0 B.next) v) ∧ B' = merge (shift 0 0 B.next) AHeap.empty B L := by
  have := ACall.frame (Stands.empty B) h.call (fun ae H' ⟨_, e⟩ => ⟨Nat.zero_le _, fun i vs t hi => absurd (e ▸ hi) (h.ro i vs t)⟩)
  rw [map_ren_flat _ _ h.flat] at this
  refine this.mono ?_
  rintro e B' ⟨a0, H', ⟨rfl, rfl⟩, rfl, rfl, _⟩
  exact ⟨rfl, rfl⟩

abbrev Fact := FuncId × List Value × Value × List (Option ABlk)
def memo : List Fact → Caller
  | [], _, _, _ => none
  | (g, as, v, L) :: l, f, args, H => if f = g ∧ beqL args as = true then some (.ret (ren (shift 0 0 H.next) v), merge (shift 0 0 H.next) AHeap.empty H (mkH L)) else memo l f args H
theorem memo_ok : ∀ (l : List Fact), (∀ e ∈ l, Gives P e.1 e.2.1 e.2.2.1 (mkH e.2.2.2)) → CallOk P (memo l)
  | [], _ => fun _ _ _ _ _ h => by cases h
  | (g, as, v, L) :: l, hl => fun f args H v' H' h => by
    rw [memo] at h
    split at h
    · rename_i hc
      obtain ⟨rfl, h2⟩ := hc
      rw [beqL_eq _ _ h2]
      cases h
      exact (hl _ (List.mem_cons_self ..)).at H
    · exact memo_ok l (fun e he => hl e (List.mem_cons_of_mem _ he)) f args H v' H' h

/-! ### Cuts -/
def LiftQ (P : Program) (w0 : World) (fr : Nat → Option Obj) (Q : AExit → AEnv → AHeap → Prop) : Exit → Act → World → Prop := fun e a w =>
  ∃ ae E H ψ, Rel P w0 fr ψ H w ∧ RelE ψ E a ∧ RX ψ ae e ∧ Q ae E H
def AWq (P : Program) (c : Code) (Q : AExit → AEnv → AHeap → Prop) (E : AEnv) (H : AHeap) : Prop :=
  ∀ w0 fr φ w a, Rel P w0 fr φ H w → RelE φ E a → c.wp P (LiftQ P w0 fr Q) a w
variable {Q : AExit → AEnv → AHeap → Prop} {E : AEnv} {H : AHeap}
theorem AWp.toQ {c : Code} (h : AWp P c Q E H) : AWq P c Q E H := fun w0 fr φ w a hR hE => wp_mono (h w0 fr φ w a hR hE) fun e a w ⟨ae, E, H, ψ, _, b, c, x, q⟩ => ⟨ae, E, H, ψ, b, c, x, q⟩
def thenQ (K : AEnv → AHeap → Prop) (Q : AExit → AEnv → AHeap → Prop) : AExit → AEnv → AHeap → Prop
  | .normal, E, H => K E H
  | e, E, H => Q e E H
theorem AWq.seq {x y : Code} (h : AWq P x (thenQ (AWq P y Q) Q) E H) : AWq P (.seq x y) Q E H := fun w0 fr φ w a hR hE => wp_seq (wp_mono (h w0 fr φ w a hR hE) fun e a' w' hl => by
  obtain ⟨ae, E', H', ψ, b, c, x, q⟩ := hl
  cases x with
  | normal => exact wp_mono (q w0 fr ψ w' a' b c) fun e a w hl => hl
  | exit id => exact ⟨.exit id, E', H', ψ, b, c, .exit id, q⟩
  | goto l => exact ⟨.goto l, E', H', ψ, b, c, .goto l, q⟩
  | ret => exact ⟨.ret, E', H', ψ, b, c, .ret, q⟩
  | panic r => exact ⟨_, E', H', ψ, b, c, .panic r, q⟩)
theorem AWq.renum {c : Code} {ρ : Nat → Nat} {L : AHeap} {F : AEnv} (hs : Small ρ L H) (hn : F.n = E.n) (hd : F.ds = [] ∧ E.ds = []) (hF : ∀ t v, F.get t = some v → E.get t = some (ren ρ v)) (h : AWq P c Q F L) : AWq P c Q E H :=
  fun w0 fr φ w a hR hE => h w0 fr _ w a (hR.renum hs) ⟨hE.1.trans hn.symm, fun t v e => RV.unren (fun _ _ e => e) v (hE.2.1 t _ (hF t v e)), by
    have := hE.2.2
    rw [hd.2] at this
    rw [hd.1, this.nil]; trivial⟩

def envB (ρ : Nat → Nat) (T : Tr Value) : List (Nat × Value) → Bool
  | [] => true
  | (t, v) :: l => beqO beqV (T.get (t + 1)) (some (ren ρ v)) && envB ρ T l
theorem envB_get {ρ : Nat → Nat} {T : Tr Value} : ∀ (l : List (Nat × Value)), envB ρ T l = true → ∀ t v, (mkE l).get (t + 1) = some v → T.get (t + 1) = some (ren ρ v)
  | [], _, t, v, h => by simp [mkE, Tr.get] at h
  | (s, u) :: l, hb, t, v, h => by
    rw [envB, Bool.and_eq_true] at hb
    rw [mkE, Tr.get_set] at h
    split at h
    · rename_i e; cases h; rw [Nat.succ.inj e]; exact beqO_eq beqV_eq _ _ hb.1
    · exact envB_get l hb.2 t v h
def cutB (r : Option (AExit × Tr Value × AHeap)) (ids : List Nat) (F : List (Nat × Value)) (L : List (Option ABlk)) : Bool := match r with
  | some (.normal, T, H) => (T.get 0).isNone && envB (idx ids H.next) T F && fitsB ids H L
  | _ => false
/-- The first part is carried out; the rest is shown from what is reached. -/
theorem AWq.cut (hm : P.follows .mixedOrders = true) {tab : Nat → Option Forms} {call : Caller} (hc : CallOk P call) {n k : Nat} {x y : Code} (hok : codeOk P tab x = true) {T : Tr Value} {ids : List Nat} {F : List (Nat × Value)} {L : List (Option ABlk)}
    (h : cutB (dcode P tab call n k x T H) ids F L = true) (hy : AWq P y Q (envOf n (mkE F)) (mkH L)) : AWq P (.seq x y) Q (envOf n T) H := by
  unfold cutB at h
  split at h
  · rename_i T' H' hd
    rw [Bool.and_eq_true, Bool.and_eq_true] at h
    refine AWq.seq (AWp.toQ (AWp.mono (dcode_sound hm hc k x hok T T' H H' _ hd) ?_))
    rintro e E2 H2 ⟨rfl, rfl, rfl⟩
    refine AWq.renum (E := envOf n T') (F := envOf n (mkE F)) (fitsB_small h.2) rfl ⟨mkE_ds n F, by show defsOf T' = []; unfold defsOf; rw [Option.isNone_iff_eq_none.1 h.1.1]; rfl⟩ (fun t v hv => ?_) hy
    unfold AEnv.get envOf at hv ⊢
    simp only at hv ⊢
    split at hv
    · rename_i ht; rw [if_pos ht]; exact envB_get F h.1.2 t v hv
    · cases hv
  · cases h

/-- A body over an empty heap, with cuts. -/
theorem ACall.of_bodyQ {f : FuncId} {fn : Func} {c : Code} {args : List Value} {R : AEnd → AHeap → Prop} (hf : P.funcs[f]? = some fn) (hb : fn.body = some c) (hn : args.length ≤ fn.ntmps)
    (h : AWq P c (finA P fn R) (envOf fn.ntmps (initT args 0 .nil)) AHeap.empty) : ACall P f args AHeap.empty R := by
  intro w0 fr φ w cs hR hA
  have hE : RelE φ (envOf fn.ntmps (initT args 0 .nil)) { tmps := cs ++ Array.replicate (fn.ntmps - cs.size) undef, defers := [] } := (enter_rel (w0 := w0) (fr := fr) hn hA).le (enter_le _ _)
  refine calls_of_wp hf hb (wp_mono (h w0 fr φ w _ hR hE) fun e a w' hl => ?_)
  obtain ⟨ae, E', H', ψ, q2, q3, q5, q6⟩ := hl
  cases q5 with
  | normal =>
    obtain ⟨vs, r1, r2⟩ := q6
    obtain ⟨r0, r1⟩ := resultsA_some r1
    obtain ⟨cv, s1, s2⟩ := results_run q2 q3 r1
    exact ⟨RelD.nil (φ := ψ) (r0 ▸ q3.2.2), cv, s1, _, H', ψ, hR.empty_le _, q2, .ret s2, r2⟩
  | ret =>
    obtain ⟨vs, r1, r2⟩ := q6
    obtain ⟨r0, r1⟩ := resultsA_some r1
    obtain ⟨cv, s1, s2⟩ := results_run q2 q3 r1
    exact ⟨RelD.nil (φ := ψ) (r0 ▸ q3.2.2), cv, s1, _, H', ψ, hR.empty_le _, q2, .ret s2, r2⟩
  | exit id => exact q6.elim
  | goto l => exact q6.elim
  | panic r => exact ⟨RelD.nil (φ := ψ) (q6.1 ▸ q3.2.2), _, H', ψ, hR.empty_le _, q2, .panic r, q6.2⟩
end
end Go.Proofs.YtfolofhknhgpiaaGreatDoor
