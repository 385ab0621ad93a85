/- A statement whose order Go leaves open, by what holds after any part of it; and code over a heap that is then taken under other numbers. -/
import Derived.Test.YtfolofhknhgpiaaGreatDoorA21
set_option linter.unusedVariables false
set_option linter.unusedSimpArgs false
namespace Go.Proofs.YtfolofhknhgpiaaGreatDoor
open Go

section
variable {P : Program} {Q : AExit → AEnv → AHeap → Prop} {E : AEnv} {H : AHeap}

/-- What one operation leads to: its value and the heap. -/
def AOne (P : Program) (ops : Array Oper) (i : Nat) (E : AEnv) (H : AHeap) (K : Value → AHeap → Prop) : Prop := ∃ o, ops[i]? = some o ∧ stepA P ops o none E H K fun _ _ => False

theorem AOps.any {ops : Array Oper} {I : List Nat → AEnv → AHeap → Prop}
    (step : ∀ D i o E H, I D E H → ops[i]? = some o → i ∉ D → (∀ x, x < ops.size → edge ops x i = true → x ∈ D) → stepA P ops o none E H (fun v H' => I (i :: D) (E.put o.dst v) H') fun _ _ => False)
    (fin : ∀ D E H, I D E H → (∀ i, i < ops.size → i ∈ D) → Q .normal E H) :
    ∀ (s D : List Nat) (E : AEnv) (H : AHeap), I D E H → (∀ i, i < ops.size → i ∈ D ∨ i ∈ s) → (∀ i, i ∈ s → i < ops.size ∧ i ∉ D) → s.Nodup →
      (∀ s1 i s2, s = s1 ++ i :: s2 → ∀ x, x < ops.size → edge ops x i = true → x ∈ D ∨ x ∈ s1) → AOps P ops (fun _ => none) Q s E H := by
  intro s
  induction s with
  | nil =>
    intro D E H hI hall _ _ _
    exact fin D E H hI (fun i hi => (hall i hi).resolve_right (by simp))
  | cons i s ih =>
    intro D E H hI hall hin hnd hed
    obtain ⟨hi, hiD⟩ := hin i (List.mem_cons_self ..)
    have ho : ops[i]? = some ops[i] := Array.getElem?_eq_getElem hi
    rw [AOps.cons_eq ho]
    refine stepA.mono (fun v H' hI' => ?_) (fun _ _ h => h.elim) (step D i _ E H hI ho hiD (fun x hx he => (hed [] i s rfl x hx he).resolve_right (by simp)))
    refine ih (i :: D) _ _ hI' (fun j hj => ?_) (fun j hj => ?_) (List.nodup_cons.1 hnd).2 (fun s1 j s2 e x hx he => ?_)
    · rcases hall j hj with h | h
      · exact .inl (List.mem_cons_of_mem _ h)
      · rcases List.mem_cons.1 h with h | h
        · exact .inl (h ▸ List.mem_cons_self ..)
        · exact .inr h
    · obtain ⟨h1, h2⟩ := hin j (List.mem_cons_of_mem _ hj)
      refine ⟨h1, fun h => ?_⟩
      rcases List.mem_cons.1 h with h | h
      · subst h; exact (List.nodup_cons.1 hnd).1 hj
      · exact h2 h
    · rcases hed (i :: s1) j s2 (by rw [e]; rfl) x hx he with h | h
      · exact .inl (List.mem_cons_of_mem _ h)
      · rcases List.mem_cons.1 h with h | h
        · exact .inl (h ▸ List.mem_cons_self ..)
        · exact .inr h

theorem AWp.drawAny (hm : P.follows .mixedOrders = true) {x : Code} (h : drawOf x = some true) (hb : backOk (opsOf x) = true) (I : List Nat → AEnv → AHeap → Prop) (h0 : I [] E H)
    (step : ∀ D i o E H, I D E H → (opsOf x)[i]? = some o → i ∉ D → (∀ y, y < (opsOf x).size → edge (opsOf x) y i = true → y ∈ D) → stepA P (opsOf x) o none E H (fun v H' => I (i :: D) (E.put o.dst v) H') fun _ _ => False)
    (fin : ∀ D E H, I D E H → (∀ i, i < (opsOf x).size → i ∈ D) → Q .normal E H) : AWp P x Q E H := by
  cases x with
  | region id ops d =>
    cases h
    intro w0 fr φ w a hR hE
    refine wp_region_draw fun k => ?_
    have e : Region.schedule (P.follows .mixedOrders) ops k = Region.linearise .any ops k := by
      simp only [Region.schedule, hm, Bool.true_or, if_true]
    rw [e]
    have hs : Sched ops (Array.replicate ops.size false) (Region.linearise .any ops k) := sched_all hb k
    have hlf : ∀ i, i < ops.size → (Array.replicate ops.size false).getD i true = false := fun i hi => by simp [hi]
    have hmem : ∀ i, i ∈ Region.linearise .any ops k ↔ i < ops.size := fun i => by
      rw [hs.mem]
      exact ⟨fun h => h.1, fun h => ⟨h, hlf i h⟩⟩
    refine AOps.sound _ E _ (AOps.any step fin _ [] E H h0 (fun i hi => .inr ((hmem i).2 hi)) (fun i hi => ⟨(hmem i).1 hi, by simp⟩) hs.nodup (fun s1 i s2 e x hx he => .inr (hs.ord s1 i s2 e x he hx (hlf x hx)))) w0 fr φ _ a (hR.drawn _) hE
  | _ => cases h

/-! ### Under other numbers, from a number on -/
def upTo (N : Nat) (φ ψ : Plan) : Prop := ∀ i l, i < N → φ i = some l → ψ i = some l
def LiftR (P : Program) (N : Nat) (w0 : World) (fr : Nat → Option Obj) (φ : Plan) (Q : AExit → AEnv → AHeap → Prop) : Exit → Act → World → Prop := fun e a w =>
  ∃ ae E H ψ, upTo N φ ψ ∧ Rel P w0 fr ψ H w ∧ RelE ψ E a ∧ RX ψ ae e ∧ Q ae E H
/-- What code leads to; what was there below a number keeps its place. -/
def AWr (P : Program) (N : Nat) (c : Code) (Q : AExit → AEnv → AHeap → Prop) (E : AEnv) (H : AHeap) : Prop :=
  ∀ w0 fr φ w a, Rel P w0 fr φ H w → RelE φ E a → c.wp P (LiftR P N w0 fr φ Q) a w
theorem AWp.toR {N : Nat} {c : Code} (h : AWp P c Q E H) : AWr P N c Q E H := fun w0 fr φ w a hR hE => wp_mono (h w0 fr φ w a hR hE) fun e a w ⟨ae, E, H, ψ, q, b, c, x, k⟩ => ⟨ae, E, H, ψ, fun i l _ e => q i l e, b, c, x, k⟩
theorem AWr.seq {N : Nat} {x y : Code} (h : AWr P N x (thenQ (AWr P N y Q) Q) E H) : AWr P N (.seq x y) Q E H := fun w0 fr φ w a hR hE => wp_seq (wp_mono (h w0 fr φ w a hR hE) fun e a' w' hl => by
  obtain ⟨ae, E', H', ψ, q0, b, c, x, q⟩ := hl
  cases x with
  | normal => exact wp_mono (q w0 fr ψ w' a' b c) fun e a w ⟨ae, E, H, χ, q1, b, c, x, k⟩ => ⟨ae, E, H, χ, fun i l hi e => q1 i l hi (q0 i l hi e), b, c, x, k⟩
  | exit id => exact ⟨.exit id, E', H', ψ, q0, b, c, .exit id, q⟩
  | goto l => exact ⟨.goto l, E', H', ψ, q0, b, c, .goto l, q⟩
  | ret => exact ⟨.ret, E', H', ψ, q0, b, c, .ret, q⟩
  | panic r => exact ⟨_, E', H', ψ, q0, b, c, .panic r, q⟩)
theorem AWr.seq' {N : Nat} {x : Code} (h : isSeq x = true) (k : AWr P N (fst x) (thenQ (AWr P N (snd x) Q) Q) E H) : AWr P N x Q E H := by
  cases x with
  | seq a b => exact .seq k
  | _ => cases h
theorem AWr.env {N : Nat} {c : Code} {F : AEnv} (k : E.le F) (h : AWr P N c Q E H) : AWr P N c Q F H := fun w0 fr φ w a hR hE => h w0 fr φ w a hR (hE.le k)
theorem AWr.mono {N : Nat} {c : Code} {Q' : AExit → AEnv → AHeap → Prop} (h : AWr P N c Q E H) (k : ∀ e E H, Q e E H → Q' e E H) : AWr P N c Q' E H :=
  fun w0 fr φ w a hR hE => wp_mono (h w0 fr φ w a hR hE) fun e a w ⟨ae, E, H, ψ, q, b, c, x, h⟩ => ⟨ae, E, H, ψ, q, b, c, x, k _ _ _ h⟩
theorem AWr.renum {N : Nat} {c : Code} {ρ : Nat → Nat} {L : AHeap} {F : AEnv} (hs : Small ρ L H) (hN : ∀ i, i < N → ρ i = i) (hn : F.n = E.n) (hd : F.ds = [] ∧ E.ds = []) (hF : ∀ t v, F.get t = some v → E.get t = some (ren ρ v)) (h : AWr P N c Q F L) : AWr P N c Q E H :=
  fun w0 fr φ w a hR hE => wp_mono (h w0 fr _ w a (hR.renum hs) ⟨hE.1.trans hn.symm, fun t v e => RV.unren (fun _ _ e => e) v (hE.2.1 t _ (hF t v e)), by
    have := hE.2.2
    rw [hd.2] at this
    rw [hd.1, this.nil]; trivial⟩) fun e a w ⟨ae, E, H, ψ, q, b, c, x, k⟩ => ⟨ae, E, H, ψ, fun i l hi e => q i l hi (by show φ (ρ i) = some l; rw [hN i hi]; exact e), b, c, x, k⟩
/-- A body, with numbers changed on the way. -/
theorem ACall.of_bodyR {f : FuncId} {fn : Func} {c : Code} {args : List Value} {R : AEnd → AHeap → Prop} (hf : P.funcs[f]? = some fn) (hb : fn.body = some c) (hn : args.length ≤ fn.ntmps)
    (h : AWr P H.next c (finA P fn R) (envOf fn.ntmps (initT args 0 .nil)) H) : ACall P f args H R := by
  intro w0 fr φ w cs hR hA
  have hE : RelE φ (envOf fn.ntmps (initT args 0 .nil)) { tmps := cs ++ Array.replicate (fn.ntmps - cs.size) undef, defers := [] } := (enter_rel (w0 := w0) (fr := fr) hn hA).le (enter_le _ _)
  have hle : ∀ ψ, upTo H.next φ ψ → φ.le ψ := fun ψ h i l e => by
    rcases Nat.lt_or_ge i H.next with hi | hi
    · exact h i l hi e
    · rw [hR.dom i hi] at e; cases e
  refine calls_of_wp hf hb (wp_mono (h w0 fr φ w _ hR hE) fun e a w' hl => ?_)
  obtain ⟨ae, E', H', ψ, q1, q2, q3, q5, q6⟩ := hl
  cases q5 with
  | normal =>
    obtain ⟨vs, r1, r2⟩ := q6
    obtain ⟨r0, r1⟩ := resultsA_some r1
    obtain ⟨cv, s1, s2⟩ := results_run q2 q3 r1
    exact ⟨RelD.nil (φ := ψ) (r0 ▸ q3.2.2), cv, s1, _, H', ψ, hle ψ q1, q2, .ret s2, r2⟩
  | ret =>
    obtain ⟨vs, r1, r2⟩ := q6
    obtain ⟨r0, r1⟩ := resultsA_some r1
    obtain ⟨cv, s1, s2⟩ := results_run q2 q3 r1
    exact ⟨RelD.nil (φ := ψ) (r0 ▸ q3.2.2), cv, s1, _, H', ψ, hle ψ q1, q2, .ret s2, r2⟩
  | exit id => exact q6.elim
  | goto l => exact q6.elim
  | panic r => exact ⟨RelD.nil (φ := ψ) (q6.1 ▸ q3.2.2), _, H', ψ, hle ψ q1, q2, .panic r, q6.2⟩
end
end Go.Proofs.YtfolofhknhgpiaaGreatDoor
