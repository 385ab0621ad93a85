/- What is deferred, and what a panic is stopped by. -/
import Derived.Test.YtfolofhknhgpiaaGreatDoorA13
import Derived.Recover
set_option linter.unusedVariables false
set_option linter.unusedSimpArgs false
namespace Go.Proofs.YtfolofhknhgpiaaGreatDoor
open Go

def deferOf (E : AEnv) (o : Oper) : Option ADef := match o.op with
  | .defer c => match c.callee with
    | .value f => match E.eval f, evals E c.args.toList with
      | some (.func (.func g) first cap), some vs => some (g, first.toList ++ vs ++ cap.toList)
      | _, _ => none
    | _ => none
  | _ => none
def isDefer (o : Oper) : Bool := match o.op, o.dst with
  | .defer _, none => true
  | _, _ => false
def lastDefer (ops : Array Oper) : Option Oper := match ops[ops.size - 1]? with
  | some o => if isDefer o then some o else none
  | none => none
def AEnv.deferred (E : AEnv) (d : ADef) : AEnv := ⟨E.n, E.g, d :: E.ds⟩

section
variable {P : Program} {Q : AExit → AEnv → AHeap → Prop} {E : AEnv} {H : AHeap}

/-- Operations in two parts. -/
theorem wpOps_append {ops : Array Oper} {Q : Exit → Act → World → Prop} (l2 : List Nat) : ∀ (l1 : List Nat) (a : Act) (w : World), wpOps P ops (fun e a w => match e with
      | .normal => wpOps P ops Q l2 a w
      | e => Q e a w) l1 a w → wpOps P ops Q (l1 ++ l2) a w := by
  intro l1
  induction l1 with
  | nil => intro a w h; exact h
  | cons i l ih =>
    intro a w h
    rw [List.cons_append]
    simp only [wpOps] at h ⊢
    split
    · rename_i hi; rw [hi] at h; exact ih a w h
    · rename_i o hi
      rw [hi] at h
      simp only at h
      split
      · rename_i hw
        rw [if_pos hw] at h
        rcases h with h | ⟨h1, a0, w0, h2⟩
        · left
          unfold Oper.wp at h ⊢
          generalize (execOp a.eval o).run P w = r at h
          cases r with
          | ok n w' =>
            cases n <;> simp only [Oper.upon] at h ⊢ <;> first
              | exact ih _ _ h
              | exact Calls.mono h (fun e w'' he => by
                  cases e with
                  | returned v => exact ih _ _ he
                  | panicked c => exact he
                  | outgrown => obtain ⟨a1, w1, h1⟩ := he; exact ⟨a1, w1, h1⟩)
              | exact Rows.mono h (fun _ _ he => ih _ _ he)
          | halt x w' => cases x <;> simp only [Oper.upon] at h ⊢ <;> exact h
        · exact .inr ⟨h1, a0, w0, h2⟩
      · rename_i hw
        rw [if_neg hw] at h
        exact ih _ _ h

def andDefer (ops : Array Oper) (o : Oper) (Q : AExit → AEnv → AHeap → Prop) : AExit → AEnv → AHeap → Prop
  | .normal, E, H => ∃ d, guardA ops E o = some true ∧ deferOf E o = some d ∧ Q .normal (E.deferred d) H
  | e, E, H => Q e E H
/-- A statement that defers a call. -/
theorem AWp.deferR {id : Nat} {ops : Array Oper} {o : Oper} (hl : lastDefer ops = some o) (h : AOps P ops (fun _ => none) (andDefer ops o Q) (List.range (ops.size - 1)) E H) : AWp P (.region id ops false) Q E H := by
  unfold lastDefer at hl
  split at hl
  · rename_i o' ho
    split at hl
    · rename_i hd
      cases hl
      have hsz : ops.size = ops.size - 1 + 1 := by
        have := (Array.getElem?_eq_some_iff.1 ho).1
        omega
      intro w0 fr φ w a hR hE
      refine wp_region ?_
      rw [hsz, List.range_succ]
      refine wpOps_append _ _ _ _ ?_
      have hs := AOps.sound _ E H h w0 fr φ w a hR hE
      refine wpOps_mono _ a w _ _ ?_ hs
      rintro e a' w' ⟨ae, E', H', ψ, q1, q2, q3, q5, q6⟩
      cases q5 with
      | normal =>
        obtain ⟨d, g1, g2, g3⟩ := q6
        simp only [wpOps, ho]
        rw [guardA_run q3 g1]
        simp only [if_true]
        left
        unfold deferOf at g2
        split at g2
        · rename_i c hop
          split at g2
          · rename_i f hf
            split at g2
            · rename_i g first cap vs hev hvs
              cases g2
              have hfun := q3.eval hev
              generalize hfe : a'.eval f = fv at hfun
              cases hfun with
              | func fn s1 r1 s2 r2 =>
                rename_i first' cap'
                have hrun : (execOp a'.eval o).run P w' = .ok (.defer { target := .fn (.func g) cap', args := first' ++ c.args.map a'.eval }) w' := by
                  simp only [execOp, hop, resolve, hf, hfe, Sem.run_bind, Deferred.ofValue, Sem.run_pure, Result.andThen_ok]
                unfold Oper.wp
                rw [hrun, Oper.upon_defer]
                have hdst : o.dst = none := by
                  unfold isDefer at hd
                  split at hd
                  · assumption
                  · cases hd
                have hargs : RL ψ (first.toList ++ vs ++ cap.toList) (first' ++ c.args.map a'.eval ++ cap').toList := by
                  have e1 := RA.list.1 ⟨s1, r1⟩
                  have e2 := RA.list.1 ⟨s2, r2⟩
                  have e3 := evals_run q3 _ _ hvs
                  have := (e1.append e3).append e2
                  simpa using this
                rw [hdst]
                exact ⟨.normal, E'.deferred (g, first.toList ++ vs ++ cap.toList), H', ψ, q1, q2, ⟨q3.1, q3.2.1, (show RelD ψ ((g, first.toList ++ vs ++ cap.toList) :: E'.ds) (_ :: a'.defers) from ⟨⟨cap', rfl, hargs⟩, q3.2.2⟩)⟩, .normal, g3⟩
            · cases g2
          · cases g2
        · cases g2
      | exit id => exact ⟨_, E', H', ψ, q1, q2, q3, .exit id, q6⟩
      | goto l => exact ⟨_, E', H', ψ, q1, q2, q3, .goto l, q6⟩
      | ret => exact ⟨_, E', H', ψ, q1, q2, q3, .ret, q6⟩
      | panic r => exact ⟨_, E', H', ψ, q1, q2, q3, .panic r, q6⟩
    · cases hl
  · cases hl

/-! ### Leaving -/
inductive AMode where
  | ret
  | panic (v : Value)
def modeR (φ : Plan) : AMode → FrameMode → Prop
  | .ret, u => u = .returning
  | .panic v, u => ∃ cv, RV φ v cv ∧ u = .panicking [{ v := cv, recovered := false }]
theorem modeR.mono {φ ψ : Plan} (h : φ.le ψ) {m : AMode} {u : FrameMode} (r : modeR φ m u) : modeR ψ m u := by
  cases m with
  | ret => exact r
  | panic v => obtain ⟨cv, a, b⟩ := r; exact ⟨cv, a.mono h, b⟩
theorem modeR.settle {φ : Plan} {m : AMode} {u : FrameMode} (r : modeR φ m u) : settle u = u := by
  cases m with
  | ret => cases r; rfl
  | panic v => obtain ⟨cv, a, rfl⟩ := r; rfl
theorem modeR.run {φ : Plan} {m : AMode} {u : FrameMode} (r : modeR φ m u) : u ≠ .run := by
  cases m with
  | ret => cases r; intro h; cases h
  | panic v => obtain ⟨cv, a, rfl⟩ := r; intro h; cases h

/-- A deferred call, and what it leads to. -/
def ADefer (P : Program) (f : FuncId) (args : List Value) (m : AMode) (H : AHeap) (Q : AMode → AHeap → Prop) : Prop :=
  enters P f = true ∧ ∀ w0 fr φ w (cs : Array Value) u, Rel P w0 fr φ H w → RL φ args cs.toList → modeR φ m u → CallsD P f cs u w fun e u' w' =>
    ∃ v, e = .returned v ∧ ∃ m' H' ψ, φ.le ψ ∧ Rel P w0 fr ψ H' w' ∧ modeR ψ m' (settle u') ∧ Q m' H'
theorem ADefer.mono {f : FuncId} {args : List Value} {m : AMode} {Q' Q : AMode → AHeap → Prop} (h : ADefer P f args m H Q) (k : ∀ m H, Q m H → Q' m H) : ADefer P f args m H Q' :=
  ⟨h.1, fun w0 fr φ w cs u a b c => (h.2 w0 fr φ w cs u a b c).mono fun e u' w' ⟨v, e1, m', H', ψ, q1, q2, q3, q4⟩ => ⟨v, e1, m', H', ψ, q1, q2, q3, k _ _ q4⟩⟩
def ALeaves (P : Program) (fn : Func) (R : AEnd → AHeap → Prop) (E : AEnv) : List ADef → AMode → AHeap → Prop
  | [], .ret, H => ∃ vs, resultsV P E H fn.results.toList = some vs ∧ R (.ret (tupleA vs)) H
  | [], .panic v, H => R (.panic v) H
  | d :: ds, m, H => ADefer P d.1 d.2 m H fun m' H' => ALeaves P fn R E ds m' H'
def exitMode : AExit → Option AMode
  | .normal | .ret => some .ret
  | .panic v => some (.panic v)
  | _ => none
def finD (P : Program) (fn : Func) (R : AEnd → AHeap → Prop) : AExit → AEnv → AHeap → Prop := fun e E H => match exitMode e with
  | some m => ALeaves P fn R E E.ds m H
  | none => False

theorem leaves_of {fn : Func} {R : AEnd → AHeap → Prop} {w0 : World} {fr : Nat → Option Obj} {φ : Plan} {tmps : Array Value} {E : AEnv} : ∀ (ds : List ADef) (cds : List Deferred) (m : AMode) (u : FrameMode) (H : AHeap) (w : World) (ψ : Plan),
    φ.le ψ → RelD ψ ds cds → modeR ψ m u → Rel P w0 fr ψ H w → tmps.size = E.n → (∀ t v, E.get t = some v → RV ψ v (tmps.getD t undef)) → ALeaves P fn R E ds m H →
    Leaves P fn tmps (fun e w' => ∃ ae H' ψ, φ.le ψ ∧ Rel P w0 fr ψ H' w' ∧ REnd ψ ae e ∧ R ae H') cds u w := by
  intro ds
  induction ds with
  | nil =>
    intro cds m u H w ψ hp hd hm hR hn hE h
    cases hd.nil
    cases m with
    | ret =>
      cases hm
      obtain ⟨vs, r1, r2⟩ := h
      obtain ⟨cv, s1, s2⟩ := results_run (a := { tmps := tmps, defers := [] }) (E := ⟨E.n, E.g, []⟩) hR ⟨hn, hE, trivial⟩ (by
        have key : ∀ l, resultsV P ⟨E.n, E.g, []⟩ H l = resultsV P E H l := by
          intro l
          induction l with
          | nil => rfl
          | cons x l ih => cases x <;> simp only [resultsV, ih] <;> rfl
        rw [key]; exact r1)
      exact ⟨cv, s1, _, H, ψ, hp, hR, .ret s2, r2⟩
    | panic v =>
      obtain ⟨cv, a, rfl⟩ := hm
      exact ⟨_, H, ψ, hp, hR, .panic a, h⟩
  | cons d ds ih =>
    intro cds m u H w ψ hp hd hm hR hn hE h
    cases cds with
    | nil => exact hd.elim
    | cons c cds =>
      obtain ⟨⟨cap, ht, ha⟩, hd⟩ := hd
      obtain ⟨target, dargs⟩ := c
      simp only at ht ha
      subst ht
      obtain ⟨hen, hcall⟩ := h
      refine leaves_cons hm.run (f := d.1) (args := dargs ++ cap) ?_ ?_
      · simp only [invoke]; exact enters_run hen _ w
      · refine (hcall w0 fr ψ w _ u hR ha hm).mono ?_
        rintro e u' w' ⟨v, rfl, m', H', χ, q1, q2, q3, q4⟩
        exact ih cds m' _ H' w' χ (Plan.le_trans hp q1) (hd.mono q1) q3 q2 hn (fun t v e => (hE t v e).mono q1) q4

theorem enter_rel {w0 : World} {fr : Nat → Option Obj} {φ : Plan} {n : Nat} {args : List Value} {cs : Array Value} (hn : args.length ≤ n) (hA : RL φ args cs.toList) :
    RelE φ (AEnv.enter n args) { tmps := cs ++ Array.replicate (n - cs.size) undef, defers := [] } := by
  have hl : cs.size = args.length := by rw [← Array.length_toList, hA.1]
  refine ⟨by simp [AEnv.enter]; omega, fun t v ht => ?_, trivial⟩
  unfold AEnv.get AEnv.enter at ht
  simp only at ht
  split at ht
  · obtain ⟨y, hy, r⟩ := hA.get ht
    have hlt : t < cs.size := by
      rcases Nat.lt_or_ge t cs.size with h1 | h1
      · exact h1
      · rw [List.getElem?_eq_none (by simpa using h1)] at hy; cases hy
    simp only [Array.getD_eq_getD_getElem?]
    rw [Array.getElem?_append_left hlt]
    rw [Array.getElem?_toList] at hy
    rw [hy]; exact r
  · cases ht

/-- A function that defers. -/
theorem ACall.of_bodyD {f : FuncId} {fn : Func} {c : Code} {args : List Value} {R : AEnd → AHeap → Prop} (hf : P.funcs[f]? = some fn) (hb : fn.body = some c) (hn : args.length ≤ fn.ntmps)
    (h : AWp P c (finD P fn R) (AEnv.enter fn.ntmps args) H) : ACall P f args H R := by
  intro w0 fr φ w cs hR hA
  have hE := enter_rel (w0 := w0) (fr := fr) hn hA
  refine calls_of_wp_defers hf hb (wp_mono (h w0 fr φ w _ hR hE) fun e a w' hl => ?_)
  obtain ⟨ae, E', H', ψ, q1, q2, q3, q5, q6⟩ := hl
  unfold finD at q6
  cases q5 with
  | normal => exact leaves_of _ _ .ret _ H' w' ψ q1 q3.2.2 rfl q2 q3.1 q3.2.1 q6
  | ret => exact leaves_of _ _ .ret _ H' w' ψ q1 q3.2.2 rfl q2 q3.1 q3.2.1 q6
  | exit id => exact q6.elim
  | goto l => exact q6.elim
  | panic r => exact leaves_of _ _ (.panic _) _ H' w' ψ q1 q3.2.2 ⟨_, r, rfl⟩ q2 q3.1 q3.2.1 q6

def goesOn (P : Program) (fn : Func) (R : AHeap → Prop) : AExit → AEnv → AHeap → Prop
  | .normal, E, H | .ret, E, H => ∃ vs, resultsA P E H fn.results.toList = some vs ∧ R H
  | _, _, _ => False
/-- A deferred function that asks for no panic. -/
theorem ADefer.plain {f : FuncId} {fn : Func} {c : Code} {args : List Value} {m : AMode} {Q : AMode → AHeap → Prop} (he : enters P f = true) (hf : P.funcs[f]? = some fn) (hb : fn.body = some c) (hn : args.length ≤ fn.ntmps)
    (h : AWp P c (goesOn P fn (Q m)) (AEnv.enter fn.ntmps args) H) : ADefer P f args m H Q := by
  refine ⟨he, fun w0 fr φ w cs u hR hA hm => ?_⟩
  have hE := enter_rel (w0 := w0) (fr := fr) hn hA
  refine (callsD_of_wp (R := fun e w' => ∃ v, e = .returned v ∧ ∃ H' ψ, φ.le ψ ∧ Rel P w0 fr ψ H' w' ∧ Q m H') hf hb (wp_mono (h w0 fr φ w _ hR hE) fun e a w' hl => ?_)).mono ?_
  · obtain ⟨ae, E', H', ψ, q1, q2, q3, q5, q6⟩ := hl
    cases q5 with
    | normal =>
      obtain ⟨vs, r1, r2⟩ := q6
      obtain ⟨r0, r1⟩ := resultsA_some r1
      obtain ⟨cv, s1, s2⟩ := results_run q2 q3 r1
      exact ⟨RelD.nil (φ := ψ) (r0 ▸ q3.2.2), cv, s1, _, rfl, H', ψ, q1, q2, r2⟩
    | ret =>
      obtain ⟨vs, r1, r2⟩ := q6
      obtain ⟨r0, r1⟩ := resultsA_some r1
      obtain ⟨cv, s1, s2⟩ := results_run q2 q3 r1
      exact ⟨RelD.nil (φ := ψ) (r0 ▸ q3.2.2), cv, s1, _, rfl, H', ψ, q1, q2, r2⟩
    | exit id => exact q6.elim
    | goto l => exact q6.elim
    | panic r => exact q6.elim
  · rintro e u' w' ⟨rfl, v, rfl, H', ψ, q1, q2, q3⟩
    exact ⟨v, rfl, m, H', ψ, q1, q2, by rw [hm.settle]; exact hm.mono q1, q3⟩

/-- A function that first asks for the panic. -/
def recOp (c : Code) : Option (Oper × Code) := match c with
  | .seq (.region _ ops false) rest => match ops.toList with
    | [o] => match o.op with
      | .call c => match c.callee with
        | .builtin .recover => match o.guard with
          | none => some (o, rest)
          | _ => none
        | _ => none
      | _ => none
    | _ => none
  | _ => none
def stopped : AMode → Value
  | .ret => .nilIface
  | .panic v => v
theorem ADefer.stops {f : FuncId} {fn : Func} {c rest : Code} {o : Oper} {args : List Value} {m : AMode} {Q : AMode → AHeap → Prop} (he : enters P f = true) (hf : P.funcs[f]? = some fn) (hb : fn.body = some c) (hn : args.length ≤ fn.ntmps)
    (hr : recOp c = some (o, rest)) (h : AWp P rest (goesOn P fn (Q .ret)) ((AEnv.enter fn.ntmps args).put o.dst (stopped m)) H) : ADefer P f args m H Q := by
  refine ⟨he, fun w0 fr φ w cs u hR hA hm => ?_⟩
  have hE := enter_rel (w0 := w0) (fr := fr) hn hA
  unfold recOp at hr
  split at hr
  · rename_i id ops rest' 
    split at hr
    · rename_i o' hops
      split at hr
      · rename_i cc hop
        split at hr
        · rename_i hcal
          split at hr
          · rename_i hg
            cases hr
            have hops : ops = #[o] := by rw [← Array.toList_inj, hops]
            subst hops
            refine callsD_of_wpS hf hb (fun c₀ cs₀ hc₀ => ?_)
            refine wpS_seq (wpS_region ?_)
            have hrun : ∀ (a : Act) (w : World), (execOp a.eval o).run P w = .ok .recover w := fun a w => by
              simp only [execOp, hop, resolve, hcal, Sem.run_bind, Sem.run_pure, Result.andThen_ok, invoke, builtin]
            show wpOpsS P #[o] _ [0] _ _ _
            simp only [wpOpsS, List.getElem?_toArray, List.getElem?_cons_zero]
            have hw : ∀ ys, Region.wanted o ys = true := fun ys => by unfold Region.wanted; rw [hg]
            rw [hw]
            simp only [if_true, hrun]
            cases m with
            | ret =>
              cases hm
              have hrec : recoverD (c₀ :: cs₀) = none := by unfold recoverD; simp only [hc₀]
              rw [hrec]
              refine wpS_of_wp (wp_mono (h w0 fr φ w _ hR (hE.put o.dst .nilIface)) fun e a w' hl => ?_)
              obtain ⟨ae, E', H', ψ, q1, q2, q3, q5, q6⟩ := hl
              cases q5 with
              | normal =>
                obtain ⟨vs, r1, r2⟩ := q6
                obtain ⟨r0, r1⟩ := resultsA_some r1
                obtain ⟨cv, s1, s2⟩ := results_run q2 q3 r1
                exact ⟨RelD.nil (φ := ψ) (r0 ▸ q3.2.2), .returning, by cases c₀; cases hc₀; rfl, cv, s1, _, rfl, .ret, H', ψ, q1, q2, rfl, r2⟩
              | ret =>
                obtain ⟨vs, r1, r2⟩ := q6
                obtain ⟨r0, r1⟩ := resultsA_some r1
                obtain ⟨cv, s1, s2⟩ := results_run q2 q3 r1
                exact ⟨RelD.nil (φ := ψ) (r0 ▸ q3.2.2), .returning, by cases c₀; cases hc₀; rfl, cv, s1, _, rfl, .ret, H', ψ, q1, q2, rfl, r2⟩
              | exit id => exact q6.elim
              | goto l => exact q6.elim
              | panic r => exact q6.elim
            | panic v =>
              obtain ⟨pv, hpv, rfl⟩ := hm
              have hrec : recoverD (c₀ :: cs₀) = some (pv, { c₀ with mode := .panicking [{ v := pv, recovered := true }] } :: cs₀) := by unfold recoverD; simp only [hc₀]
              rw [hrec]
              refine wpS_of_wp (wp_mono (h w0 fr φ w _ hR (hE.put o.dst hpv)) fun e a w' hl => ?_)
              obtain ⟨ae, E', H', ψ, q1, q2, q3, q5, q6⟩ := hl
              cases q5 with
              | normal =>
                obtain ⟨vs, r1, r2⟩ := q6
                obtain ⟨r0, r1⟩ := resultsA_some r1
                obtain ⟨cv, s1, s2⟩ := results_run q2 q3 r1
                exact ⟨RelD.nil (φ := ψ) (r0 ▸ q3.2.2), _, rfl, cv, s1, _, rfl, .ret, H', ψ, q1, q2, rfl, r2⟩
              | ret =>
                obtain ⟨vs, r1, r2⟩ := q6
                obtain ⟨r0, r1⟩ := resultsA_some r1
                obtain ⟨cv, s1, s2⟩ := results_run q2 q3 r1
                exact ⟨RelD.nil (φ := ψ) (r0 ▸ q3.2.2), _, rfl, cv, s1, _, rfl, .ret, H', ψ, q1, q2, rfl, r2⟩
              | exit id => exact q6.elim
              | goto l => exact q6.elim
              | panic r => exact q6.elim
          · cases hr
        · cases hr
      · cases hr
    · cases hr
  · cases hr
end
end Go.Proofs.YtfolofhknhgpiaaGreatDoor
