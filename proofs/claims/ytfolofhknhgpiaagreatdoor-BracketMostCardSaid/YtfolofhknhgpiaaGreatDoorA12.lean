/- Code over abstract heaps: what it leads to, and that this is so in every world in which the heap lies. -/
import Derived.Test.YtfolofhknhgpiaaGreatDoorAX
import Derived.Scope
set_option linter.unusedVariables false
set_option linter.unusedSimpArgs false
namespace Go.Proofs.YtfolofhknhgpiaaGreatDoor
open Go

inductive AExit where
  | normal
  | exit (id : Nat)
  | goto (l : Nat)
  | ret
  | panic (v : Value)
inductive AEnd where
  | ret (v : Value)
  | panic (v : Value)

inductive RX (φ : Plan) : AExit → Exit → Prop where
  | normal : RX φ .normal .normal
  | exit (id : Nat) : RX φ (.exit id) (.exit id)
  | goto (l : Nat) : RX φ (.goto l) (.goto l)
  | ret : RX φ .ret .ret
  | panic {v cv : Value} : RV φ v cv → RX φ (.panic v) (.panic [{ v := cv, recovered := false }])
inductive REnd (φ : Plan) : AEnd → Ending → Prop where
  | ret {v cv : Value} : RV φ v cv → REnd φ (.ret v) (.returned cv)
  | panic {v cv : Value} : RV φ v cv → REnd φ (.panic v) (.panicked [{ v := cv, recovered := false }])

def Lift (P : Program) (w0 : World) (fr : Nat → Option Obj) (φ : Plan) (Q : AExit → AEnv → AHeap → Prop) : Exit → Act → World → Prop := fun e a w =>
  ∃ ae E H ψ, φ.le ψ ∧ Rel P w0 fr ψ H w ∧ RelE ψ E a ∧ RX ψ ae e ∧ Q ae E H

/-- What code leads to, from an environment and a heap. -/
def AWp (P : Program) (c : Code) (Q : AExit → AEnv → AHeap → Prop) (E : AEnv) (H : AHeap) : Prop :=
  ∀ w0 fr φ w a, Rel P w0 fr φ H w → RelE φ E a → c.wp P (Lift P w0 fr φ Q) a w

/-- What a call leads to. -/
def ACall (P : Program) (f : FuncId) (args : List Value) (H : AHeap) (Q : AEnd → AHeap → Prop) : Prop :=
  ∀ w0 fr φ w (cs : Array Value), Rel P w0 fr φ H w → RL φ args cs.toList → Calls P f cs w fun e w' => ∃ ae H' ψ, φ.le ψ ∧ Rel P w0 fr ψ H' w' ∧ REnd ψ ae e ∧ Q ae H'

theorem ACall.mono {P : Program} {f : FuncId} {args : List Value} {H : AHeap} {Q Q' : AEnd → AHeap → Prop} (h : ACall P f args H Q) (k : ∀ e H, Q e H → Q' e H) : ACall P f args H Q' :=
  fun w0 fr φ w cs hR hA => (h w0 fr φ w cs hR hA).mono fun e w' ⟨ae, H', ψ, a, b, c, d⟩ => ⟨ae, H', ψ, a, b, c, k _ _ d⟩

theorem Lift.mono {P : Program} {w0 : World} {fr : Nat → Option Obj} {φ φ' : Plan} {Q Q' : AExit → AEnv → AHeap → Prop} (hp : φ'.le φ) (k : ∀ e E H, Q e E H → Q' e E H) {e : Exit} {a : Act} {w : World}
    (h : Lift P w0 fr φ Q e a w) : Lift P w0 fr φ' Q' e a w := by
  obtain ⟨ae, E, H, ψ, a1, b, c, x, q⟩ := h
  exact ⟨ae, E, H, ψ, Plan.le_trans hp a1, b, c, x, k _ _ _ q⟩

section
variable {P : Program} {Q : AExit → AEnv → AHeap → Prop} {E : AEnv} {H : AHeap}

theorem AWp.mono {c : Code} {Q' : AExit → AEnv → AHeap → Prop} (h : AWp P c Q E H) (k : ∀ e E H, Q e E H → Q' e E H) : AWp P c Q' E H :=
  fun w0 fr φ w a hR hE => wp_mono (h w0 fr φ w a hR hE) fun e a w hl => hl.mono (Plan.le_refl φ) k

/-- What is forgotten of an environment. -/
def AEnv.le (E F : AEnv) : Prop := E.n = F.n ∧ (∀ t v, E.get t = some v → F.get t = some v) ∧ E.ds = F.ds
theorem RelE.le {φ : Plan} {E F : AEnv} {a : Act} (h : RelE φ F a) (k : E.le F) : RelE φ E a := ⟨h.1.trans k.1.symm, fun t v e => h.2.1 t v (k.2.1 t v e), k.2.2 ▸ h.2.2⟩
theorem AWp.env {c : Code} {F : AEnv} (k : E.le F) (h : AWp P c Q E H) : AWp P c Q F H := fun w0 fr φ w a hR hE => h w0 fr φ w a hR (hE.le k)
/-- What is forgotten of a heap. -/
theorem AWp.kill {c : Code} (i : Nat) (h : AWp P c Q E (H.kill i)) : AWp P c Q E H := fun w0 fr φ w a hR hE => h w0 fr φ w a (hR.kill i) hE

theorem AWp.skip (h : Q .normal E H) : AWp P .skip Q E H := fun w0 fr φ w a hR hE => wp_skip ⟨.normal, E, H, φ, Plan.le_refl φ, hR, hE, .normal, h⟩
theorem AWp.label {l : Nat} (h : Q .normal E H) : AWp P (.label l) Q E H := fun w0 fr φ w a hR hE => wp_label ⟨.normal, E, H, φ, Plan.le_refl φ, hR, hE, .normal, h⟩
theorem AWp.exit {id : Nat} (h : Q (.exit id) E H) : AWp P (.exit id) Q E H := fun w0 fr φ w a hR hE => wp_exit ⟨.exit id, E, H, φ, Plan.le_refl φ, hR, hE, .exit id, h⟩
theorem AWp.goto {l : Nat} (h : Q (.goto l) E H) : AWp P (.goto l) Q E H := fun w0 fr φ w a hR hE => wp_goto ⟨.goto l, E, H, φ, Plan.le_refl φ, hR, hE, .goto l, h⟩
theorem AWp.ret (h : Q .ret E H) : AWp P .ret Q E H := fun w0 fr φ w a hR hE => wp_ret ⟨.ret, E, H, φ, Plan.le_refl φ, hR, hE, .ret, h⟩

def thenA (K : AEnv → AHeap → Prop) (Q : AExit → AEnv → AHeap → Prop) : AExit → AEnv → AHeap → Prop
  | .normal, E, H => K E H
  | e, E, H => Q e E H
theorem AWp.seq {x y : Code} (h : AWp P x (thenA (AWp P y Q) Q) E H) : AWp P (.seq x y) Q E H := fun w0 fr φ w a hR hE => wp_seq (wp_mono (h w0 fr φ w a hR hE) fun e a' w' hl => by
  obtain ⟨ae, E', H', ψ, a1, b, c, x, q⟩ := hl
  cases x with
  | normal => exact wp_mono (q w0 fr ψ w' a' b c) fun e a w hl => hl.mono a1 (fun _ _ _ q => q)
  | exit id => exact ⟨.exit id, E', H', ψ, a1, b, c, .exit id, q⟩
  | goto l => exact ⟨.goto l, E', H', ψ, a1, b, c, .goto l, q⟩
  | ret => exact ⟨.ret, E', H', ψ, a1, b, c, .ret, q⟩
  | panic r => exact ⟨_, E', H', ψ, a1, b, c, .panic r, q⟩)

theorem AWp.cond {c : Operand} {x y : Code} {t : Bool} (hc : E.eval c = some (.bool t)) (h : AWp P (if t then x else y) Q E H) : AWp P (.cond c x y) Q E H := fun w0 fr φ w a hR hE => by
  have := hE.eval hc
  generalize hv : a.eval c = v at this
  cases this
  exact wp_cond hv (h w0 fr φ w a hR hE)
theorem AWp.cond' {c : Operand} {x y : Code} {t : Bool} (hc : E.eval c = some (.bool t)) (h1 : t = true → AWp P x Q E H) (h2 : t = false → AWp P y Q E H) : AWp P (.cond c x y) Q E H := by
  cases t
  · exact .cond hc (h2 rfl)
  · exact .cond hc (h1 rfl)

def blockA (id : Nat) (Q : AExit → AEnv → AHeap → Prop) : AExit → AEnv → AHeap → Prop
  | .exit id', E, H => if id' = id then Q .normal E H else Q (.exit id') E H
  | e, E, H => Q e E H
theorem AWp.block {id : Nat} {c : Code} (h : AWp P c (blockA id Q) E H) : AWp P (.block id c) Q E H := fun w0 fr φ w a hR hE => wp_block (wp_mono (h w0 fr φ w a hR hE) fun e a' w' hl => by
  obtain ⟨ae, E', H', ψ, a1, b, c, x, q⟩ := hl
  cases x with
  | normal => exact ⟨.normal, E', H', ψ, a1, b, c, .normal, q⟩
  | exit id' =>
    unfold Exit.inBlock
    simp only
    unfold blockA at q
    simp only at q
    by_cases hid : id' = id
    · rw [if_pos hid] at q ⊢; exact ⟨.normal, E', H', ψ, a1, b, c, .normal, q⟩
    · rw [if_neg hid] at q ⊢; exact ⟨.exit id', E', H', ψ, a1, b, c, .exit id', q⟩
  | goto l => exact ⟨.goto l, E', H', ψ, a1, b, c, .goto l, q⟩
  | ret => exact ⟨.ret, E', H', ψ, a1, b, c, .ret, q⟩
  | panic r => exact ⟨_, E', H', ψ, a1, b, c, .panic r, q⟩)

/-- A scope through which code goes without a jump. -/
def noGotoA (Q : AExit → AEnv → AHeap → Prop) : AExit → AEnv → AHeap → Prop
  | .goto _, _, _ => False
  | e, E, H => Q e E H
theorem AWp.scope {c : Code} (h : AWp P c (noGotoA Q) E H) : AWp P (.scope c) Q E H := fun w0 fr φ w a hR hE => wp_scope_straight (wp_mono (h w0 fr φ w a hR hE) fun e a' w' hl => by
  obtain ⟨ae, E', H', ψ, a1, b, c, x, q⟩ := hl
  cases x with
  | normal => exact ⟨.normal, E', H', ψ, a1, b, c, .normal, q⟩
  | exit id => exact ⟨.exit id, E', H', ψ, a1, b, c, .exit id, q⟩
  | goto l => exact q.elim
  | ret => exact ⟨.ret, E', H', ψ, a1, b, c, .ret, q⟩
  | panic r => exact ⟨_, E', H', ψ, a1, b, c, .panic r, q⟩)

/-- A loop: what holds at each round's head, and a number that each round lowers. -/
theorem AWp.loop {c : Code} (I : AEnv → AHeap → Prop) (μ : AEnv → AHeap → Nat) (h0 : I E H)
    (round : ∀ E H, I E H → AWp P c (thenA (fun E' H' => I E' H' ∧ μ E' H' < μ E H) Q) E H) : AWp P (.loop c) Q E H := by
  intro w0 fr φ w a hR hE b k cs
  have key : ∀ n E H, μ E H = n → I E H → ∀ ψ w a', φ.le ψ → Rel P w0 fr ψ H w → RelE ψ E a' →
      ∃ e a1 w1, Lift P w0 fr φ Q e a1 w1 ∧ Arrives P (lone (b.at a' (.code c :: .inLoop c :: k)) cs w) b k cs e a1 w1 := by
    intro n
    induction n using Nat.strongRecOn with
    | _ n ih =>
      intro E H hn hI ψ w a' hp hR hE
      obtain ⟨e, a1, w1, hq, harr⟩ := round E H hI w0 fr ψ w a' hR hE b (.inLoop c :: k) cs
      obtain ⟨ae, E', H', χ, q1, q2, q3, q5, q6⟩ := hq
      have hp' := Plan.le_trans hp q1
      cases q5 with
      | normal =>
        obtain ⟨hI', hlt⟩ := q6
        obtain ⟨e2, a2, w2, hq2, harr2⟩ := ih (μ E' H') (hn ▸ hlt) E' H' rfl hI' χ w1 a1 hp' q2 q3
        exact ⟨e2, a2, w2, hq2, .of_steps (Steps.trans harr (.one step_inLoop)) harr2⟩
      | exit id => exact ⟨_, a1, w1, ⟨.exit id, E', H', χ, hp', q2, q3, .exit id, q6⟩, .pass (x := .inLoop c) rfl (fun _ _ => .inl (by simp)) harr⟩
      | goto l => exact ⟨_, a1, w1, ⟨.goto l, E', H', χ, hp', q2, q3, .goto l, q6⟩, .pass (x := .inLoop c) rfl (fun _ _ => .inl (by simp)) harr⟩
      | ret => exact ⟨_, a1, w1, ⟨.ret, E', H', χ, hp', q2, q3, .ret, q6⟩, .pass (x := .inLoop c) rfl (fun _ _ => .inl (by simp)) harr⟩
      | panic r => exact ⟨_, a1, w1, ⟨_, E', H', χ, hp', q2, q3, .panic r, q6⟩, .pass (x := .inLoop c) rfl (fun _ _ => .inl (by simp)) harr⟩
  obtain ⟨e, a', w', hq, harr⟩ := key _ E H rfl h0 φ w a (Plan.le_refl φ) hR hE
  exact ⟨e, a', w', hq, .of_steps (.one step_loop) harr⟩

/-! ### Operations, one behind the other -/
inductive Cls where
  | pure | read | write | call | panic
  deriving DecidableEq
def cls (P : Program) (o : Oper) : Cls :=
  match o.op with
  | .move _ | .assign _ | .pick .. | .binOp .. | .unOp .. | .makeInterface .. | .makeFunc .. | .build .. | .fieldAddr .. | .field .. | .indexAddr .. | .index .. | .slice .. | .extract .. | .nilCheck _ | .typeAssert .. => .pure
  | .convert s d _ => if (sliceT P s).isSome || (unsafeFrom P s d).isSome || (unsafeTo P s d).isSome then .read else .pure
  | .load .. | .lookup .. => .read
  | .panic _ => .panic
  | .call c => match c.callee with
    | .builtin .len => match c.argTypes.toList with
      | [t] => if (mapT P t).isSome then .read else .pure
      | _ => .pure
    | .builtin .min | .builtin .max => .pure
    | .builtin .unsafeSliceData => .read
    | .builtin _ => .write
    | _ => .call
  | _ => .write

/-- A function that is entered by a call. -/
def enters (P : Program) (f : FuncId) : Bool :=
  match P.funcs[f]? with
  | some fn => fn.body.isSome && fn.name != "runtime.NumGoroutine"
  | none => false
theorem enters_run {P : Program} {f : FuncId} (h : enters P f = true) (args : Array Value) (w : World) : (callFunc f args).run P w = .ok (.enter f args) w := by
  unfold enters at h
  split at h
  · rename_i fn hf
    simp only [Bool.and_eq_true, bne_iff_ne, ne_eq] at h
    simp only [callFunc, Sem.run_bind, run_program, Result.andThen_ok, hf]
    rw [if_neg (by simpa using h.2)]
    have : fn.body.isNone = false := by
      cases hb : fn.body with
      | none => rw [hb] at h; simp at h
      | some b => rfl
    rw [this]
    rfl
  · cases h

/-- Who is called, with what. -/
def callee (E : AEnv) (o : Oper) : Option (FuncId × List Value) :=
  match o.op with
  | .call c => match c.callee with
    | .value f => match E.eval f, evals E c.args.toList with
      | some (.func (.func g) first cap), some vs => some (g, first.toList ++ vs ++ cap.toList)
      | _, _ => none
    | _ => none
  | _ => none

/-- What is thrown. -/
def panicked (E : AEnv) (o : Oper) : Option Value :=
  match o.op with
  | .panic x => match E.eval x with
    | some (.iface t v) => some (.iface t v)
    | _ => none
  | _ => none

def execA (P : Program) (o : Oper) (E : AEnv) (H : AHeap) (K : Value → AHeap → Prop) (Kp : Value → AHeap → Prop) : Prop :=
  match cls P o with
  | .pure => ∃ v, pexec P E o = some v ∧ K v H
  | .read => ∃ v, rexec P E H o = some v ∧ K v H
  | .write => ∃ v H', wexec P E H o = some (v, H') ∧ K v H'
  | .call => ∃ g args, callee E o = some (g, args) ∧ ((enters P g = true ∧ ACall P g args H fun e H' => match e with
    | .ret v => K v H'
    | .panic v => Kp v H') ∨ (∃ v H', extA P g args H = some (v, H') ∧ K v H'))
  | .panic => ∃ v, panicked E o = some v ∧ Kp v H

/-- Is an operation wanted? -/
def guardA (ops : Array Oper) (E : AEnv) (o : Oper) : Option Bool :=
  match o.guard with
  | none => some true
  | some (j, want) => match (ops[j]?).bind (·.dst) with
    | some d => match E.get d with
      | some (.bool b) => some (b == want)
      | some (.tuple _) => some false
      | _ => none
    | none => some false

/-- An environment of which nothing is known. -/
def dstIn (ops : Array Oper) (t : Nat) : Bool := ops.toList.any fun o => match o.dst with
  | some d => Nat.beq d t
  | none => false
/-- What stands after a panic within operations: what they might have laid is forgotten. -/
def AEnv.none (ops : Array Oper) (E : AEnv) : AEnv := ⟨E.n, fun t => if dstIn ops t then Option.none else E.g t, E.ds⟩
theorem RelE.none {φ : Plan} {ops : Array Oper} {E : AEnv} {a : Act} (h : RelE φ E a) : RelE φ (AEnv.none ops E) a := ⟨h.1, fun t v e => h.2.1 t v (by
  unfold AEnv.get AEnv.none at e
  unfold AEnv.get
  simp only at e
  split at e
  · rename_i ht
    rw [if_pos ht]
    split at e
    · cases e
    · exact e
  · cases e), h.2.2⟩
theorem AEnv.none_put {ops : Array Oper} {i : Nat} {o : Oper} (h : ops[i]? = some o) (E : AEnv) (v : Value) : AEnv.none ops (E.put o.dst v) = AEnv.none ops E := by
  cases hd : o.dst with
  | none => rfl
  | some t =>
    unfold AEnv.none AEnv.put AEnv.set
    simp only [AEnv.mk.injEq, true_and, and_true]
    funext j
    by_cases hj : j = t
    · subst hj
      have : dstIn ops j = true := by
        unfold dstIn
        rw [List.any_eq_true]
        refine ⟨o, by rw [← Array.getElem?_toList] at h; exact List.mem_of_getElem? h, ?_⟩
        rw [hd]; simp
      rw [if_pos this, if_pos this]
    · rw [if_neg hj]
def isFill (r : Option Nat) (o : Oper) : Option (Nat × TypeId) :=
  match r, o.op with
  | some id, .alloc e => some (id, e)
  | _, _ => none
theorem isFill_spec {r : Option Nat} {o : Oper} {id : Nat} {e : TypeId} (h : isFill r o = some (id, e)) : r = some id ∧ o.op = .alloc e := by
  unfold isFill at h
  split at h
  · cases h; rename_i hop; exact ⟨rfl, hop⟩
  · cases h
/-- An operation; a new variable under a number that was kept. -/
def execR (P : Program) (o : Oper) (r : Option Nat) (E : AEnv) (H : AHeap) (K : Value → AHeap → Prop) (Kp : Value → AHeap → Prop) : Prop :=
  match isFill r o with
  | some (id, e) => ∃ z, zeroC P e = some z ∧ (id ∈ H.rs ∧ H.get id = none) ∧ K (.pointer (some ⟨id, 0, none⟩)) (H.fill id (.cells (vcells z) e false))
  | none => execA P o E H K Kp
def AOps (P : Program) (ops : Array Oper) (rb : Nat → Option Nat) (Q : AExit → AEnv → AHeap → Prop) : List Nat → AEnv → AHeap → Prop
  | [], E, H => Q .normal E H
  | i :: l, E, H => match ops[i]? with
    | none => AOps P ops rb Q l E H
    | some o => match guardA ops E o with
      | some true => execR P o (rb i) E H (fun v H' => AOps P ops rb Q l (E.put o.dst v) H') (fun v H' => Q (.panic v) (AEnv.none ops E) H')
      | some false => AOps P ops rb Q l (E.put o.dst undef) H
      | none => False

theorem guardA_run {φ : Plan} {ops : Array Oper} {E : AEnv} {a : Act} (hE : RelE φ E a) {o : Oper} {b : Bool} (h : guardA ops E o = some b) : Region.wanted o (yielded ops a.tmps) = b := by
  unfold guardA at h
  unfold Region.wanted
  split at h
  · rename_i hg; rw [hg]; cases h; rfl
  · rename_i j want hg
    rw [hg]
    simp only
    split at h
    · rename_i d hd
      have hy : yielded ops a.tmps j = match a.tmps[d]? with | some (.bool b) => some b | _ => none := by
        unfold yielded; rw [hd]; rfl
      have hget : ∀ v, E.get d = some v → ∃ cv, a.tmps[d]? = some cv ∧ RV φ v cv := fun v hv => by
        have h1 := hE.2.1 d v hv
        have hlt : d < E.n := by unfold AEnv.get at hv; split at hv <;> first | assumption | cases hv
        rw [← hE.1] at hlt
        refine ⟨a.tmps[d], Array.getElem?_eq_getElem hlt, ?_⟩
        simpa [Array.getD_eq_getD_getElem?, Array.getElem?_eq_getElem hlt] using h1
      split at h
      · rename_i c hc
        obtain ⟨cv, h1, h2⟩ := hget _ hc
        cases h2
        rw [hy, h1]
        cases h
        rfl
      · rename_i c hc
        obtain ⟨cv, h1, h2⟩ := hget _ hc
        cases h2
        rw [hy, h1]
        cases h
        rfl
      · cases h
    · rename_i hd
      cases h
      have hy : yielded ops a.tmps j = none := by
        unfold yielded; rw [hd]; rfl
      rw [hy]; rfl

theorem put_defers (a : Act) (d : Option Tmp) (v : Value) : (a.put d v).defers = a.defers := by cases d <;> rfl

theorem AOps.sound {ops : Array Oper} {rb : Nat → Option Nat} : ∀ (l : List Nat) (E : AEnv) (H : AHeap), AOps P ops rb Q l E H → ∀ w0 fr φ w a, Rel P w0 fr φ H w → RelE φ E a → wpOps P ops (Lift P w0 fr φ Q) l a w := by
  intro l
  induction l with
  | nil => intro E H h w0 fr φ w a hR hE; exact ⟨.normal, E, H, φ, Plan.le_refl φ, hR, hE, .normal, h⟩
  | cons i l ih =>
    intro E H h w0 fr φ w a hR hE
    simp only [AOps] at h
    simp only [wpOps]
    split at h
    · rename_i hi; rw [hi]; exact ih E H h w0 fr φ w a hR hE
    · rename_i o hi
      rw [hi]
      simp only
      have go : ∀ ψ E' H' w' a', φ.le ψ → Rel P w0 fr ψ H' w' → RelE ψ E' a' → AOps P ops rb Q l E' H' → wpOps P ops (Lift P w0 fr φ Q) l a' w' := by
        intro ψ E' H' w' a' hp hR' hE' h'
        have := ih E' H' h' w0 fr ψ w' a' hR' hE'
        have hmono : ∀ (l : List Nat) (a : Act) (w : World) (Q1 Q2 : Exit → Act → World → Prop), (∀ e a w, Q1 e a w → Q2 e a w) → wpOps P ops Q1 l a w → wpOps P ops Q2 l a w := by
          intro l
          induction l with
          | nil => intro a w Q1 Q2 hq h; exact hq _ _ _ h
          | cons i l ih =>
            intro a w Q1 Q2 hq h
            simp only [wpOps] at h ⊢
            split
            · rename_i hi; rw [hi] at h; exact ih a w Q1 Q2 hq h
            · rename_i o hi
              rw [hi] at h
              simp only at h
              split
              · rename_i hw
                rw [if_pos hw] at h
                rcases h with h | ⟨h1, a0, w0, h2⟩
                · left
                  unfold Oper.wp at h ⊢
                  generalize (execOp a.eval o).run P w = r at h
                  cases r with
                  | ok n w' =>
                    cases n <;> simp only [Oper.upon] at h ⊢ <;> first
                      | exact ih _ _ Q1 Q2 hq h
                      | exact Calls.mono h (fun e w'' he => by
                          cases e with
                          | returned v => exact ih _ _ Q1 Q2 hq he
                          | panicked c => exact hq _ _ _ he
                          | outgrown => obtain ⟨a1, w1, h1⟩ := he; exact ⟨a1, w1, hq _ _ _ h1⟩)
                      | exact Rows.mono h (fun _ _ he => ih _ _ Q1 Q2 hq he)
                  | halt x w' => cases x <;> simp only [Oper.upon] at h ⊢ <;> first | exact hq _ _ _ h | exact h
                · exact .inr ⟨h1, a0, w0, hq _ _ _ h2⟩
              · rename_i hw
                rw [if_neg hw] at h
                exact ih _ _ Q1 Q2 hq h
        exact hmono l a' w' _ _ (fun e a w hl => hl.mono hp (fun _ _ _ q => q)) this
      split at h
      · rename_i hg
        rw [guardA_run hE hg]
        simp only [if_true]
        left
        unfold execR at h
        unfold Oper.wp
        split at h
        · rename_i id e hfill
          obtain ⟨_, hop⟩ := isFill_spec hfill
          obtain ⟨z, hz, hid, hK⟩ := h
          obtain ⟨z1, z2⟩ := run_zeroC hz w
          have hzr := (RV.of_closed (φ := φ) z2).cells
          obtain ⟨q1, q2⟩ := hR.fill hid.1 (.cells (vcells z).toArray e) (.cells (vcells z) e false) ⟨w.heap.size, 0, (vcells z).length, P.cellsOf e⟩ rfl fun ψ hψ =>
            Lies.newCells ψ hR.fresh (fun j v hv => let ⟨y, a, b⟩ := hzr.get hv; ⟨y, by simpa using a, b.mono hψ⟩) (by simp) (by simp)
          have hrun : (execOp a.eval o).run P w = .ok (.value (.pointer (some ⟨w.heap.size, 0, none⟩))) (w.alloc (.cells (vcells z).toArray e)) := by
            have hc : z.cells = (vcells z).toArray := by rw [← Array.toList_inj, vcells_eq]
            simp only [execOp, hop, Instr.alloc, Sem.run_bind, z1, Result.andThen_ok, newVar, newRow, newObj, hc]
            simp only [Sem.run, Result.andThen_ok, Sem.run_pure, World.alloc]
          rw [hrun, Oper.upon_value]
          have hp : RV (φ.put id ⟨w.heap.size, 0, (vcells z).length, P.cellsOf e⟩) (.pointer (some ⟨id, 0, none⟩)) (.pointer (some ⟨w.heap.size, 0 + 0, none⟩)) :=
            .ptr (l := ⟨w.heap.size, 0, (vcells z).length, P.cellsOf e⟩) (by simp [Plan.put])
          exact go _ _ _ _ _ q2 q1 ((hE.mono q2).put _ hp) hK
        unfold execA at h
        split at h
        · obtain ⟨v, hv, hK⟩ := h
          obtain ⟨cv, h1, h2⟩ := pexec_run hE hv w
          rw [h1, Oper.upon_value]
          exact go φ _ _ w _ (Plan.le_refl φ) hR (hE.put _ h2) hK
        · obtain ⟨v, hv, hK⟩ := h
          obtain ⟨cv, h1, h2⟩ := rexec_run hR hE hv
          rw [h1, Oper.upon_value]
          exact go φ _ _ w _ (Plan.le_refl φ) hR (hE.put _ h2) hK
        · obtain ⟨v, H', hv, hK⟩ := h
          obtain ⟨nx, cv, w', ψ, h1, h2, h3, h4, h5⟩ := wexec_run hR hE hv
          rw [h1]
          rcases h2 with rfl | ⟨rfl, rfl⟩
          · rw [Oper.upon_value]
            exact go ψ _ _ w' _ h3 h4 ((hE.mono h3).put _ h5) hK
          · rw [Oper.upon_skip]
            exact go ψ _ _ w' _ h3 h4 ((hE.mono h3).put _ h5) hK
        · obtain ⟨g, args, hc, hdo⟩ := h
          unfold callee at hc
          split at hc
          · rename_i c hop
            split at hc
            · rename_i f hf
              split at hc
              · rename_i g' first cap vs hev hvs
                cases hc
                have hfun := hE.eval hev
                generalize hfe : a.eval f = fv at hfun
                cases hfun with
                | func fn s1 r1 s2 r2 =>
                  rename_i first' cap'
                  have hargs : RL φ (first.toList ++ vs ++ cap.toList) (first' ++ c.args.map a.eval ++ cap').toList := by
                    have e1 := RA.list.1 ⟨s1, r1⟩
                    have e2 := RA.list.1 ⟨s2, r2⟩
                    have e3 := evals_run hE _ _ hvs
                    have := (e1.append e3).append e2
                    simpa using this
                  have hto : (execOp a.eval o).run P w = (callFunc g (first' ++ c.args.map a.eval ++ cap')).run P w := by
                    simp only [execOp, hop, resolve, hf, hfe, Sem.run_bind, Deferred.ofValue, Sem.run_pure, Result.andThen_ok, invoke]
                  rcases hdo with ⟨hent, hcall⟩ | ⟨v, H', hx, hK⟩
                  · rw [hto, enters_run hent _ w, Oper.upon_enter]
                    refine (hcall w0 fr φ w _ hR hargs).mono ?_
                    rintro e w' ⟨ae, H', ψ, q1, q2, q3, q4⟩
                    cases q3 with
                    | ret r => exact go ψ _ _ w' _ q1 q2 ((hE.mono q1).put _ r) q4
                    | panic r => exact ⟨_, AEnv.none ops E, H', ψ, q1, q2, (hE.mono q1).none, .panic r, q4⟩
                  · obtain ⟨cv, w', e1, e2, e3⟩ := extA_run hx hR hargs
                    rw [hto, e1, Oper.upon_value]
                    exact go φ _ _ w' _ (Plan.le_refl φ) e2 (hE.put _ e3) hK
              · cases hc
            · cases hc
          · cases hc
        · obtain ⟨v, hv, hK⟩ := h
          unfold panicked at hv
          split at hv
          · rename_i x hop
            split at hv
            · rename_i t u hx
              cases hv
              have hr := hE.eval hx
              generalize hxe : a.eval x = xv at hr
              cases hr with
              | iface _ r =>
                have hrun : (execOp a.eval o).run P w = .halt (.panic (a.eval x)) w := by
                  simp only [execOp, hop, hxe]; rfl
                rw [hrun, Oper.upon_panic, hxe]
                exact ⟨_, AEnv.none ops E, H, φ, Plan.le_refl φ, hR, hE.none, .panic (.iface t r), hK⟩
            · cases hv
          · cases hv
      · rename_i hg
        rw [guardA_run hE hg]
        simp only [Bool.false_eq_true, if_false]
        exact go φ _ _ w _ (Plan.le_refl φ) hR (hE.put _ (.undef φ)) h
      · exact h.elim

theorem AWp.region {id : Nat} {ops : Array Oper} (h : AOps P ops (fun _ => none) Q (List.range ops.size) E H) : AWp P (.region id ops false) Q E H :=
  fun w0 fr φ w a hR hE => wp_region (AOps.sound _ E H h w0 fr φ w a hR hE)

/-! ### Functions -/
def AEnv.enter (n : Nat) (args : List Value) : AEnv := ⟨n, fun t => args[t]?, []⟩
/-- What a function answers with, its results in variables of the frame. -/
def resultsV (P : Program) (E : AEnv) (H : AHeap) : List ResultVar → Option (List Value)
  | [] => some []
  | .tmp t :: r => match E.get t, resultsV P E H r with
    | some v, some vs => some (v :: vs)
    | _, _ => none
  | .cell p t :: r => match E.get p with
    | some pv => match aload P H t pv, resultsV P E H r with
      | some v, some vs => some (v :: vs)
      | _, _ => none
    | none => none
def tupleA : List Value → Value
  | [v] => v
  | vs => .tuple vs.toArray

theorem resultsV_run {w0 : World} {fr : Nat → Option Obj} {φ : Plan} {w : World} {a : Act} (hR : Rel P w0 fr φ H w) (hE : RelE φ E a) : ∀ (rs : List ResultVar) (vs : List Value), resultsV P E H rs = some vs →
    ∃ cs, (rs.mapM fun
      | .tmp t => pure (a.tmps.getD t undef)
      | .cell p t => do loadVar t (← asAddr (a.tmps.getD p undef)) : Sem (List Value)).run P w = .ok cs w ∧ RL φ vs cs := by
  intro rs
  induction rs with
  | nil => intro vs h; cases h; exact ⟨[], rfl, RL.nil φ⟩
  | cons x rs ih =>
    intro vs h
    cases x with
    | tmp t =>
      simp only [resultsV] at h
      split at h
      · rename_i v us hv hu
        cases h
        obtain ⟨cs, h1, h2⟩ := ih us hu
        refine ⟨a.tmps.getD t undef :: cs, ?_, h2.cons (hE.2.1 t v hv)⟩
        rw [List.mapM_cons]
        simp only [Sem.run_bind, Sem.run_pure, Result.andThen_ok, h1]
      · cases h
    | cell p t =>
      simp only [resultsV] at h
      split at h
      · rename_i pv hp
        split at h
        · rename_i v us hv hu
          cases h
          obtain ⟨cs, h1, h2⟩ := ih us hu
          have hpv := hE.2.1 p pv hp
          obtain ⟨cv, q1, q2⟩ := load_run hR hv hpv
          refine ⟨cv :: cs, ?_, h2.cons q2⟩
          rw [List.mapM_cons]
          have hld : (do loadVar t (← asAddr (a.tmps.getD p undef)) : Sem Value).run P w = .ok cv w := by
            unfold aload at hv
            split at hv
            · generalize a.tmps.getD p undef = cp at hpv q1
              cases hpv with
              | ptr e => exact q1
            · cases hv
          simp only [Sem.run_bind] at hld ⊢
          rw [hld]
          simp only [Result.andThen_ok, h1, Sem.run_pure]
        · cases h
      · cases h

theorem results_run {w0 : World} {fr : Nat → Option Obj} {φ : Plan} {w : World} {a : Act} (hR : Rel P w0 fr φ H w) (hE : RelE φ E a) {fn : Func} {vs : List Value} (h : resultsV P E H fn.results.toList = some vs) :
    ∃ cv, (results fn a.tmps).run P w = .ok cv w ∧ RV φ (tupleA vs) cv := by
  obtain ⟨cs, h1, h2⟩ := resultsV_run hR hE _ _ h
  have hm : (fn.results.mapM fun
      | .tmp t => pure (a.tmps.getD t undef)
      | .cell p t => do loadVar t (← asAddr (a.tmps.getD p undef)) : Sem (Array Value)).run P w = .ok cs.toArray w := by
    rw [Array.mapM_eq_mapM_toList, Sem.run_map, h1]
    rfl
  by_cases h1 : cs.length = 1
  · obtain ⟨c, rfl⟩ := List.length_eq_one_iff.1 h1
    obtain ⟨v, rfl⟩ := List.length_eq_one_iff.1 (show vs.length = 1 by rw [h2.1]; rfl)
    refine ⟨c, ?_, h2.2 0 v c rfl rfl⟩
    unfold results
    rw [Sem.run_bind]
    erw [hm]
    rfl
  · refine ⟨.tuple cs.toArray, ?_, ?_⟩
    · unfold results
      rw [Sem.run_bind]
      erw [hm]
      simp only [Result.andThen_ok]
      rw [dif_neg (by simpa using h1)]
      rfl
    · have hv : vs.length ≠ 1 := by rw [h2.1]; exact h1
      have : tupleA vs = .tuple vs.toArray := by
        match vs, hv with
        | [], _ => rfl
        | [x], hv => exact absurd rfl hv
        | x :: y :: r, _ => rfl
      rw [this]
      exact .of_RAt (RA.list.2 (by simpa using h2))

/-- (With nothing deferred.) -/
def resultsA (P : Program) (E : AEnv) (H : AHeap) (l : List ResultVar) : Option (List Value) := if E.ds.isEmpty then resultsV P E H l else none
theorem resultsA_some {H : AHeap} {l : List ResultVar} {vs : List Value} (h : resultsA P E H l = some vs) : E.ds = [] ∧ resultsV P E H l = some vs := by
  unfold resultsA at h
  split at h
  · rename_i hd; exact ⟨List.isEmpty_iff.1 hd, h⟩
  · cases h
def finA (P : Program) (fn : Func) (R : AEnd → AHeap → Prop) : AExit → AEnv → AHeap → Prop
  | .normal, E, H | .ret, E, H => ∃ vs, resultsA P E H fn.results.toList = some vs ∧ R (.ret (tupleA vs)) H
  | .panic v, E, H => E.ds = [] ∧ R (.panic v) H
  | _, _, _ => False

theorem ACall.of_body {f : FuncId} {fn : Func} {c : Code} {args : List Value} {R : AEnd → AHeap → Prop} (hf : P.funcs[f]? = some fn) (hb : fn.body = some c) (hn : args.length ≤ fn.ntmps)
    (h : AWp P c (finA P fn R) (AEnv.enter fn.ntmps args) H) : ACall P f args H R := by
  intro w0 fr φ w cs hR hA
  have hl : cs.size = args.length := by rw [← Array.length_toList, hA.1]
  have hE : RelE φ (AEnv.enter fn.ntmps args) { tmps := cs ++ Array.replicate (fn.ntmps - cs.size) undef, defers := [] } := by
    refine ⟨by simp [AEnv.enter]; omega, fun t v ht => ?_, trivial⟩
    unfold AEnv.get AEnv.enter at ht
    simp only at ht
    split at ht
    · obtain ⟨y, hy, r⟩ := hA.get ht
      have hlt : t < cs.size := by
        rcases Nat.lt_or_ge t cs.size with h1 | h1
        · exact h1
        · rw [List.getElem?_eq_none (by simpa using h1)] at hy; cases hy
      simp only [Array.getD_eq_getD_getElem?]
      rw [Array.getElem?_append_left hlt]
      rw [Array.getElem?_toList] at hy
      rw [hy]; exact r
    · cases ht
  refine calls_of_wp hf hb (wp_mono (h w0 fr φ w _ hR hE) fun e a w' hl => ?_)
  obtain ⟨ae, E', H', ψ, q1, q2, q3, q5, q6⟩ := hl
  cases q5 with
  | normal =>
    obtain ⟨vs, r1, r2⟩ := q6
    obtain ⟨r0, r1⟩ := resultsA_some r1
    obtain ⟨cv, s1, s2⟩ := results_run q2 q3 r1
    exact ⟨RelD.nil (φ := ψ) (r0 ▸ q3.2.2), cv, s1, _, H', ψ, q1, q2, .ret s2, r2⟩
  | ret =>
    obtain ⟨vs, r1, r2⟩ := q6
    obtain ⟨r0, r1⟩ := resultsA_some r1
    obtain ⟨cv, s1, s2⟩ := results_run q2 q3 r1
    exact ⟨RelD.nil (φ := ψ) (r0 ▸ q3.2.2), cv, s1, _, H', ψ, q1, q2, .ret s2, r2⟩
  | exit id => exact q6.elim
  | goto l => exact q6.elim
  | panic r => exact ⟨RelD.nil (φ := ψ) (q6.1 ▸ q3.2.2), _, H', ψ, q1, q2, .panic r, q6.2⟩
end
end Go.Proofs.YtfolofhknhgpiaaGreatDoor
