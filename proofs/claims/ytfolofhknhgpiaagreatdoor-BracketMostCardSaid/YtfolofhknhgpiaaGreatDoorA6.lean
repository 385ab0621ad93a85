/- Operations over abstract heaps that only reckon: one function for all, and that it is sound. -/
import Derived.Test.YtfolofhknhgpiaaGreatDoorA5
set_option linter.unusedVariables false
set_option linter.unusedSimpArgs false
namespace Go.Proofs.YtfolofhknhgpiaaGreatDoor
open Go

def anilCheck (v : Value) : Option Value :=
  match v with
  | .pointer (some a) => some (.pointer (some a))
  | .func (.func f) x y => some (.func (.func f) x y)
  | .iface t v => some (.iface t v)
  | _ => none
def aextract (v : Value) (i : Nat) : Option Value := match v with | .tuple vs => vs[i]? | _ => none
def aconv (P : Program) (src dst : Nat) (v : Value) : Option Value :=
  if (P.underlying src).isSome = true then
    match v with
    | .int _ n => match intT P dst with
      | some k => some (.int k (k.wrap n))
      | none => none
    | .string s => if stringT P dst = true then some (.string s) else none
    | _ => none
  else none
def aiface (P : Program) (t : Nat) (v : Value) : Option Value := if ifaceT P t = some false then some (.iface t v) else none
def alen (P : Program) (t : Nat) (v : Value) : Option Value :=
  match v with
  | .string s => if stringT P t = true then some (.int .i64 s.size) else none
  | .slice _ n _ => match sliceT P t with
    | some _ => some (.int .i64 n)
    | none => none
  | _ => none
/-- Functions of the language on numbers and strings alone. -/
def ascal (P : Program) (s : Sem Value) : Option Value := (runPure P s).bind fun v => if scalar v then some v else none
def abuiltin (P : Program) (b : Builtin) (ts : List TypeId) (ty : TypeId) (vs : List Value) : Option Value :=
  match b with
  | .len => match ts, vs with
    | [t], [v] => alen P t v
    | _, _ => none
  | .min => if vs.all scalar then ascal P (Builtin.min_ ts.toArray ty vs.toArray) else none
  | .max => if vs.all scalar then ascal P (Builtin.max_ ts.toArray ty vs.toArray) else none
  | _ => none

def evals (E : AEnv) : List Operand → Option (List Value)
  | [] => some []
  | x :: r => match E.eval x, evals E r with
    | some v, some vs => some (v :: vs)
    | _, _ => none
def evalps (E : AEnv) : List (Nat × Operand) → Option (List (Nat × Value))
  | [] => some []
  | (i, x) :: r => match E.eval x, evalps E r with
    | some v, some vs => some ((i, v) :: vs)
    | _, _ => none
def evalo (E : AEnv) : Option Operand → Option (Option Value)
  | none => some none
  | some x => match E.eval x with
    | some v => some (some v)
    | none => none

/-- A type asserted of an interface's value: a type of its own. -/
def aassert (P : Program) (t : TypeId) (ok : Bool) (v : Value) : Option Value :=
  match ifaceT P t, v with
  | some false, .iface t' u => if t' = t then some (if ok then .tuple #[u, .bool true] else u) else if ok then (match zeroC P t with
    | some z => some (.tuple #[z, .bool false])
    | none => none) else none
  | some false, .nilIface => if ok then (match zeroC P t with
    | some z => some (.tuple #[z, .bool false])
    | none => none) else none
  | _, _ => none
theorem assert_run {P : Program} {φ : Plan} {x t : TypeId} {ok : Bool} {v c u : Value} (h : aassert P t ok v = some u) (r : RV φ v c) (w : World) :
    ∃ cu, (Instr.typeAssert c x t ok).run P w = .ok cu w ∧ RV φ u cu := by
  have pair : ∀ {a b : Value} (b1 : Bool), RV φ a b → RV φ (.tuple #[a, .bool b1]) (.tuple #[b, .bool b1]) := fun b1 h =>
    .of_RAt (RA.list.2 ((RL.nil φ).cons (.bool b1) |>.cons h))
  unfold aassert at h
  split at h
  · rename_i t' v' hi
    cases r with
    | iface _ r =>
      rename_i cv
      obtain ⟨y, hy, hn⟩ : ∃ y, P.underlying t = some y ∧ ∀ s, y ≠ .interface s := by
        unfold ifaceT at hi
        split at hi
        · cases hi
        · rename_i y hne hy; exact ⟨y, hy, fun s e => hne s e⟩
        · cases hi
      have hu : (underlying t : Sem TypeDesc).run P w = .ok y w := run_underlying hy w
      have hrun : (Instr.typeAssert (.iface t' cv) x t ok).run P w = (if t' = t then (pure (if ok then .tuple #[cv, .bool true] else cv) : Sem Value) else
          (if ok then (do pure (.tuple #[← zeroValue t, .bool false])) else runtimePanic (.typeAssertion (some x) (some t') t ""))).run P w := by
        unfold Instr.typeAssert
        rw [Sem.run_bind, hu, Result.andThen_ok]
        cases y <;> first | exact absurd rfl (hn _) | rfl
      split at h
      · rename_i he
        cases h
        rw [hrun, if_pos he]
        cases ok
        · exact ⟨cv, rfl, r⟩
        · exact ⟨_, rfl, pair true r⟩
      · rename_i he
        split at h
        · rename_i hok
          split at h
          · rename_i z hz
            cases h
            obtain ⟨z1, z2⟩ := run_zeroC hz w
            rw [hrun, if_neg he, if_pos hok, Sem.run_bind, z1]
            exact ⟨_, rfl, pair false (.of_closed z2)⟩
          · cases h
        · cases h
  · rename_i hi
    cases r with
    | nilIface =>
      obtain ⟨y, hy, hn⟩ : ∃ y, P.underlying t = some y ∧ ∀ s, y ≠ .interface s := by
        unfold ifaceT at hi
        split at hi
        · cases hi
        · rename_i y hne hy; exact ⟨y, hy, fun s e => hne s e⟩
        · cases hi
      have hu : (underlying t : Sem TypeDesc).run P w = .ok y w := run_underlying hy w
      have hrun : (Instr.typeAssert .nilIface x t ok).run P w = (if ok then (do pure (.tuple #[← zeroValue t, .bool false])) else runtimePanic (.typeAssertion (some x) none t "") : Sem Value).run P w := by
        unfold Instr.typeAssert
        rw [Sem.run_bind, hu, Result.andThen_ok]
        cases y <;> first | exact absurd rfl (hn _) | rfl
      split at h
      · rename_i hok
        split at h
        · rename_i z hz
          cases h
          obtain ⟨z1, z2⟩ := run_zeroC hz w
          rw [hrun, if_pos hok, Sem.run_bind, z1]
          exact ⟨_, rfl, pair false (.of_closed z2)⟩
        · cases h
      · cases h
  · cases h

/-- An operation that only reckons. -/
def pexec (P : Program) (E : AEnv) (o : Oper) : Option Value :=
  match o.op with
  | .move x | .assign x => E.eval x
  | .pick c x y => match E.eval c with
    | some (.bool true) => E.eval x
    | some (.bool false) => E.eval y
    | _ => none
  | .binOp op t x y _ => match E.eval x, E.eval y with
    | some a, some b => abin P op t x y a b
    | _, _ => none
  | .unOp op _ x => match E.eval x with
    | some a => aun op a
    | none => none
  | .convert s d x => match E.eval x with
    | some a => aconv P s d a
    | none => none
  | .makeInterface t x => match E.eval x with
    | some a => aiface P t a
    | none => none
  | .makeFunc fn f c => match evals E f.toList, evals E c.toList with
    | some f, some c => some (.func fn f.toArray c.toArray)
    | _, _ => none
  | .build t ps => match evalps E ps.toList with
    | some ps => abuild P t ps
    | none => none
  | .fieldAddr s x i => match E.eval x with
    | some a => afieldAddr P s i a
    | none => none
  | .field s x i => match E.eval x with
    | some a => afield P s i a
    | none => none
  | .indexAddr t x i => match E.eval x, E.eval i with
    | some a, some b => aindexAddr P t a b
    | _, _ => none
  | .index t x i => match E.eval x, E.eval i with
    | some a, some b => aindex P t a b
    | _, _ => none
  | .slice t x lo hi mx => match E.eval x, evalo E lo, evalo E hi, evalo E mx with
    | some a, some lo, some hi, some mx => aslice P t a lo hi mx
    | _, _, _, _ => none
  | .extract x i => match E.eval x with
    | some a => aextract a i
    | none => none
  | .nilCheck x => match E.eval x with
    | some a => anilCheck a
    | none => none
  | .typeAssert x _ t ok => match E.eval x with
    | some a => aassert P t ok a
    | none => none
  | .call c => match c.callee with
    | .builtin b => match evals E c.args.toList with
      | some vs => abuiltin P b c.argTypes.toList o.type vs
      | none => none
    | _ => none
  | _ => none

theorem evals_run {φ : Plan} {E : AEnv} {a : Act} (he : RelE φ E a) : ∀ (l : List Operand) (vs : List Value), evals E l = some vs → RL φ vs (l.map a.eval) := by
  intro l
  induction l with
  | nil => intro vs h; cases h; exact RL.nil φ
  | cons x l ih =>
    intro vs h
    simp only [evals] at h
    split at h
    · rename_i v us hv hu
      cases h
      exact (ih _ hu).cons (he.eval hv)
    · cases h
theorem evalps_run {φ : Plan} {E : AEnv} {a : Act} (he : RelE φ E a) : ∀ (l : List (Nat × Operand)) (vs : List (Nat × Value)), evalps E l = some vs → RP φ vs (l.map fun p => (p.1, a.eval p.2)) := by
  intro l
  induction l with
  | nil => intro vs h; cases h; exact ⟨rfl, fun i p q h => by simp at h⟩
  | cons x l ih =>
    intro vs h
    obtain ⟨i, x⟩ := x
    simp only [evalps] at h
    split at h
    · rename_i v us hv hu
      cases h
      obtain ⟨p, q⟩ := ih _ hu
      refine ⟨by simp [p], fun k c d h1 h2 => ?_⟩
      cases k with
      | zero => simp at h1 h2; subst h1 h2; exact ⟨rfl, he.eval hv⟩
      | succ k => exact q k c d (by simpa using h1) (by simpa using h2)
    · cases h
theorem evalo_run {φ : Plan} {E : AEnv} {a : Act} (he : RelE φ E a) {x : Option Operand} {v : Option Value} (h : evalo E x = some v) : RO φ v (x.map a.eval) := by
  cases x with
  | none => cases h; exact .none
  | some x =>
    simp only [evalo] at h
    split at h
    · rename_i v' hv; cases h; exact .some (he.eval hv)
    · cases h

theorem nilCheck_run {P : Program} {φ : Plan} {x cx v : Value} (h : anilCheck x = some v) (hx : RV φ x cx) (w : World) :
    ∃ cv, ((match cx with
    | .pointer none | .nilIface | .nilFunc => runtimePanic .nilDeref
    | .func (.method name) first captured =>
      match (first[0]? : Option Value) with
      | some .nilIface => runtimePanic .nilDeref
      | some (.iface t w) => do
        if (← nilAhead ((← program).types.size + Made.depth) t w name) != some false then
          unsupported (.noEntry "op/nilCheck.the method's receiver behind this interface value is a nil pointer, or cannot be seen to be none, and the arguments act or may panic (ledger 612)")
        pure (.value (.func (.method name) first captured))
      | _ => pure (.value (.func (.method name) first captured))
    | x => pure (.value x)) : Sem Next).run P w = .ok (.value cv) w ∧ RV φ v cv := by
  unfold anilCheck at h
  split at h
  · cases h; cases hx with | ptr e => exact ⟨_, rfl, .ptr e⟩
  · cases h; cases hx with | func fn a b c d => exact ⟨_, rfl, .func _ a b c d⟩
  · cases h; cases hx with | iface _ e => exact ⟨_, rfl, .iface _ e⟩
  · cases h

theorem intT_spec {P : Program} {t : Nat} {k : IntKind} (h : intT P t = some k) : P.underlying t = some (.int k) := by
  unfold intT at h
  split at h
  · cases h; assumption
  · cases h
theorem conv_run {P : Program} {φ : Plan} {s d : Nat} {x cx v : Value} (h : aconv P s d x = some v) (hx : RV φ x cx) (w : World) : (convert s d cx).run P w = .ok v w ∧ RV φ v v := by
  unfold aconv at h
  split at h
  · rename_i hs
    obtain ⟨ds, hds⟩ := Option.isSome_iff_exists.1 hs
    split at h
    · split at h
      · rename_i k hk
        cases h; cases hx
        refine ⟨?_, .int _ _⟩
        simp only [convert, Sem.run_bind, run_underlying hds, Result.andThen_ok, run_underlying (intT_spec hk)]
        rfl
      · cases h
    · split at h
      · rename_i hk
        cases h; cases hx
        refine ⟨?_, .string _⟩
        simp only [convert, Sem.run_bind, run_underlying hds, Result.andThen_ok, run_underlying (stringT_spec hk)]
        cases ds <;> rfl
      · cases h
    · cases h
  · cases h

theorem iface_run {P : Program} {φ : Plan} {t : Nat} {x cx v : Value} (h : aiface P t x = some v) (hx : RV φ x cx) (w : World) : (Instr.makeInterface t cx).run P w = .ok (.iface t cx) w ∧ RV φ v (.iface t cx) := by
  unfold aiface at h
  split at h
  · rename_i hi
    cases h
    refine ⟨?_, .iface t hx⟩
    unfold ifaceT at hi
    split at hi
    · cases hi
    · rename_i d hn hu
      simp only [Instr.makeInterface, Sem.run_bind, run_underlying hu, Result.andThen_ok]
      rfl
    · cases hi
  · cases h

theorem len_run {P : Program} {φ : Plan} {t ty : Nat} {x cx v : Value} (h : alen P t x = some v) (hx : RV φ x cx) (w : World) : (Builtin.len_ #[t] ty #[cx]).run P w = .ok v w ∧ RV φ v v := by
  unfold alen at h
  split at h
  · split at h
    · rename_i hs
      cases h; cases hx
      refine ⟨?_, .int _ _⟩
      simp [Builtin.len_, run_underlying (stringT_spec hs), goInt]
    · cases h
  · split at h
    · rename_i e hs
      obtain ⟨e, s, b⟩ := e
      obtain ⟨hu, _⟩ := sliceT_spec hs
      cases h
      cases hx <;> exact ⟨by simp [Builtin.len_, run_underlying hu, goInt], .int _ _⟩
    · cases h
  · cases h

theorem builtin_run {P : Program} {φ : Plan} {b : Builtin} {ts : Array TypeId} {ty : TypeId} {vs : List Value} {cs : Array Value} {v : Value} (h : abuiltin P b ts.toList ty vs = some v) (hv : RL φ vs cs.toList) (consts : Array Bool) (w : World) :
    (builtin b ts ty consts cs).run P w = .ok (.value v) w ∧ RV φ v v := by
  unfold abuiltin at h
  split at h
  · split at h
    · rename_i t x hts
      have : ts = #[t] := by
        have : ts.toList = [t] := hts
        rw [← Array.toList_inj, this]
      subst this
      obtain ⟨y, hy, r⟩ := hv.get (i := 0) rfl
      have hl := hv.1
      have hcs : cs = #[y] := by
        rw [← Array.toList_inj]
        have hl' : cs.toList.length = 1 := hl.symm
        match hc : cs.toList, hl' with
        | [z], _ => rw [hc] at hy; simp at hy; subst hy; rfl
      subst hcs
      obtain ⟨p, q⟩ := len_run (P := P) (ty := ty) h r w
      exact ⟨by simp only [builtin, Sem.run_bind, p]; rfl, q⟩
    · cases h
  · split at h
    · rename_i hsc
      have e := hv.scalar_eq hsc
      have hcs : cs = vs.toArray := by rw [← Array.toList_inj, e]
      subst hcs
      unfold ascal at h
      obtain ⟨u, hu, hu2⟩ := Option.bind_eq_some_iff.1 h
      split at hu2
      · rename_i hs
        cases hu2
        exact ⟨by simp only [builtin, Sem.run_bind]; rw [show ts = ts.toList.toArray by simp, runPure_run _ hu w]; rfl, .of_scalar hs⟩
      · cases hu2
    · cases h
  · split at h
    · rename_i hsc
      have e := hv.scalar_eq hsc
      have hcs : cs = vs.toArray := by rw [← Array.toList_inj, e]
      subst hcs
      unfold ascal at h
      obtain ⟨u, hu, hu2⟩ := Option.bind_eq_some_iff.1 h
      split at hu2
      · rename_i hs
        cases hu2
        exact ⟨by simp only [builtin, Sem.run_bind]; rw [show ts = ts.toList.toArray by simp, runPure_run _ hu w]; rfl, .of_scalar hs⟩
      · cases hu2
    · cases h
  · cases h

theorem pexec_run {P : Program} {φ : Plan} {E : AEnv} {a : Act} (he : RelE φ E a) {o : Oper} {v : Value} (h : pexec P E o = some v) (w : World) :
    ∃ cv, (execOp a.eval o).run P w = .ok (.value cv) w ∧ RV φ v cv := by
  have val : ∀ (s : Sem Value) (cv : Value), s.run P w = .ok cv w → (do pure (Next.value (← s)) : Sem Next).run P w = .ok (.value cv) w := fun s cv hs => by
    rw [Sem.run_bind, hs]; rfl
  unfold pexec at h
  unfold execOp
  split at h
  · rename_i x hop; simp only [hop]; exact ⟨_, rfl, he.eval h⟩
  · rename_i x hop; simp only [hop]; exact ⟨_, rfl, he.eval h⟩
  · rename_i c x y hop
    simp only [hop]
    split at h
    · rename_i hc
      have := he.eval hc
      generalize a.eval c = cc at this
      cases this
      exact ⟨_, rfl, he.eval h⟩
    · rename_i hc
      have := he.eval hc
      generalize a.eval c = cc at this
      cases this
      exact ⟨_, rfl, he.eval h⟩
    · cases h
  · rename_i op t x y _ hop
    simp only [hop]
    split at h
    · rename_i p q hp hq
      obtain ⟨h1, h2⟩ := binOp_run h (he.eval hp) (he.eval hq) w
      exact ⟨v, val _ _ h1, h2⟩
    · cases h
  · rename_i op _ x hop
    simp only [hop]
    split at h
    · rename_i p hp
      obtain ⟨h1, h2⟩ := unOp_run (P := P) h (he.eval hp) w
      exact ⟨v, val _ _ h1, h2⟩
    · cases h
  · rename_i s d x hop
    simp only [hop]
    split at h
    · rename_i p hp
      obtain ⟨h1, h2⟩ := conv_run h (he.eval hp) w
      exact ⟨v, val _ _ h1, h2⟩
    · cases h
  · rename_i t x hop
    simp only [hop]
    split at h
    · rename_i p hp
      obtain ⟨h1, h2⟩ := iface_run h (he.eval hp) w
      exact ⟨_, val _ _ h1, h2⟩
    · cases h
  · rename_i fn f c hop
    simp only [hop]
    split at h
    · rename_i f' c' hf hc
      cases h
      have h1 := RA.list.2 (show RL φ f'.toArray.toList (f.map a.eval).toList by simpa using evals_run he _ _ hf)
      have h2 := RA.list.2 (show RL φ c'.toArray.toList (c.map a.eval).toList by simpa using evals_run he _ _ hc)
      exact ⟨.func fn (f.map a.eval) (c.map a.eval), val _ _ rfl, .func fn h1.1 h1.2 h2.1 h2.2⟩
    · cases h
  · rename_i t ps hop
    simp only [hop]
    split at h
    · rename_i qs hq
      have hr := evalps_run he _ _ hq
      obtain ⟨cv, h1, h2⟩ := build_run (P := P) (qs := ps.map fun p => (p.1, a.eval p.2)) (by simpa using hr) h w
      exact ⟨cv, val _ _ h1, h2⟩
    · cases h
  · rename_i s x i hop
    simp only [hop]
    split at h
    · rename_i p hp
      obtain ⟨cv, h1, h2⟩ := fieldAddr_run h (he.eval hp) w
      exact ⟨cv, val _ _ h1, h2⟩
    · cases h
  · rename_i s x i hop
    simp only [hop]
    split at h
    · rename_i p hp
      obtain ⟨cv, h1, h2⟩ := field_run h (he.eval hp) w
      exact ⟨cv, val _ _ h1, h2⟩
    · cases h
  · rename_i t x i hop
    simp only [hop]
    split at h
    · rename_i p q hp hq
      obtain ⟨cv, h1, h2⟩ := indexAddr_run h (he.eval hp) (he.eval hq) w
      exact ⟨cv, val _ _ h1, h2⟩
    · cases h
  · rename_i t x i hop
    simp only [hop]
    split at h
    · rename_i p q hp hq
      obtain ⟨cv, h1, h2⟩ := index_run h (he.eval hp) (he.eval hq) w
      exact ⟨cv, val _ _ h1, h2⟩
    · cases h
  · rename_i t x lo hi mx hop
    simp only [hop]
    split at h
    · rename_i p lo' hi' mx' hp h1 h2 h3
      obtain ⟨cv, q1, q2⟩ := slice_run h (he.eval hp) (evalo_run he h1) (evalo_run he h2) (evalo_run he h3) w
      exact ⟨cv, val _ _ q1, q2⟩
    · cases h
  · rename_i x i hop
    simp only [hop]
    split at h
    · rename_i p hp
      have hr := he.eval hp
      unfold aextract at h
      split at h
      · obtain ⟨ys, e, hys⟩ := hr.tuple_inv
        rw [e]
        obtain ⟨y, hy, ry⟩ := (RA.list.1 hys).get (i := i) (by simpa using h)
        refine ⟨y, val _ _ ?_, ry⟩
        simp only [Instr.extract]
        rw [show ys[i]? = some y by simpa using hy]
        rfl
      · cases h
    · cases h
  · rename_i x hop
    simp only [hop]
    split at h
    · rename_i p hp
      exact nilCheck_run h (he.eval hp) w
    · cases h
  · rename_i x xt t ok hop
    simp only [hop]
    split at h
    · rename_i p hp
      obtain ⟨cv, q1, q2⟩ := assert_run (x := xt) h (he.eval hp) w
      exact ⟨cv, val _ _ q1, q2⟩
    · cases h
  · rename_i c hop
    simp only [hop]
    split at h
    · rename_i b hb
      split at h
      · rename_i vs hvs
        have hr := evals_run he _ _ hvs
        obtain ⟨h1, h2⟩ := builtin_run (cs := c.args.map a.eval) h (by simpa using hr) (c.args.map fun | .const _ => true | _ => false) w
        refine ⟨v, ?_, h2⟩
        simp only [resolve, hb, Sem.run_bind, Sem.run_pure, Result.andThen_ok, invoke]
        exact h1
      · cases h
    · cases h
  · cases h
end Go.Proofs.YtfolofhknhgpiaaGreatDoor
