/- Operations over abstract heaps: those that only reckon. -/
import Derived.Test.YtfolofhknhgpiaaGreatDoorA1
import Derived.Laws.Strings
set_option linter.unusedVariables false
set_option linter.unusedSimpArgs false
namespace Go.Proofs.YtfolofhknhgpiaaGreatDoor
open Go

/-! ### Tables of types -/
def szT (P : Program) (t : TypeId) : Option Nat := (P.info? t).map (·.size)
def zeroT (P : Program) (t : TypeId) : Option Value := (P.info? t).bind (·.zero)
def rowT (P : Program) (t : TypeId) : Option Bool :=
  match P.underlying t with
  | some (.struct _) | some (.array _ _) => some true
  | some _ => some false
  | none => none
/-- A field's place and size. -/
def fieldT (P : Program) (s i : Nat) : Option (Nat × Nat × Bool) :=
  match P.underlying s with
  | some (.struct fs) => match fs[i]? with
    | some f => match szT P f.type, rowT P f.type with
      | some n, some r => some (f.offset, n, r)
      | _, _ => none
    | none => none
  | _ => none
def structT (P : Program) (t : TypeId) : Option (List (Nat × Nat)) :=
  match P.underlying t with
  | some (.struct fs) => fs.toList.mapM fun f => (szT P f.type).map fun n => (f.offset, n)
  | _ => none
def arrayT (P : Program) (t : TypeId) : Option (Nat × TypeId × Nat) :=
  match P.underlying t with
  | some (.array n e) => (szT P e).map fun s => (n, e, s)
  | _ => none
/-- A slice's element type, its size, its bytes. -/
def sliceT (P : Program) (t : TypeId) : Option (TypeId × Nat × Nat) :=
  match P.underlying t with
  | some (.slice e) => (P.info? e).map fun i => (e, i.size, i.bytes)
  | _ => none
def stringT (P : Program) (t : TypeId) : Bool := match P.underlying t with | some .string => true | _ => false
def intT (P : Program) (t : TypeId) : Option IntKind := match P.underlying t with | some (.int k) => some k | _ => none
def mapT (P : Program) (t : TypeId) : Option (TypeId × TypeId) := match P.underlying t with | some (.map k e) => some (k, e) | _ => none
def ifaceT (P : Program) (t : TypeId) : Option Bool := match P.underlying t with | some (.interface _) => some true | some _ => some false | none => none

/-! ### Environments -/
/-- What is deferred: a function, and all it is called with. -/
abbrev ADef := FuncId × List Value
structure AEnv where
  n : Nat
  g : Nat → Option Value
  ds : List ADef
namespace AEnv
def get (E : AEnv) (t : Nat) : Option Value := if t < E.n then E.g t else none
def set (E : AEnv) (t : Nat) (v : Value) : AEnv := ⟨E.n, fun j => if j = t then some v else E.g j, E.ds⟩
def put (E : AEnv) (d : Option Tmp) (v : Value) : AEnv := match d with | some t => E.set t v | none => E
theorem get_set (E : AEnv) (t : Nat) (v : Value) (j : Nat) : (E.set t v).get j = if j = t then (if t < E.n then some v else none) else E.get j := by
  unfold get set
  by_cases h : j = t
  · subst h; simp
  · simp [h]
theorem set_comm (E : AEnv) {s t : Nat} (u v : Value) (h : s ≠ t) : (E.set s u).set t v = (E.set t v).set s u := by
  unfold set
  simp only [AEnv.mk.injEq, true_and, and_true]
  funext j
  by_cases h1 : j = t
  · subst h1; rw [if_pos rfl, if_neg (fun e => h e.symm), if_pos rfl]
  · rw [if_neg h1]
    by_cases h2 : j = s
    · rw [if_pos h2, if_pos h2]
    · rw [if_neg h2, if_neg h2, if_neg h1]
end AEnv

def closed1 : Value → Bool
  | .pointer none | .slice none 0 0 | .map none | .nilFunc | .nilIface => true
  | v => scalar v
def closed : Value → Bool
  | .agg cs => cs.toList.all closed1
  | .tuple cs => cs.toList.all closed1
  | v => closed1 v
theorem RV.of_closed1 {φ : Plan} {v : Value} (h : closed1 v = true) : RV φ v v := by
  unfold closed1 at h
  split at h
  · exact .ptrNil
  · exact .sliceNil
  · exact .mapNil
  · exact .nilFunc
  · exact .nilIface
  · exact .of_scalar h
theorem RL.of_closed1 {φ : Plan} {xs : List Value} (h : xs.all closed1 = true) : RL φ xs xs :=
  ⟨rfl, fun i x y a b => by
    rw [a] at b; cases b
    exact .of_closed1 (List.all_eq_true.1 h x (List.mem_of_getElem? a))⟩
theorem RV.of_closed {φ : Plan} {v : Value} (h : closed v = true) : RV φ v v := by
  cases v with
  | agg cs => exact .of_RA (RA.list.2 (RL.of_closed1 h))
  | tuple cs => exact .of_RAt (RA.list.2 (RL.of_closed1 h))
  | _ => exact .of_closed1 h

def AEnv.eval (E : AEnv) : Operand → Option Value
  | .tmp t => E.get t
  | .const v => if closed v then some v else none
  | .func f => some (.func (.func f) #[] #[])
  | .global _ => none

def DefR (φ : Plan) (d : ADef) (c : Deferred) : Prop := ∃ cap, c.target = .fn (.func d.1) cap ∧ RL φ d.2 (c.args ++ cap).toList
def RelD (φ : Plan) : List ADef → List Deferred → Prop
  | [], [] => True
  | d :: ds, c :: cs => DefR φ d c ∧ RelD φ ds cs
  | _, _ => False
theorem RelD.mono {φ ψ : Plan} (h : φ.le ψ) : ∀ {ds : List ADef} {cs : List Deferred}, RelD φ ds cs → RelD ψ ds cs
  | [], [], _ => trivial
  | d :: ds, c :: cs, ⟨⟨cap, a, b⟩, r⟩ => ⟨⟨cap, a, b.mono h⟩, r.mono h⟩
  | [], _ :: _, r => r.elim
  | _ :: _, [], r => r.elim
theorem RelD.nil {φ : Plan} {cs : List Deferred} (h : RelD φ [] cs) : cs = [] := by cases cs with
  | nil => rfl
  | cons c cs => exact h.elim
def RelE (φ : Plan) (E : AEnv) (a : Act) : Prop := a.tmps.size = E.n ∧ (∀ t v, E.get t = some v → RV φ v (a.tmps.getD t undef)) ∧ RelD φ E.ds a.defers
theorem RelE.mono {φ ψ : Plan} (h : φ.le ψ) {E : AEnv} {a : Act} (r : RelE φ E a) : RelE ψ E a := ⟨r.1, fun t v e => (r.2.1 t v e).mono h, r.2.2.mono h⟩
theorem RelE.eval {φ : Plan} {E : AEnv} {a : Act} (r : RelE φ E a) {x : Operand} {v : Value} (h : E.eval x = some v) : RV φ v (a.eval x) := by
  cases x with
  | tmp t => exact r.2.1 t v h
  | const u =>
    simp only [AEnv.eval] at h
    split at h
    · cases h; rename_i hc; exact .of_closed hc
    · cases h
  | global g => cases h
  | func f => cases h; exact .func _ rfl (fun i x y a => by simp at a) rfl (fun i x y a => by simp at a)
theorem RelE.put {φ : Plan} {E : AEnv} {a : Act} (r : RelE φ E a) (d : Option Tmp) {v cv : Value} (h : RV φ v cv) : RelE φ (E.put d v) (a.put d cv) := by
  cases d with
  | none => exact r
  | some t =>
    refine ⟨by simpa [Act.put, AEnv.put, AEnv.set] using r.1, fun j u hj => ?_, r.2.2⟩
    simp only [AEnv.put] at hj
    rw [AEnv.get_set] at hj
    simp only [Act.put]
    split at hj
    · rename_i e; subst e
      split at hj
      · rename_i hlt
        cases hj
        rw [← r.1] at hlt
        simp only [Array.getD_eq_getD_getElem?, Array.getElem?_setIfInBounds, hlt, if_true, Option.getD_some]; exact h
      · cases hj
    · rename_i e
      have := r.2.1 j u hj
      simp only [Array.getD_eq_getD_getElem?] at this ⊢
      rwa [Array.getElem?_setIfInBounds_ne (fun q => e q.symm)]

/-! ### What runs without a heap -/
/-- A computation that asks for the program alone. -/
def runPure {α : Type} (P : Program) : Sem α → Option α
  | .pure a => some a
  | .program k => runPure P (k P)
  | _ => none
theorem runPure_run {α : Type} {P : Program} : ∀ (s : Sem α) {x : α}, runPure P s = some x → ∀ w, s.run P w = .ok x w := by
  intro s
  induction s with
  | pure a => intro x h w; cases h; rfl
  | program k ih => intro x h w; exact ih P h w
  | _ => intro x h; cases h

def bsub (s : ByteArray) : List UInt8 := s.data.toList

/-- Operations on two numbers of one kind. -/
def aint (op : BinOp) (k : IntKind) (a b : Int) : Option Value :=
  match op with
  | .add => some (.int k (k.wrap (a + b)))
  | .sub => some (.int k (k.wrap (a - b)))
  | .mul => some (.int k (k.wrap (a * b)))
  | .quo => if b = 0 then none else some (.int k (k.wrap (a.tdiv b)))
  | .rem => if b = 0 then none else some (.int k (a.tmod b))
  | .eql => some (.bool (a == b))
  | .neq => some (.bool (a != b))
  | .lss => some (.bool (a < b))
  | .leq => some (.bool (a ≤ b))
  | .gtr => some (.bool (a > b))
  | .geq => some (.bool (a ≥ b))
  | .and => some (.int k (k.wrap ((BitVec.ofInt k.bits a &&& BitVec.ofInt k.bits b).toNat : Int)))
  | .or => some (.int k (k.wrap ((BitVec.ofInt k.bits a ||| BitVec.ofInt k.bits b).toNat : Int)))
  | .xor => some (.int k (k.wrap ((BitVec.ofInt k.bits a ^^^ BitVec.ofInt k.bits b).toNat : Int)))
  | .andNot => some (.int k (k.wrap ((BitVec.ofInt k.bits a &&& ~~~ BitVec.ofInt k.bits b).toNat : Int)))
  | _ => none
def ashift (op : BinOp) (k : IntKind) (a b : Int) : Option Value :=
  if b < 0 then none else
  match op with
  | .shl => some (.int k (k.wrap (a * 2 ^ (min b.toNat k.bits))))
  | .shr => some (.int k (a.fdiv (2 ^ (min b.toNat k.bits))))
  | _ => none
def astr (op : BinOp) (a b : ByteArray) : Option Value :=
  match op with
  | .add => if a.size + b.size ≤ 9223372036854775807 then some (.string ⟨a.data ++ b.data⟩) else none
  | .eql => some (.bool (a.data.toList == b.data.toList))
  | .neq => some (.bool !(a.data.toList == b.data.toList))
  | .lss => some (.bool (Op.bytesLess a.data.toList b.data.toList))
  | _ => none
/-- '==' of values that are no numbers and no strings. -/
def aeql (P : Program) (t : TypeId) (x y : Value) : Option Bool :=
  match P.underlying t, x, y with
  | some .bool, .bool a, .bool b => some (a == b)
  | some (.pointer _), .pointer none, .pointer none => some true
  | some (.pointer _), .pointer none, .pointer (some _) => some false
  | some (.pointer _), .pointer (some _), .pointer none => some false
  | some (.pointer el), .pointer (some a), .pointer (some b) => if a = b ∧ (szT P el).all (· == 0) = false then some true else none
  | some (.slice _), .slice none _ _, .slice none _ _ => some true
  | some (.slice _), .slice none _ _, .slice (some _) _ _ => some false
  | some (.slice _), .slice (some _) _ _, .slice none _ _ => some false
  | some (.map _ _), .map none, .map none => some true
  | some (.map _ _), .map none, .map (some _) => some false
  | some (.map _ _), .map (some _), .map none => some false
  | some (.func _ _ _), .nilFunc, .nilFunc => some true
  | some (.func _ _ _), .nilFunc, .func _ _ _ => some false
  | some (.func _ _ _), .func _ _ _, .nilFunc => some false
  | some (.interface _), .nilIface, .iface _ _ => some false
  | some (.interface _), .iface _ _, .nilIface => some false
  | _, _, _ => none
def aeqv (P : Program) (op : BinOp) (t : TypeId) (a b : Value) : Option Value :=
  match op with
  | .eql => (aeql P t a b).map .bool
  | .neq => (aeql P t a b).map fun r => .bool (!r)
  | _ => none
def anum (op : BinOp) (k k' : IntKind) (a b : Int) : Option Value :=
  match op with
  | .shl | .shr => ashift op k a b
  | _ => if k = k' then aint op k a b else none
def aagg (P : Program) (op : BinOp) (t : TypeId) (x y : Operand) (a b : Value) : Option Value :=
  match op with
  | .eql | .neq => if flat a && flat b then (match runPure P (do eqGuard op t x y a b; binOp op t a b) with | some (.bool r) => some (.bool r) | _ => none) else none
  | _ => none
def isConst : Operand → Bool
  | .const _ => true
  | _ => false
/-- The nil of an interface and the literal nil. -/
def anil (P : Program) (op : BinOp) (t : TypeId) (x y : Operand) : Option Value :=
  match P.underlying t, isConst x || isConst y, op with
  | some (.interface _), true, .eql => some (.bool true)
  | some (.interface _), true, .neq => some (.bool false)
  | _, _, _ => none
theorem anil_run {P : Program} {φ : Plan} {op : BinOp} {t : TypeId} {x y : Operand} {v : Value} (h : anil P op t x y = some v) (w : World) :
    (do eqGuard op t x y .nilIface .nilIface; binOp op t .nilIface .nilIface : Sem Value).run P w = .ok v w ∧ RV φ v v := by
  have hc : ∀ (op : BinOp), (isConst x || isConst y) = true → (eqGuard op t x y .nilIface .nilIface).run P w = .ok () w := fun op hc => by
    unfold eqGuard
    cases op <;> first | rfl | (cases x <;> cases y <;> simp [isConst] at hc <;> rfl)
  have he : ∀ ms, P.underlying t = some (.interface ms) → (Op.equal t .nilIface .nilIface).run P w = .ok true w := fun ms hu => by
    have key : ∀ d, (Op.equalIn (d + 1) t .nilIface .nilIface).run P w = .ok true w := fun d => by
      simp only [Op.equalIn, Sem.run_bind, run_underlying hu, Result.andThen_ok]
      rfl
    exact key 9999
  unfold anil at h
  split at h
  · rename_i ms hu hcc
    cases h
    refine ⟨?_, .bool _⟩
    rw [Sem.run_bind, hc _ hcc, Result.andThen_ok]
    show (do pure (.bool (← Op.equal t .nilIface .nilIface)) : Sem Value).run P w = _
    rw [Sem.run_bind, he ms hu]; rfl
  · rename_i ms hu hcc
    cases h
    refine ⟨?_, .bool _⟩
    rw [Sem.run_bind, hc _ hcc, Result.andThen_ok]
    show (do pure (.bool (!(← Op.equal t .nilIface .nilIface))) : Sem Value).run P w = _
    rw [Sem.run_bind, he ms hu]; rfl
  · cases h
def abin (P : Program) (op : BinOp) (t : TypeId) (x y : Operand) (a b : Value) : Option Value :=
  match a, b with
  | .int k a, .int k' b => anum op k k' a b
  | .string a, .string b => astr op a b
  | .agg _, .agg _ => aagg P op t x y a b
  | .nilIface, .nilIface => anil P op t x y
  | a, b => aeqv P op t a b
def aun (op : UnOp) (a : Value) : Option Value :=
  match op, a with
  | .not, .bool b => some (.bool !b)
  | .neg, .int k n => aint .sub k 0 n
  | .xor, .int k n => aint .xor k (if k.signed then -1 else k.max) n
  | _, _ => none

theorem run_aint {P : Program} {op : BinOp} {k : IntKind} {a b : Int} {v : Value} (t : TypeId) (h : aint op k a b = some v) (w : World) :
    (binOp op t (.int k a) (.int k b)).run P w = .ok v w ∧ scalar v = true := by
  cases op <;> simp [aint] at h
  all_goals first
    | (subst h; exact ⟨by simp [binOp, Op.intArith, Op.intDiv, Op.intBits, Op.intCmp, pure, Sem.run], rfl⟩)
    | (obtain ⟨h0, rfl⟩ := h; exact ⟨by simp [binOp, Op.intDiv, h0, pure, Sem.run], rfl⟩)

theorem run_ashift {P : Program} {op : BinOp} {k k' : IntKind} {a b : Int} {v : Value} (t : TypeId) (hop : op = .shl ∨ op = .shr) (h : ashift op k a b = some v) (w : World) :
    (binOp op t (.int k a) (.int k' b)).run P w = .ok v w ∧ scalar v = true := by
  unfold ashift at h
  split at h
  · cases h
  · rename_i hb
    rcases hop with rfl | rfl
    · simp at h; subst h; exact ⟨by simp [binOp, Op.shift, hb, pure, Sem.run], rfl⟩
    · simp at h; subst h; exact ⟨by simp [binOp, Op.shift, hb, pure, Sem.run], rfl⟩

theorem run_astr {P : Program} {op : BinOp} {a b : ByteArray} {v : Value} (t : TypeId) (h : astr op a b = some v) (w : World) :
    (binOp op t (.string a) (.string b)).run P w = .ok v w ∧ scalar v = true := by
  cases op <;> simp [astr] at h
  · obtain ⟨h0, rfl⟩ := h
    refine ⟨?_, rfl⟩
    have h1 : ¬ (((a.size + b.size : Nat) : Int) > IntKind.i64.max) := by
      have : IntKind.i64.max = 9223372036854775807 := rfl
      rw [this]; omega
    have e : a ++ b = ⟨a.data ++ b.data⟩ := by
      apply ByteArray.ext; simp
    simp only [binOp, Op.stringOp]
    rw [if_neg h1, e]; rfl
  all_goals (subst h; exact ⟨by simp only [binOp, Op.stringOp, ByteArray.toList_eq]; first | rfl | (simp [pure]; done), rfl⟩)

theorem run_aeql_at {P : Program} {φ : Plan} {t : TypeId} {x y cx cy : Value} {r : Bool} (h : aeql P t x y = some r) (hx : RV φ x cx) (hy : RV φ y cy) (w : World) (d : Nat) :
    (Op.equalIn (d + 1) t cx cy).run P w = .ok r w := by
  unfold aeql at h
  split at h
  case h_5 el a b hu =>
    split at h
    · rename_i hc
      cases h
      obtain ⟨rfl, hz⟩ := hc
      cases hx with
      | ptr e1 =>
        cases hy with
        | ptr e2 =>
          rw [e1] at e2; cases e2
          obtain ⟨n, hn, hn0⟩ : ∃ n, szT P el = some n ∧ n ≠ 0 := by
            cases hs : szT P el with
            | none => rw [hs] at hz; cases hz
            | some n => rw [hs] at hz; exact ⟨n, rfl, by simpa using hz⟩
          have hs1 : (sizeOf el).run P w = .ok n w := by
            unfold szT at hn
            obtain ⟨i, hi, rfl⟩ := Option.map_eq_some_iff.1 hn
            simp [sizeOf, typeInfo, program, Sem.run, hi, Result.andThen]
          simp only [Op.equalIn, Sem.run_bind, run_underlying hu, Result.andThen_ok, hs1]
          simp [hn0, sameAddr, Sem.run]
    · cases h
  all_goals ((try cases h) <;> cases hx <;> cases hy <;> (have hu := ‹P.underlying t = some _›; simp only [Op.equalIn, Sem.run_bind, run_underlying hu, Result.andThen_ok]; rfl))
theorem run_aeql {P : Program} {φ : Plan} {t : TypeId} {x y cx cy : Value} {r : Bool} (h : aeql P t x y = some r) (hx : RV φ x cx) (hy : RV φ y cy) (w : World) :
    (Op.equal t cx cy).run P w = .ok r w := run_aeql_at h hx hy w 9999

theorem eqGuard_int {P : Program} (op : BinOp) (t : TypeId) (x y : Operand) (k k' : IntKind) (a b : Int) (w : World) : (eqGuard op t x y (.int k a) (.int k' b)).run P w = .ok () w := by
  cases op <;> rfl
theorem eqGuard_string {P : Program} (op : BinOp) (t : TypeId) (x y : Operand) (a b : ByteArray) (w : World) : (eqGuard op t x y (.string a) (.string b)).run P w = .ok () w := by
  cases op <;> rfl
theorem eqGuard_aeql {P : Program} {φ : Plan} {t : TypeId} {a b ca cb : Value} {r : Bool} (h : aeql P t a b = some r) (ha : RV φ a ca) (hb : RV φ b cb) (op : BinOp) (x y : Operand) (w : World) :
    (eqGuard op t x y ca cb).run P w = .ok () w := by
  unfold aeql at h
  split at h <;> (try split at h) <;> (try cases h) <;> cases ha <;> cases hb <;> cases op <;> rfl
theorem binOp_aeql {P : Program} {φ : Plan} {t : TypeId} {a b ca cb : Value} {r : Bool} (h : aeql P t a b = some r) (ha : RV φ a ca) (hb : RV φ b cb) :
    binOp .eql t ca cb = (do pure (.bool (← Op.equal t ca cb))) ∧ binOp .neq t ca cb = (do pure (.bool (!(← Op.equal t ca cb)))) := by
  unfold aeql at h
  split at h <;> (try split at h) <;> (try cases h) <;> cases ha <;> cases hb <;> exact ⟨rfl, rfl⟩

theorem aeqv_run {P : Program} {φ : Plan} {op : BinOp} {t : TypeId} {a b ca cb v : Value} (h : aeqv P op t a b = some v) (ha : RV φ a ca) (hb : RV φ b cb) (x y : Operand) (w : World) :
    (do eqGuard op t x y ca cb; binOp op t ca cb : Sem Value).run P w = .ok v w ∧ RV φ v v := by
  unfold aeqv at h
  split at h
  · obtain ⟨r, hr, rfl⟩ := Option.map_eq_some_iff.1 h
    rw [Sem.run_bind, eqGuard_aeql hr ha hb, Result.andThen_ok, (binOp_aeql hr ha hb).1, Sem.run_bind, run_aeql hr ha hb]
    exact ⟨rfl, .bool _⟩
  · obtain ⟨r, hr, rfl⟩ := Option.map_eq_some_iff.1 h
    rw [Sem.run_bind, eqGuard_aeql hr ha hb, Result.andThen_ok, (binOp_aeql hr ha hb).2, Sem.run_bind, run_aeql hr ha hb]
    exact ⟨rfl, .bool _⟩
  · cases h
theorem anum_run {P : Program} {φ : Plan} {op : BinOp} {k k' : IntKind} {a b : Int} {v : Value} (t : TypeId) (h : anum op k k' a b = some v) (x y : Operand) (w : World) :
    (do eqGuard op t x y (.int k a) (.int k' b); binOp op t (.int k a) (.int k' b) : Sem Value).run P w = .ok v w ∧ RV φ v v := by
  unfold anum at h
  split at h
  · obtain ⟨p, q⟩ := run_ashift (P := P) (k' := k') t (.inl rfl) h w
    exact ⟨by rw [Sem.run_bind, eqGuard_int]; exact p, .of_scalar q⟩
  · obtain ⟨p, q⟩ := run_ashift (P := P) (k' := k') t (.inr rfl) h w
    exact ⟨by rw [Sem.run_bind, eqGuard_int]; exact p, .of_scalar q⟩
  · split at h
    · rename_i hk; subst hk
      obtain ⟨p, q⟩ := run_aint (P := P) t h w
      exact ⟨by rw [Sem.run_bind, eqGuard_int]; exact p, .of_scalar q⟩
    · cases h
theorem aagg_run {P : Program} {φ : Plan} {op : BinOp} {t : TypeId} {x y : Operand} {a b ca cb v : Value} (h : aagg P op t x y a b = some v) (ha : RV φ a ca) (hb : RV φ b cb) (w : World) :
    (do eqGuard op t x y ca cb; binOp op t ca cb : Sem Value).run P w = .ok v w ∧ RV φ v v := by
  have fin : ∀ {op : BinOp}, (if flat a && flat b then (match runPure P (do eqGuard op t x y a b; binOp op t a b) with | some (.bool r) => some (.bool r) | _ => none) else none) = some v →
      (do eqGuard op t x y ca cb; binOp op t ca cb : Sem Value).run P w = .ok v w ∧ RV φ v v := by
    intro op h
    split at h
    · rename_i hf
      simp only [Bool.and_eq_true] at hf
      rw [ha.flat_eq hf.1, hb.flat_eq hf.2]
      split at h
      · rename_i r hr
        cases h
        exact ⟨runPure_run _ hr w, .bool _⟩
      · cases h
    · cases h
  unfold aagg at h
  split at h
  · exact fin h
  · exact fin h
  · cases h
theorem binOp_run {P : Program} {φ : Plan} {op : BinOp} {t : TypeId} {x y : Operand} {a b ca cb v : Value} (h : abin P op t x y a b = some v) (ha : RV φ a ca) (hb : RV φ b cb) (w : World) :
    (do eqGuard op t x y ca cb; binOp op t ca cb : Sem Value).run P w = .ok v w ∧ RV φ v v := by
  unfold abin at h
  split at h
  · cases ha; cases hb; exact anum_run t h x y w
  · cases ha; cases hb
    obtain ⟨p, q⟩ := run_astr (P := P) t h w
    exact ⟨by rw [Sem.run_bind, eqGuard_string]; exact p, .of_scalar q⟩
  · exact aagg_run h ha hb w
  · cases ha; cases hb; exact anil_run h w
  · exact aeqv_run h ha hb x y w

theorem unOp_run {P : Program} {φ : Plan} {op : UnOp} {a ca v : Value} (h : aun op a = some v) (ha : RV φ a ca) (w : World) : (Op.unary op ca).run P w = .ok v w ∧ RV φ v v := by
  unfold aun at h
  split at h
  · cases ha; cases h; exact ⟨rfl, .bool _⟩
  · cases ha; simp only [aint, Option.some.injEq] at h; subst h; exact ⟨rfl, .int _ _⟩
  · cases ha; simp only [aint, Option.some.injEq] at h; subst h; exact ⟨rfl, .int _ _⟩
  · cases h
end Go.Proofs.YtfolofhknhgpiaaGreatDoor
