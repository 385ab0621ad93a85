/- Walking code over a heap that is not known: runs of operations by reckoning over open values, and rules for one operation. -/
import Derived.Test.YtfolofhknhgpiaaGreatDoorA18
set_option linter.unusedVariables false
set_option linter.unusedSimpArgs false
namespace Go.Proofs.YtfolofhknhgpiaaGreatDoor
open Go

/-! ### Parts of code, by name -/
def fst : Code → Code
  | .seq a _ => a
  | .cond _ a _ => a
  | .block _ b => b
  | .loop b => b
  | c => c
def snd : Code → Code
  | .seq _ b => b
  | .cond _ _ b => b
  | c => c
def isSeq : Code → Bool
  | .seq _ _ => true
  | _ => false
def isLoop : Code → Bool
  | .loop _ => true
  | _ => false
def isRet : Code → Bool
  | .ret => true
  | _ => false
def blockId : Code → Option Nat
  | .block i _ => some i
  | _ => none
def condOf : Code → Option Operand
  | .cond c _ _ => some c
  | _ => none
def opsOf : Code → Array Oper
  | .region _ ops _ => ops
  | _ => #[]
def drawOf : Code → Option Bool
  | .region _ _ d => some d
  | _ => none

section
variable {P : Program} {Q : AExit → AEnv → AHeap → Prop} {E : AEnv} {H : AHeap}
theorem AWp.seq' {x : Code} (h : isSeq x = true) (k : AWp P (fst x) (thenA (AWp P (snd x) Q) Q) E H) : AWp P x Q E H := by
  cases x with
  | seq a b => exact .seq k
  | _ => cases h
theorem AWp.ret' {x : Code} (h : isRet x = true) (k : Q .ret E H) : AWp P x Q E H := by
  cases x with
  | ret => exact .ret k
  | _ => cases h
theorem AWp.block' {x : Code} {id : Nat} (h : blockId x = some id) (k : AWp P (fst x) (blockA id Q) E H) : AWp P x Q E H := by
  cases x with
  | block i b => cases h; exact .block k
  | _ => cases h
theorem AWp.cond_ {x : Code} {c : Operand} {t : Bool} (h : condOf x = some c) (hc : E.eval c = some (.bool t)) (h1 : t = true → AWp P (fst x) Q E H) (h2 : t = false → AWp P (snd x) Q E H) : AWp P x Q E H := by
  cases x with
  | cond c' a b => cases h; exact .cond' hc h1 h2
  | _ => cases h
theorem AWp.region' {x : Code} (h : drawOf x = some false) (k : AOps P (opsOf x) (fun _ => none) Q (List.range (opsOf x).size) E H) : AWp P x Q E H := by
  cases x with
  | region i ops d => cases h; exact .region k
  | _ => cases h
theorem AWp.draw' (hm : P.follows .mixedOrders = true) {x : Code} (t : Forms) (h : drawOf x = some true) (hb : backOk (opsOf x) = true) (k : Covers P (opsOf x) (rbAt (opsOf x).toList H.next) Q E (keeps H (opsOf x).toList) [] t) : AWp P x Q E H := by
  cases x with
  | region i ops d => cases h; exact .draw hm t hb k
  | _ => cases h
theorem AWp.loop' {x : Code} (h : isLoop x = true) {N : Nat} (I : Nat → AEnv → AHeap → Prop) (h0 : I N E H)
    (round : ∀ m E H, I m E H → AWp P (fst x) (thenA (fun E' H' => ∃ m', m' < m ∧ I m' E' H') Q) E H) : AWp P x Q E H := by
  cases x with
  | loop b => exact .loopN I h0 round
  | _ => cases h

/-! ### Runs -/
inductive Ov where
  | val (u : Value)
  | blk (vs : List Value)
  | part (vs : List Value) (u : Value)
  | raw (u : Value)
inductive Cond where
  | some (o : Option Value) (u : Value)
  | blk (id : Nat) (vs : List Value)
  | look (t : TypeId) (a b : Value) (ok : Bool) (u : Value)
  | bytes (s d : TypeId) (a : Value) (u : Value)
def Cond.holds (P : Program) (n : Nat) (H : AHeap) : Cond → Prop
  | .some o u => o = Option.some u
  | .blk id vs => ∃ e ro, H.get id = Option.some (.cells vs e ro)
  | .look t a b ok u => alookup P H t a b ok = Option.some u
  | .bytes s d a u => aconvR P H s d a = Option.some u
def lookOv : List (Nat × Ov) → Nat → Option Ov
  | [], _ => none
  | (i, v) :: l, j => if i = j then some v else lookOv l j
def addC (c : List Cond) : Option (Tr Value × List Cond) → Option (Tr Value × List Cond)
  | some (T, cs) => some (T, c ++ cs)
  | none => none
/-- One operation: its value, and what is asked for. -/
def ostep (P : Program) (n : Nat) (T : Tr Value) (o : Oper) : Option Ov → Option (Value × List Cond)
  | none => if cls P o = .pure then (match pexec P (envOf n T) o with
      | some v => some (v, [])
      | none => none) else none
  | some (.val u) => if cls P o = .pure then some (u, [.some (pexec P (envOf n T) o) u]) else none
  | some (.raw u) => match o.op with
    | .lookup t x k ok => match (envOf n T).eval x, (envOf n T).eval k with
      | some a, some b => some (u, [.look t a b ok u])
      | _, _ => none
    | .convert s d x => if cls P o = .read then match (envOf n T).eval x with
        | some a => some (u, [.bytes s d a u])
        | none => none
      else none
    | _ => none
  | some (.blk vs) => match o.op with
    | .load t x => match (envOf n T).eval x, szT P t, rowT P t with
      | some (.pointer (some a)), some m, some r => match apart' vs a.off m r with
        | some u => some (u, [.blk a.block vs])
        | none => none
      | _, _, _ => none
    | _ => none
  | some (.part vs u) => match o.op with
    | .load t x => match (envOf n T).eval x, szT P t, rowT P t with
      | some (.pointer (some a)), some m, some r => some (u, [.blk a.block vs, .some (apart' vs a.off m r) u])
      | _, _, _ => none
    | _ => none
def oops (P : Program) (ops : Array Oper) (n : Nat) (ov : List (Nat × Ov)) : List Nat → Tr Value → Option (Tr Value × List Cond)
  | [], T => some (T, [])
  | i :: l, T => match ops[i]? with
    | none => oops P ops n ov l T
    | some o => match guardA ops (envOf n T) o with
      | none => none
      | some false => oops P ops n ov l (tput T o.dst undef)
      | some true => match ostep P n T o (lookOv ov i) with
        | none => none
        | some (v, c) => addC c (oops P ops n ov l (tput T o.dst v))
def condsOf : Option (Tr Value × List Cond) → List Cond
  | some (_, c) => c
  | none => []
def trOf : Option (Tr Value × List Cond) → Tr Value
  | some (T, _) => T
  | none => .nil

theorem ostep_sound {n : Nat} {T : Tr Value} {o : Oper} {ov : Option Ov} {v : Value} {c : List Cond} (h : ostep P n T o ov = some (v, c)) (hc : ∀ x ∈ c, x.holds P n H) {r : Option Nat} {K Kp : Value → AHeap → Prop} (k : K v H) :
    execR P o r (envOf n T) H K Kp := by
  have pure : cls P o = .pure → pexec P (envOf n T) o = some v → execR P o r (envOf n T) H K Kp := fun h1 h2 => by
    unfold execR
    split
    · rename_i hf; simp [cls, (isFill_spec hf).2] at h1
    · unfold execA; simp only [h1]; exact ⟨v, h2, k⟩
  have read : cls P o = .read → rexec P (envOf n T) H o = some v → execR P o r (envOf n T) H K Kp := fun h1 h2 => by
    unfold execR
    split
    · rename_i hf; simp [cls, (isFill_spec hf).2] at h1
    · unfold execA; simp only [h1]; exact ⟨v, h2, k⟩
  unfold ostep at h
  split at h
  · split at h
    · rename_i hp
      split at h
      · rename_i u hu; cases h; exact pure hp hu
      · cases h
    · cases h
  · split at h
    · rename_i hp; cases h; exact pure hp (hc _ (List.mem_singleton.2 rfl))
    · cases h
  · split at h
    · rename_i t x k' ok hop
      split at h
      · rename_i a b h1 h2
        cases h
        have hu := hc (.look t a b ok _) (List.mem_singleton.2 rfl)
        refine read (by simp [cls, hop]) ?_
        simp only [rexec, hop, h1, h2]
        exact hu
      · cases h
    · rename_i s d x hop
      split at h
      · rename_i hcl
        split at h
        · rename_i a h1
          cases h
          have hu := hc (.bytes s d a _) (List.mem_singleton.2 rfl)
          refine read hcl ?_
          simp only [rexec, hop, h1]
          exact hu
        · cases h
      · cases h
    · cases h
  · split at h
    · rename_i t x hop
      split at h
      · rename_i a m r' h1 h2 h3
        split at h
        · rename_i u hu
          cases h
          obtain ⟨e, ro, hg⟩ := hc (.blk a.block _) (List.mem_singleton.2 rfl)
          refine read (by simp [cls, hop]) ?_
          simp only [rexec, hop, h1, aload, hg, h2, h3]
          exact hu
        · cases h
      · cases h
    · cases h
  · split at h
    · rename_i t x hop
      split at h
      · rename_i a m r' h1 h2 h3
        cases h
        obtain ⟨e, ro, hg⟩ := hc (.blk a.block _) (List.mem_cons_self ..)
        have hu := hc (.some _ _) (List.mem_cons_of_mem _ (List.mem_singleton.2 rfl))
        refine read (by simp [cls, hop]) ?_
        simp only [rexec, hop, h1, aload, hg, h2, h3]
        exact hu
      · cases h
    · cases h

theorem oops_sound {ops : Array Oper} {rb : Nat → Option Nat} {n : Nat} {ov : List (Nat × Ov)} {l2 : List Nat} : ∀ (l : List Nat) (T T' : Tr Value) (cs : List Cond), oops P ops n ov l T = some (T', cs) → (∀ x ∈ cs, x.holds P n H) →
    AOps P ops rb Q l2 (envOf n T') H → AOps P ops rb Q (l ++ l2) (envOf n T) H := by
  intro l
  induction l with
  | nil => intro T T' cs h hc k; cases h; exact k
  | cons i l ih =>
    intro T T' cs h hc k
    rw [List.cons_append]
    simp only [oops] at h
    simp only [AOps]
    split at h
    · rename_i ho; simp only [ho]; exact ih T T' cs h hc k
    · rename_i o ho
      simp only [ho]
      split at h
      · cases h
      · rename_i hg; simp only [hg]; rw [envOf_put]; exact ih _ T' cs h hc k
      · rename_i hg
        simp only [hg]
        split at h
        · cases h
        · rename_i v c hs
          unfold addC at h
          split at h
          · rename_i T1 cs1 hr
            cases h
            refine ostep_sound hs (fun x hx => hc x (List.mem_append_left _ hx)) ?_
            rw [envOf_put]
            exact ih _ T' cs1 hr (fun x hx => hc x (List.mem_append_right _ hx)) k
          · cases h

/-- A run of operations. -/
theorem AOps.run {ops : Array Oper} {rb : Nat → Option Nat} {n : Nat} (ov : List (Nat × Ov)) (l1 l2 : List Nat) {l : List Nat} {T : Tr Value} {cs : List Cond} (hl : l = l1 ++ l2) (h1 : (oops P ops n ov l1 T).isSome = true)
    (h2 : condsOf (oops P ops n ov l1 T) = cs) (h3 : ∀ x ∈ cs, x.holds P n H) (k : AOps P ops rb Q l2 (envOf n (trOf (oops P ops n ov l1 T))) H) : AOps P ops rb Q l (envOf n T) H := by
  subst hl
  cases hr : oops P ops n ov l1 T with
  | none => rw [hr] at h1; cases h1
  | some r =>
    obtain ⟨T', c⟩ := r
    rw [hr] at h2 k
    exact oops_sound l1 T T' c hr (fun x hx => h3 x (h2 ▸ hx)) k

/-- One writing operation. -/
theorem AOps.write {ops : Array Oper} {rb : Nat → Option Nat} {n : Nat} (i : Nat) (l : List Nat) {L : List Nat} {T : Tr Value} {o : Oper} (v : Value) (H' : AHeap) (hl : L = i :: l) (ho : ops[i]? = some o) (hg : guardA ops (envOf n T) o = some true) (hc : cls P o = .write)
    (hf : isFill (rb i) o = none) (hw : wexec P (envOf n T) H o = some (v, H')) (k : AOps P ops rb Q l (envOf n (tput T o.dst v)) H') : AOps P ops rb Q L (envOf n T) H := by
  subst hl
  simp only [AOps, ho, hg, execR, hf, execA, hc]
  exact ⟨v, H', hw, by rw [envOf_put]; exact k⟩
/-- One call. -/
theorem AOps.call {ops : Array Oper} {rb : Nat → Option Nat} {n : Nat} (i : Nat) (l : List Nat) {L : List Nat} {T : Tr Value} {o : Oper} (g : FuncId) (args : List Value) (hl : L = i :: l) (ho : ops[i]? = some o) (hg : guardA ops (envOf n T) o = some true) (hc : cls P o = .call)
    (hf : isFill (rb i) o = none) (hw : callee (envOf n T) o = some (g, args)) (he : enters P g = true) {R : AEnd → AHeap → Prop} (hr : ACall P g args H R)
    (k : ∀ e H', R e H' → ∃ v, e = .ret v ∧ AOps P ops rb Q l (envOf n (tput T o.dst v)) H') : AOps P ops rb Q L (envOf n T) H := by
  subst hl
  simp only [AOps, ho, hg, execR, hf, execA, hc]
  refine ⟨g, args, hw, .inl ⟨he, hr.mono fun e H' hR => ?_⟩⟩
  obtain ⟨v, rfl, hk⟩ := k e H' hR
  simp only
  rw [envOf_put]
  exact hk
/-- A body, from an environment given by a trie. -/
theorem ACall.walk {f : FuncId} {fn : Func} {c : Code} {args : List Value} {R : AEnd → AHeap → Prop} (hf : P.funcs[f]? = some fn) (hb : fn.body = some c) (hn : Nat.ble args.length fn.ntmps = true)
    (h : AWp P c (finA P fn R) (envOf fn.ntmps (initT args 0 .nil)) H) : ACall P f args H R := .of_body hf hb (Nat.le_of_ble_eq_true hn) (.env (enter_le _ _) h)
theorem mkE_get_of : ∀ (F : List (Nat × Value)) {T : Tr Value}, F.map (fun p => T.get (p.1 + 1)) = F.map (fun p => some p.2) → ∀ t v, (mkE F).get (t + 1) = some v → T.get (t + 1) = some v
  | [], T, _, t, v, h => by simp [mkE, Tr.get] at h
  | (s, u) :: F, T, hF, t, v, h => by
    simp only [List.map_cons, List.cons.injEq] at hF
    rw [mkE, Tr.get_set] at h
    split at h
    · rename_i e; cases h; rw [Nat.succ.inj e]; exact hF.1
    · exact mkE_get_of F hF.2 t v h
/-- What is seen of a trie. -/
def seen (T : Tr Value) (F : List (Nat × Value)) : List (Option Value) := T.get 0 :: F.map fun p => T.get (p.1 + 1)
def shown (F : List (Nat × Value)) : List (Option Value) := none :: F.map fun p => some p.2
theorem mkE_le {n : Nat} {T : Tr Value} (F : List (Nat × Value)) (hF : seen T F = shown F) : AEnv.le (envOf n (mkE F)) (envOf n T) := by
  have h0 : T.get 0 = none := (List.cons.inj hF).1
  refine ⟨rfl, fun t v h => ?_, ?_⟩
  · unfold AEnv.get envOf at h ⊢
    simp only at h ⊢
    split at h
    · rename_i ht
      rw [if_pos ht]
      exact mkE_get_of F (List.cons.inj hF).2 t v h
    · cases h
  · rw [mkE_ds]
    show [] = defsOf T
    unfold defsOf
    rw [h0]; rfl
/-- What is forgotten between statements. -/
theorem AWp.view {c : Code} {n : Nat} {T : Tr Value} (F : List (Nat × Value)) (hF : seen T F = shown F) (k : AWp P c Q (envOf n (mkE F)) H) : AWp P c Q (envOf n T) H := AWp.env (mkE_le F hF) k
end
end Go.Proofs.YtfolofhknhgpiaaGreatDoor
