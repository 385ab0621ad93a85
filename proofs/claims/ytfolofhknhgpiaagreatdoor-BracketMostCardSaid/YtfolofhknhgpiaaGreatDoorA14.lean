/- Code carried out over abstract heaps by reckoning alone, and that this is sound. -/
import Derived.Test.YtfolofhknhgpiaaGreatDoorAD
set_option linter.unusedVariables false
set_option linter.unusedSimpArgs false
namespace Go.Proofs.YtfolofhknhgpiaaGreatDoor
open Go

/-! ### Equality of states, by reckoning -/
mutual
def beqV : Value → Value → Bool
  | .bool a, .bool b => a == b
  | .int j a, .int k b => decide (j = k) && decide (a = b)
  | .float j a, .float k b => decide (j = k) && decide (a = b)
  | .string a, .string b => decide (a.data.toList = b.data.toList)
  | .pointer a, .pointer b => decide (a = b)
  | .slice a n c, .slice b m d => decide (a = b) && decide (n = m) && decide (c = d)
  | .map a, .map b => decide (a = b)
  | .func f ⟨x⟩ ⟨y⟩, .func g ⟨u⟩ ⟨v⟩ => decide (f = g) && beqL x u && beqL y v
  | .nilFunc, .nilFunc => true
  | .iface t v, .iface u w => decide (t = u) && beqV v w
  | .nilIface, .nilIface => true
  | .agg ⟨x⟩, .agg ⟨y⟩ => beqL x y
  | .tuple ⟨x⟩, .tuple ⟨y⟩ => beqL x y
  | _, _ => false
def beqL : List Value → List Value → Bool
  | [], [] => true
  | a :: x, b :: y => beqV a b && beqL x y
  | _, _ => false
end
theorem bytes_ext {a b : ByteArray} (h : a.data.toList = b.data.toList) : a = b := by
  apply ByteArray.ext
  rw [← Array.toList_inj, h]
mutual
theorem beqV_eq : ∀ (a b : Value), beqV a b = true → a = b
  | .bool a, b, h => by cases b <;> simp_all [beqV]
  | .int j a, b, h => by cases b <;> simp_all [beqV]
  | .float j a, b, h => by cases b <;> simp_all [beqV]
  | .complex j a c, b, h => by cases b <;> simp [beqV] at h
  | .string a, b, h => by
    cases b <;> simp only [beqV, Bool.false_eq_true, decide_eq_true_eq] at h
    rw [bytes_ext h]
  | .pointer a, b, h => by cases b <;> simp_all [beqV]
  | .slice a n c, b, h => by cases b <;> simp_all [beqV]
  | .map a, b, h => by cases b <;> simp_all [beqV]
  | .chan a, b, h => by cases b <;> simp [beqV] at h
  | .func f ⟨x⟩ ⟨y⟩, b, h => by
    cases b with
    | func g u v =>
      obtain ⟨u⟩ := u; obtain ⟨v⟩ := v
      simp only [beqV, Bool.and_eq_true, decide_eq_true_eq] at h
      rw [h.1.1, beqL_eq x u h.1.2, beqL_eq y v h.2]
    | _ => simp [beqV] at h
  | .nilFunc, b, h => by cases b <;> simp_all [beqV]
  | .iface t v, b, h => by
    cases b with
    | iface u w =>
      simp only [beqV, Bool.and_eq_true, decide_eq_true_eq] at h
      rw [h.1, beqV_eq v w h.2]
    | _ => simp [beqV] at h
  | .nilIface, b, h => by cases b <;> simp_all [beqV]
  | .agg ⟨x⟩, b, h => by
    cases b with
    | agg y => obtain ⟨y⟩ := y; simp only [beqV] at h; rw [beqL_eq x y h]
    | _ => simp [beqV] at h
  | .tuple ⟨x⟩, b, h => by
    cases b with
    | tuple y => obtain ⟨y⟩ := y; simp only [beqV] at h; rw [beqL_eq x y h]
    | _ => simp [beqV] at h
theorem beqL_eq : ∀ (a b : List Value), beqL a b = true → a = b
  | [], b, h => by cases b <;> simp_all [beqL]
  | x :: a, b, h => by
    cases b with
    | nil => simp [beqL] at h
    | cons y b =>
      simp only [beqL, Bool.and_eq_true] at h
      rw [beqV_eq x y h.1, beqL_eq a b h.2]
end
def beqE : List MapEntry → List MapEntry → Bool
  | [], [] => true
  | a :: x, b :: y => beqV a.key b.key && beqV a.val b.val && decide (a.born = b.born) && beqE x y
  | _, _ => false
theorem beqE_eq : ∀ (a b : List MapEntry), beqE a b = true → a = b
  | [], b, h => by cases b <;> simp_all [beqE]
  | x :: a, b, h => by
    cases b with
    | nil => simp [beqE] at h
    | cons y b =>
      simp only [beqE, Bool.and_eq_true, decide_eq_true_eq] at h
      have : x = y := by
        obtain ⟨k, v, n⟩ := x; obtain ⟨k', v', n'⟩ := y
        simp only at h
        rw [beqV_eq _ _ h.1.1.1, beqV_eq _ _ h.1.1.2, h.1.2]
      rw [this, beqE_eq a b h.2]
def beqB : ABlk → ABlk → Bool
  | .cells a e r, .cells b f s => beqL a b && decide (e = f) && decide (r = s)
  | .map a c, .map b d => beqE a b && decide (c = d)
  | .iter a p, .iter b q => decide (a.data.toList = b.data.toList) && decide (p = q)
  | _, _ => false
theorem beqB_eq : ∀ (a b : ABlk), beqB a b = true → a = b := by
  intro a b h
  cases a <;> cases b <;> simp only [beqB, Bool.and_eq_true, decide_eq_true_eq, Bool.false_eq_true] at h
  · rw [beqL_eq _ _ h.1.1, h.1.2, h.2]
  · rw [beqE_eq _ _ h.1, h.2]
  · rw [bytes_ext h.1, h.2]
def beqO {α : Type} (f : α → α → Bool) : Option α → Option α → Bool
  | none, none => true
  | some a, some b => f a b
  | _, _ => false
def beqT {α : Type} (f : α → α → Bool) : Tr α → Tr α → Bool
  | .nil, .nil => true
  | .node a v b, .node c w d => beqO f v w && beqT f a c && beqT f b d
  | _, _ => false
theorem beqO_eq {α : Type} {f : α → α → Bool} (hf : ∀ a b, f a b = true → a = b) : ∀ a b, beqO f a b = true → a = b := by
  intro a b h
  cases a <;> cases b <;> simp only [beqO, Bool.false_eq_true] at h
  · rfl
  · rw [hf _ _ h]
theorem beqT_eq {α : Type} {f : α → α → Bool} (hf : ∀ a b, f a b = true → a = b) : ∀ a b, beqT f a b = true → a = b := by
  intro a
  induction a with
  | nil => intro b h; cases b <;> simp_all [beqT]
  | node l v r ihl ihr =>
    intro b h
    cases b with
    | nil => simp [beqT] at h
    | node c w d =>
      simp only [beqT, Bool.and_eq_true] at h
      rw [ihl _ h.1.2, ihr _ h.2, beqO_eq hf _ _ h.1.1]
def beqH (a b : AHeap) : Bool := decide (a.next = b.next) && beqT beqB a.m b.m && decide (a.rs = b.rs)
theorem beqH_eq {a b : AHeap} (h : beqH a b = true) : a = b := by
  obtain ⟨n, m, r⟩ := a; obtain ⟨n', m', r'⟩ := b
  simp only [beqH, Bool.and_eq_true, decide_eq_true_eq] at h
  rw [h.1.1, beqT_eq beqB_eq _ _ h.1.2, h.2]

/-! ### Carrying out -/
abbrev Caller := FuncId → List Value → AHeap → Option (AEnd × AHeap)
/-- (A trie's first number holds what is deferred; the others are the variables.) -/
def decD : List Value → List ADef
  | [] => []
  | .func (.func f) a _ :: l => (f, a.toList) :: decD l
  | _ :: l => decD l
def heldD : Option Value → List Value
  | some (.tuple ds) => ds.toList
  | _ => []
def defsOf (T : Tr Value) : List ADef := decD (heldD (T.get 0))
def envOf (n : Nat) (T : Tr Value) : AEnv := ⟨n, fun t => T.get (t + 1), defsOf T⟩
def tput (T : Tr Value) (d : Option Tmp) (v : Value) : Tr Value := match d with | some t => T.set (t + 1) (some v) | none => T
def tdef (T : Tr Value) (d : ADef) : Tr Value := T.set 0 (some (.tuple (.func (.func d.1) d.2.toArray #[] :: heldD (T.get 0)).toArray))
theorem envOf_put (n : Nat) (T : Tr Value) (d : Option Tmp) (v : Value) : (envOf n T).put d v = envOf n (tput T d v) := by
  cases d with
  | none => rfl
  | some t =>
    simp only [AEnv.put, AEnv.set, envOf, tput, AEnv.mk.injEq, true_and]
    refine ⟨?_, ?_⟩
    · funext j
      rw [Tr.get_set]
      by_cases h : j = t
      · subst h; rw [if_pos rfl, if_pos rfl]
      · rw [if_neg h, if_neg (by omega)]
    · unfold defsOf
      rw [Tr.get_set, if_neg (by omega)]
theorem envOf_def (n : Nat) (T : Tr Value) (d : ADef) : (envOf n T).deferred d = envOf n (tdef T d) := by
  simp only [AEnv.deferred, envOf, tdef, AEnv.mk.injEq, true_and]
  refine ⟨?_, ?_⟩
  · funext j
    rw [Tr.get_set, if_neg (by omega)]
  · unfold defsOf
    rw [Tr.get_set, if_pos rfl]
    simp [heldD, decD]
def tnoneL : List Oper → Tr Value → Tr Value
  | [], T => T
  | o :: l, T => tnoneL l (match o.dst with | some t => T.set (t + 1) none | none => T)
def tnone (ops : Array Oper) (T : Tr Value) : Tr Value := tnoneL ops.toList T
theorem tnoneL_get : ∀ (l : List Oper) (T : Tr Value) (t : Nat), (tnoneL l T).get (t + 1) = if (l.any fun o => match o.dst with
    | some d => Nat.beq d t
    | none => false) then none else T.get (t + 1)
  | [], T, t => rfl
  | o :: l, T, t => by
    rw [tnoneL, tnoneL_get l, List.any_cons]
    cases ho : o.dst with
    | none => simp
    | some d =>
      simp only
      by_cases h : d = t
      · subst h; rw [Tr.get_set_same]; simp
      · rw [Tr.get_set_ne T none (fun e => h (Nat.succ.inj e).symm)]
        have : Nat.beq d t = false := by
          cases hb : Nat.beq d t with
          | false => rfl
          | true => exact absurd (Nat.eq_of_beq_eq_true hb) h
        simp only [this, Bool.false_or]
theorem tnoneL_zero : ∀ (l : List Oper) (T : Tr Value), (tnoneL l T).get 0 = T.get 0
  | [], T => rfl
  | o :: l, T => by
    rw [tnoneL, tnoneL_zero l]
    cases ho : o.dst with
    | none => rfl
    | some d => simp only; rw [Tr.get_set_ne T none (Nat.succ_ne_zero d).symm]
theorem envOf_none (ops : Array Oper) (n : Nat) (T : Tr Value) : AEnv.none ops (envOf n T) = envOf n (tnone ops T) := by
  simp only [AEnv.none, envOf, tnone, AEnv.mk.injEq, true_and]
  refine ⟨?_, ?_⟩
  · funext j
    rw [tnoneL_get]
    rfl
  · unfold defsOf
    rw [tnoneL_zero]

def dexec (P : Program) (call : Caller) (E : AEnv) (o : Oper) (r : Option Nat) (H : AHeap) : Option (AEnd × AHeap) :=
  match cls P o with
  | .pure => match pexec P E o with
    | some v => some (.ret v, H)
    | none => none
  | .read => match rexec P E H o with
    | some v => some (.ret v, H)
    | none => none
  | .write => match isFill r o with
    | some (id, e) => match zeroC P e with
      | some z => if H.rs.contains id && (H.get id).isNone then some (.ret (.pointer (some ⟨id, 0, none⟩)), H.fill id (.cells (vcells z) e false)) else none
      | none => none
    | none => match wexec P E H o with
      | some (v, H') => some (.ret v, H')
      | none => none
  | .call => match callee E o with
    | some (g, args) => if enters P g then call g args H else match extA P g args H with
      | some (v, H') => some (.ret v, H')
      | none => none
    | none => none
  | .panic => match panicked E o with
    | some v => some (.panic v, H)
    | none => none
def dops (P : Program) (call : Caller) (ops : Array Oper) (rb : Nat → Option Nat) (n : Nat) : List Nat → Tr Value → AHeap → Option (AExit × Tr Value × AHeap)
  | [], T, H => some (.normal, T, H)
  | i :: l, T, H => match ops[i]? with
    | none => dops P call ops rb n l T H
    | some o => match guardA ops (envOf n T) o with
      | some true => match dexec P call (envOf n T) o (rb i) H with
        | some (.ret v, H') => dops P call ops rb n l (tput T o.dst v) H'
        | some (.panic v, H') => some (.panic v, tnone ops T, H')
        | none => none
      | some false => dops P call ops rb n l (tput T o.dst undef) H
      | none => none
/-- Operations in one order: the variables at the end, and the heaps ahead of each writer, and the last one. -/
def dopsH (P : Program) (call : Caller) (ops : Array Oper) (rb : Nat → Option Nat) (n : Nat) : List Nat → Tr Value → AHeap → Option (Tr Value × List AHeap)
  | [], T, H => some (T, [H])
  | i :: l, T, H => match ops[i]? with
    | none => none
    | some o => match guardA ops (envOf n T) o with
      | some true => match dexec P call (envOf n T) o (rb i) H with
        | some (.ret v, H') => if wrB P ops i then (match dopsH P call ops rb n l (tput T o.dst v) H' with
            | some (T', hs) => some (T', H :: hs)
            | none => none)
          else dopsH P call ops rb n l (tput T o.dst v) H
        | _ => none
      | some false => if wrB P ops i then (match dopsH P call ops rb n l (tput T o.dst undef) H with
            | some (T', hs) => some (T', H :: hs)
            | none => none)
          else dopsH P call ops rb n l (tput T o.dst undef) H
      | none => none
/-- A read tells the same at other places. -/
def tells (P : Program) (ops : Array Oper) (n : Nat) (T : Tr Value) (hs : List AHeap) (i k : Nat) : Bool := match ops[i]?, hs[k]? with
  | some o, some H => match fstep P ops o (envOf n T) H, o.dst with
    | some v, some d => beqO beqV (T.get (d + 1)) (some v)
    | some _, none => true
    | none, _ => false
  | _, _ => false
/-- All orders lead to one state. -/
def dforms (P : Program) (call : Caller) (ops : Array Oper) (rb : Nat → Option Nat) (n : Nat) (T : Tr Value) (H : AHeap) : Forms → Option (Option (Tr Value × AHeap))
  | .leaf f => match dops P call ops rb n f T H with
    | some (.normal, r) => some (some r)
    | _ => none
  | .flow f K => match dopsH P call ops rb n f T H with
    | some (T', hs) => if K.all fun p => p.2.all fun k => tells P ops n T' hs p.1 k then (match hs.getLast? with
      | some H' => some (some (T', H'))
      | none => none) else none
    | none => none
  | .none => some none
  | .split _ _ a b => match dforms P call ops rb n T H a, dforms P call ops rb n T H b with
    | some (some (T1, H1)), some (some (T2, H2)) => if beqT beqV T1 T2 && beqH H1 H2 then some (some (T1, H1)) else none
    | some (some r), some none => some (some r)
    | some none, some (some r) => some (some r)
    | some none, some none => some none
    | _, _ => none
/-- A statement whose order is fixed; the last operation may defer. -/
def dregion (P : Program) (call : Caller) (ops : Array Oper) (n : Nat) (T : Tr Value) (H : AHeap) : Option (AExit × Tr Value × AHeap) :=
  match lastDefer ops with
  | none => dops P call ops (fun _ => none) n (List.range ops.size) T H
  | some o => match dops P call ops (fun _ => none) n (List.range (ops.size - 1)) T H with
    | some (.normal, T', H') => match guardA ops (envOf n T') o, deferOf (envOf n T') o with
      | some true, some d => some (.normal, tdef T' d, H')
      | _, _ => none
    | r => r
def dcode (P : Program) (tab : Nat → Option Forms) (call : Caller) (n : Nat) : Nat → Code → Tr Value → AHeap → Option (AExit × Tr Value × AHeap)
  | 0, _, _, _ => none
  | k + 1, c, T, H => match c with
    | .skip | .label _ => some (.normal, T, H)
    | .exit id => some (.exit id, T, H)
    | .goto l => some (.goto l, T, H)
    | .ret => some (.ret, T, H)
    | .seq a b => match dcode P tab call n k a T H with
      | some (.normal, T', H') => dcode P tab call n k b T' H'
      | r => r
    | .cond x a b => match (envOf n T).eval x with
      | some (.bool true) => dcode P tab call n k a T H
      | some (.bool false) => dcode P tab call n k b T H
      | _ => none
    | .block id b => match dcode P tab call n k b T H with
      | some (.exit id', T', H') => if id' = id then some (.normal, T', H') else some (.exit id', T', H')
      | r => r
    | .loop b => match dcode P tab call n k b T H with
      | some (.normal, T', H') => dcode P tab call n k (.loop b) T' H'
      | r => r
    | .scope b => match dcode P tab call n k b T H with
      | some (.goto _, _, _) => none
      | r => r
    | .region id ops false => dregion P call ops n T H
    | .region id ops true => match tab id with
      | some t => match dforms P call ops (rbAt ops.toList H.next) n T (keeps H ops.toList) t with
        | some (some (T', H')) => some (.normal, T', H')
        | _ => none
      | none => none
    | _ => none

/-- The forms of all drawn statements of a function are in order. -/
def formOk (P : Program) (ops : Array Oper) : List (Nat × Nat) → Forms → Bool
  | A, .leaf f => sameSet ops.size f && pairsOk ops P A f
  | A, .flow f K => flowOk P ops A f K
  | A, .split x y a b => (x != y && decide (x < ops.size) && decide (y < ops.size)) && formOk P ops ((x, y) :: A) a && formOk P ops ((y, x) :: A) b
  | A, .none => clash ops A
def codeOk (P : Program) (tab : Nat → Option Forms) : Code → Bool
  | .seq a b => codeOk P tab a && codeOk P tab b
  | .cond _ a b => codeOk P tab a && codeOk P tab b
  | .block _ b => codeOk P tab b
  | .loop b => codeOk P tab b
  | .scope b => codeOk P tab b
  | .region id ops true => match tab id with
    | some t => backOk ops && formOk P ops [] t
    | none => false
  | .rangeFunc .. => false
  | _ => true

def initT : List Value → Nat → Tr Value → Tr Value
  | [], _, T => T
  | v :: l, i, T => initT l (i + 1) (T.set (i + 1) (some v))
def endsA (P : Program) (fn : Func) : Option (AExit × Tr Value × AHeap) → Option AHeap
  | some (.normal, T, H) | some (.ret, T, H) => match resultsA P (envOf fn.ntmps T) H fn.results.toList with
    | some _ => some H
    | none => none
  | _ => none
/-- A deferred call. -/
def ddefer (P : Program) (tab : Nat → Nat → Option Forms) (fns : List Nat) (call : Caller) (fuel : Nat) (f : FuncId) (args : List Value) (m : AMode) (H : AHeap) : Option (AMode × AHeap) :=
  if fns.contains f && enters P f then
    match P.funcs[f]? with
    | some fn => match fn.body with
      | some c => if args.length ≤ fn.ntmps then match recOp c with
        | some (o, rest) => match endsA P fn (dcode P (tab f) call fn.ntmps fuel rest (tput (initT args 0 .nil) o.dst (stopped m)) H) with
          | some H' => some (.ret, H')
          | none => none
        | none => match endsA P fn (dcode P (tab f) call fn.ntmps fuel c (initT args 0 .nil) H) with
          | some H' => some (m, H')
          | none => none
        else none
      | none => none
    | none => none
  else none
def dleaves (P : Program) (tab : Nat → Nat → Option Forms) (fns : List Nat) (call : Caller) (fuel : Nat) : List ADef → AMode → AHeap → Option (AMode × AHeap)
  | [], m, H => some (m, H)
  | d :: ds, m, H => match ddefer P tab fns call fuel d.1 d.2 m H with
    | some (m', H') => dleaves P tab fns call fuel ds m' H'
    | none => none
def dfinish (P : Program) (tab : Nat → Nat → Option Forms) (fns : List Nat) (call : Caller) (fuel : Nat) (fn : Func) (r : Option (AExit × Tr Value × AHeap)) : Option (AEnd × AHeap) :=
  match r with
  | some (e, T', H1) => match exitMode e with
    | some m => match dleaves P tab fns call fuel (defsOf T') m H1 with
      | some (.ret, H2) => match resultsV P (envOf fn.ntmps T') H2 fn.results.toList with
        | some vs => some (.ret (tupleA vs), H2)
        | none => none
      | some (.panic v, H2) => some (.panic v, H2)
      | none => none
    | none => none
  | none => none
def dcall (P : Program) (tab : Nat → Nat → Option Forms) (fns : List Nat) (base : Caller) (fuel : Nat) : Nat → Caller
  | 0, f, args, H => base f args H
  | k + 1, f, args, H => match base f args H with
    | some r => some r
    | none => if fns.contains f then
      match P.funcs[f]? with
      | some fn => match fn.body with
        | some c => if args.length ≤ fn.ntmps then
            dfinish P tab fns (dcall P tab fns base fuel k) fuel fn (dcode P (tab f) (dcall P tab fns base fuel k) fn.ntmps fuel c (initT args 0 .nil) H)
          else none
        | none => none
      | none => none
    else none

def noBase : Caller := fun _ _ _ => none

/-! ### It is sound -/
section
variable {P : Program}

def CallOk (P : Program) (call : Caller) : Prop := ∀ g args H v H', call g args H = some (v, H') → ACall P g args H fun e H2 => e = v ∧ H2 = H'

theorem noBase_ok : CallOk P noBase := fun _ _ _ _ _ h => by cases h

theorem dops_sound {call : Caller} (hc : CallOk P call) {ops : Array Oper} {rb : Nat → Option Nat} {n : Nat} {Q : AExit → AEnv → AHeap → Prop} : ∀ (l : List Nat) (e : AExit) (T T' : Tr Value) (H H' : AHeap), dops P call ops rb n l T H = some (e, T', H') → Q e (envOf n T') H' →
    AOps P ops rb Q l (envOf n T) H := by
  intro l
  induction l with
  | nil => intro e T T' H H' h hq; cases h; exact hq
  | cons i l ih =>
    intro e T T' H H' h hq
    simp only [dops] at h
    cases hi : ops[i]? with
    | none => rw [hi] at h; rw [AOps.cons_none hi]; exact ih e T T' H H' h hq
    | some o =>
      rw [hi] at h
      rw [AOps.cons_eq hi]
      unfold stepA
      simp only at h
      split at h
      · rename_i hg
        rw [hg]
        simp only
        have key : ∀ (r : AEnd) (H1 : AHeap), dexec P call (envOf n T) o (rb i) H = some (r, H1) → (match r with
            | .ret v => AOps P ops rb Q l ((envOf n T).put o.dst v) H1
            | .panic v => Q (.panic v) (AEnv.none ops (envOf n T)) H1) → execR P o (rb i) (envOf n T) H (fun v H' => AOps P ops rb Q l ((envOf n T).put o.dst v) H') (fun v H' => Q (.panic v) (AEnv.none ops (envOf n T)) H') := by
          intro r H1 hd hk
          unfold dexec at hd
          unfold execR execA
          split at hd
          · rename_i hcl
            split at hd
            · rename_i u hp
              cases hd
              split
              · rename_i hfill; have hop := (isFill_spec hfill).2; simp [cls, hop] at hcl
              · simp only [hcl]; exact ⟨_, hp, hk⟩
            · cases hd
          · rename_i hcl
            split at hd
            · rename_i u hp
              cases hd
              split
              · rename_i hfill; have hop := (isFill_spec hfill).2; simp [cls, hop] at hcl
              · simp only [hcl]; exact ⟨_, hp, hk⟩
            · cases hd
          · rename_i hcl
            split at hd
            · rename_i id e hfill
              rw [hfill]
              simp only
              split at hd
              · rename_i z hz
                split at hd
                · rename_i hid
                  cases hd
                  exact ⟨z, hz, by simpa using hid, hk⟩
                · cases hd
              · cases hd
            · rename_i hno
              rw [hno]
              simp only [hcl]
              split at hd
              · rename_i u H2 hw
                cases hd
                exact ⟨_, _, hw, hk⟩
              · cases hd
          · rename_i hcl
            split at hd
            · rename_i g args hca
              split at hd
              · rename_i hen
                split
                · rename_i hfill; have hop := (isFill_spec hfill).2; simp [cls, hop] at hcl
                · simp only [hcl]
                  refine ⟨g, args, hca, .inl ⟨hen, (hc g args H r H1 hd).mono fun e H2 he => ?_⟩⟩
                  obtain ⟨rfl, rfl⟩ := he
                  cases e <;> exact hk
              · split at hd
                · rename_i u H2 hx
                  cases hd
                  split
                  · rename_i hfill; have hop := (isFill_spec hfill).2; simp [cls, hop] at hcl
                  · simp only [hcl]
                    exact ⟨g, args, hca, .inr ⟨_, _, hx, hk⟩⟩
                · cases hd
            · cases hd
          · rename_i hcl
            split at hd
            · rename_i u hp
              cases hd
              split
              · rename_i hfill; have hop := (isFill_spec hfill).2; simp [cls, hop] at hcl
              · simp only [hcl]; exact ⟨_, hp, hk⟩
            · cases hd
        split at h
        · rename_i v H1 hd
          have hk := ih e _ T' H1 H' h hq
          rw [← envOf_put] at hk
          exact key _ _ hd hk
        · rename_i v H1 hd
          cases h
          refine key _ _ hd ?_
          simp only
          rw [envOf_none]
          exact hq
        · cases h
      · rename_i hg
        rw [hg]
        simp only
        have hk := ih e _ T' H H' h hq
        rw [← envOf_put] at hk
        exact hk
      · cases h

/-- How many writers. -/
def wrN (P : Program) (ops : Array Oper) (l : List Nat) : Nat := (l.filter (wrB P ops)).length
theorem wrN_cons (ops : Array Oper) (i : Nat) (l : List Nat) : wrN P ops (i :: l) = (if wrB P ops i then 1 else 0) + wrN P ops l := by
  unfold wrN
  rw [List.filter_cons]
  split
  · simp; omega
  · simp
theorem tput_get {T : Tr Value} {d : Option Tmp} {v : Value} {t : Nat} (h : d ≠ some t) : (tput T d v).get (t + 1) = T.get (t + 1) := by
  cases d with
  | none => rfl
  | some s =>
    unfold tput
    simp only
    rw [Tr.get_set, if_neg (fun e => h (by rw [Nat.succ.inj e]))]
theorem tput_zero {T : Tr Value} {d : Option Tmp} {v : Value} : (tput T d v).get 0 = T.get 0 := by
  cases d with
  | none => rfl
  | some s =>
    unfold tput
    simp only
    rw [Tr.get_set, if_neg (Nat.succ_ne_zero s).symm]

/-- What a run in one order tells of each operation. -/
structure RunAt (P : Program) (ops : Array Oper) (rb : Nat → Option Nat) (n : Nat) (T' : Tr Value) (hs : List AHeap) (l1 : List Nat) (i : Nat) (l2 : List Nat) (o : Oper) : Prop where
  ex : ∃ T1 H1 H2 v, hs[wrN P ops l1]? = some H1 ∧ (wrB P ops i = true → hs[wrN P ops l1 + 1]? = some H2) ∧ (wrB P ops i = true → ∀ K Kp : Value → AHeap → Prop, K v H2 → stepA P ops o (rb i) (envOf n T1) H1 K Kp) ∧
    (wrB P ops i = false → fstep P ops o (envOf n T1) H1 = some v) ∧ (∀ t, (∀ j ∈ i :: l2, dstAt ops j ≠ some t) → T1.get (t + 1) = T'.get (t + 1)) ∧ (∀ d, o.dst = some d → (∀ j ∈ l2, dstAt ops j ≠ some d) → T'.get (d + 1) = some v)

theorem dopsH_run {call : Caller} (hc : CallOk P call) {ops : Array Oper} {rb : Nat → Option Nat} {n : Nat} : ∀ (l : List Nat) (T T' : Tr Value) (H : AHeap) (hs : List AHeap), dopsH P call ops rb n l T H = some (T', hs) → (∀ i ∈ l, ∀ o, ops[i]? = some o → cls P o ≠ .panic) →
    hs[0]? = some H ∧ hs.length = wrN P ops l + 1 ∧ T'.get 0 = T.get 0 ∧ (∀ t, (∀ j ∈ l, dstAt ops j ≠ some t) → T'.get (t + 1) = T.get (t + 1)) ∧
    ∀ l1 i l2, l = l1 ++ i :: l2 → ∃ o, ops[i]? = some o ∧ RunAt P ops rb n T' hs l1 i l2 o := by
  intro l
  induction l with
  | nil =>
    intro T T' H hs h _
    cases h
    exact ⟨rfl, rfl, rfl, fun _ _ => rfl, fun l1 i l2 e => by cases l1 <;> cases e⟩
  | cons i l ih =>
    intro T T' H hs h hp
    simp only [dopsH] at h
    cases hi : ops[i]? with
    | none => rw [hi] at h; cases h
    | some o =>
      rw [hi] at h
      simp only at h
      have hdst : dstAt ops i = o.dst := by unfold dstAt; rw [hi]; rfl
      -- what this operation is, and the rest
      obtain ⟨v, H2, hrest, hstep, hfs⟩ : ∃ v H2, (if wrB P ops i then (match dopsH P call ops rb n l (tput T o.dst v) H2 with
            | some (T', hs) => some (T', H :: hs)
            | none => none) else dopsH P call ops rb n l (tput T o.dst v) H) = some (T', hs) ∧ (wrB P ops i = true → ∀ K Kp : Value → AHeap → Prop, K v H2 → stepA P ops o (rb i) (envOf n T) H K Kp) ∧
          (wrB P ops i = false → fstep P ops o (envOf n T) H = some v) := by
        split at h
        · rename_i hg
          split at h
          · rename_i v H2 hd
            refine ⟨v, H2, h, fun hw K Kp hk => ?_, fun hw => ?_⟩
            · have key := dops_sound hc (ops := ops) (rb := rb) (n := n) (Q := fun e E H' => match e with | .normal => (∃ u, E = (envOf n T).put o.dst u ∧ K u H') | _ => False) [i] .normal T (tput T o.dst v) H H2
                (by simp only [dops, hi, hg, hd]) ⟨v, (envOf_put n T o.dst v).symm, hk⟩
              -- straight from the rule
              unfold stepA
              rw [hg]
              simp only
              unfold dexec at hd
              unfold execR execA
              split at hd
              · rename_i hcl; unfold wrB at hw; simp [hi, hcl] at hw
              · rename_i hcl; unfold wrB at hw; simp [hi, hcl] at hw
              · rename_i hcl
                split at hd
                · rename_i id e hfill
                  rw [hfill]
                  simp only
                  split at hd
                  · rename_i z hz
                    split at hd
                    · rename_i hid
                      cases hd
                      exact ⟨z, hz, by simpa using hid, hk⟩
                    · cases hd
                  · cases hd
                · rename_i hno
                  rw [hno]
                  simp only [hcl]
                  split at hd
                  · rename_i u H3 hw'
                    cases hd
                    exact ⟨_, _, hw', hk⟩
                  · cases hd
              · rename_i hcl
                split at hd
                · rename_i g args hca
                  split at hd
                  · rename_i hen
                    split
                    · rename_i hfill; have hop := (isFill_spec hfill).2; simp [cls, hop] at hcl
                    · simp only [hcl]
                      refine ⟨g, args, hca, .inl ⟨hen, (hc g args H _ H2 hd).mono fun e H3 he => ?_⟩⟩
                      obtain ⟨rfl, rfl⟩ := he
                      exact hk
                  · split at hd
                    · rename_i u H3 hx
                      cases hd
                      split
                      · rename_i hfill; have hop := (isFill_spec hfill).2; simp [cls, hop] at hcl
                      · simp only [hcl]
                        exact ⟨g, args, hca, .inr ⟨_, _, hx, hk⟩⟩
                    · cases hd
                · cases hd
              · rename_i hcl; exact absurd hcl (hp i (List.mem_cons_self ..) o hi)
            · unfold fstep
              rw [hg]
              simp only
              unfold dexec at hd
              unfold wrB at hw
              rw [hi] at hw
              simp only at hw
              split at hd
              · rename_i hcl
                rw [if_pos hcl]
                split at hd
                · rename_i u hu; cases hd; exact hu
                · cases hd
              · rename_i hcl
                rw [if_neg (by rw [hcl]; intro q; cases q)]
                split at hd
                · rename_i u hu; cases hd; exact hu
                · cases hd
              · rename_i hcl; rw [hcl] at hw; cases hw
              · rename_i hcl; rw [hcl] at hw; cases hw
              · rename_i hcl; exact absurd hcl (hp i (List.mem_cons_self ..) o hi)
          · cases h
        · rename_i hg
          refine ⟨undef, H, h, fun hw K Kp hk => ?_, fun hw => ?_⟩
          · unfold stepA; rw [hg]; exact hk
          · unfold fstep; rw [hg]
        · cases h
      have hp' : ∀ i ∈ l, ∀ o, ops[i]? = some o → cls P o ≠ .panic := fun j hj => hp j (List.mem_cons_of_mem _ hj)
      have fin : ∀ (hs' : List AHeap) (pre : List AHeap) (H3 : AHeap), dopsH P call ops rb n l (tput T o.dst v) H3 = some (T', hs') → hs = pre ++ hs' → pre.length = (if wrB P ops i then 1 else 0) → (wrB P ops i = true → H3 = H2) → (hs[0]? = some H) →
          hs[0]? = some H ∧ hs.length = wrN P ops (i :: l) + 1 ∧ T'.get 0 = T.get 0 ∧ (∀ t, (∀ j ∈ i :: l, dstAt ops j ≠ some t) → T'.get (t + 1) = T.get (t + 1)) ∧
          ∀ l1 j l2, i :: l = l1 ++ j :: l2 → ∃ o, ops[j]? = some o ∧ RunAt P ops rb n T' hs l1 j l2 o := by
        intro hs' pre H3 hd hpre hlen hH3 h0
        obtain ⟨a1, a2, a3, a4, a5⟩ := ih _ _ _ _ hd hp'
        have hat : ∀ k, hs[pre.length + k]? = hs'[k]? := fun k => by rw [hpre, List.getElem?_append_right (by omega)]; congr 1; omega
        refine ⟨h0, by rw [hpre, List.length_append, a2, hlen, wrN_cons]; omega, a3.trans tput_zero, fun t ht => ?_, fun l1 j l2 e => ?_⟩
        · rw [a4 t (fun j hj => ht j (List.mem_cons_of_mem _ hj)), tput_get]
          rw [← hdst]; exact ht i (List.mem_cons_self ..)
        · cases l1 with
          | nil =>
            simp only [List.nil_append, List.cons.injEq] at e
            obtain ⟨rfl, rfl⟩ := e
            refine ⟨o, hi, ⟨T, H, H2, v, h0, fun hw => ?_, hstep, hfs, fun t ht => ?_, fun d hd1 hd2 => ?_⟩⟩
            · have := hat 0
              rw [hlen, hw] at this
              simp only [if_true] at this
              show hs[0 + 1]? = some H2
              rw [this, a1, hH3 hw]
            · rw [a4 t (fun j hj => ht j (List.mem_cons_of_mem _ hj)), tput_get]
              rw [← hdst]; exact ht i (List.mem_cons_self ..)
            · rw [a4 d hd2]
              unfold tput
              rw [hd1]
              simp only
              rw [Tr.get_set_same]
          | cons x l1 =>
            simp only [List.cons_append, List.cons.injEq] at e
            obtain ⟨rfl, e⟩ := e
            obtain ⟨o', ho', ⟨T1, H1, H4, u, b1, b2, b3, b4, b5, b6⟩⟩ := a5 l1 j l2 e
            have hn : wrN P ops (i :: l1) = pre.length + wrN P ops l1 := by rw [wrN_cons, hlen]
            exact ⟨o', ho', ⟨T1, H1, H4, u, by rw [hn, hat]; exact b1, fun hw => by rw [hn, Nat.add_assoc, hat]; exact b2 hw, b3, b4, b5, b6⟩⟩
      split at hrest
      · rename_i hw
        split at hrest
        · rename_i T2 hs' hd
          cases hrest
          exact fin hs' [H] H2 hd rfl (by rw [if_pos hw]; rfl) (fun _ => rfl) rfl
        · cases hrest
      · rename_i hw
        exact fin hs [] H hrest rfl (by rw [if_neg hw]; rfl) (fun e => absurd e hw) (ih _ _ _ _ hrest hp').1

theorem flowOk_reads {ops : Array Oper} {A : List (Nat × Nat)} {f : List Nat} {K : List (Nat × List Nat)} : ∀ (l : List Nat) (ws : List Nat), flowOk.reads P ops A f K ws l = true → ∀ l1 i l2, l = l1 ++ i :: l2 → ∃ o, ops[i]? = some o ∧ cls P o ≠ .panic ∧ (cls P o = .read → (dstAt ops i).isSome = true ∧
    ∀ k, k ≤ wrN P ops f → k = ws.length + wrN P ops l1 ∨ (∃ p ∈ K, p.1 = i ∧ k ∈ p.2) ∨ (∃ w ∈ (f.filter (wrB P ops)).take k, ordered ops A i w = true) ∨ (∃ w ∈ (f.filter (wrB P ops)).drop k, ordered ops A w i = true)) := by
  intro l
  induction l with
  | nil => intro ws _ l1 i l2 e; cases l1 <;> cases e
  | cons x l ih =>
    intro ws h l1 i l2 e
    simp only [flowOk.reads, Bool.and_eq_true] at h
    cases l1 with
    | nil =>
      simp only [List.nil_append, List.cons.injEq] at e
      obtain ⟨rfl, rfl⟩ := e
      have h1 := h.1
      cases ho : ops[x]? with
      | none => rw [ho] at h1; cases h1
      | some o =>
        rw [ho] at h1
        simp only at h1
        refine ⟨o, rfl, (fun hc => by rw [hc] at h1; cases h1), fun hc => ?_⟩
        rw [hc] at h1
        simp only [Bool.and_eq_true] at h1
        refine ⟨h1.1, fun k hk => ?_⟩
        have := List.all_eq_true.1 h1.2 k (List.mem_range.2 (by unfold wrN at hk; omega))
        simp only [Bool.or_eq_true, beq_iff_eq, List.any_eq_true, Bool.and_eq_true, List.contains_eq_mem, decide_eq_true_eq] at this
        rcases this with ((q | q) | q) | q
        · exact .inl (by rw [q]; rfl)
        · exact .inr (.inl q)
        · exact .inr (.inr (.inl q))
        · exact .inr (.inr (.inr q))
    | cons y l1 =>
      simp only [List.cons_append, List.cons.injEq] at e
      obtain ⟨rfl, e⟩ := e
      obtain ⟨o, a1, a2, a3⟩ := ih _ h.2 l1 i l2 e
      refine ⟨o, a1, a2, fun hc => ⟨(a3 hc).1, fun k hk => ?_⟩⟩
      rcases (a3 hc).2 k hk with q | q
      · refine .inl ?_
        rw [q, wrN_cons]
        split <;> simp <;> omega
      · exact .inr q
theorem flowOk_pairs {ops : Array Oper} {A : List (Nat × Nat)} : ∀ (W : List Nat), flowOk.pairsO ops A W = true → ∀ (i j x y : Nat), i < j → W[i]? = some x → W[j]? = some y → ordered ops A x y = true := by
  intro W
  induction W with
  | nil => intro _ i j x y _ h; simp at h
  | cons z W ih =>
    intro h i j x y hij hx hy
    simp only [flowOk.pairsO, Bool.and_eq_true] at h
    cases i with
    | zero =>
      simp only [List.getElem?_cons_zero, Option.some.injEq] at hx
      subst hx
      cases j with
      | zero => omega
      | succ j => exact List.all_eq_true.1 h.1 y (List.mem_of_getElem? (by simpa using hy))
    | succ i =>
      cases j with
      | zero => omega
      | succ j => exact ih h.2 i j x y (by omega) (by simpa using hx) (by simpa using hy)
theorem flowOk_laid {ops : Array Oper} : ∀ (f : List Nat), flowOk.laid ops f = true → ∀ l1 i l2, f = l1 ++ i :: l2 → (∀ t ∈ looksL ops i, ∀ j ∈ i :: l2, dstAt ops j ≠ some t) ∧ (∀ d, dstAt ops i = some d → ∀ j ∈ l2, dstAt ops j ≠ some d) := by
  intro f
  induction f with
  | nil => intro _ l1 i l2 e; cases l1 <;> cases e
  | cons x f ih =>
    intro h l1 i l2 e
    simp only [flowOk.laid, Bool.and_eq_true] at h
    cases l1 with
    | nil =>
      simp only [List.nil_append, List.cons.injEq] at e
      obtain ⟨rfl, rfl⟩ := e
      refine ⟨fun t ht j hj => ?_, fun d hd j hj => ?_⟩
      · have := List.all_eq_true.1 (List.all_eq_true.1 h.1.1 t ht) j hj
        simpa using this
      · have := List.all_eq_true.1 h.1.2 j hj
        rw [hd] at this
        simpa using this
    | cons y l1 =>
      simp only [List.cons_append, List.cons.injEq] at e
      obtain ⟨rfl, e⟩ := e
      exact ih h.2 l1 i l2 e

theorem flow_sound {call : Caller} (hc : CallOk P call) {ops : Array Oper} {rb : Nat → Option Nat} {n : Nat} {T : Tr Value} {H : AHeap} {A : List (Nat × Nat)} {f : List Nat} {K : List (Nat × List Nat)} (hf : flowOk P ops A f K = true) {T' : Tr Value} {hs : List AHeap} {H' : AHeap}
    (h : dopsH P call ops rb n f T H = some (T', hs)) (hk : (K.all fun p => p.2.all fun k => tells P ops n T' hs p.1 k) = true) (hl : hs.getLast? = some H') (Q : AExit → AEnv → AHeap → Prop) (hq : Q .normal (envOf n T') H') :
    Covers P ops rb Q (envOf n T) H A (.flow f K) := by
  intro s hs0 hA
  unfold flowOk at hf
  simp only [Bool.and_eq_true] at hf
  obtain ⟨⟨⟨⟨f1, f2⟩, f3⟩, f4⟩, f5⟩ := hf
  have hm : ∀ i, i ∈ s ↔ i < ops.size := fun i => by
    rw [hs0.mem]
    exact ⟨fun h => h.1, fun h => ⟨h, by simp [h]⟩⟩
  have hperm := perm_of_sameSet f1 hs0.nodup hm
  have hfs : ∀ i, i ∈ f ↔ i ∈ s := fun i => hperm.mem_iff.symm
  have hnp : ∀ i ∈ f, ∀ o, ops[i]? = some o → cls P o ≠ .panic := fun i hi o ho => by
    obtain ⟨l1, l2, e⟩ := List.append_of_mem hi
    obtain ⟨o', a1, a2, _⟩ := flowOk_reads f [] f5 l1 i l2 e
    rw [ho] at a1; cases a1; exact a2
  obtain ⟨r1, r2, r3, r4, r5⟩ := dopsH_run hc f T T' H hs h hnp
  generalize hW : f.filter (wrB P ops) = W at *
  have hWn : wrN P ops f = W.length := by unfold wrN; rw [hW]
  have hWf : ∀ w ∈ W, w ∈ f := fun w hw => by rw [← hW] at hw; exact (List.mem_filter.1 hw).1
  have hWnd : W.Nodup := by rw [← hW]; exact (hperm.nodup_iff.1 hs0.nodup).filter _
  have hlast : hs[W.length]? = some H' := by
    rw [List.getLast?_eq_getElem?, r2, hWn] at hl
    simpa using hl
  -- what stands after a part
  let I : List Nat → AEnv → AHeap → Prop := fun D E H => E.n = n ∧ E.ds = (envOf n T).ds ∧ (∀ t, E.g t = if D.any (fun j => dstAt ops j == some t) then T'.get (t + 1) else T.get (t + 1)) ∧ ∃ k, k ≤ W.length ∧ (∀ w x, W[w]? = some x → (x ∈ D ↔ w < k)) ∧ hs[k]? = some H
  refine AOps.along (s := s) (I := I) ?_ ?_ s [] (envOf n T) H rfl ?_
  · rintro s1 i s2 E H1 es ⟨q1, q2, q3, k, q4, q5, q6⟩
    have his : i ∈ s := by rw [es]; simp
    have hif : i ∈ f := (hfs i).2 his
    obtain ⟨l1, l2, ef⟩ := List.append_of_mem hif
    obtain ⟨o, ho, ⟨T1, H2, H3, v, b1, b2, b3, b4, b5, b6⟩⟩ := r5 l1 i l2 ef
    refine ⟨o, ho, ?_⟩
    have hnd := hs0.nodup
    rw [es] at hnd
    have ahead_in : ∀ x, x < ops.size → ordered ops A x i = true → x ∈ s1 := fun x hx hxi => by
      obtain ⟨c1, c2, c3, e⟩ := ordered_ahead hs0 hA hx hxi
      rw [es] at e
      have e2 : s1 ++ i :: s2 = (c1 ++ x :: c2) ++ i :: c3 := by rw [e]
      obtain ⟨rfl, _⟩ := nodup_split hnd e2
      simp
    have behind_out : ∀ x, ordered ops A i x = true → x ∉ s1 := fun x hix hx => by
      obtain ⟨c1, c2, c3, e⟩ := ordered_ahead hs0 hA ((hm i).1 his) hix
      rw [es] at e
      have e2 : s1 ++ i :: s2 = c1 ++ i :: (c2 ++ x :: c3) := by rw [e]; simp
      obtain ⟨rfl, rfl⟩ := nodup_split hnd e2
      simp only [List.nodup_append, List.nodup_cons, List.mem_cons, List.mem_append] at hnd
      exact hnd.2.2 x hx x (by simp) rfl
    have hlooks : looksL ops i = o.looksAt ops := by unfold looksL; rw [ho]
    have hdst : dstAt ops i = o.dst := by unfold dstAt; rw [ho]; rfl
    obtain ⟨hl1, hl2⟩ := flowOk_laid f f4 l1 i l2 ef
    -- the variables looked at
    have hlook : ∀ t ∈ o.looksAt ops, E.get t = (envOf n T').get t := fun t ht => by
      unfold AEnv.get envOf
      rw [q1]
      simp only
      split
      · rw [q3]
        split
        · rfl
        · rename_i hno
          refine (r4 t fun j hj hd => hno ?_).symm
          have := List.all_eq_true.1 (List.all_eq_true.1 f3 i hif) t (by rw [hlooks]; exact ht)
          have := List.all_eq_true.1 this j hj
          rw [hd] at this
          simp only [bne_self_eq_false, Bool.false_or] at this
          rw [List.any_eq_true]
          exact ⟨j, ahead_in j ((hm j).1 ((hfs j).1 hj)) this, by rw [hd]; simp⟩
      · rfl
    have hlook1 : ∀ t ∈ o.looksAt ops, (envOf n T1).get t = (envOf n T').get t := fun t ht => by
      unfold AEnv.get envOf
      simp only
      split
      · exact b5 t (hl1 t (by rw [hlooks]; exact ht))
      · rfl
    have hput : ∀ t, (E.put o.dst v).g t = if (s1 ++ [i]).any (fun j => dstAt ops j == some t) then T'.get (t + 1) else T.get (t + 1) := fun t => by
      rw [List.any_append]
      by_cases hd : o.dst = some t
      · have : (E.put o.dst v).g t = some v := by rw [hd]; simp [AEnv.put, AEnv.set]
        rw [this]
        have hany : [i].any (fun j => dstAt ops j == some t) = true := by simp [hdst, hd]
        rw [hany, Bool.or_true, if_pos rfl]
        exact (b6 t hd (hl2 t (by rw [hdst]; exact hd))).symm
      · have : (E.put o.dst v).g t = E.g t := by
          cases hod : o.dst with
          | none => rfl
          | some d => simp only [AEnv.put, AEnv.set]; rw [if_neg (fun e => hd (by rw [hod, e]))]
        rw [this, q3]
        have hany : [i].any (fun j => dstAt ops j == some t) = false := by
          simp only [List.any_cons, List.any_nil, Bool.or_false, hdst]
          simpa using hd
        rw [hany, Bool.or_false]
    have hpn : ∀ u, (E.put o.dst u).n = n := fun u => (put_n E o.dst u).trans q1
    have hpd : (E.put o.dst v).ds = (envOf n T).ds := by cases hod : o.dst <;> exact q2
    have hi1 : i ∉ s1 := fun hx => by
      simp only [List.nodup_append, List.nodup_cons, List.mem_cons] at hnd
      exact hnd.2.2 i hx i (.inl rfl) rfl
    by_cases hw : wrB P ops i = true
    · -- a writer
      have hiW : i ∈ W := by rw [← hW]; exact List.mem_filter.2 ⟨hif, hw⟩
      have hWi : W[wrN P ops l1]? = some i := by
        rw [← hW, ef, List.filter_append, List.filter_cons, if_pos hw, List.getElem?_append_right (by unfold wrN; omega)]
        unfold wrN; simp
      have hkw : k = wrN P ops l1 := by
        rcases Nat.lt_trichotomy k (wrN P ops l1) with hlt | heq | hgt
        · have hkl : k < W.length := by
            have := (List.getElem?_eq_some_iff.1 hWi).1
            omega
          have hx := List.getElem?_eq_getElem hkl
          have hord := flowOk_pairs W f2 k _ _ _ hlt hx hWi
          have := (q5 k _ hx).1 (ahead_in _ ((hm _).1 ((hfs _).1 (hWf _ (List.getElem_mem hkl)))) hord)
          omega
        · exact heq
        · exact absurd ((q5 _ i hWi).2 hgt) hi1
      subst hkw
      rw [q6] at b1
      cases b1
      refine stepA.at hlook (stepA.at (F := envOf n T1) (fun t ht => (hlook1 t ht).symm) (b3 hw _ _ ?_))
      refine ⟨hpn v, hpd, hput, wrN P ops l1 + 1, ?_, fun w x hx => ?_, b2 hw⟩
      · have := (List.getElem?_eq_some_iff.1 hWi).1; omega
      · rw [List.mem_append, List.mem_singleton]
        constructor
        · rintro (hx1 | rfl)
          · have := (q5 w x hx).1 hx1; omega
          · have := (List.getElem?_inj (List.getElem?_eq_some_iff.1 hx).1 hWnd).1 (hx.trans hWi.symm); omega
        · intro hlt
          rcases Nat.lt_or_ge w (wrN P ops l1) with h1 | h1
          · exact .inl ((q5 w x hx).2 h1)
          · have : w = wrN P ops l1 := by omega
            subst this
            rw [hWi] at hx; cases hx; exact .inr rfl
    · -- none
      have hwf : wrB P ops i = false := by simpa using hw
      have hiW : i ∉ W := by rw [← hW]; exact fun hx => hw (List.mem_filter.1 hx).2
      have keep : I (s1 ++ [i]) (E.put o.dst v) H1 := ⟨hpn v, hpd, hput, k, q4, fun w x hx => by
        rw [List.mem_append, List.mem_singleton]
        constructor
        · rintro (hx1 | rfl)
          · exact (q5 w x hx).1 hx1
          · exact absurd (List.mem_of_getElem? hx) hiW
        · exact fun hlt => .inl ((q5 w x hx).2 hlt), q6⟩
      obtain ⟨o', ho', hpn', hrd⟩ := flowOk_reads f [] f5 l1 i l2 ef
      rw [ho] at ho'; cases ho'
      rw [hW] at hrd
      have hcl : cls P o = .pure ∨ cls P o = .read := by
        unfold wrB at hwf
        rw [ho] at hwf
        simp only at hwf
        cases hc1 : cls P o with
        | pure => exact .inl rfl
        | read => exact .inr rfl
        | write => rw [hc1] at hwf; cases hwf
        | call => rw [hc1] at hwf; cases hwf
        | panic => exact absurd hc1 hpn'
      refine (stepA_fstep hcl E H1 _ _).2 ⟨v, ?_, keep⟩
      have hfeq : ∀ {F G : AEnv} (X : AHeap), (∀ t ∈ o.looksAt ops, F.get t = G.get t) → fstep P ops o F X = fstep P ops o G X := fun {F G} X hFG => by
        cases hx : fstep P ops o G X with
        | some u =>
          obtain ⟨u', e1, e2⟩ := (stepA_fstep (r := none) hcl F X (fun a _ => a = u) (fun _ _ => False)).1 (stepA.at hFG ((stepA_fstep hcl G X _ _).2 ⟨u, hx, rfl⟩))
          rw [e1, e2]
        | none =>
          cases hy : fstep P ops o F X with
          | none => rfl
          | some u =>
            obtain ⟨u', e1, e2⟩ := (stepA_fstep (r := none) hcl G X (fun a _ => a = u) (fun _ _ => False)).1 (stepA.at (fun t ht => (hFG t ht).symm) ((stepA_fstep hcl F X _ _).2 ⟨u, hy, rfl⟩))
            rw [hx] at e1; cases e1
      have hv1 : fstep P ops o (envOf n T') H2 = some v := by rw [← hfeq H2 hlook1]; exact b4 hwf
      rw [hfeq H1 hlook]
      rcases hcl with hp | hr
      · rw [fstep_heap hp _ H1 H2]; exact hv1
      · rcases (hrd hr).2 k (by rw [hWn]; exact q4) with e | ⟨p, hpK, e1, e2⟩ | ⟨w, hw1, hw2⟩ | ⟨w, hw1, hw2⟩
        · have : hs[k]? = hs[wrN P ops l1]? := by rw [e]; simp
          rw [q6, b1] at this
          cases this
          exact hv1
        · have ht := List.all_eq_true.1 (List.all_eq_true.1 hk p hpK) k e2
          unfold tells at ht
          rw [e1, ho, q6] at ht
          simp only at ht
          cases hz : fstep P ops o (envOf n T') H1 with
          | none => rw [hz] at ht; cases ht
          | some u =>
            rw [hz] at ht
            cases hod : o.dst with
            | none =>
              -- nothing is laid: any value will do, but the same one is asked for
              have := (hrd hr).1
              rw [hdst, hod] at this; cases this
            | some d =>
              rw [hod] at ht
              simp only at ht
              have := beqO_eq beqV_eq _ _ ht
              rw [b6 d hod (hl2 d (by rw [hdst]; exact hod))] at this
              exact this.symm
        · exfalso
          refine behind_out w hw2 ?_
          obtain ⟨j, hj⟩ := List.getElem?_of_mem hw1
          rw [List.getElem?_take] at hj
          split at hj
          · rename_i hlt; exact (q5 j w hj).2 hlt
          · cases hj
        · exfalso
          obtain ⟨j, hj⟩ := List.getElem?_of_mem hw1
          rw [List.getElem?_drop] at hj
          have hwW := List.mem_of_getElem? hj
          have := (q5 _ w hj).1 (ahead_in w ((hm w).1 ((hfs w).1 (hWf w hwW))) hw2)
          omega
  · rintro E H1 ⟨q1, q2, q3, k, q4, q5, q6⟩
    have hk' : k = W.length := by
      rcases Nat.lt_or_ge k W.length with hlt | hge
      · have hx := List.getElem?_eq_getElem hlt
        have := (q5 k _ hx).1 ((hfs _).1 (hWf _ (List.getElem_mem hlt)))
        omega
      · omega
    subst hk'
    rw [hlast] at q6
    cases q6
    refine ⟨envOf n T', ⟨q1.symm, fun t u hu => ?_, ?_⟩, hq⟩
    · unfold AEnv.get envOf at hu
      simp only at hu
      unfold AEnv.get
      rw [q1]
      split at hu
      · rename_i ht
        rw [if_pos ht, q3]
        split
        · exact hu
        · rename_i hno
          rw [← r4 t (fun j hj hd => hno (List.any_eq_true.2 ⟨j, (hfs j).1 hj, by rw [hd]; simp⟩))]
          exact hu
      · cases hu
    · rw [q2]
      show defsOf T' = defsOf T
      unfold defsOf
      rw [r3]
  · exact ⟨rfl, rfl, fun t => by simp [envOf], 0, Nat.zero_le _, fun w x _ => by simp, r1⟩

theorem dforms_sound {call : Caller} (hc : CallOk P call) {ops : Array Oper} {rb : Nat → Option Nat} {n : Nat} {T : Tr Value} {H : AHeap} : ∀ (t : Forms) (A : List (Nat × Nat)), formOk P ops A t = true → ∀ r, dforms P call ops rb n T H t = some r →
    ∀ (Q : AExit → AEnv → AHeap → Prop), (∀ T' H', r = some (T', H') → Q .normal (envOf n T') H') → Covers P ops rb Q (envOf n T) H A t := by
  intro t
  induction t with
  | leaf f =>
    intro A hf r h Q hq
    simp only [dforms] at h
    split at h
    · rename_i r' hr
      cases h
      obtain ⟨T', H'⟩ := r'
      exact ⟨hf, dops_sound hc f .normal T T' H H' hr (hq T' H' rfl)⟩
    · cases h
  | flow f K =>
    intro A hf r h Q hq
    simp only [dforms] at h
    split at h
    · rename_i T' hs hd
      split at h
      · rename_i hk
        split at h
        · rename_i H' hl
          cases h
          exact flow_sound hc hf hd hk hl Q (hq T' H' rfl)
        · cases h
      · cases h
    · cases h
  | none => intro A hf r h Q hq; exact hf
  | split x y a b iha ihb =>
    intro A hf r h Q hq
    simp only [formOk, Bool.and_eq_true] at hf
    simp only [dforms] at h
    have hxy : (x != y && decide (x < ops.size) && decide (y < ops.size)) = true := by simp only [Bool.and_eq_true]; exact hf.1.1
    split at h
    · rename_i T1 H1 T2 H2 ha hb
      split at h
      · rename_i he
        simp only [Bool.and_eq_true] at he
        have e1 := beqT_eq beqV_eq _ _ he.1
        have e2 := beqH_eq he.2
        subst e1 e2
        cases h
        exact ⟨hxy, iha _ hf.1.2 _ ha Q hq, ihb _ hf.2 _ hb Q hq⟩
      · cases h
    · rename_i r' ha hb
      cases h
      exact ⟨hxy, iha _ hf.1.2 _ ha Q hq, ihb _ hf.2 _ hb Q (fun T' H' e => by cases e)⟩
    · rename_i r' ha hb
      cases h
      exact ⟨hxy, iha _ hf.1.2 _ ha Q (fun T' H' e => by cases e), ihb _ hf.2 _ hb Q hq⟩
    · rename_i ha hb
      cases h
      exact ⟨hxy, iha _ hf.1.2 _ ha Q hq, ihb _ hf.2 _ hb Q hq⟩
    · cases h

/-- A loop: what holds at each round's head, with a number that each round lowers. -/
theorem AWp.loopN {c : Code} {Q : AExit → AEnv → AHeap → Prop} {E : AEnv} {H : AHeap} (I : Nat → AEnv → AHeap → Prop) {N : Nat} (h0 : I N E H)
    (round : ∀ m E H, I m E H → AWp P c (thenA (fun E' H' => ∃ m', m' < m ∧ I m' E' H') Q) E H) : AWp P (.loop c) Q E H := by
  intro w0 fr φ w a hR hE b k cs
  have key : ∀ m E H, I m E H → ∀ ψ w a', φ.le ψ → Rel P w0 fr ψ H w → RelE ψ E a' →
      ∃ e a1 w1, Lift P w0 fr φ Q e a1 w1 ∧ Arrives P (lone (b.at a' (.code c :: .inLoop c :: k)) cs w) b k cs e a1 w1 := by
    intro m
    induction m using Nat.strongRecOn with
    | _ m ih =>
      intro E H hI ψ w a' hp hR hE
      obtain ⟨e, a1, w1, hq, harr⟩ := round m E H hI w0 fr ψ w a' hR hE b (.inLoop c :: k) cs
      obtain ⟨ae, E', H', χ, q1, q2, q3, q5, q6⟩ := hq
      have hp' := Plan.le_trans hp q1
      cases q5 with
      | normal =>
        obtain ⟨m', hlt, hI'⟩ := q6
        obtain ⟨e2, a2, w2, hq2, harr2⟩ := ih m' hlt E' H' hI' χ w1 a1 hp' q2 q3
        exact ⟨e2, a2, w2, hq2, .of_steps (Steps.trans harr (.one step_inLoop)) harr2⟩
      | exit id => exact ⟨_, a1, w1, ⟨.exit id, E', H', χ, hp', q2, q3, .exit id, q6⟩, .pass (x := .inLoop c) rfl (fun _ _ => .inl (by simp)) harr⟩
      | goto l => exact ⟨_, a1, w1, ⟨.goto l, E', H', χ, hp', q2, q3, .goto l, q6⟩, .pass (x := .inLoop c) rfl (fun _ _ => .inl (by simp)) harr⟩
      | ret => exact ⟨_, a1, w1, ⟨.ret, E', H', χ, hp', q2, q3, .ret, q6⟩, .pass (x := .inLoop c) rfl (fun _ _ => .inl (by simp)) harr⟩
      | panic r => exact ⟨_, a1, w1, ⟨_, E', H', χ, hp', q2, q3, .panic r, q6⟩, .pass (x := .inLoop c) rfl (fun _ _ => .inl (by simp)) harr⟩
  obtain ⟨e, a', w', hq, harr⟩ := key N E H h0 φ w a (Plan.le_refl φ) hR hE
  exact ⟨e, a', w', hq, .of_steps (.one step_loop) harr⟩

def Is (n : Nat) (e : AExit) (T : Tr Value) (H : AHeap) : AExit → AEnv → AHeap → Prop := fun e' E H' => e' = e ∧ E = envOf n T ∧ H' = H

theorem dcode_sound (hm : P.follows .mixedOrders = true) {tab : Nat → Option Forms} {call : Caller} (hc : CallOk P call) {n : Nat} : ∀ (k : Nat) (c : Code), codeOk P tab c = true → ∀ (T T' : Tr Value) (H H' : AHeap) (e : AExit),
    dcode P tab call n k c T H = some (e, T', H') → AWp P c (Is n e T' H') (envOf n T) H := by
  intro k
  induction k with
  | zero => intro c _ T T' H H' e h; cases h
  | succ k ih =>
    intro c hok T T' H H' e h
    cases c with
    | skip => cases h; exact .skip ⟨rfl, rfl, rfl⟩
    | label l => cases h; exact .label ⟨rfl, rfl, rfl⟩
    | exit id => cases h; exact .exit ⟨rfl, rfl, rfl⟩
    | goto l => cases h; exact .goto ⟨rfl, rfl, rfl⟩
    | ret => cases h; exact .ret ⟨rfl, rfl, rfl⟩
    | seq a b =>
      simp only [codeOk, Bool.and_eq_true] at hok
      simp only [dcode] at h
      refine .seq ?_
      cases ha : dcode P tab call n k a T H with
      | none => rw [ha] at h; cases h
      | some r =>
        obtain ⟨e1, T1, H1⟩ := r
        rw [ha] at h
        refine (ih a hok.1 T T1 H H1 e1 ha).mono ?_
        rintro e' E2 H2 ⟨rfl, rfl, rfl⟩
        cases e' with
        | normal => exact ih b hok.2 T1 T' _ H' e h
        | exit id => cases h; exact ⟨rfl, rfl, rfl⟩
        | goto l => cases h; exact ⟨rfl, rfl, rfl⟩
        | ret => cases h; exact ⟨rfl, rfl, rfl⟩
        | panic v => cases h; exact ⟨rfl, rfl, rfl⟩
    | cond x a b =>
      simp only [codeOk, Bool.and_eq_true] at hok
      simp only [dcode] at h
      split at h
      · rename_i hx; exact .cond hx (ih a hok.1 T T' H H' e h)
      · rename_i hx; exact .cond hx (ih b hok.2 T T' H H' e h)
      · cases h
    | block id b =>
      simp only [codeOk] at hok
      simp only [dcode] at h
      refine .block ?_
      cases hb : dcode P tab call n k b T H with
      | none => rw [hb] at h; cases h
      | some r =>
        obtain ⟨e1, T1, H1⟩ := r
        rw [hb] at h
        refine (ih b hok T T1 H H1 e1 hb).mono ?_
        rintro e' E2 H2 ⟨rfl, rfl, rfl⟩
        cases e' with
        | normal => cases h; exact ⟨rfl, rfl, rfl⟩
        | exit id' =>
          simp only at h
          unfold blockA
          simp only
          split at h
          · rename_i he; rw [if_pos he]; cases h; exact ⟨rfl, rfl, rfl⟩
          · rename_i he; rw [if_neg he]; cases h; exact ⟨rfl, rfl, rfl⟩
        | goto l => cases h; exact ⟨rfl, rfl, rfl⟩
        | ret => cases h; exact ⟨rfl, rfl, rfl⟩
        | panic v => cases h; exact ⟨rfl, rfl, rfl⟩
    | scope b =>
      simp only [codeOk] at hok
      simp only [dcode] at h
      refine .scope ?_
      cases hb : dcode P tab call n k b T H with
      | none => rw [hb] at h; cases h
      | some r =>
        obtain ⟨e1, T1, H1⟩ := r
        rw [hb] at h
        refine (ih b hok T T1 H H1 e1 hb).mono ?_
        rintro e' E2 H2 ⟨rfl, rfl, rfl⟩
        cases e' with
        | goto l => cases h
        | normal => cases h; exact ⟨rfl, rfl, rfl⟩
        | exit id' => cases h; exact ⟨rfl, rfl, rfl⟩
        | ret => cases h; exact ⟨rfl, rfl, rfl⟩
        | panic v => cases h; exact ⟨rfl, rfl, rfl⟩
    | loop b =>
      have hok' : codeOk P tab b = true := hok
      -- each round takes one from the number
      refine .loopN (fun m E H => m ≤ k ∧ ∃ T, E = envOf n T ∧ dcode P tab call n (m + 1) (.loop b) T H = some (e, T', H')) (N := k) ⟨Nat.le_refl k, T, rfl, h⟩ ?_
      rintro m E H ⟨hmk, T, rfl, h⟩
      simp only [dcode] at h
      cases hb : dcode P tab call n m b T H with
      | none => rw [hb] at h; cases h
      | some r =>
        obtain ⟨e1, T1, H1⟩ := r
        rw [hb] at h
        have hbody : AWp P b (Is n e1 T1 H1) (envOf n T) H := by
          have mono : ∀ (m' : Nat) (c : Code) (T : Tr Value) (H : AHeap) r, dcode P tab call n m' c T H = some r → dcode P tab call n (m' + 1) c T H = some r := by
            intro m'
            induction m' with
            | zero => intro c T H r h; cases h
            | succ m' ihm =>
              intro c T H r h
              cases c with
              | seq a b =>
                simp only [dcode] at h ⊢
                cases ha : dcode P tab call n m' a T H with
                | none => rw [ha] at h; cases h
                | some q =>
                  have := ihm _ _ _ _ ha
                  simp only [dcode] at this
                  rw [ha] at h
                  rw [this]
                  obtain ⟨e1, T1, H1⟩ := q
                  cases e1 with
                  | normal => have := ihm _ _ _ _ h; simp only [dcode] at this; exact this
                  | _ => exact h
              | cond x a b =>
                simp only [dcode] at h ⊢
                split at h
                · have := ihm _ _ _ _ h; simp only [dcode] at this; exact this
                · have := ihm _ _ _ _ h; simp only [dcode] at this; exact this
                · cases h
              | block id b =>
                simp only [dcode] at h ⊢
                cases ha : dcode P tab call n m' b T H with
                | none => rw [ha] at h; cases h
                | some q =>
                  have := ihm _ _ _ _ ha
                  simp only [dcode] at this
                  rw [ha] at h
                  rw [this]
                  exact h
              | loop b =>
                simp only [dcode] at h ⊢
                cases ha : dcode P tab call n m' b T H with
                | none => rw [ha] at h; cases h
                | some q =>
                  have := ihm _ _ _ _ ha
                  simp only [dcode] at this
                  rw [ha] at h
                  rw [this]
                  obtain ⟨e1, T1, H1⟩ := q
                  cases e1 with
                  | normal => have := ihm _ _ _ _ h; simp only [dcode] at this; exact this
                  | _ => exact h
              | scope b =>
                simp only [dcode] at h ⊢
                cases ha : dcode P tab call n m' b T H with
                | none => rw [ha] at h; cases h
                | some q =>
                  have := ihm _ _ _ _ ha
                  simp only [dcode] at this
                  rw [ha] at h
                  rw [this]
                  exact h
              | region id ops draw => cases draw <;> exact h
              | _ => exact h
          have lift : ∀ (d : Nat) r, dcode P tab call n m b T H = some r → dcode P tab call n (m + d) b T H = some r := by
            intro d
            induction d with
            | zero => intro r h; exact h
            | succ d ihd => intro r h; exact mono _ _ _ _ _ (ihd r h)
          have := lift (k - m) _ hb
          rw [show m + (k - m) = k from by omega] at this
          exact ih b hok' T T1 H H1 e1 this
        refine hbody.mono ?_
        rintro e' E2 H2 ⟨rfl, rfl, rfl⟩
        cases e' with
        | normal =>
          cases m with
          | zero => cases h
          | succ m => exact ⟨m, Nat.lt_succ_self m, by omega, T1, rfl, h⟩
        | exit id => cases h; exact ⟨rfl, rfl, rfl⟩
        | goto l => cases h; exact ⟨rfl, rfl, rfl⟩
        | ret => cases h; exact ⟨rfl, rfl, rfl⟩
        | panic v => cases h; exact ⟨rfl, rfl, rfl⟩
    | region id ops draw =>
      cases draw with
      | false =>
        simp only [dcode] at h
        unfold dregion at h
        split at h
        · exact .region (dops_sound hc _ _ _ _ _ _ h ⟨rfl, rfl, rfl⟩)
        · rename_i o ho
          refine .deferR ho ?_
          split at h
          · rename_i T1 H1 hd
            split at h
            · rename_i d hg hdo
              cases h
              exact dops_sound hc _ _ _ _ _ _ hd ⟨d, hg, hdo, rfl, envOf_def n T1 d, rfl⟩
            · cases h
          · rename_i hne
            refine dops_sound hc _ _ _ _ _ _ h ?_
            cases e with
            | normal => exact (hne _ _ h).elim
            | _ => exact ⟨rfl, rfl, rfl⟩
      | true =>
        simp only [dcode] at h
        simp only [codeOk] at hok
        split at h
        · rename_i t ht
          rw [ht] at hok
          simp only [Bool.and_eq_true] at hok
          split at h
          · rename_i T1 H1 hd
            cases h
            exact .draw hm t hok.1 (dforms_sound hc t [] hok.2 _ hd _ (fun T2 H2 he => by cases he; exact ⟨rfl, rfl, rfl⟩))
          · cases h
        · cases h
    | rangeFunc f p a b => cases h
    | refuse s => cases h

theorem initT_get : ∀ (l : List Value) (i : Nat) (T : Tr Value) (j : Nat), (initT l i T).get (j + 1) = if i ≤ j ∧ j < i + l.length then l[j - i]? else T.get (j + 1) := by
  intro l
  induction l with
  | nil => intro i T j; rw [initT, if_neg (by simp)]
  | cons v l ih =>
    intro i T j
    rw [initT, ih, Tr.get_set]
    simp only [List.length_cons]
    by_cases h1 : i + 1 ≤ j ∧ j < i + 1 + l.length
    · rw [if_pos h1, if_pos (by omega)]
      obtain ⟨d, rfl⟩ : ∃ d, j = i + 1 + d := ⟨j - (i + 1), by omega⟩
      rw [show i + 1 + d - (i + 1) = d from by omega, show i + 1 + d - i = d + 1 from by omega]; rfl
    · rw [if_neg h1]
      by_cases h2 : j = i
      · subst h2; rw [if_pos rfl, if_pos (by omega), Nat.sub_self]; rfl
      · rw [if_neg (by omega), if_neg (by omega)]
theorem initT_zero : ∀ (l : List Value) (i : Nat) (T : Tr Value), (initT l i T).get 0 = T.get 0
  | [], _, _ => rfl
  | v :: l, i, T => by rw [initT, initT_zero l, Tr.get_set, if_neg (by omega)]
theorem enter_le (n : Nat) (args : List Value) : AEnv.le (envOf n (initT args 0 .nil)) (AEnv.enter n args) := by
  refine ⟨rfl, fun t u ht => ?_, ?_⟩
  · unfold AEnv.get envOf at ht
    unfold AEnv.get AEnv.enter
    simp only at ht ⊢
    split at ht
    · rename_i hlt
      rw [if_pos hlt]
      rw [initT_get] at ht
      split at ht
      · simpa using ht
      · cases ht
    · cases ht
  · show defsOf _ = []
    unfold defsOf
    rw [initT_zero]; rfl
theorem AEnv.le_put {E F : AEnv} (h : AEnv.le E F) (d : Option Tmp) (v : Value) : AEnv.le (E.put d v) (F.put d v) := by
  cases d with
  | none => exact h
  | some t =>
    refine ⟨h.1, fun j u hj => ?_, h.2.2⟩
    simp only [AEnv.put] at hj ⊢
    rw [AEnv.get_set] at hj ⊢
    split at hj
    · rename_i e; rw [if_pos e, ← h.1]; exact hj
    · rename_i e; rw [if_neg e]; exact h.2.1 j u hj

/-- The functions that are carried out: their drawn statements' forms are in order. -/
def FnsOk (P : Program) (tab : Nat → Nat → Option Forms) (fns : List Nat) : Prop := ∀ f ∈ fns, ∀ fn c, P.funcs[f]? = some fn → fn.body = some c → codeOk P (tab f) c = true

theorem endsA_ok {fn : Func} {r : Option (AExit × Tr Value × AHeap)} {H : AHeap} (h : endsA P fn r = some H) : ∃ e T H', r = some (e, T, H') ∧ ∀ R : AHeap → Prop, R H → ∀ E H2, Is fn.ntmps e T H' e E H2 → goesOn P fn R e E H2 := by
  unfold endsA at h
  split at h
  · rename_i T H'
    split at h
    · rename_i vs hvs
      cases h
      exact ⟨_, _, _, rfl, fun R hR E H2 ⟨_, e2, e3⟩ => ⟨vs, by rw [e2, e3]; exact hvs, by rw [e3]; exact hR⟩⟩
    · cases h
  · rename_i T H'
    split at h
    · rename_i vs hvs
      cases h
      exact ⟨_, _, _, rfl, fun R hR E H2 ⟨_, e2, e3⟩ => ⟨vs, by rw [e2, e3]; exact hvs, by rw [e3]; exact hR⟩⟩
    · cases h
  · cases h
theorem recOp_ok {tab : Nat → Option Forms} {c rest : Code} {o : Oper} (h : recOp c = some (o, rest)) (k : codeOk P tab c = true) : codeOk P tab rest = true := by
  unfold recOp at h
  split at h
  · rename_i id ops rest'
    split at h
    · split at h
      · split at h
        · split at h
          · cases h
            simp only [codeOk, Bool.and_eq_true] at k
            exact k.2
          · cases h
        · cases h
      · cases h
    · cases h
  · cases h
theorem ddefer_sound (hm : P.follows .mixedOrders = true) {tab : Nat → Nat → Option Forms} {fns : List Nat} (hf : FnsOk P tab fns) {call : Caller} (hc : CallOk P call) {fuel : Nat} {f : FuncId} {args : List Value} {m m' : AMode} {H H' : AHeap} {Q : AMode → AHeap → Prop}
    (h : ddefer P tab fns call fuel f args m H = some (m', H')) (hq : Q m' H') : ADefer P f args m H Q := by
  unfold ddefer at h
  split at h
  · rename_i hg
    simp only [Bool.and_eq_true] at hg
    split at h
    · rename_i fn hfn
      split at h
      · rename_i c hcb
        split at h
        · rename_i hlen
          have hcode := hf f (by simpa using hg.1) fn c hfn hcb
          split at h
          · rename_i o rest hr
            split at h
            · rename_i H2 he
              cases h
              obtain ⟨e, T, H3, hd, hk⟩ := endsA_ok he
              refine ADefer.stops hg.2 hfn hcb hlen hr (AWp.env (AEnv.le_put (enter_le _ _) o.dst (stopped m)) ?_)
              rw [envOf_put]
              refine (dcode_sound hm hc fuel rest (recOp_ok hr hcode) _ T H H3 _ hd).mono ?_
              rintro e2 E2 H4 hi
              obtain ⟨rfl, _⟩ := id hi
              exact hk _ hq _ _ hi
            · cases h
          · split at h
            · rename_i H2 he
              cases h
              obtain ⟨e, T, H3, hd, hk⟩ := endsA_ok he
              refine ADefer.plain hg.2 hfn hcb hlen (AWp.env (enter_le _ _) ?_)
              refine (dcode_sound hm hc fuel c hcode _ T H H3 _ hd).mono ?_
              rintro e2 E2 H4 hi
              obtain ⟨rfl, _⟩ := id hi
              exact hk _ hq _ _ hi
            · cases h
        · cases h
      · cases h
    · cases h
  · cases h
theorem dleaves_sound (hm : P.follows .mixedOrders = true) {tab : Nat → Nat → Option Forms} {fns : List Nat} (hf : FnsOk P tab fns) {call : Caller} (hc : CallOk P call) {fuel : Nat} {fn : Func} {R : AEnd → AHeap → Prop} {E : AEnv} : ∀ (ds : List ADef) (m m' : AMode) (H H' : AHeap),
    dleaves P tab fns call fuel ds m H = some (m', H') → ALeaves P fn R E [] m' H' → ALeaves P fn R E ds m H := by
  intro ds
  induction ds with
  | nil => intro m m' H H' h k; cases h; exact k
  | cons d ds ih =>
    intro m m' H H' h k
    simp only [dleaves] at h
    split at h
    · rename_i m1 H1 hd
      exact ddefer_sound hm hf hc hd (ih m1 m' H1 H' h k)
    · cases h
theorem dfinish_sound (hm : P.follows .mixedOrders = true) {tab : Nat → Nat → Option Forms} {fns : List Nat} (hf : FnsOk P tab fns) {call : Caller} (hc : CallOk P call) {fuel : Nat} {fn : Func} {r : Option (AExit × Tr Value × AHeap)} {v : AEnd} {H' : AHeap}
    (h : dfinish P tab fns call fuel fn r = some (v, H')) : ∃ e T' H1, r = some (e, T', H1) ∧ ∀ R : AEnd → AHeap → Prop, R v H' → finD P fn R e (envOf fn.ntmps T') H1 := by
  unfold dfinish at h
  split at h
  · rename_i e T' H1
    split at h
    · rename_i m hx
      split at h
      · rename_i H2 hl
        split at h
        · rename_i vs hvs
          cases h
          refine ⟨e, T', H1, rfl, fun R hR => ?_⟩
          unfold finD
          rw [hx]
          exact dleaves_sound hm hf hc _ _ _ _ _ hl ⟨vs, hvs, hR⟩
        · cases h
      · rename_i u H2 hl
        cases h
        refine ⟨e, T', H1, rfl, fun R hR => ?_⟩
        unfold finD
        rw [hx]
        exact dleaves_sound hm hf hc _ _ _ _ _ hl hR
      · cases h
    · cases h
  · cases h

theorem dcall_sound (hm : P.follows .mixedOrders = true) {tab : Nat → Nat → Option Forms} {fns : List Nat} (hf : FnsOk P tab fns) {base : Caller} (hbase : CallOk P base) (fuel : Nat) : ∀ k, CallOk P (dcall P tab fns base fuel k) := by
  intro k
  induction k with
  | zero => intro g args H v H' h; exact hbase g args H v H' h
  | succ k ih =>
    intro g args H v H' h
    simp only [dcall] at h
    split at h
    · rename_i r hr
      cases h
      exact hbase g args H v H' hr
    split at h
    · rename_i hg
      split at h
      · rename_i fn hfn
        split at h
        · rename_i c hcb
          split at h
          · rename_i hlen
            have hcode := hf g (by simpa using hg) fn c hfn hcb
            obtain ⟨e, T', H1, hd, hk⟩ := dfinish_sound hm hf ih h
            refine ACall.of_bodyD hfn hcb hlen (AWp.env (enter_le _ _) ?_)
            refine (dcode_sound hm ih fuel c hcode _ T' H H1 _ hd).mono ?_
            rintro e2 E2 H2 ⟨rfl, rfl, rfl⟩
            exact hk _ ⟨rfl, rfl⟩
          · cases h
        · cases h
      · cases h
    · cases h
end
end Go.Proofs.YtfolofhknhgpiaaGreatDoor
