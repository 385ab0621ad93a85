/- Code carried out over abstract heaps by reckoning alone, and that this is sound. -/
import Derived.Test.YtihpfgnigpmihaaGreatA13
set_option linter.unusedVariables false
set_option linter.unusedSimpArgs false
namespace Go.Proofs.YtihpfgnigpmihaaGreat
open Go

/-! ### Equality of states, by reckoning -/
mutual
def beqV : Value → Value → Bool
  | .bool a, .bool b => a == b
  | .int j a, .int k b => decide (j = k) && decide (a = b)
  | .float j a, .float k b => decide (j = k) && decide (a = b)
  | .string a, .string b => decide (a.data.toList = b.data.toList)
  | .pointer a, .pointer b => decide (a = b)
  | .slice a n c, .slice b m d => decide (a = b) && decide (n = m) && decide (c = d)
  | .map a, .map b => decide (a = b)
  | .func f ⟨x⟩ ⟨y⟩, .func g ⟨u⟩ ⟨v⟩ => decide (f = g) && beqL x u && beqL y v
  | .nilFunc, .nilFunc => true
  | .iface t v, .iface u w => decide (t = u) && beqV v w
  | .nilIface, .nilIface => true
  | .agg ⟨x⟩, .agg ⟨y⟩ => beqL x y
  | .tuple ⟨x⟩, .tuple ⟨y⟩ => beqL x y
  | _, _ => false
def beqL : List Value → List Value → Bool
  | [], [] => true
  | a :: x, b :: y => beqV a b && beqL x y
  | _, _ => false
end
theorem bytes_ext {a b : ByteArray} (h : a.data.toList = b.data.toList) : a = b := by
  apply ByteArray.ext
  rw [← Array.toList_inj, h]
mutual
theorem beqV_eq : ∀ (a b : Value), beqV a b = true → a = b
  | .bool a, b, h => by cases b <;> simp_all [beqV]
  | .int j a, b, h => by cases b <;> simp_all [beqV]
  | .float j a, b, h => by cases b <;> simp_all [beqV]
  | .complex j a c, b, h => by cases b <;> simp [beqV] at h
  | .string a, b, h => by
    cases b <;> simp only [beqV, Bool.false_eq_true, decide_eq_true_eq] at h
    rw [bytes_ext h]
  | .pointer a, b, h => by cases b <;> simp_all [beqV]
  | .slice a n c, b, h => by cases b <;> simp_all [beqV]
  | .map a, b, h => by cases b <;> simp_all [beqV]
  | .chan a, b, h => by cases b <;> simp [beqV] at h
  | .func f ⟨x⟩ ⟨y⟩, b, h => by
    cases b with
    | func g u v =>
      obtain ⟨u⟩ := u; obtain ⟨v⟩ := v
      simp only [beqV, Bool.and_eq_true, decide_eq_true_eq] at h
      rw [h.1.1, beqL_eq x u h.1.2, beqL_eq y v h.2]
    | _ => simp [beqV] at h
  | .nilFunc, b, h => by cases b <;> simp_all [beqV]
  | .iface t v, b, h => by
    cases b with
    | iface u w =>
      simp only [beqV, Bool.and_eq_true, decide_eq_true_eq] at h
      rw [h.1, beqV_eq v w h.2]
    | _ => simp [beqV] at h
  | .nilIface, b, h => by cases b <;> simp_all [beqV]
  | .agg ⟨x⟩, b, h => by
    cases b with
    | agg y => obtain ⟨y⟩ := y; simp only [beqV] at h; rw [beqL_eq x y h]
    | _ => simp [beqV] at h
  | .tuple ⟨x⟩, b, h => by
    cases b with
    | tuple y => obtain ⟨y⟩ := y; simp only [beqV] at h; rw [beqL_eq x y h]
    | _ => simp [beqV] at h
theorem beqL_eq : ∀ (a b : List Value), beqL a b = true → a = b
  | [], b, h => by cases b <;> simp_all [beqL]
  | x :: a, b, h => by
    cases b with
    | nil => simp [beqL] at h
    | cons y b =>
      simp only [beqL, Bool.and_eq_true] at h
      rw [beqV_eq x y h.1, beqL_eq a b h.2]
end
def beqE : List MapEntry → List MapEntry → Bool
  | [], [] => true
  | a :: x, b :: y => beqV a.key b.key && beqV a.val b.val && decide (a.born = b.born) && beqE x y
  | _, _ => false
theorem beqE_eq : ∀ (a b : List MapEntry), beqE a b = true → a = b
  | [], b, h => by cases b <;> simp_all [beqE]
  | x :: a, b, h => by
    cases b with
    | nil => simp [beqE] at h
    | cons y b =>
      simp only [beqE, Bool.and_eq_true, decide_eq_true_eq] at h
      have : x = y := by
        obtain ⟨k, v, n⟩ := x; obtain ⟨k', v', n'⟩ := y
        simp only at h
        rw [beqV_eq _ _ h.1.1.1, beqV_eq _ _ h.1.1.2, h.1.2]
      rw [this, beqE_eq a b h.2]
def beqB : ABlk → ABlk → Bool
  | .cells a e r, .cells b f s => beqL a b && decide (e = f) && decide (r = s)
  | .map a c, .map b d => beqE a b && decide (c = d)
  | .iter a p, .iter b q => decide (a.data.toList = b.data.toList) && decide (p = q)
  | _, _ => false
theorem beqB_eq : ∀ (a b : ABlk), beqB a b = true → a = b := by
  intro a b h
  cases a <;> cases b <;> simp only [beqB, Bool.and_eq_true, decide_eq_true_eq, Bool.false_eq_true] at h
  · rw [beqL_eq _ _ h.1.1, h.1.2, h.2]
  · rw [beqE_eq _ _ h.1, h.2]
  · rw [bytes_ext h.1, h.2]
def beqO {α : Type} (f : α → α → Bool) : Option α → Option α → Bool
  | none, none => true
  | some a, some b => f a b
  | _, _ => false
def beqT {α : Type} (f : α → α → Bool) : Tr α → Tr α → Bool
  | .nil, .nil => true
  | .node a v b, .node c w d => beqO f v w && beqT f a c && beqT f b d
  | _, _ => false
theorem beqO_eq {α : Type} {f : α → α → Bool} (hf : ∀ a b, f a b = true → a = b) : ∀ a b, beqO f a b = true → a = b := by
  intro a b h
  cases a <;> cases b <;> simp only [beqO, Bool.false_eq_true] at h
  · rfl
  · rw [hf _ _ h]
theorem beqT_eq {α : Type} {f : α → α → Bool} (hf : ∀ a b, f a b = true → a = b) : ∀ a b, beqT f a b = true → a = b := by
  intro a
  induction a with
  | nil => intro b h; cases b <;> simp_all [beqT]
  | node l v r ihl ihr =>
    intro b h
    cases b with
    | nil => simp [beqT] at h
    | node c w d =>
      simp only [beqT, Bool.and_eq_true] at h
      rw [ihl _ h.1.2, ihr _ h.2, beqO_eq hf _ _ h.1.1]
def beqH (a b : AHeap) : Bool := decide (a.next = b.next) && beqT beqB a.m b.m && decide (a.rs = b.rs)
theorem beqH_eq {a b : AHeap} (h : beqH a b = true) : a = b := by
  obtain ⟨n, m, r⟩ := a; obtain ⟨n', m', r'⟩ := b
  simp only [beqH, Bool.and_eq_true, decide_eq_true_eq] at h
  rw [h.1.1, beqT_eq beqB_eq _ _ h.1.2, h.2]

/-! ### Carrying out -/
abbrev Caller := FuncId → List Value → AHeap → Option (Value × AHeap)
def envOf (n : Nat) (T : Tr Value) : AEnv := ⟨n, T.get⟩
def tput (T : Tr Value) (d : Option Tmp) (v : Value) : Tr Value := match d with | some t => T.set t (some v) | none => T
theorem envOf_put (n : Nat) (T : Tr Value) (d : Option Tmp) (v : Value) : (envOf n T).put d v = envOf n (tput T d v) := by
  cases d with
  | none => rfl
  | some t =>
    simp only [AEnv.put, AEnv.set, envOf, tput, AEnv.mk.injEq, true_and]
    funext j
    rw [Tr.get_set]

def dexec (P : Program) (call : Caller) (E : AEnv) (o : Oper) (r : Option Nat) (H : AHeap) : Option (Value × AHeap) :=
  match cls P o with
  | .pure => match pexec P E o with
    | some v => some (v, H)
    | none => none
  | .read => match rexec P E H o with
    | some v => some (v, H)
    | none => none
  | .write => match isFill r o with
    | some (id, e) => match zeroC P e with
      | some z => if H.rs.contains id && (H.get id).isNone then some (.pointer (some ⟨id, 0, none⟩), H.fill id (.cells (vcells z) e false)) else none
      | none => none
    | none => wexec P E H o
  | .call => match callee E o with
    | some (g, args) => if enters P g then call g args H else none
    | none => none
def dops (P : Program) (call : Caller) (ops : Array Oper) (rb : Nat → Option Nat) (n : Nat) : List Nat → Tr Value → AHeap → Option (Tr Value × AHeap)
  | [], T, H => some (T, H)
  | i :: l, T, H => match ops[i]? with
    | none => dops P call ops rb n l T H
    | some o => match guardA ops (envOf n T) o with
      | some true => match dexec P call (envOf n T) o (rb i) H with
        | some (v, H') => dops P call ops rb n l (tput T o.dst v) H'
        | none => none
      | some false => dops P call ops rb n l (tput T o.dst undef) H
      | none => none
/-- All orders lead to one state. -/
def dforms (P : Program) (call : Caller) (ops : Array Oper) (rb : Nat → Option Nat) (n : Nat) (T : Tr Value) (H : AHeap) : Forms → Option (Option (Tr Value × AHeap))
  | .leaf f => match dops P call ops rb n f T H with
    | some r => some (some r)
    | none => none
  | .none => some none
  | .split _ _ a b => match dforms P call ops rb n T H a, dforms P call ops rb n T H b with
    | some (some (T1, H1)), some (some (T2, H2)) => if beqT beqV T1 T2 && beqH H1 H2 then some (some (T1, H1)) else none
    | some (some r), some none => some (some r)
    | some none, some (some r) => some (some r)
    | some none, some none => some none
    | _, _ => none
def dcode (P : Program) (tab : Nat → Option Forms) (call : Caller) (n : Nat) : Nat → Code → Tr Value → AHeap → Option (AExit × Tr Value × AHeap)
  | 0, _, _, _ => none
  | k + 1, c, T, H => match c with
    | .skip | .label _ => some (.normal, T, H)
    | .exit id => some (.exit id, T, H)
    | .goto l => some (.goto l, T, H)
    | .ret => some (.ret, T, H)
    | .seq a b => match dcode P tab call n k a T H with
      | some (.normal, T', H') => dcode P tab call n k b T' H'
      | r => r
    | .cond x a b => match (envOf n T).eval x with
      | some (.bool true) => dcode P tab call n k a T H
      | some (.bool false) => dcode P tab call n k b T H
      | _ => none
    | .block id b => match dcode P tab call n k b T H with
      | some (.exit id', T', H') => if id' = id then some (.normal, T', H') else some (.exit id', T', H')
      | r => r
    | .loop b => match dcode P tab call n k b T H with
      | some (.normal, T', H') => dcode P tab call n k (.loop b) T' H'
      | r => r
    | .region id ops false => match dops P call ops (fun _ => none) n (List.range ops.size) T H with
      | some (T', H') => some (.normal, T', H')
      | none => none
    | .region id ops true => match tab id with
      | some t => match dforms P call ops (rbAt ops.toList H.next) n T (keeps H ops.toList) t with
        | some (some (T', H')) => some (.normal, T', H')
        | _ => none
      | none => none
    | _ => none

/-- The forms of all drawn statements of a function are in order. -/
def formOk (P : Program) (ops : Array Oper) : List (Nat × Nat) → Forms → Bool
  | A, .leaf f => sameSet ops.size f && pairsOk ops P A f
  | A, .split x y a b => (x != y && decide (x < ops.size) && decide (y < ops.size)) && formOk P ops ((x, y) :: A) a && formOk P ops ((y, x) :: A) b
  | A, .none => clash ops A
def codeOk (P : Program) (tab : Nat → Option Forms) : Code → Bool
  | .seq a b => codeOk P tab a && codeOk P tab b
  | .cond _ a b => codeOk P tab a && codeOk P tab b
  | .block _ b => codeOk P tab b
  | .loop b => codeOk P tab b
  | .region id ops true => match tab id with
    | some t => backOk ops && formOk P ops [] t
    | none => false
  | .rangeFunc .. | .scope _ => false
  | _ => true

def initT : List Value → Nat → Tr Value → Tr Value
  | [], _, T => T
  | v :: l, i, T => initT l (i + 1) (T.set i (some v))
def dcall (P : Program) (tab : Nat → Nat → Option Forms) (fns : List Nat) (base : Caller) (fuel : Nat) : Nat → Caller
  | 0, f, args, H => base f args H
  | k + 1, f, args, H => match base f args H with
    | some r => some r
    | none => if fns.contains f then
      match P.funcs[f]? with
      | some fn => match fn.body with
        | some c => if args.length ≤ fn.ntmps then
            match dcode P (tab f) (dcall P tab fns base fuel k) fn.ntmps fuel c (initT args 0 .nil) H with
            | some (.normal, T', H') => match resultsA P (envOf fn.ntmps T') H' fn.results.toList with
              | some vs => some (tupleA vs, H')
              | none => none
            | some (.ret, T', H') => match resultsA P (envOf fn.ntmps T') H' fn.results.toList with
              | some vs => some (tupleA vs, H')
              | none => none
            | _ => none
          else none
        | none => none
      | none => none
    else none

def noBase : Caller := fun _ _ _ => none

/-! ### It is sound -/
section
variable {P : Program}

def CallOk (P : Program) (call : Caller) : Prop := ∀ g args H v H', call g args H = some (v, H') → ACall P g args H fun e H2 => e = .ret v ∧ H2 = H'

theorem noBase_ok : CallOk P noBase := fun _ _ _ _ _ h => by cases h

theorem AOps.mono {ops : Array Oper} {rb : Nat → Option Nat} {Q Q' : AExit → AEnv → AHeap → Prop} (hq : ∀ e E H, Q e E H → Q' e E H) : ∀ (l : List Nat) (E : AEnv) (H : AHeap), AOps P ops rb Q l E H → AOps P ops rb Q' l E H := by
  intro l
  induction l with
  | nil => intro E H h; exact hq _ _ _ h
  | cons i l ih =>
    intro E H h
    cases hi : ops[i]? with
    | none => rw [AOps.cons_none hi] at h ⊢; exact ih _ _ h
    | some o => rw [AOps.cons_eq hi] at h ⊢; exact stepA.mono (fun v H => ih _ _) (fun v H h => hq _ _ _ h) h

theorem dops_sound {call : Caller} (hc : CallOk P call) {ops : Array Oper} {rb : Nat → Option Nat} {n : Nat} {Q : AExit → AEnv → AHeap → Prop} : ∀ (l : List Nat) (T T' : Tr Value) (H H' : AHeap), dops P call ops rb n l T H = some (T', H') → Q .normal (envOf n T') H' →
    AOps P ops rb Q l (envOf n T) H := by
  intro l
  induction l with
  | nil => intro T T' H H' h hq; cases h; exact hq
  | cons i l ih =>
    intro T T' H H' h hq
    simp only [dops] at h
    cases hi : ops[i]? with
    | none => rw [hi] at h; rw [AOps.cons_none hi]; exact ih T T' H H' h hq
    | some o =>
      rw [hi] at h
      rw [AOps.cons_eq hi]
      unfold stepA
      simp only at h
      split at h
      · rename_i hg
        rw [hg]
        simp only
        split at h
        · rename_i v H1 hd
          have hk := ih _ T' H1 H' h hq
          rw [← envOf_put] at hk
          unfold dexec at hd
          unfold execR execA
          split at hd
          · rename_i hcl
            split at hd
            · rename_i u hp
              cases hd
              split
              · rename_i hfill; have hop := (isFill_spec hfill).2; simp [cls, hop] at hcl
              · simp only [hcl]; exact ⟨v, hp, hk⟩
            · cases hd
          · rename_i hcl
            split at hd
            · rename_i u hp
              cases hd
              split
              · rename_i hfill; have hop := (isFill_spec hfill).2; simp [cls, hop] at hcl
              · simp only [hcl]; exact ⟨v, hp, hk⟩
            · cases hd
          · rename_i hcl
            split at hd
            · rename_i id e hfill
              rw [hfill]
              simp only
              split at hd
              · rename_i z hz
                split at hd
                · rename_i hid
                  cases hd
                  exact ⟨z, hz, by simpa using hid, hk⟩
                · cases hd
              · cases hd
            · rename_i hno
              rw [hno]
              simp only [hcl]; exact ⟨v, H1, hd, hk⟩
          · rename_i hcl
            split at hd
            · rename_i g args hca
              split at hd
              · rename_i hen
                split
                · rename_i hfill; have hop := (isFill_spec hfill).2; simp [cls, hop] at hcl
                · simp only [hcl]
                  refine ⟨g, args, hca, hen, (hc g args H v H1 hd).mono fun e H2 he => ?_⟩
                  obtain ⟨rfl, rfl⟩ := he
                  exact hk
              · cases hd
            · cases hd
        · cases h
      · rename_i hg
        rw [hg]
        simp only
        have hk := ih _ T' H H' h hq
        rw [← envOf_put] at hk
        exact hk
      · cases h

theorem dforms_sound {call : Caller} (hc : CallOk P call) {ops : Array Oper} {rb : Nat → Option Nat} {n : Nat} {T : Tr Value} {H : AHeap} : ∀ (t : Forms) (A : List (Nat × Nat)), formOk P ops A t = true → ∀ r, dforms P call ops rb n T H t = some r →
    ∀ (Q : AExit → AEnv → AHeap → Prop), (∀ T' H', r = some (T', H') → Q .normal (envOf n T') H') → Covers P ops rb Q (envOf n T) H A t := by
  intro t
  induction t with
  | leaf f =>
    intro A hf r h Q hq
    simp only [dforms] at h
    split at h
    · rename_i r' hr
      cases h
      obtain ⟨T', H'⟩ := r'
      exact ⟨hf, dops_sound hc f T T' H H' hr (hq T' H' rfl)⟩
    · cases h
  | none => intro A hf r h Q hq; exact hf
  | split x y a b iha ihb =>
    intro A hf r h Q hq
    simp only [formOk, Bool.and_eq_true] at hf
    simp only [dforms] at h
    have hxy : (x != y && decide (x < ops.size) && decide (y < ops.size)) = true := by simp only [Bool.and_eq_true]; exact hf.1.1
    split at h
    · rename_i T1 H1 T2 H2 ha hb
      split at h
      · rename_i he
        simp only [Bool.and_eq_true] at he
        have e1 := beqT_eq beqV_eq _ _ he.1
        have e2 := beqH_eq he.2
        subst e1 e2
        cases h
        exact ⟨hxy, iha _ hf.1.2 _ ha Q hq, ihb _ hf.2 _ hb Q hq⟩
      · cases h
    · rename_i r' ha hb
      cases h
      exact ⟨hxy, iha _ hf.1.2 _ ha Q hq, ihb _ hf.2 _ hb Q (fun T' H' e => by cases e)⟩
    · rename_i r' ha hb
      cases h
      exact ⟨hxy, iha _ hf.1.2 _ ha Q (fun T' H' e => by cases e), ihb _ hf.2 _ hb Q hq⟩
    · rename_i ha hb
      cases h
      exact ⟨hxy, iha _ hf.1.2 _ ha Q hq, ihb _ hf.2 _ hb Q hq⟩
    · cases h

/-- A loop: what holds at each round's head, with a number that each round lowers. -/
theorem AWp.loopN {c : Code} {Q : AExit → AEnv → AHeap → Prop} {E : AEnv} {H : AHeap} (I : Nat → AEnv → AHeap → Prop) {N : Nat} (h0 : I N E H)
    (round : ∀ m E H, I m E H → AWp P c (thenA (fun E' H' => ∃ m', m' < m ∧ I m' E' H') Q) E H) : AWp P (.loop c) Q E H := by
  intro w0 fr φ w a hR hE b k cs
  have key : ∀ m E H, I m E H → ∀ ψ w a', φ.le ψ → Rel P w0 fr ψ H w → RelE ψ E a' → a'.defers = a.defers →
      ∃ e a1 w1, Lift P w0 fr φ a.defers Q e a1 w1 ∧ Arrives P (lone (b.at a' (.code c :: .inLoop c :: k)) cs w) b k cs e a1 w1 := by
    intro m
    induction m using Nat.strongRecOn with
    | _ m ih =>
      intro E H hI ψ w a' hp hR hE hd
      obtain ⟨e, a1, w1, hq, harr⟩ := round m E H hI w0 fr ψ w a' hR hE b (.inLoop c :: k) cs
      obtain ⟨ae, E', H', χ, q1, q2, q3, q4, q5, q6⟩ := hq
      have hp' := Plan.le_trans hp q1
      have hd' := q4.trans hd
      cases q5 with
      | normal =>
        obtain ⟨m', hlt, hI'⟩ := q6
        obtain ⟨e2, a2, w2, hq2, harr2⟩ := ih m' hlt E' H' hI' χ w1 a1 hp' q2 q3 hd'
        exact ⟨e2, a2, w2, hq2, .of_steps (Steps.trans harr (.one step_inLoop)) harr2⟩
      | exit id => exact ⟨_, a1, w1, ⟨.exit id, E', H', χ, hp', q2, q3, hd', .exit id, q6⟩, .pass (x := .inLoop c) rfl (fun _ _ => .inl (by simp)) harr⟩
      | goto l => exact ⟨_, a1, w1, ⟨.goto l, E', H', χ, hp', q2, q3, hd', .goto l, q6⟩, .pass (x := .inLoop c) rfl (fun _ _ => .inl (by simp)) harr⟩
      | ret => exact ⟨_, a1, w1, ⟨.ret, E', H', χ, hp', q2, q3, hd', .ret, q6⟩, .pass (x := .inLoop c) rfl (fun _ _ => .inl (by simp)) harr⟩
      | panic r => exact ⟨_, a1, w1, ⟨_, E', H', χ, hp', q2, q3, hd', .panic r, q6⟩, .pass (x := .inLoop c) rfl (fun _ _ => .inl (by simp)) harr⟩
  obtain ⟨e, a', w', hq, harr⟩ := key N E H h0 φ w a (Plan.le_refl φ) hR hE rfl
  exact ⟨e, a', w', hq, .of_steps (.one step_loop) harr⟩

def Is (n : Nat) (e : AExit) (T : Tr Value) (H : AHeap) : AExit → AEnv → AHeap → Prop := fun e' E H' => e' = e ∧ E = envOf n T ∧ H' = H

theorem dcode_sound (hm : P.follows .mixedOrders = true) {tab : Nat → Option Forms} {call : Caller} (hc : CallOk P call) {n : Nat} : ∀ (k : Nat) (c : Code), codeOk P tab c = true → ∀ (T T' : Tr Value) (H H' : AHeap) (e : AExit),
    dcode P tab call n k c T H = some (e, T', H') → AWp P c (Is n e T' H') (envOf n T) H := by
  intro k
  induction k with
  | zero => intro c _ T T' H H' e h; cases h
  | succ k ih =>
    intro c hok T T' H H' e h
    cases c with
    | skip => cases h; exact .skip ⟨rfl, rfl, rfl⟩
    | label l => cases h; exact .label ⟨rfl, rfl, rfl⟩
    | exit id => cases h; exact .exit ⟨rfl, rfl, rfl⟩
    | goto l => cases h; exact .goto ⟨rfl, rfl, rfl⟩
    | ret => cases h; exact .ret ⟨rfl, rfl, rfl⟩
    | seq a b =>
      simp only [codeOk, Bool.and_eq_true] at hok
      simp only [dcode] at h
      refine .seq ?_
      cases ha : dcode P tab call n k a T H with
      | none => rw [ha] at h; cases h
      | some r =>
        obtain ⟨e1, T1, H1⟩ := r
        rw [ha] at h
        refine (ih a hok.1 T T1 H H1 e1 ha).mono ?_
        rintro e' E2 H2 ⟨rfl, rfl, rfl⟩
        cases e' with
        | normal => exact ih b hok.2 T1 T' _ H' e h
        | exit id => cases h; exact ⟨rfl, rfl, rfl⟩
        | goto l => cases h; exact ⟨rfl, rfl, rfl⟩
        | ret => cases h; exact ⟨rfl, rfl, rfl⟩
        | panic v => cases h; exact ⟨rfl, rfl, rfl⟩
    | cond x a b =>
      simp only [codeOk, Bool.and_eq_true] at hok
      simp only [dcode] at h
      split at h
      · rename_i hx; exact .cond hx (ih a hok.1 T T' H H' e h)
      · rename_i hx; exact .cond hx (ih b hok.2 T T' H H' e h)
      · cases h
    | block id b =>
      simp only [codeOk] at hok
      simp only [dcode] at h
      refine .block ?_
      cases hb : dcode P tab call n k b T H with
      | none => rw [hb] at h; cases h
      | some r =>
        obtain ⟨e1, T1, H1⟩ := r
        rw [hb] at h
        refine (ih b hok T T1 H H1 e1 hb).mono ?_
        rintro e' E2 H2 ⟨rfl, rfl, rfl⟩
        cases e' with
        | normal => cases h; exact ⟨rfl, rfl, rfl⟩
        | exit id' =>
          simp only at h
          unfold blockA
          simp only
          split at h
          · rename_i he; rw [if_pos he]; cases h; exact ⟨rfl, rfl, rfl⟩
          · rename_i he; rw [if_neg he]; cases h; exact ⟨rfl, rfl, rfl⟩
        | goto l => cases h; exact ⟨rfl, rfl, rfl⟩
        | ret => cases h; exact ⟨rfl, rfl, rfl⟩
        | panic v => cases h; exact ⟨rfl, rfl, rfl⟩
    | loop b =>
      have hok' : codeOk P tab b = true := hok
      -- each round takes one from the number
      refine .loopN (fun m E H => m ≤ k ∧ ∃ T, E = envOf n T ∧ dcode P tab call n (m + 1) (.loop b) T H = some (e, T', H')) (N := k) ⟨Nat.le_refl k, T, rfl, h⟩ ?_
      rintro m E H ⟨hmk, T, rfl, h⟩
      simp only [dcode] at h
      cases hb : dcode P tab call n m b T H with
      | none => rw [hb] at h; cases h
      | some r =>
        obtain ⟨e1, T1, H1⟩ := r
        rw [hb] at h
        have hbody : AWp P b (Is n e1 T1 H1) (envOf n T) H := by
          have mono : ∀ (m' : Nat) (c : Code) (T : Tr Value) (H : AHeap) r, dcode P tab call n m' c T H = some r → dcode P tab call n (m' + 1) c T H = some r := by
            intro m'
            induction m' with
            | zero => intro c T H r h; cases h
            | succ m' ihm =>
              intro c T H r h
              cases c with
              | seq a b =>
                simp only [dcode] at h ⊢
                cases ha : dcode P tab call n m' a T H with
                | none => rw [ha] at h; cases h
                | some q =>
                  have := ihm _ _ _ _ ha
                  simp only [dcode] at this
                  rw [ha] at h
                  rw [this]
                  obtain ⟨e1, T1, H1⟩ := q
                  cases e1 with
                  | normal => have := ihm _ _ _ _ h; simp only [dcode] at this; exact this
                  | _ => exact h
              | cond x a b =>
                simp only [dcode] at h ⊢
                split at h
                · have := ihm _ _ _ _ h; simp only [dcode] at this; exact this
                · have := ihm _ _ _ _ h; simp only [dcode] at this; exact this
                · cases h
              | block id b =>
                simp only [dcode] at h ⊢
                cases ha : dcode P tab call n m' b T H with
                | none => rw [ha] at h; cases h
                | some q =>
                  have := ihm _ _ _ _ ha
                  simp only [dcode] at this
                  rw [ha] at h
                  rw [this]
                  exact h
              | loop b =>
                simp only [dcode] at h ⊢
                cases ha : dcode P tab call n m' b T H with
                | none => rw [ha] at h; cases h
                | some q =>
                  have := ihm _ _ _ _ ha
                  simp only [dcode] at this
                  rw [ha] at h
                  rw [this]
                  obtain ⟨e1, T1, H1⟩ := q
                  cases e1 with
                  | normal => have := ihm _ _ _ _ h; simp only [dcode] at this; exact this
                  | _ => exact h
              | region id ops draw => cases draw <;> exact h
              | _ => exact h
          have lift : ∀ (d : Nat) r, dcode P tab call n m b T H = some r → dcode P tab call n (m + d) b T H = some r := by
            intro d
            induction d with
            | zero => intro r h; exact h
            | succ d ihd => intro r h; exact mono _ _ _ _ _ (ihd r h)
          have := lift (k - m) _ hb
          rw [show m + (k - m) = k from by omega] at this
          exact ih b hok' T T1 H H1 e1 this
        refine hbody.mono ?_
        rintro e' E2 H2 ⟨rfl, rfl, rfl⟩
        cases e' with
        | normal =>
          cases m with
          | zero => cases h
          | succ m => exact ⟨m, Nat.lt_succ_self m, by omega, T1, rfl, h⟩
        | exit id => cases h; exact ⟨rfl, rfl, rfl⟩
        | goto l => cases h; exact ⟨rfl, rfl, rfl⟩
        | ret => cases h; exact ⟨rfl, rfl, rfl⟩
        | panic v => cases h; exact ⟨rfl, rfl, rfl⟩
    | region id ops draw =>
      cases draw with
      | false =>
        simp only [dcode] at h
        split at h
        · rename_i T1 H1 hd
          cases h
          exact .region (dops_sound hc _ _ _ _ _ hd ⟨rfl, rfl, rfl⟩)
        · cases h
      | true =>
        simp only [dcode] at h
        simp only [codeOk] at hok
        split at h
        · rename_i t ht
          rw [ht] at hok
          simp only [Bool.and_eq_true] at hok
          split at h
          · rename_i T1 H1 hd
            cases h
            exact .draw hm t hok.1 (dforms_sound hc t [] hok.2 _ hd _ (fun T2 H2 he => by cases he; exact ⟨rfl, rfl, rfl⟩))
          · cases h
        · cases h
    | rangeFunc f p a b => cases h
    | scope b => cases h
    | refuse s => cases h

theorem initT_get : ∀ (l : List Value) (i : Nat) (T : Tr Value) (j : Nat), (initT l i T).get j = if i ≤ j ∧ j < i + l.length then l[j - i]? else T.get j := by
  intro l
  induction l with
  | nil => intro i T j; rw [initT, if_neg (by simp)]
  | cons v l ih =>
    intro i T j
    rw [initT, ih, Tr.get_set]
    simp only [List.length_cons]
    by_cases h1 : i + 1 ≤ j ∧ j < i + 1 + l.length
    · rw [if_pos h1, if_pos (by omega)]
      obtain ⟨d, rfl⟩ : ∃ d, j = i + 1 + d := ⟨j - (i + 1), by omega⟩
      rw [show i + 1 + d - (i + 1) = d from by omega, show i + 1 + d - i = d + 1 from by omega]; rfl
    · rw [if_neg h1]
      by_cases h2 : j = i
      · subst h2; rw [if_pos rfl, if_pos (by omega), Nat.sub_self]; rfl
      · rw [if_neg h2, if_neg (by omega)]

/-- The functions that are carried out: their drawn statements' forms are in order. -/
def FnsOk (P : Program) (tab : Nat → Nat → Option Forms) (fns : List Nat) : Prop := ∀ f ∈ fns, ∀ fn c, P.funcs[f]? = some fn → fn.body = some c → codeOk P (tab f) c = true

theorem dcall_sound (hm : P.follows .mixedOrders = true) {tab : Nat → Nat → Option Forms} {fns : List Nat} (hf : FnsOk P tab fns) {base : Caller} (hbase : CallOk P base) (fuel : Nat) : ∀ k, CallOk P (dcall P tab fns base fuel k) := by
  intro k
  induction k with
  | zero => intro g args H v H' h; exact hbase g args H v H' h
  | succ k ih =>
    intro g args H v H' h
    simp only [dcall] at h
    split at h
    · rename_i r hr
      cases h
      exact hbase g args H v H' hr
    split at h
    · rename_i hg
      split at h
      · rename_i fn hfn
        split at h
        · rename_i c hcb
          split at h
          · rename_i hlen
            have hcode := hf g (by simpa using hg) fn c hfn hcb
            have henv : AEnv.le (envOf fn.ntmps (initT args 0 .nil)) (AEnv.enter fn.ntmps args) := by
              refine ⟨rfl, fun t u ht => ?_⟩
              unfold AEnv.get envOf at ht
              unfold AEnv.get AEnv.enter
              simp only at ht ⊢
              split at ht
              · rename_i hlt
                rw [if_pos hlt]
                rw [initT_get] at ht
                split at ht
                · simpa using ht
                · cases ht
              · cases ht
            refine ACall.of_body hfn hcb hlen (AWp.env henv ?_)
            split at h
            · rename_i T' H1 hd
              split at h
              · rename_i vs hvs
                cases h
                refine (dcode_sound hm ih fuel c hcode _ T' H _ _ hd).mono ?_
                rintro e E2 H2 ⟨rfl, rfl, rfl⟩
                exact ⟨vs, hvs, rfl, rfl⟩
              · cases h
            · rename_i T' H1 hd
              split at h
              · rename_i vs hvs
                cases h
                refine (dcode_sound hm ih fuel c hcode _ T' H _ _ hd).mono ?_
                rintro e E2 H2 ⟨rfl, rfl, rfl⟩
                exact ⟨vs, hvs, rfl, rfl⟩
              · cases h
            · cases h
          · cases h
        · cases h
      · cases h
    · cases h
end
end Go.Proofs.YtihpfgnigpmihaaGreat
