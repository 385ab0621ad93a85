/- Statements whose order Go leaves open. -/
import Derived.Test.YtfolofhknhgpiaaGreatDoorA12
set_option linter.unusedVariables false
set_option linter.unusedSimpArgs false
namespace Go.Proofs.YtfolofhknhgpiaaGreatDoor
open Go

/-! ### What a schedule is -/
/-- The edges that bind lead back. -/
def backOk (ops : Array Oper) : Bool := (List.range ops.size).all fun i => match ops[i]? with
  | some o => o.after.toList.all fun e => !(Region.binds .any e) || decide (e.on < i)
  | none => true

def edge (ops : Array Oper) (x y : Nat) : Bool := match ops[y]? with
  | some o => o.after.toList.any fun e => Region.binds .any e && e.on == x
  | none => false

section
variable {ops : Array Oper}

theorem go_zero (t : Nat) (li : Array Bool) : Region.linearise.go .any ops 0 t li [] = [] := rfl
theorem go_succ (fuel t : Nat) (li : Array Bool) : Region.linearise.go .any ops (fuel + 1) t li [] =
    match (Region.ready .any ops li)[t % (Region.ready .any ops li).length]? with
    | some i => i :: Region.linearise.go .any ops fuel (t / (Region.ready .any ops li).length) (li.setIfInBounds i true) []
    | none => [] := by
  simp only [Region.linearise.go]
  change (match (Region.ready .any ops li)[t % (Region.ready .any ops li).length]? with
      | some i => Region.linearise.go .any ops fuel (t / (Region.ready .any ops li).length) (li.setIfInBounds i true) [i]
      | none => [].reverse) = _
  cases (Region.ready .any ops li)[t % (Region.ready .any ops li).length]? with
  | none => rfl
  | some i => simp only []; rw [linearise_go_acc, List.reverse_singleton, List.singleton_append]

theorem mem_ready {li : Array Bool} {i : Nat} : i ∈ Region.ready .any ops li ↔ i < ops.size ∧ li.getD i true = false ∧ ∃ o, ops[i]? = some o ∧ ∀ e ∈ o.after.toList, Region.binds .any e = true → li.getD e.on false = true := by
  unfold Region.ready
  rw [List.mem_filter, List.mem_range]
  constructor
  · rintro ⟨h1, h2⟩
    simp only [Bool.and_eq_true, Bool.not_eq_true'] at h2
    refine ⟨h1, h2.1, ops[i], Array.getElem?_eq_getElem h1, fun e he hb => ?_⟩
    have h3 := h2.2
    rw [Array.getElem?_eq_getElem h1] at h3
    simp only [Option.map_some, Option.getD_some] at h3
    have := (Array.all_eq_true_iff_forall_mem.1 h3) e (by simpa using he)
    simpa [hb] using this
  · rintro ⟨h1, h2, o, ho, h3⟩
    refine ⟨h1, ?_⟩
    simp only [h2, Bool.not_false, Bool.true_and, ho, Option.map_some, Option.getD_some]
    rw [Array.all_eq_true_iff_forall_mem]
    intro e he
    cases hb : Region.binds .any e with
    | false => simp
    | true => simpa using h3 e (by simpa using he) hb

structure Sched (ops : Array Oper) (li : Array Bool) (s : List Nat) : Prop where
  nodup : s.Nodup
  mem : ∀ i, i ∈ s ↔ i < ops.size ∧ li.getD i true = false
  ord : ∀ s1 i s2, s = s1 ++ i :: s2 → ∀ x, edge ops x i = true → x < ops.size → li.getD x true = false → x ∈ s1

theorem sched_go (hb : backOk ops = true) : ∀ (fuel t : Nat) (li : Array Bool), li.size = ops.size → ((List.range ops.size).filter fun i => !li.getD i true).length ≤ fuel →
    Sched ops li (Region.linearise.go .any ops fuel t li []) := by
  intro fuel
  induction fuel with
  | zero =>
    intro t li hs hc
    rw [go_zero]
    have he : ((List.range ops.size).filter fun i => !li.getD i true) = [] := List.eq_nil_of_length_eq_zero (by omega)
    refine ⟨List.nodup_nil, fun i => ⟨fun h => by simp at h, fun h => ?_⟩, fun s1 i s2 h => by simp at h⟩
    have : i ∈ ((List.range ops.size).filter fun i => !li.getD i true) := by
      rw [List.mem_filter, List.mem_range]; exact ⟨h.1, by rw [h.2]; rfl⟩
    rw [he] at this; simp at this
  | succ fuel ih =>
    intro t li hs hc
    rw [go_succ]
    split
    · rename_i i hi
      have hir : i ∈ Region.ready .any ops li := List.mem_of_getElem? hi
      obtain ⟨h1, h2, o, ho, h3⟩ := mem_ready.1 hir
      have hget : ∀ j, (li.setIfInBounds i true).getD j true = if j = i then true else li.getD j true := fun j => by
        by_cases e : j = i
        · subst e; rw [if_pos rfl]; simp [Array.getElem?_setIfInBounds, hs, h1]
        · rw [if_neg e]; simp [Array.getElem?_setIfInBounds_ne (fun q => e q.symm)]
      have hI := ih (t / (Region.ready .any ops li).length) (li.setIfInBounds i true) (by simpa using hs) (by
        have hsub : ((List.range ops.size).filter fun j => !(li.setIfInBounds i true).getD j true) = (((List.range ops.size).filter fun j => !li.getD j true).filter fun j => j != i) := by
          rw [List.filter_filter]
          apply List.filter_congr
          intro j hj
          rw [hget]
          by_cases e : j = i
          · subst e; simp
          · simp [e]
        rw [hsub]
        have hin : i ∈ ((List.range ops.size).filter fun j => !li.getD j true) := by
          rw [List.mem_filter, List.mem_range]; exact ⟨h1, by rw [h2]; rfl⟩
        have : (((List.range ops.size).filter fun j => !li.getD j true).filter fun j => j != i).length < ((List.range ops.size).filter fun j => !li.getD j true).length := by
          refine List.length_filter_lt_length_iff_exists.2 ⟨i, hin, by simp⟩
        omega)
      refine ⟨List.nodup_cons.2 ⟨fun hm => ?_, hI.nodup⟩, fun j => ?_, fun s1 j s2 he x hx hxs hxl => ?_⟩
      · have := (hI.mem i).1 hm
        rw [hget, if_pos rfl] at this
        cases this.2
      · rw [List.mem_cons, hI.mem, hget]
        by_cases e : j = i
        · subst e; simp [h1, h2]
        · simp [e]
      · cases s1 with
        | nil =>
          simp only [List.nil_append, List.cons.injEq] at he
          obtain ⟨rfl, rfl⟩ := he
          unfold edge at hx
          rw [ho] at hx
          simp only [List.any_eq_true, Bool.and_eq_true, beq_iff_eq] at hx
          obtain ⟨e, he1, he2, rfl⟩ := hx
          have := h3 e he1 he2
          simp only [Array.getD_eq_getD_getElem?] at this hxl
          have hlt : e.on < li.size := by omega
          rw [Array.getElem?_eq_getElem hlt] at this hxl
          simp at this hxl
          rw [this] at hxl; cases hxl
        | cons y s1 =>
          simp only [List.cons_append, List.cons.injEq] at he
          obtain ⟨rfl, he⟩ := he
          by_cases e : x = i
          · subst e; simp
          · have := hI.ord s1 j s2 he x hx hxs (by rw [hget, if_neg e]; exact hxl)
            exact List.mem_cons_of_mem _ this
    · rename_i hnone
      have hempty : Region.ready .any ops li = [] := by
        cases hr : Region.ready .any ops li with
        | nil => rfl
        | cons x xs =>
          rw [hr] at hnone
          have hlt : t % (x :: xs).length < (x :: xs).length := Nat.mod_lt _ (by simp)
          rw [List.getElem?_eq_getElem hlt] at hnone; cases hnone
      -- nothing is left
      have hall : ∀ i, i < ops.size → li.getD i true = true := by
        intro i
        induction i using Nat.strongRecOn with
        | _ i ihi =>
          intro hi
          cases hli : li.getD i true with
          | true => rfl
          | false =>
            have : i ∈ Region.ready .any ops li := by
              refine mem_ready.2 ⟨hi, hli, ops[i], Array.getElem?_eq_getElem hi, fun e he hbe => ?_⟩
              have hbk := hb
              unfold backOk at hbk
              have := List.all_eq_true.1 hbk i (List.mem_range.2 hi)
              rw [Array.getElem?_eq_getElem hi] at this
              have := List.all_eq_true.1 this e he
              simp only [hbe, Bool.not_true, Bool.false_or, decide_eq_true_eq] at this
              have h4 := ihi e.on this (by omega)
              have hlt : e.on < li.size := by omega
              simp only [Array.getD_eq_getD_getElem?] at h4 ⊢
              rw [Array.getElem?_eq_getElem hlt] at h4 ⊢
              simpa using h4
            rw [hempty] at this; simp at this
      refine ⟨List.nodup_nil, fun i => ⟨fun h => by simp at h, fun h => ?_⟩, fun s1 i s2 h => by simp at h⟩
      rw [hall i h.1] at h; cases h.2

theorem sched_all (hb : backOk ops = true) (t : Nat) : Sched ops (Array.replicate ops.size false) (Region.linearise .any ops t) := by
  refine sched_go hb ops.size t _ (by simp) ?_
  have := List.length_filter_le (fun i => !(Array.replicate ops.size false).getD i true) (List.range ops.size)
  simpa using this

/-- One operation stands ahead of another one. -/
def Ahead (s : List Nat) (x y : Nat) : Prop := ∃ s1 s2 s3, s = s1 ++ x :: s2 ++ y :: s3

theorem Sched.ahead {s : List Nat} (h : Sched ops (Array.replicate ops.size false) s) {x y : Nat} (he : edge ops x y = true) (hy : y < ops.size) (hx : x < ops.size) : Ahead s x y := by
  have hlf : ∀ i, i < ops.size → (Array.replicate ops.size false).getD i true = false := fun i hi => by simp [hi]
  have hm := (h.mem y).2 ⟨hy, hlf y hy⟩
  obtain ⟨s1, s2, rfl⟩ := List.append_of_mem hm
  have := h.ord s1 y s2 rfl x he hx (hlf x hx)
  obtain ⟨a, b, rfl⟩ := List.append_of_mem this
  exact ⟨a, b, s2, by simp⟩
theorem Sched.total {s : List Nat} (h : Sched ops (Array.replicate ops.size false) s) {x y : Nat} (hx : x < ops.size) (hy : y < ops.size) (hne : x ≠ y) : Ahead s x y ∨ Ahead s y x := by
  have hlf : ∀ i, i < ops.size → (Array.replicate ops.size false).getD i true = false := fun i hi => by simp [hi]
  have hmx := (h.mem x).2 ⟨hx, hlf x hx⟩
  have hmy := (h.mem y).2 ⟨hy, hlf y hy⟩
  obtain ⟨s1, s2, rfl⟩ := List.append_of_mem hmx
  rcases List.mem_append.1 hmy with h1 | h1
  · obtain ⟨a, b, rfl⟩ := List.append_of_mem h1
    exact .inr ⟨a, b, s2, by simp⟩
  · rcases List.mem_cons.1 h1 with rfl | h1
    · exact absurd rfl hne
    · obtain ⟨a, b, rfl⟩ := List.append_of_mem h1
      exact .inl ⟨s1, a, b, by simp⟩
theorem nodup_split {α : Type} {x : α} {a b c d : List α} (h : (a ++ x :: b).Nodup) (e : a ++ x :: b = c ++ x :: d) : a = c ∧ b = d := by
  induction a generalizing c with
  | nil =>
    cases c with
    | nil => simp at e; exact ⟨rfl, e⟩
    | cons y c =>
      simp only [List.nil_append, List.cons_append, List.cons.injEq] at e
      obtain ⟨rfl, rfl⟩ := e
      simp at h
  | cons z a ih =>
    cases c with
    | nil =>
      simp only [List.nil_append, List.cons_append, List.cons.injEq] at e
      obtain ⟨rfl, rfl⟩ := e
      simp at h
    | cons y c =>
      simp only [List.cons_append, List.cons.injEq] at e
      obtain ⟨rfl, e⟩ := e
      obtain ⟨rfl, rfl⟩ := ih (List.nodup_cons.1 h).2 e
      exact ⟨rfl, rfl⟩
theorem Ahead.trans {s : List Nat} (hs : s.Nodup) {x y z : Nat} (h : Ahead s x y) (k : Ahead s y z) : Ahead s x z := by
  obtain ⟨a, b, c, rfl⟩ := h
  obtain ⟨d, e, f, he⟩ := k
  rw [show d ++ y :: e ++ z :: f = d ++ y :: (e ++ z :: f) by simp] at he
  obtain ⟨rfl, rfl⟩ := nodup_split hs he
  exact ⟨a, b ++ y :: e, f, by simp⟩
theorem Ahead.asymm {s : List Nat} (hs : s.Nodup) {x y : Nat} (h : Ahead s x y) (k : Ahead s y x) : False := by
  have := h.trans hs k
  obtain ⟨a, b, c, rfl⟩ := this
  simp [List.nodup_append] at hs

/-- Does one operation bind another one, over so many edges? -/
def reach (ops : Array Oper) : Nat → Nat → Nat → Bool
  | 0, _, _ => false
  | n + 1, x, y => edge ops x y || (match ops[y]? with
    | some o => o.after.toList.any fun e => Region.binds .any e && decide (e.on < y) && reach ops n x e.on
    | none => false)
theorem reach_lt : ∀ (n x y : Nat), reach ops n x y = true → y < ops.size := by
  intro n x y h
  cases n with
  | zero => cases h
  | succ n =>
    rcases Nat.lt_or_ge y ops.size with h1 | h1
    · exact h1
    · unfold reach edge at h
      rw [Array.getElem?_eq_none h1] at h
      simp at h
theorem Sched.reach {s : List Nat} (h : Sched ops (Array.replicate ops.size false) s) : ∀ (n x y : Nat), x < ops.size → reach ops n x y = true → Ahead s x y := by
  intro n
  induction n with
  | zero => intro x y _ h; cases h
  | succ n ih =>
    intro x y hx hr
    have hy := reach_lt _ _ _ hr
    simp only [Go.Proofs.YtfolofhknhgpiaaGreatDoor.reach, Bool.or_eq_true] at hr
    rcases hr with hr | hr
    · exact h.ahead hr hy hx
    · rw [Array.getElem?_eq_getElem hy] at hr
      simp only [List.any_eq_true, Bool.and_eq_true, decide_eq_true_eq] at hr
      obtain ⟨e, he, ⟨hb, hlt⟩, hr⟩ := hr
      have h1 := ih x e.on hx hr
      have h2 : Ahead s e.on y := h.ahead (by
        unfold edge
        rw [Array.getElem?_eq_getElem hy]
        simp only [List.any_eq_true, Bool.and_eq_true, beq_iff_eq]
        exact ⟨e, he, hb, rfl⟩) hy (by omega)
      exact h1.trans h.nodup h2
end

theorem wpOps_mono {P : Program} {ops : Array Oper} : ∀ (l : List Nat) (a : Act) (w : World) (Q1 Q2 : Exit → Act → World → Prop), (∀ e a w, Q1 e a w → Q2 e a w) → wpOps P ops Q1 l a w → wpOps P ops Q2 l a w := by
  intro l
  induction l with
  | nil => intro a w Q1 Q2 hq h; exact hq _ _ _ h
  | cons i l ih =>
    intro a w Q1 Q2 hq h
    simp only [wpOps] at h ⊢
    split
    · rename_i hi; rw [hi] at h; exact ih a w Q1 Q2 hq h
    · rename_i o hi
      rw [hi] at h
      simp only at h
      split
      · rename_i hw
        rw [if_pos hw] at h
        rcases h with h | ⟨h1, a0, w0, h2⟩
        · left
          unfold Oper.wp at h ⊢
          generalize (execOp a.eval o).run P w = r at h
          cases r with
          | ok n w' =>
            cases n <;> simp only [Oper.upon] at h ⊢ <;> first
              | exact ih _ _ Q1 Q2 hq h
              | exact Calls.mono h (fun e w'' he => by
                  cases e with
                  | returned v => exact ih _ _ Q1 Q2 hq he
                  | panicked c => exact hq _ _ _ he
                  | outgrown => obtain ⟨a1, w1, h1⟩ := he; exact ⟨a1, w1, hq _ _ _ h1⟩)
              | exact Rows.mono h (fun _ _ he => ih _ _ Q1 Q2 hq he)
          | halt x w' => cases x <;> simp only [Oper.upon] at h ⊢ <;> first | exact hq _ _ _ h | exact h
        · exact .inr ⟨h1, a0, w0, hq _ _ _ h2⟩
      · rename_i hw
        rw [if_neg hw] at h
        exact ih _ _ Q1 Q2 hq h

/-! ### Operations that may change places -/
section
variable {P : Program} {ops : Array Oper} {rb : Nat → Option Nat} {Q : AExit → AEnv → AHeap → Prop}

def stepA (P : Program) (ops : Array Oper) (o : Oper) (r : Option Nat) (E : AEnv) (H : AHeap) (K Kp : Value → AHeap → Prop) : Prop :=
  match guardA ops E o with
  | some true => execR P o r E H K Kp
  | some false => K undef H
  | none => False
theorem AOps.cons_eq {i : Nat} {l : List Nat} {E : AEnv} {H : AHeap} {o : Oper} (hi : ops[i]? = some o) :
    AOps P ops rb Q (i :: l) E H = stepA P ops o (rb i) E H (fun v H' => AOps P ops rb Q l (E.put o.dst v) H') (fun v H' => Q (.panic v) (AEnv.none ops E) H') := by
  simp only [AOps, hi, stepA]
  rfl
theorem AOps.cons_none {i : Nat} {l : List Nat} {E : AEnv} {H : AHeap} (hi : ops[i]? = none) : AOps P ops rb Q (i :: l) E H = AOps P ops rb Q l E H := by
  simp only [AOps, hi]
theorem execA.mono {o : Oper} {E : AEnv} {H : AHeap} {K K' Kp Kp' : Value → AHeap → Prop} (hk : ∀ v H, K v H → K' v H) (hp : ∀ v H, Kp v H → Kp' v H) (h : execA P o E H K Kp) : execA P o E H K' Kp' := by
  unfold execA at h ⊢
  split at h
  · obtain ⟨v, a, b⟩ := h; exact ⟨v, a, hk _ _ b⟩
  · obtain ⟨v, a, b⟩ := h; exact ⟨v, a, hk _ _ b⟩
  · obtain ⟨v, H', a, b⟩ := h; exact ⟨v, H', a, hk _ _ b⟩
  · obtain ⟨g, args, a, hdo⟩ := h
    rcases hdo with ⟨b, c⟩ | ⟨v, H', hx, hK⟩
    · refine ⟨g, args, a, .inl ⟨b, c.mono fun e H he => ?_⟩⟩
      cases e with
      | ret v => exact hk _ _ he
      | panic v => exact hp _ _ he
    · exact ⟨g, args, a, .inr ⟨v, H', hx, hk _ _ hK⟩⟩
  · obtain ⟨v, a, b⟩ := h; exact ⟨v, a, hp _ _ b⟩
theorem execR.mono {o : Oper} {r : Option Nat} {E : AEnv} {H : AHeap} {K K' Kp Kp' : Value → AHeap → Prop} (hk : ∀ v H, K v H → K' v H) (hp : ∀ v H, Kp v H → Kp' v H) (h : execR P o r E H K Kp) : execR P o r E H K' Kp' := by
  unfold execR at h ⊢
  split at h
  · obtain ⟨z, a, b, c⟩ := h; exact ⟨z, a, b, hk _ _ c⟩
  · exact execA.mono hk hp h
theorem stepA.mono {o : Oper} {r : Option Nat} {E : AEnv} {H : AHeap} {K K' Kp Kp' : Value → AHeap → Prop} (hk : ∀ v H, K v H → K' v H) (hp : ∀ v H, Kp v H → Kp' v H) (h : stepA P ops o r E H K Kp) : stepA P ops o r E H K' Kp' := by
  unfold stepA at h ⊢
  split at h
  · exact execR.mono hk hp h
  · exact hk _ _ h
  · exact h
theorem AOps.cons_mono {i : Nat} {l l' : List Nat} (hk : ∀ E H, AOps P ops rb Q l E H → AOps P ops rb Q l' E H) {E : AEnv} {H : AHeap} (h : AOps P ops rb Q (i :: l) E H) : AOps P ops rb Q (i :: l') E H := by
  cases hi : ops[i]? with
  | none => rw [AOps.cons_none hi] at h ⊢; exact hk _ _ h
  | some o => rw [AOps.cons_eq hi] at h ⊢; exact stepA.mono (fun v H => hk _ _) (fun v H h => h) h

/-- Operands that read alike. -/
def Alike (E F : AEnv) (o : Oper) : Prop := ∀ x ∈ o.op.operands.toList, E.eval x = F.eval x
theorem evals_congr {E F : AEnv} : ∀ (l : List Operand), (∀ x ∈ l, E.eval x = F.eval x) → evals E l = evals F l := by
  intro l
  induction l with
  | nil => intro _; rfl
  | cons x l ih => intro h; simp only [evals]; rw [h x (by simp), ih (fun y hy => h y (by simp [hy]))]
theorem evalps_congr {E F : AEnv} : ∀ (l : List (Nat × Operand)), (∀ p ∈ l, E.eval p.2 = F.eval p.2) → evalps E l = evalps F l := by
  intro l
  induction l with
  | nil => intro _; rfl
  | cons p l ih => intro h; obtain ⟨i, x⟩ := p; simp only [evalps]; rw [h (i, x) (by simp), ih (fun y hy => h y (by simp [hy]))]
theorem evalo_congr {E F : AEnv} {x : Option Operand} (h : ∀ y ∈ x.toList, E.eval y = F.eval y) : evalo E x = evalo F x := by
  cases x with
  | none => rfl
  | some x => simp only [evalo]; rw [h x (by simp)]

theorem pexec_congr {E F : AEnv} {o : Oper} (h : Alike E F o) : pexec P E o = pexec P F o := by
  unfold Alike at h
  unfold pexec
  cases hop : o.op <;> rw [hop] at h <;> simp only [Op.operands] at h ⊢ <;> try rfl
  case move x => exact h x (by simp)
  case assign x => exact h x (by simp)
  case pick c x y => rw [h c (by simp), h x (by simp), h y (by simp)]
  case binOp op t x y u => rw [h x (by simp), h y (by simp)]
  case unOp op t x => rw [h x (by simp)]
  case convert s d x => rw [h x (by simp)]
  case makeInterface t x => rw [h x (by simp)]
  case makeFunc fn f c => rw [evals_congr f.toList (fun x hx => h x (by simp at hx; simp [hx])), evals_congr c.toList (fun x hx => h x (by simp at hx; simp [hx]))]
  case build t ps => rw [evalps_congr ps.toList (fun p hp => h p.2 (by simp; exact ⟨p.1, by simpa using hp⟩))]
  case fieldAddr s x i => rw [h x (by simp)]
  case field s x i => rw [h x (by simp)]
  case indexAddr t x i => rw [h x (by simp), h i (by simp)]
  case index t x i => rw [h x (by simp), h i (by simp)]
  case slice t x lo hi mx => rw [h x (by simp), evalo_congr (fun y hy => h y (by simp at hy; simp [hy])), evalo_congr (fun y hy => h y (by simp at hy; simp [hy])), evalo_congr (fun y hy => h y (by simp at hy; simp [hy]))]
  case extract x i => rw [h x (by simp)]
  case nilCheck x => rw [h x (by simp)]
  case typeAssert x xt t ok => rw [h x (by simp)]
  case call c => rw [evals_congr c.args.toList (fun x hx => h x (by simp [Call.operands]; exact .inr (by simpa using hx)))]
theorem rexec_congr {E F : AEnv} {H : AHeap} {o : Oper} (h : Alike E F o) : rexec P E H o = rexec P F H o := by
  unfold Alike at h
  unfold rexec
  cases hop : o.op <;> rw [hop] at h <;> simp only [Op.operands] at h ⊢ <;> try rfl
  case load t x => rw [h x (by simp)]
  case lookup t x k ok => rw [h x (by simp), h k (by simp)]
  case convert s d x => rw [h x (by simp)]
  case call c => rw [evals_congr c.args.toList (fun x hx => h x (by simp [Call.operands]; exact .inr (by simpa using hx)))]
theorem wexec_congr {E F : AEnv} {H : AHeap} {o : Oper} (h : Alike E F o) : wexec P E H o = wexec P F H o := by
  unfold Alike at h
  unfold wexec
  cases hop : o.op <;> rw [hop] at h <;> simp only [Op.operands] at h ⊢ <;> try rfl
  case box e x => rw [h x (by simp)]
  case store t p x => rw [h p (by simp), h x (by simp)]
  case makeMap t r => cases r <;> rfl
  case buildSlice t n ps => rw [evalps_congr ps.toList (fun p hp => h p.2 (by simp; exact ⟨p.1, by simpa using hp⟩))]
  case makeSlice t n c => rw [h n (by simp), h c (by simp)]
  case insert t m k x => rw [h m (by simp), h k (by simp), h x (by simp)]
  case mapUpdate t m k x => rw [h m (by simp), h k (by simp), h x (by simp)]
  case mapEntry t m k => rw [h m (by simp), h k (by simp)]
  case entryStore t m s x => rw [h m (by simp), h s (by simp), h x (by simp)]
  case call c => rw [evals_congr c.args.toList (fun x hx => h x (by simp [Call.operands]; exact .inr (by simpa using hx)))]
theorem callee_congr {E F : AEnv} {o : Oper} (h : Alike E F o) : callee E o = callee F o := by
  unfold Alike at h
  unfold callee
  cases hop : o.op <;> rw [hop] at h <;> simp only [Op.operands] at h ⊢
  case call c =>
    rw [evals_congr c.args.toList (fun x hx => h x (by simp [Call.operands]; exact .inr (by simpa using hx)))]
    cases hc : c.callee with
    | value f => simp only; rw [h f (by simp [Call.operands, hc])]
    | invoke r m => rfl
    | builtin b => rfl
theorem panicked_congr {E F : AEnv} {o : Oper} (h : Alike E F o) : panicked E o = panicked F o := by
  unfold Alike at h
  unfold panicked
  cases hop : o.op <;> rw [hop] at h <;> simp only [Op.operands] at h ⊢
  case panic x => rw [h x (by simp)]
theorem execA_congr {E F : AEnv} {H : AHeap} {o : Oper} (h : Alike E F o) (K Kp : Value → AHeap → Prop) : execA P o E H K Kp = execA P o F H K Kp := by
  unfold execA
  rw [pexec_congr h, rexec_congr h, wexec_congr h, callee_congr h, panicked_congr h]

theorem eval_put {E : AEnv} {d : Option Tmp} {v : Value} {x : Operand} (h : ∀ t, d = some t → x ≠ .tmp t) : (E.put d v).eval x = E.eval x := by
  cases d with
  | none => rfl
  | some t =>
    cases x with
    | tmp s =>
      simp only [AEnv.eval, AEnv.put, AEnv.get_set]
      rw [if_neg (fun e => h t rfl (by rw [e]))]
    | _ => rfl
theorem alike_put {E : AEnv} {d : Option Tmp} {v : Value} {o : Oper} (h : ∀ t, d = some t → t ∉ o.looksAt ops) : Alike (E.put d v) E o := by
  intro x hx
  refine eval_put fun t ht e => h t ht ?_
  subst e
  unfold Oper.looksAt
  simp only [List.mem_append, List.mem_filterMap]
  exact .inl ⟨_, hx, rfl⟩
theorem guardA_put {E : AEnv} {d : Option Tmp} {v : Value} {o : Oper} (h : ∀ t, d = some t → t ∉ o.looksAt ops) : guardA ops (E.put d v) o = guardA ops E o := by
  unfold guardA
  split
  · rfl
  · rename_i j want hg
    split
    · rename_i s hs
      have : (E.put d v).get s = E.get s := by
        cases d with
        | none => rfl
        | some t =>
          simp only [AEnv.put, AEnv.get_set]
          rw [if_neg]
          rintro rfl
          refine h s rfl ?_
          unfold Oper.looksAt
          simp only [List.mem_append]
          right
          rw [hg]
          simp [hs]
      rw [this]
    · rfl
theorem stepA_put {E : AEnv} {H : AHeap} {d : Option Tmp} {v : Value} {o : Oper} {r : Option Nat} (h : ∀ t, d = some t → t ∉ o.looksAt ops) (K Kp : Value → AHeap → Prop) : stepA P ops o r (E.put d v) H K Kp = stepA P ops o r E H K Kp := by
  unfold stepA execR
  rw [guardA_put h, execA_congr (alike_put h)]
theorem put_n (E : AEnv) (d : Option Tmp) (v : Value) : (E.put d v).n = E.n := by cases d <;> rfl
theorem put_comm {E : AEnv} {d e : Option Tmp} {u v : Value} (h : ∀ t, d = some t → e ≠ some t) : (E.put d u).put e v = (E.put e v).put d u := by
  cases d with
  | none => rfl
  | some t =>
    cases e with
    | none => rfl
    | some s => exact AEnv.set_comm E u v (fun q => h t rfl (by rw [q]))

/-- An operation that reckons, or reads: what it yields. -/
def fstep (P : Program) (ops : Array Oper) (o : Oper) (E : AEnv) (H : AHeap) : Option Value :=
  match guardA ops E o with
  | some true => if cls P o = .pure then pexec P E o else rexec P E H o
  | some false => some undef
  | none => none
theorem stepA_fstep {o : Oper} {r : Option Nat} (ho : cls P o = .pure ∨ cls P o = .read) (E : AEnv) (H : AHeap) (K Kp : Value → AHeap → Prop) : stepA P ops o r E H K Kp ↔ ∃ v, fstep P ops o E H = some v ∧ K v H := by
  unfold stepA fstep execR
  split
  · split
    · rename_i hfill
      have hop := (isFill_spec hfill).2
      rcases ho with ho | ho <;> simp [cls, hop] at ho
    · unfold execA
      rcases ho with ho | ho <;> simp [ho]
  · simp
  · simp
theorem fstep_put {E : AEnv} {H : AHeap} {d : Option Tmp} {v : Value} {o : Oper} (h : ∀ t, d = some t → t ∉ o.looksAt ops) : fstep P ops o (E.put d v) H = fstep P ops o E H := by
  unfold fstep
  rw [guardA_put h, pexec_congr (alike_put h), rexec_congr (alike_put h)]
theorem fstep_heap {o : Oper} (ho : cls P o = .pure) (E : AEnv) (H H' : AHeap) : fstep P ops o E H = fstep P ops o E H' := by
  unfold fstep
  simp [ho]

/-- An operation that makes or writes memory: what it yields, and leaves. -/
def wstep (P : Program) (ops : Array Oper) (o : Oper) (r : Option Nat) (E : AEnv) (H : AHeap) : Option (Value × AHeap) :=
  match guardA ops E o with
  | some true => match isFill r o with
    | some (id, e) => match zeroC P e with
      | some z => if id ∈ H.rs ∧ H.get id = none then some (.pointer (some ⟨id, 0, none⟩), H.fill id (.cells (vcells z) e false)) else none
      | none => none
    | none => wexec P E H o
  | some false => some (undef, H)
  | none => none
theorem stepA_wstep {o : Oper} {r : Option Nat} (ho : cls P o = .write) (E : AEnv) (H : AHeap) (K Kp : Value → AHeap → Prop) : stepA P ops o r E H K Kp ↔ ∃ v H', wstep P ops o r E H = some (v, H') ∧ K v H' := by
  unfold stepA wstep
  cases guardA ops E o with
  | none =>
    constructor
    · intro h; exact h.elim
    · rintro ⟨v, H', h, hk⟩; cases h
  | some g =>
    cases g with
    | false =>
      constructor
      · intro h; exact ⟨_, _, rfl, h⟩
      · rintro ⟨v, H', h, hk⟩; cases h; exact hk
    | true =>
      simp only
      unfold execR
      cases isFill r o with
      | none =>
        simp only
        unfold execA
        simp only [ho]
      | some p =>
        obtain ⟨id, e⟩ := p
        simp only
        constructor
        · rintro ⟨z, hz, hid, hk⟩
          exact ⟨_, _, by rw [hz]; simp only; rw [if_pos hid], hk⟩
        · rintro ⟨v, H', h, hk⟩
          split at h
          · rename_i z hz
            by_cases hid : id ∈ H.rs ∧ H.get id = none
            · rw [if_pos hid] at h; cases h; exact ⟨z, hz, hid, hk⟩
            · rw [if_neg hid] at h; cases h
          · cases h
theorem wstep_put {E : AEnv} {H : AHeap} {d : Option Tmp} {v : Value} {o : Oper} {r : Option Nat} (h : ∀ t, d = some t → t ∉ o.looksAt ops) : wstep P ops o r (E.put d v) H = wstep P ops o r E H := by
  unfold wstep
  rw [guardA_put h, wexec_congr (alike_put h)]

/-- Operations that make memory, and turn none. -/
def extW (o : Oper) : Bool := match o.op with
  | .alloc _ | .box .. | .buildSlice .. | .makeSlice .. | .makeMap .. => true
  | _ => false
def HExt (H H' : AHeap) : Prop := ∀ j b, H.get j = some b → H'.get j = some b
theorem HExt.push (H : AHeap) (b : ABlk) : HExt H (H.push b) := fun j c h => AHeap.get_push_old h
theorem wexec_ext {E : AEnv} {H : AHeap} {o : Oper} {v : Value} {H' : AHeap} (ho : extW o = true) (h : wexec P E H o = some (v, H')) : HExt H H' := by
  unfold extW at ho
  unfold wexec at h
  split at ho
  · rename_i e hop
    rw [hop] at h
    simp only [aalloc] at h
    obtain ⟨z, hz, he⟩ := Option.map_eq_some_iff.1 h
    cases he
    exact .push _ _
  · rename_i e x hop
    rw [hop] at h
    simp only at h
    split at h
    · cases h; exact .push _ _
    · cases h
  · rename_i t n ps hop
    rw [hop] at h
    simp only at h
    split at h
    · unfold abuildSlice at h
      split at h
      · split at h
        · split at h
          · split at h
            · cases h; exact .push _ _
            · cases h
          · cases h
        · cases h
      · cases h
    · cases h
  · rename_i t n c hop
    rw [hop] at h
    simp only at h
    split at h
    · unfold amakeSlice at h
      split at h
      · split at h
        · split at h
          · split at h
            · cases h; exact .push _ _
            · cases h
          · cases h
        · cases h
      · cases h
    · cases h
  · rename_i t r hop
    rw [hop] at h
    simp only at h
    cases r with
    | none => cases h; exact .push _ _
    | some r => cases h
  · cases ho
theorem wstep_ext {E : AEnv} {H : AHeap} {o : Oper} {r : Option Nat} {v : Value} {H' : AHeap} (ho : extW o = true) (h : wstep P ops o r E H = some (v, H')) : HExt H H' := by
  unfold wstep at h
  split at h
  · split at h
    · split at h
      · split at h
        · rename_i hid
          cases h
          intro j b hj
          have hne : ∀ i, H.get i = none → j ≠ i := by rintro i hi rfl; rw [hi] at hj; cases hj
          have hlt := AHeap.get_lt hj
          unfold AHeap.get AHeap.fill
          unfold AHeap.get at hj
          simp only [hlt, if_true] at hj ⊢
          rw [Tr.get_set_ne _ _ (hne _ hid.2)]; exact hj
        · cases h
      · cases h
    · exact wexec_ext ho h
  · cases h; exact fun j b h => h
  · cases h
theorem rexec_ext {E : AEnv} {H H' : AHeap} {o : Oper} {v : Value} (hx : HExt H H') (h : rexec P E H o = some v) : rexec P E H' o = some v := by
  unfold rexec at h ⊢
  split at h
  · split at h
    · rename_i a ha
      unfold aload at h ⊢
      split at h
      · rename_i p
        split at h
        · rename_i vs e ro hg
          simp only [hx _ _ hg]
          exact h
        · cases h
      · cases h
    · cases h
  · split at h
    · rename_i a b ha hb
      unfold alookup at h ⊢
      split at h
      · cases h
      · rename_i kt et hm
        split at h
        · cases h
        · rename_i es hes
          clear ha
          cases a with
          | map o =>
            cases o with
            | none => cases hes; exact h
            | some M =>
              simp only at hes ⊢
              split at hes
              · rename_i es' ck hM
                cases hes
                rw [hx _ _ hM]; exact h
              · cases hes
          | _ => cases hes
    · cases h
  · split at h
    · rename_i a ha
      unfold aconvR at h ⊢
      split at h
      · rename_i t' hu
        unfold aunsafe at h ⊢
        split at h
        · split at h
          · rename_i vs e ro hg
            simp only [hx _ _ hg]
            exact h
          · cases h
        · cases h
      split at h
      · rename_i t' hu
        unfold aunback at h ⊢
        split at h
        · split at h
          · rename_i vs e hg
            simp only [hx _ _ hg]
            exact h
          · cases h
        · cases h
      unfold abytes at h ⊢
      split at h
      · rename_i e m b' hs
        split at h
        · rename_i hc
          rw [if_pos hc]
          split at h
          · split at h
            · cases h
            · rename_i hn0
              rw [if_neg hn0]
              split at h
              · rename_i vs e' ro hg
                simp only [hx _ _ hg]
                exact h
              · cases h
          · cases h
        · cases h
      · cases h
    · cases h
  · split at h
    · split at h
      · rename_i v' t hv ht
        unfold amapLen at h ⊢
        split at h
        · exact h
        · rename_i e M hm
          split at h
          · rename_i es ck hM
            simp only [hx _ _ hM]
            exact h
          · cases h
        · cases h
      · cases h
    · exact h
    · cases h
  · cases h
theorem fstep_ext {E : AEnv} {H H' : AHeap} {o : Oper} {v : Value} (hx : HExt H H') (h : fstep P ops o E H = some v) : fstep P ops o E H' = some v := by
  unfold fstep at h ⊢
  split at h
  · split at h
    · rename_i hp; rw [if_pos hp]; exact h
    · rename_i hp; rw [if_neg hp]; exact rexec_ext hx h
  · exact h
  · cases h

/-- May the first be behind the second? -/
def later (P : Program) (ops : Array Oper) (x y : Nat) : Bool :=
  match ops[x]?, ops[y]? with
  | some a, some b => a.apart ops b && (decide (cls P a = .pure) || (decide (cls P a = .read) && (decide (cls P b = .pure) || decide (cls P b = .read))) || (decide (cls P a = .write) && decide (cls P b = .pure)) || (decide (cls P a = .read) && decide (cls P b = .write) && extW b))
  | _, _ => true

theorem AOps.swap {x y : Nat} (hc : later P ops x y = true) {l : List Nat} {E : AEnv} {H : AHeap} (h : AOps P ops rb Q (x :: y :: l) E H) : AOps P ops rb Q (y :: x :: l) E H := by
  cases hx : ops[x]? with
  | none =>
    rw [AOps.cons_none hx] at h
    refine AOps.cons_mono (fun E H h => ?_) h
    rw [AOps.cons_none hx]; exact h
  | some a =>
    cases hy : ops[y]? with
    | none =>
      rw [AOps.cons_none hy]
      refine AOps.cons_mono (fun E H h => ?_) h
      rw [AOps.cons_none hy] at h; exact h
    | some b =>
      unfold later at hc
      rw [hx, hy] at hc
      simp only [Bool.and_eq_true, Bool.or_eq_true, decide_eq_true_eq] at hc
      obtain ⟨s1, s2, s3⟩ := Oper.apart_spec hc.1
      rcases hc.2 with (hc2 | ⟨hw, hb⟩) | ⟨⟨hr, hbw⟩, hext⟩
      · have hfa : cls P a = .pure ∨ cls P a = .read := by rcases hc2 with h | h; exact .inl h; exact .inr h.1
        rw [AOps.cons_eq hx, stepA_fstep hfa] at h
        obtain ⟨v, hv, h⟩ := h
        rw [AOps.cons_eq hy, stepA_put s1] at h
        rw [AOps.cons_eq hy]
        rcases hc2 with hp | ⟨hr, hb⟩
        · refine stepA.mono (fun u H' hk => ?_) (fun u H' hk => by rw [AEnv.none_put hx] at hk; exact hk) h
          rw [AOps.cons_eq hx, stepA_fstep hfa]
          refine ⟨v, ?_, ?_⟩
          · rw [fstep_put s3, fstep_heap hp _ H' H]; exact hv
          · rw [← put_comm s2]; exact hk
        · rw [stepA_fstep hb] at h ⊢
          obtain ⟨u, hu, hk⟩ := h
          refine ⟨u, hu, ?_⟩
          rw [AOps.cons_eq hx, stepA_fstep hfa]
          refine ⟨v, ?_, ?_⟩
          · rw [fstep_put s3]; exact hv
          · rw [← put_comm s2]; exact hk
      · rw [AOps.cons_eq hx, stepA_wstep hw] at h
        obtain ⟨v, H1, hv, h⟩ := h
        rw [AOps.cons_eq hy, stepA_put s1, stepA_fstep (.inl hb)] at h
        obtain ⟨u, hu, hk⟩ := h
        rw [AOps.cons_eq hy, stepA_fstep (.inl hb)]
        refine ⟨u, by rw [fstep_heap hb _ H H1]; exact hu, ?_⟩
        rw [AOps.cons_eq hx, stepA_wstep hw]
        refine ⟨v, H1, ?_, ?_⟩
        · rw [wstep_put s3]; exact hv
        · rw [← put_comm s2]; exact hk
      · rw [AOps.cons_eq hx, stepA_fstep (.inr hr)] at h
        obtain ⟨v, hv, h⟩ := h
        rw [AOps.cons_eq hy, stepA_put s1, stepA_wstep hbw] at h
        obtain ⟨u, H1, hu, hk⟩ := h
        rw [AOps.cons_eq hy, stepA_wstep hbw]
        refine ⟨u, H1, hu, ?_⟩
        rw [AOps.cons_eq hx, stepA_fstep (.inr hr)]
        refine ⟨v, ?_, ?_⟩
        · rw [fstep_put s3]; exact fstep_ext (wstep_ext hext hu) hv
        · rw [← put_comm s2]; exact hk

theorem AOps.front {i : Nat} : ∀ (f1 f2 : List Nat), (∀ x ∈ f1, later P ops x i = true) → ∀ E H, AOps P ops rb Q (f1 ++ i :: f2) E H → AOps P ops rb Q (i :: (f1 ++ f2)) E H := by
  intro f1
  induction f1 with
  | nil => intro f2 _ E H h; exact h
  | cons x f1 ih =>
    intro f2 hl E H h
    exact AOps.swap (hl x (by simp)) (AOps.cons_mono (fun E H h => ih f2 (fun y hy => hl y (by simp [hy])) E H h) h)

theorem ahead_of_sub {x y : Nat} : ∀ {s : List Nat}, [x, y].Sublist s → Ahead s x y := by
  intro s
  induction s with
  | nil => intro h; cases h
  | cons z s ih =>
    intro h
    cases h with
    | cons _ h =>
      obtain ⟨a, b, c, rfl⟩ := ih h
      exact ⟨z :: a, b, c, by simp⟩
    | cons_cons _ h =>
      obtain ⟨a, b, rfl⟩ := List.append_of_mem (List.singleton_sublist.1 h)
      exact ⟨[], a, b, by simp⟩

/-- From one order to another one. -/
theorem AOps.reorder : ∀ (s f : List Nat), s.Perm f → s.Nodup → (∀ x y, [x, y].Sublist f → [y, x].Sublist s → later P ops x y = true) → ∀ E H, AOps P ops rb Q f E H → AOps P ops rb Q s E H := by
  intro s
  induction s with
  | nil => intro f hp _ _ E H h; rw [List.nil_perm.1 hp] at h; exact h
  | cons i s ih =>
    intro f hp hn hc E H h
    have hi : i ∈ f := hp.subset (by simp)
    obtain ⟨f1, f2, rfl⟩ := List.append_of_mem hi
    have hfn : (f1 ++ i :: f2).Nodup := hp.nodup_iff.1 hn
    have hp' : s.Perm (f1 ++ f2) := by
      have := hp.trans List.perm_middle
      exact List.Perm.cons_inv this
    have h1 := AOps.front f1 f2 (fun x hx => by
      have hxi : x ≠ i := by rintro rfl; obtain ⟨a, b, rfl⟩ := List.append_of_mem hx; simp [List.nodup_append] at hfn
      have h2 : ([x] ++ [i]).Sublist (f1 ++ i :: f2) := (List.singleton_sublist.2 hx).append (List.singleton_sublist.2 (by simp))
      refine hc x i h2 ?_
      have : x ∈ i :: s := hp.symm.subset (by simp [hx])
      rcases List.mem_cons.1 this with e | e
      · exact absurd e hxi
      · exact (List.singleton_sublist.2 e).cons_cons i) E H h
    exact AOps.cons_mono (fun E H h => ih (f1 ++ f2) hp' (List.nodup_cons.1 hn).2 (fun x y hxy hyx =>
      hc x y (hxy.trans ((List.Sublist.refl f1).append (List.sublist_cons_self i f2))) (hyx.cons i)) E H h) h1

/-! ### All orders -/
/-- Orders to be walked: one alone, or one for each way in which two operations may stand. -/
inductive Forms where
  | leaf (f : List Nat)
  | flow (f : List Nat) (K : List (Nat × List Nat))
  | split (x y : Nat) (a b : Forms)
  | none

def nodupB : List Nat → Bool
  | [] => true
  | x :: l => !l.contains x && nodupB l
def sameSet (n : Nat) (f : List Nat) : Bool := nodupB f && f.all (fun i => decide (i < n)) && (List.range n).all fun i => f.contains i
def lnk (ops : Array Oper) (x y : Nat) : Bool := x == y || reach ops ops.size x y
/-- Ahead by what binds and by what is assumed. -/
def chain (ops : Array Oper) (A : List (Nat × Nat)) : Nat → Nat → Nat → Bool
  | 0, x, y => lnk ops x y
  | n + 1, x, y => lnk ops x y || A.any fun p => lnk ops x p.1 && chain ops A n p.2 y
def ordered (ops : Array Oper) (A : List (Nat × Nat)) (x y : Nat) : Bool := reach ops ops.size x y || A.any fun p => lnk ops x p.1 && chain ops A A.length p.2 y
def pairsOk (ops : Array Oper) (P : Program) (A : List (Nat × Nat)) : List Nat → Bool
  | [] => true
  | x :: l => l.all (fun y => later P ops x y || ordered ops A x y) && pairsOk ops P A l
/-- One that is ahead of itself. -/
def clash (ops : Array Oper) (A : List (Nat × Nat)) : Bool := A.any fun p => chain ops A A.length p.2 p.1

/-- What holds, or what is weaker. -/
def wk (Q : AExit → AEnv → AHeap → Prop) : AExit → AEnv → AHeap → Prop := fun e E H => ∃ F, F.le E ∧ Q e F H
theorem AEnv.le_refl (E : AEnv) : E.le E := ⟨rfl, fun _ _ h => h, rfl⟩
theorem AOps.mono {Q Q' : AExit → AEnv → AHeap → Prop} (hq : ∀ e E H, Q e E H → Q' e E H) : ∀ (l : List Nat) (E : AEnv) (H : AHeap), AOps P ops rb Q l E H → AOps P ops rb Q' l E H := by
  intro l
  induction l with
  | nil => intro E H h; exact hq _ _ _ h
  | cons i l ih =>
    intro E H h
    cases hi : ops[i]? with
    | none => rw [AOps.cons_none hi] at h ⊢; exact ih _ _ h
    | some o => rw [AOps.cons_eq hi] at h ⊢; exact stepA.mono (fun v H => ih _ _) (fun v H h => hq _ _ _ h) h
def Covers (P : Program) (ops : Array Oper) (rb : Nat → Option Nat) (Q : AExit → AEnv → AHeap → Prop) (E : AEnv) (H : AHeap) : List (Nat × Nat) → Forms → Prop
  | A, .leaf f => (sameSet ops.size f && pairsOk ops P A f) = true ∧ AOps P ops rb Q f E H
  | A, .flow _ _ => ∀ s, Sched ops (Array.replicate ops.size false) s → (∀ p ∈ A, Ahead s p.1 p.2 ∧ p.1 < ops.size ∧ p.2 < ops.size) → AOps P ops rb (wk Q) s E H
  | A, .split x y a b => (x != y && decide (x < ops.size) && decide (y < ops.size)) = true ∧ Covers P ops rb Q E H ((x, y) :: A) a ∧ Covers P ops rb Q E H ((y, x) :: A) b
  | A, .none => clash ops A = true

theorem pairsOk_sub {A : List (Nat × Nat)} : ∀ {f : List Nat}, pairsOk ops P A f = true → ∀ {x y : Nat}, [x, y].Sublist f → (later P ops x y || ordered ops A x y) = true := by
  intro f
  induction f with
  | nil => intro _ x y h; cases h
  | cons z f ih =>
    intro h x y hs
    simp only [pairsOk, Bool.and_eq_true] at h
    cases hs with
    | cons _ hs => exact ih h.2 hs
    | cons_cons _ hs => exact List.all_eq_true.1 h.1 y (List.singleton_sublist.1 hs)

theorem nodup_of_B : ∀ {f : List Nat}, nodupB f = true → f.Nodup := by
  intro f
  induction f with
  | nil => intro _; exact List.nodup_nil
  | cons x f ih =>
    intro h
    simp only [nodupB, Bool.and_eq_true, Bool.not_eq_true', List.contains_eq_mem, decide_eq_false_iff_not] at h
    exact List.nodup_cons.2 ⟨h.1, ih h.2⟩
theorem perm_of_sameSet {n : Nat} {f s : List Nat} (h : sameSet n f = true) (hs : s.Nodup) (hm : ∀ i, i ∈ s ↔ i < n) : s.Perm f := by
  unfold sameSet at h
  simp only [Bool.and_eq_true] at h
  refine (List.perm_ext_iff_of_nodup hs (nodup_of_B h.1.1)).2 fun i => ?_
  rw [hm]
  constructor
  · intro hi
    have := List.all_eq_true.1 h.2 i (List.mem_range.2 hi)
    simpa using this
  · intro hi
    have := List.all_eq_true.1 h.1.2 i hi
    simpa using this

theorem lnk_ahead {s : List Nat} (hs : Sched ops (Array.replicate ops.size false) s) {x y : Nat} (hx : x < ops.size) (h : lnk ops x y = true) : x = y ∨ Ahead s x y := by
  unfold lnk at h
  simp only [Bool.or_eq_true, beq_iff_eq] at h
  exact h.imp id (hs.reach _ _ _ hx)
theorem chain_ahead {s : List Nat} (hs : Sched ops (Array.replicate ops.size false) s) {A : List (Nat × Nat)} (hA : ∀ p ∈ A, Ahead s p.1 p.2 ∧ p.1 < ops.size ∧ p.2 < ops.size) : ∀ (n x y : Nat), x < ops.size → chain ops A n x y = true → x = y ∨ Ahead s x y := by
  intro n
  induction n with
  | zero => intro x y hx h; exact lnk_ahead hs hx h
  | succ n ih =>
    intro x y hx h
    simp only [chain, Bool.or_eq_true, List.any_eq_true, Bool.and_eq_true] at h
    rcases h with h | ⟨p, hp, h1, h2⟩
    · exact lnk_ahead hs hx h
    · obtain ⟨p1, p2, p3⟩ := hA p hp
      have k1 : Ahead s x p.2 := by
        rcases lnk_ahead hs hx h1 with rfl | e
        · exact p1
        · exact e.trans hs.nodup p1
      rcases ih _ _ p3 h2 with e | e
      · rw [← e]; exact .inr k1
      · exact .inr (k1.trans hs.nodup e)

theorem ordered_ahead {s : List Nat} (hs : Sched ops (Array.replicate ops.size false) s) {A : List (Nat × Nat)} (hA : ∀ p ∈ A, Ahead s p.1 p.2 ∧ p.1 < ops.size ∧ p.2 < ops.size) {x y : Nat} (hlt : x < ops.size) (h : ordered ops A x y = true) : Ahead s x y := by
  unfold ordered at h
  simp only [Bool.or_eq_true, List.any_eq_true, Bool.and_eq_true] at h
  rcases h with h3 | ⟨p, hp, h4, h5⟩
  · exact hs.reach _ x y hlt h3
  · obtain ⟨p1, p2, p3⟩ := hA p hp
    have k1 : Ahead s x p.2 := by
      rcases lnk_ahead hs hlt h4 with e | e
      · rw [e]; exact p1
      · exact e.trans hs.nodup p1
    rcases chain_ahead hs hA _ _ _ p3 h5 with e | e
    · rw [← e]; exact k1
    · exact k1.trans hs.nodup e

theorem Covers.sound {s : List Nat} (hs : Sched ops (Array.replicate ops.size false) s) {E : AEnv} {H : AHeap} : ∀ (t : Forms) (A : List (Nat × Nat)), (∀ p ∈ A, Ahead s p.1 p.2 ∧ p.1 < ops.size ∧ p.2 < ops.size) → Covers P ops rb Q E H A t → AOps P ops rb (wk Q) s E H := by
  have hm : ∀ i, i ∈ s ↔ i < ops.size := fun i => by
    rw [hs.mem]
    constructor
    · exact fun h => h.1
    · exact fun h => ⟨h, by simp [h]⟩
  intro t
  induction t with
  | leaf f =>
    intro A hA h
    obtain ⟨h1, h2⟩ := h
    simp only [Bool.and_eq_true] at h1
    refine AOps.mono (fun e E H hq => ⟨E, AEnv.le_refl E, hq⟩) s E H (AOps.reorder s f (perm_of_sameSet h1.1 hs.nodup hm) hs.nodup (fun x y hxy hyx => ?_) E H h2)
    have hA1 := ahead_of_sub hyx
    have hlt : x < ops.size := by
      refine (hm x).1 ?_
      exact hyx.subset (by simp)
    have := pairsOk_sub h1.2 hxy
    simp only [Bool.or_eq_true] at this
    rcases this with h3 | h3
    · exact h3
    · exact (Ahead.asymm hs.nodup hA1 (ordered_ahead hs hA hlt h3)).elim
  | flow f K => intro A hA h; exact h s hs hA
  | split x y a b iha ihb =>
    intro A hA h
    obtain ⟨h1, h2, h3⟩ := h
    simp only [Bool.and_eq_true, bne_iff_ne, ne_eq, decide_eq_true_eq] at h1
    rcases hs.total h1.1.2 h1.2 h1.1.1 with h4 | h4
    · refine iha _ (fun p hp => ?_) h2
      rcases List.mem_cons.1 hp with rfl | hp
      · exact ⟨h4, h1.1.2, h1.2⟩
      · exact hA p hp
    · refine ihb _ (fun p hp => ?_) h3
      rcases List.mem_cons.1 hp with rfl | hp
      · exact ⟨h4, h1.2, h1.1.2⟩
      · exact hA p hp
  | none =>
    intro A hA h
    unfold Covers clash at h
    simp only [List.any_eq_true] at h
    obtain ⟨p, hp, h1⟩ := h
    obtain ⟨p1, p2, p3⟩ := hA p hp
    rcases chain_ahead hs hA _ _ _ p3 h1 with e | e
    · rw [e] at p1; exact (Ahead.asymm hs.nodup p1 p1).elim
    · exact (Ahead.asymm hs.nodup p1 e).elim

/-! ### One order for all: reads that tell the same wherever they may stand -/
def wrB (P : Program) (ops : Array Oper) (i : Nat) : Bool := match ops[i]? with
  | some o => match cls P o with
    | .write | .call => true
    | _ => false
  | none => false
def dstAt (ops : Array Oper) (i : Nat) : Option Tmp := (ops[i]?).bind (·.dst)
def looksL (ops : Array Oper) (i : Nat) : List Tmp := match ops[i]? with
  | some o => o.looksAt ops
  | none => []
/-- Such a statement: writers in one order; each variable is laid once, ahead of all that look at it; each read has been tried at each place where it may stand. -/
def flowOk (P : Program) (ops : Array Oper) (A : List (Nat × Nat)) (f : List Nat) (K : List (Nat × List Nat)) : Bool :=
  sameSet ops.size f && pairsO (f.filter (wrB P ops)) && f.all (fun i => (looksL ops i).all fun t => f.all fun j => dstAt ops j != some t || ordered ops A j i) && laid f && reads [] f
where
  pairsO : List Nat → Bool
    | [] => true
    | x :: l => l.all (fun y => ordered ops A x y) && pairsO l
  laid : List Nat → Bool
    | [] => true
    | i :: l => (looksL ops i).all (fun t => (i :: l).all fun j => dstAt ops j != some t) && l.all (fun j => dstAt ops i == none || dstAt ops j != dstAt ops i) && laid l
  reads : List Nat → List Nat → Bool
    | _, [] => true
    | ws, i :: l => (match ops[i]? with
      | some o => (match cls P o with
        | .pure | .write | .call => true
        | .read => let W := f.filter (wrB P ops)
          (dstAt ops i).isSome && (List.range (W.length + 1)).all fun k => k == ws.length || (K.any fun p => p.1 == i && p.2.contains k) || (W.take k).any (fun w => ordered ops A i w) || (W.drop k).any (fun w => ordered ops A w i)
        | .panic => false)
      | none => false) && reads (if wrB P ops i then ws ++ [i] else ws) l

theorem AOps.along {s : List Nat} {I : List Nat → AEnv → AHeap → Prop}
    (step : ∀ s1 i s2 E H, s = s1 ++ i :: s2 → I s1 E H → ∃ o, ops[i]? = some o ∧ stepA P ops o (rb i) E H (fun v H' => I (s1 ++ [i]) (E.put o.dst v) H') fun _ _ => False)
    (fin : ∀ E H, I s E H → Q .normal E H) : ∀ (s2 s1 : List Nat) (E : AEnv) (H : AHeap), s = s1 ++ s2 → I s1 E H → AOps P ops rb Q s2 E H := by
  intro s2
  induction s2 with
  | nil => intro s1 E H e hI; rw [List.append_nil] at e; exact fin E H (e ▸ hI)
  | cons i s2 ih =>
    intro s1 E H e hI
    obtain ⟨o, ho, h⟩ := step s1 i s2 E H e hI
    rw [AOps.cons_eq ho]
    exact stepA.mono (fun v H' hI' => ih (s1 ++ [i]) _ _ (by rw [e]; simp) hI') (fun _ _ h => h.elim) h

theorem stepA.at {o : Oper} {r : Option Nat} {E F : AEnv} {H : AHeap} {K Kp : Value → AHeap → Prop} (hF : ∀ t ∈ o.looksAt ops, E.get t = F.get t) (h : stepA P ops o r F H K Kp) : stepA P ops o r E H K Kp := by
  have ha : Alike E F o := by
    intro x hx
    cases x with
    | tmp t =>
      refine hF t ?_
      unfold Oper.looksAt
      simp only [List.mem_append, List.mem_filterMap]
      exact .inl ⟨_, hx, rfl⟩
    | _ => rfl
  have hg : guardA ops E o = guardA ops F o := by
    unfold guardA
    split
    · rfl
    · rename_i j want hg
      split
      · rename_i s hs
        have : E.get s = F.get s := by
          refine hF s ?_
          unfold Oper.looksAt
          simp only [List.mem_append]
          right
          rw [hg]
          simp [hs]
        rw [this]
      · rfl
  unfold stepA execR at h ⊢
  rw [hg, execA_congr ha]
  exact h

/-- New variables of a statement whose order is open: the numbers kept for them. -/
def isAlloc (o : Oper) : Bool := match o.op with | .alloc _ => true | _ => false
def rbAt : List Oper → Nat → Nat → Option Nat
  | [], _, _ => none
  | o :: _, b, 0 => if isAlloc o then some b else none
  | o :: l, b, i + 1 => rbAt l (if isAlloc o then b + 1 else b) i
def keeps (H : AHeap) : List Oper → AHeap
  | [] => H
  | o :: l => keeps (if isAlloc o then H.keep else H) l
theorem Rel.keeps {w0 : World} {fr : Nat → Option Obj} {φ : Plan} {w : World} : ∀ (l : List Oper) {H : AHeap}, Rel P w0 fr φ H w → Rel P w0 fr φ (keeps H l) w := by
  intro l
  induction l with
  | nil => intro H h; exact h
  | cons o l ih =>
    intro H h
    unfold Go.Proofs.YtfolofhknhgpiaaGreatDoor.keeps
    split
    · exact ih h.keep
    · exact ih h

theorem AWp.draw (hm : P.follows .mixedOrders = true) {id : Nat} (t : Forms) (hb : backOk ops = true) {E : AEnv} {H : AHeap} (h : Covers P ops (rbAt ops.toList H.next) Q E (keeps H ops.toList) [] t) : AWp P (.region id ops true) Q E H := by
  intro w0 fr φ w a hR hE
  refine wp_region_draw fun k => ?_
  have e : Region.schedule (P.follows .mixedOrders) ops k = Region.linearise .any ops k := by
    simp only [Region.schedule, hm, Bool.true_or, if_true]
  rw [e]
  refine wpOps_mono _ _ _ _ _ ?_ (AOps.sound _ E _ (Covers.sound (sched_all hb k) t [] (fun p hp => by simp at hp) h) w0 fr φ _ a ((hR.keeps ops.toList).drawn _) hE)
  rintro e a w ⟨ae, E, H, ψ, q1, q2, q3, q5, F, hF, q6⟩
  exact ⟨ae, F, H, ψ, q1, q2, q3.le hF, q5, q6⟩
end
end Go.Proofs.YtfolofhknhgpiaaGreatDoor
