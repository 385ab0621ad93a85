/- Rules for one writing operation. -/
import Derived.Test.YtfolofhknhgpiaaGreatDoorA20
set_option linter.unusedVariables false
set_option linter.unusedSimpArgs false
namespace Go.Proofs.YtfolofhknhgpiaaGreatDoor
open Go

def storeOf (E : AEnv) (o : Oper) : Option (TypeId × Value × Value) := match o.op with
  | .store t p x => match E.eval p, E.eval x with
    | some p, some v => some (t, p, v)
    | _, _ => none
  | _ => none
def appOf (E : AEnv) (o : Oper) : Option (TypeId × TypeId × Value × Value) := match o.op with
  | .call c => match c.callee with
    | .builtin .append => match evals E c.args.toList, c.argTypes.toList with
      | some [x, y], [t, tx] => some (t, tx, x, y)
      | _, _ => none
    | _ => none
  | _ => none
def entryOf (E : AEnv) (o : Oper) : Option (TypeId × Value × Value) := match o.op with
  | .mapEntry t m k => match E.eval m, E.eval k with
    | some m, some k => some (t, m, k)
    | _, _ => none
  | _ => none
def slotOf (E : AEnv) (o : Oper) : Option (Value × Value × Value) := match o.op with
  | .entryStore _ m s x => match E.eval m, E.eval s, E.eval x with
    | some m, some s, some x => some (m, s, x)
    | _, _, _ => none
  | _ => none
def updOf (E : AEnv) (o : Oper) : Option (TypeId × Value × Value × Value) := match o.op with
  | .mapUpdate t m k x => match E.eval m, E.eval k, E.eval x with
    | some m, some k, some x => some (t, m, k, x)
    | _, _, _ => none
  | _ => none
def only (K : AEnv → AHeap → Prop) : AExit → AEnv → AHeap → Prop
  | .normal, E, H => K E H
  | _, _, _ => False
/-- A fresh block, written at once. -/
theorem boxed (B : AHeap) (z b : ABlk) : Ext B ((B.push z).set B.next b) ∧ ((B.push z).set B.next b).get B.next = some b ∧ ((B.push z).set B.next b).next = B.next + 1 :=
  ⟨(Ext.push B z).set_new (Nat.le_refl _) b, AHeap.get_set_same (AHeap.get_push_new B z), rfl⟩
/-- A block under a kept number, written at once. -/
theorem kept (B : AHeap) (hB : ∀ i ∈ B.rs, i < B.next) (z b : ABlk) : Ext B ((B.keep.fill B.next z).set B.next b) ∧ ((B.keep.fill B.next z).set B.next b).get B.next = some b ∧ ((B.keep.fill B.next z).set B.next b).next = B.next + 1 := by
  have hlt : B.next < B.keep.next := Nat.lt_succ_self _
  have hf : (B.keep.fill B.next z).get B.next = some z := by rw [AHeap.get_fill hlt, if_pos rfl]
  refine ⟨⟨Nat.le_succ _, fun i hi => ?_, ?_⟩, AHeap.get_set_same hf, rfl⟩
  · rw [AHeap.get_set_ne (Nat.ne_of_lt hi), AHeap.get_fill hlt, if_neg (Nat.ne_of_lt hi), AHeap.get_keep, if_neg (Nat.ne_of_lt hi)]
  · show (B.next :: B.rs).filter (· != B.next) = B.rs
    rw [List.filter_cons_of_neg (by simp), List.filter_eq_self.2]
    intro i hi
    have := hB i hi
    simp; omega
def insOf (E : AEnv) (o : Oper) : Option (TypeId × Value × Value × Value) := match o.op with
  | .insert t m k x => match E.eval m, E.eval k, E.eval x with
    | some m, some k, some x => some (t, m, k, x)
    | _, _, _ => none
  | _ => none
section
variable {P : Program} {Q : AExit → AEnv → AHeap → Prop} {E : AEnv} {H : AHeap}
/-- A store into a block that is known. -/
theorem AOps.store {ops : Array Oper} {rb : Nat → Option Nat} {n : Nat} (i : Nat) (l : List Nat) {L : List Nat} {T : Tr Value} {o : Oper} {t : TypeId} {b off : Nat} {vs vs2 : List Value} {e : TypeId} {v : Value} (hl : L = i :: l) (ho : ops[i]? = some o) (hg : guardA ops (envOf n T) o = some true)
    (hf : isFill (rb i) o = none) (hs : storeOf (envOf n T) o = some (t, .pointer (some ⟨b, off, none⟩), v)) (hH : H.get b = some (.cells vs e false))
    (hsz : (decide (szT P t = some (vcells v).length) && (vcells v).all (·.oneCell') && Nat.ble (off + (vcells v).length) vs.length) = true) (h2 : putCells vs off (vcells v) = vs2)
    (k : AOps P ops rb Q l (envOf n (tput T o.dst undef)) (H.set b (.cells vs2 e false))) : AOps P ops rb Q L (envOf n T) H := by
  simp only [Bool.and_eq_true, decide_eq_true_eq] at hsz
  unfold storeOf at hs
  split at hs
  · rename_i t' p x hop
    split at hs
    · rename_i p' v' h3 h4
      cases hs
      refine AOps.write i l undef _ hl ho hg (by simp [cls, hop]) hf ?_ k
      simp only [wexec, hop, h3, h4]
      unfold astore
      simp only [hH]
      rw [if_pos ⟨hsz.1.1, hsz.1.2, Nat.le_of_ble_eq_true hsz.2⟩, h2]
    · cases hs
  · cases hs
/-- An append. -/
theorem AOps.append {ops : Array Oper} {rb : Nat → Option Nat} {n : Nat} (i : Nat) (l : List Nat) {L : List Nat} {T : Tr Value} {o : Oper} {t tx : TypeId} {x y : Value} {v : Value} {H' : AHeap} (hl : L = i :: l) (ho : ops[i]? = some o) (hg : guardA ops (envOf n T) o = some true)
    (hf : isFill (rb i) o = none) (hs : appOf (envOf n T) o = some (t, tx, x, y)) (ha : aappend P H t tx x y = some (v, H'))
    (k : AOps P ops rb Q l (envOf n (tput T o.dst v)) H') : AOps P ops rb Q L (envOf n T) H := by
  unfold appOf at hs
  split at hs
  · rename_i c hop
    split at hs
    · rename_i hcal
      split at hs
      · rename_i x' y' t' tx' h3 h4
        cases hs
        refine AOps.write i l v H' hl ho hg (by simp [cls, hop, hcal]) hf ?_ k
        simp only [wexec, hop, hcal, h3, h4]
        exact ha
      · cases hs
    · cases hs
  · cases hs
theorem AOps.mapEntry {ops : Array Oper} {rb : Nat → Option Nat} {n : Nat} (i : Nat) (l : List Nat) {L : List Nat} {T : Tr Value} {o : Oper} {t : TypeId} {m k : Value} {v : Value} {H' : AHeap} (hl : L = i :: l) (ho : ops[i]? = some o) (hg : guardA ops (envOf n T) o = some true)
    (hf : isFill (rb i) o = none) (hs : entryOf (envOf n T) o = some (t, m, k)) (ha : amapEntry P H t m k = some (v, H'))
    (kk : AOps P ops rb Q l (envOf n (tput T o.dst v)) H') : AOps P ops rb Q L (envOf n T) H := by
  unfold entryOf at hs
  split at hs
  · rename_i t' m' k' hop
    split at hs
    · rename_i x' y' h3 h4
      cases hs
      refine AOps.write i l v H' hl ho hg (by simp [cls, hop]) hf ?_ kk
      simp only [wexec, hop, h3, h4]
      exact ha
    · cases hs
  · cases hs
theorem AOps.entryStore {ops : Array Oper} {rb : Nat → Option Nat} {n : Nat} (i : Nat) (l : List Nat) {L : List Nat} {T : Tr Value} {o : Oper} {m s x : Value} {H' : AHeap} (hl : L = i :: l) (ho : ops[i]? = some o) (hg : guardA ops (envOf n T) o = some true)
    (hf : isFill (rb i) o = none) (hs : slotOf (envOf n T) o = some (m, s, x)) (ha : aentryStore H m s x = some H')
    (kk : AOps P ops rb Q l (envOf n (tput T o.dst undef)) H') : AOps P ops rb Q L (envOf n T) H := by
  unfold slotOf at hs
  split at hs
  · rename_i t' m' s' x' hop
    split at hs
    · rename_i a b c h3 h4 h5
      cases hs
      refine AOps.write i l undef H' hl ho hg (by simp [cls, hop]) hf ?_ kk
      simp only [wexec, hop, h3, h4, h5, ha]
    · cases hs
  · cases hs
theorem AOps.mapUpdate {ops : Array Oper} {rb : Nat → Option Nat} {n : Nat} (i : Nat) (l : List Nat) {L : List Nat} {T : Tr Value} {o : Oper} {t : TypeId} {m k x : Value} {H' : AHeap} (hl : L = i :: l) (ho : ops[i]? = some o) (hg : guardA ops (envOf n T) o = some true)
    (hf : isFill (rb i) o = none) (hs : updOf (envOf n T) o = some (t, m, k, x)) (ha : amapUpdate P H t m k x = some H')
    (kk : AOps P ops rb Q l (envOf n (tput T o.dst undef)) H') : AOps P ops rb Q L (envOf n T) H := by
  unfold updOf at hs
  split at hs
  · rename_i t' m' s' x' hop
    split at hs
    · rename_i a b c h3 h4 h5
      cases hs
      refine AOps.write i l undef H' hl ho hg (by simp [cls, hop]) hf ?_ kk
      simp only [wexec, hop, h3, h4, h5, ha]
    · cases hs
  · cases hs
/-- What holds between two parts. -/
theorem AWp.mid {x : Code} (h : isSeq x = true) (K : AEnv → AHeap → Prop) (k1 : AWp P (fst x) (only K) E H) (k2 : ∀ E H, K E H → AWp P (snd x) Q E H) : AWp P x Q E H := by
  refine AWp.seq' h (k1.mono fun e E H hk => ?_)
  cases e with
  | normal => exact k2 E H hk
  | _ => exact hk.elim
theorem AWp.resv {c : Code} (h : (∀ i ∈ H.rs, i < H.next) → AWp P c Q E H) : AWp P c Q E H := fun w0 fr φ w a hR hE => h (fun i hi => (hR.resv i hi).1) w0 fr φ w a hR hE
theorem AOps.fill {ops : Array Oper} {rb : Nat → Option Nat} {n : Nat} (i : Nat) (l : List Nat) {L : List Nat} {T : Tr Value} {o : Oper} (id : Nat) (e : TypeId) (z : Value) (hl : L = i :: l) (ho : ops[i]? = some o) (hg : guardA ops (envOf n T) o = some true)
    (hf : isFill (rb i) o = some (id, e)) (hz : zeroC P e = some z) (hid : id ∈ H.rs) (hn : H.get id = none)
    (k : AOps P ops rb Q l (envOf n (tput T o.dst (.pointer (some ⟨id, 0, none⟩)))) (H.fill id (.cells (vcells z) e false))) : AOps P ops rb Q L (envOf n T) H := by
  subst hl
  simp only [AOps, ho, hg, execR, hf]
  exact ⟨z, hz, ⟨hid, hn⟩, by rw [envOf_put]; exact k⟩
/-- An entry laid into a map whose entries are known. -/
theorem AOps.insert {ops : Array Oper} {rb : Nat → Option Nat} {n : Nat} (i : Nat) (l : List Nat) {L : List Nat} {T : Tr Value} {o : Oper} {t kt et : TypeId} {M : Nat} {k x : Value} {es es' : List MapEntry} {ck ck' : Nat} (hl : L = i :: l) (ho : ops[i]? = some o) (hg : guardA ops (envOf n T) o = some true)
    (hf : isFill (rb i) o = none) (hs : insOf (envOf n T) o = some (t, .map (some M), k, x)) (hm : mapT P t = some (kt, et)) (hM : H.get M = some (.map es ck)) (ha : aput P kt k x es ck = some (es', ck'))
    (kk : AOps P ops rb Q l (envOf n (tput T o.dst undef)) (H.set M (.map es' ck'))) : AOps P ops rb Q L (envOf n T) H := by
  unfold insOf at hs
  split at hs
  · rename_i t' m' s' x' hop
    split at hs
    · rename_i a b c h3 h4 h5
      cases hs
      refine AOps.write i l undef _ hl ho hg (by simp [cls, hop]) hf ?_ kk
      simp only [wexec, hop, h3, h4, h5]
      unfold amapUpdate
      simp only [hm, hM, ha]
    · cases hs
  · cases hs
def exitOf : Code → Option Nat
  | .exit id => some id
  | _ => none
def isSkip : Code → Bool
  | .skip => true
  | _ => false
theorem AWp.exit' {x : Code} {id : Nat} (h : exitOf x = some id) (k : Q (.exit id) E H) : AWp P x Q E H := by
  cases x with
  | exit i => cases h; exact .exit k
  | _ => cases h
theorem AWp.skip' {x : Code} (h : isSkip x = true) (k : Q .normal E H) : AWp P x Q E H := by
  cases x with
  | skip => exact .skip k
  | _ => cases h
theorem AWp.condT {x : Code} {c : Operand} (h : condOf x = some c) (hc : E.eval c = some (.bool true)) (k : AWp P (fst x) Q E H) : AWp P x Q E H :=
  .cond_ h hc (fun _ => k) (fun h => by cases h)
theorem AWp.condF {x : Code} {c : Operand} (h : condOf x = some c) (hc : E.eval c = some (.bool false)) (k : AWp P (snd x) Q E H) : AWp P x Q E H :=
  .cond_ h hc (fun h => by cases h) (fun _ => k)
/-- A loop that is left in its first round. -/
theorem AWp.loop1 {x : Code} (h : isLoop x = true) (k : AWp P (fst x) (thenA (fun _ _ => False) Q) E H) : AWp P x Q E H := by
  refine AWp.loop' h (N := 0) (fun m E' H' => E' = E ∧ H' = H) ⟨rfl, rfl⟩ ?_
  rintro m E' H' ⟨rfl, rfl⟩
  exact k.mono fun e E2 H2 hq => by
    cases e with
    | normal => exact hq.elim
    | _ => exact hq
end
end Go.Proofs.YtfolofhknhgpiaaGreatDoor
