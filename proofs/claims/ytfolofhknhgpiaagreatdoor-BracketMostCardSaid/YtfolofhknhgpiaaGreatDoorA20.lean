/- Calls of arguments without addresses, carried out with open values, over each heap. -/
import Derived.Test.YtfolofhknhgpiaaGreatDoorA19
set_option linter.unusedVariables false
set_option linter.unusedSimpArgs false
namespace Go.Proofs.YtfolofhknhgpiaaGreatDoor
open Go

/-- A greater heap: what was, is unchanged. -/
structure Ext (B B' : AHeap) : Prop where
  next : B.next ≤ B'.next
  old : ∀ i, i < B.next → B'.get i = B.get i
  rs : B'.rs = B.rs
theorem Ext.refl (B : AHeap) : Ext B B := ⟨Nat.le_refl _, fun _ _ => rfl, rfl⟩
theorem Ext.trans {A B C : AHeap} (h : Ext A B) (k : Ext B C) : Ext A C :=
  ⟨Nat.le_trans h.next k.next, fun i hi => by rw [k.old i (Nat.lt_of_lt_of_le hi h.next), h.old i hi], k.rs.trans h.rs⟩
theorem Ext.get {B B' : AHeap} (h : Ext B B') {i : Nat} {b : ABlk} (e : B.get i = some b) : B'.get i = some b := by
  rw [h.old i (AHeap.get_lt e)]; exact e
theorem Ext.push (B : AHeap) (b : ABlk) : Ext B (B.push b) :=
  ⟨Nat.le_succ _, fun i hi => by rw [AHeap.get_push, if_neg (Nat.ne_of_lt hi)], rfl⟩
theorem Ext.set_new {B B' : AHeap} (h : Ext B B') {i : Nat} (hi : B.next ≤ i) (b : ABlk) : Ext B (B'.set i b) :=
  ⟨h.next, fun j hj => by rw [AHeap.get_set_ne (by omega)]; exact h.old j hj, h.rs⟩
theorem Ext.kill_new {B B' : AHeap} (h : Ext B B') {i : Nat} (hi : B.next ≤ i) : Ext B (B'.kill i) :=
  ⟨h.next, fun j hj => by rw [AHeap.get_kill_ne (by omega)]; exact h.old j hj, h.rs⟩

def outV (r : Option (AEnd × AHeap)) : Value := match r with
  | some (.ret v, _) => v
  | _ => .nilFunc
def isRetV (r : Option (AEnd × AHeap)) : Bool := match r with
  | some (.ret _, _) => true
  | _ => false
def outH (r : Option (AEnd × AHeap)) : AHeap := match r with
  | some (_, H) => H
  | none => AHeap.empty
def noRoH (H : AHeap) : Bool := (List.range H.next).all fun i => match H.get i with
  | some (.cells _ _ true) => false
  | _ => true
theorem noRoH_ok {H : AHeap} (h : noRoH H = true) (i : Nat) (vs : List Value) (e : TypeId) : H.get i ≠ some (.cells vs e true) := fun hi => by
  have := List.all_eq_true.1 h i (List.mem_range.2 (AHeap.get_lt hi))
  rw [hi] at this; cases this

def runCall (P : Program) (f : FuncId) (args : List Value) : Option (AEnd × AHeap) := dcall P tab tfns noBase 1000 4 f args AHeap.empty

section
variable {P : Program}
/-- A call carried out over the empty heap, and so over each one. -/
theorem ACall.evald {call : Caller} (hc : CallOk P call) {f : FuncId} {args : List Value} (h : isRetV (call f args AHeap.empty) = true) (ha : args.all Go.Proofs.YtfolofhknhgpiaaGreatDoor.flat = true) (ro : noRoH (outH (call f args AHeap.empty)) = true) (B : AHeap) :
    ACall P f args B fun e B' => e = .ret (ren (shift 0 0 B.next) (outV (call f args AHeap.empty))) ∧ Ext B B' ∧ ∀ i, i < (outH (call f args AHeap.empty)).next → B'.get (B.next + i) = ((outH (call f args AHeap.empty)).get i).map (renB (shift 0 0 B.next)) := by
  cases hr : call f args AHeap.empty with
  | none => rw [hr] at h; cases h
  | some r =>
    obtain ⟨v, H'⟩ := r
    cases v with
    | panic v => rw [hr] at h; cases h
    | ret v =>
    rw [hr] at ro
    have := ACall.frame (Stands.empty B) (hc f args _ (.ret v) H' hr) (fun ae H2 ⟨_, e⟩ => ⟨Nat.zero_le _, fun i vs t hi => absurd (e ▸ hi) (noRoH_ok ro i vs t)⟩)
    rw [map_ren_flat _ _ ha] at this
    refine this.mono ?_
    rintro e B' ⟨a0, H2, ⟨rfl, rfl⟩, rfl, _, hm⟩
    refine ⟨rfl, ⟨by rw [hm.next]; omega, fun i hi => hm.old i hi (fun j hj => absurd hj (Nat.not_lt_zero j)), hm.rs⟩, fun i hi => ?_⟩
    have := hm.new i hi
    simpa [shift, AHeap.empty, outH] using this
end
end Go.Proofs.YtfolofhknhgpiaaGreatDoor
