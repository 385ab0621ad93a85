/- A body carried out piece by piece. -/
import Derived.Test.YtfolofhknhgpiaaGreatDoorA17
set_option linter.unusedVariables false
set_option linter.unusedSimpArgs false
namespace Go.Proofs.YtfolofhknhgpiaaGreatDoor
open Go

def bodyOf (P : Program) (f : Nat) : Code := match P.funcs[f]? with
  | some fn => match fn.body with
    | some c => c
    | none => .skip
  | none => .skip
def runAt (P : Program) (f n : Nat) (base : Caller) : Nat → Code → Tr Value → AHeap → Option (AExit × Tr Value × AHeap) := dcode P (tab f) (dcall P tab tfns base 100000 60) n
def piece : Nat → Code → Code
  | 0, .seq a _ => a
  | n + 1, .seq _ b => piece n b
  | _, _ => .skip
def behind : Nat → Code → Code
  | 0, c => c
  | n + 1, .seq _ b => behind n b
  | _, _ => .skip
def manyB : Nat → Code → Bool
  | 0, .seq _ _ => true
  | n + 1, .seq _ b => manyB n b
  | _, _ => false
theorem behind_seq : ∀ (n : Nat) (c : Code), manyB n c = true → behind n c = .seq (piece n c) (behind (n + 1) c)
  | 0, .seq a b, _ => rfl
  | n + 1, .seq a b, h => behind_seq n b h
  | 0, .skip, h => by cases h
  | n + 1, .skip, h => by cases h
  | 0, .region .., h => by cases h
  | n + 1, .region .., h => by cases h
  | 0, .cond .., h => by cases h
  | n + 1, .cond .., h => by cases h
  | 0, .loop .., h => by cases h
  | n + 1, .loop .., h => by cases h
  | 0, .block .., h => by cases h
  | n + 1, .block .., h => by cases h
  | 0, .exit .., h => by cases h
  | n + 1, .exit .., h => by cases h
  | 0, .goto .., h => by cases h
  | n + 1, .goto .., h => by cases h
  | 0, .label .., h => by cases h
  | n + 1, .label .., h => by cases h
  | 0, .ret, h => by cases h
  | n + 1, .ret, h => by cases h
  | 0, .rangeFunc .., h => by cases h
  | n + 1, .rangeFunc .., h => by cases h
  | 0, .scope .., h => by cases h
  | n + 1, .scope .., h => by cases h

section
variable {P : Program}
theorem AWq.step (hm : P.follows .mixedOrders = true) {tab : Nat → Option Forms} {call : Caller} (hc : CallOk P call) {n k i : Nat} {c : Code} {Q : AExit → AEnv → AHeap → Prop} (hi : manyB i c = true) (hok : codeOk P tab (piece i c) = true)
    {T : Tr Value} {H : AHeap} {ids : List Nat} {F : List (Nat × Value)} {L : List (Option ABlk)} (h : cutB (dcode P tab call n k (piece i c) T H) ids F L = true)
    (hy : AWq P (behind (i + 1) c) Q (envOf n (mkE F)) (mkH L)) : AWq P (behind i c) Q (envOf n T) H := by
  rw [behind_seq i c hi]
  exact AWq.cut hm hc hok h hy
def endB (P : Program) (fn : Func) (r : Option (AExit × Tr Value × AHeap)) (v : Value) : Bool := match r with
  | some (.normal, T, H) | some (.ret, T, H) => match resultsA P (envOf fn.ntmps T) H fn.results.toList with
    | some vs => beqV (tupleA vs) v
    | none => false
  | _ => false
theorem AWq.done (hm : P.follows .mixedOrders = true) {tab : Nat → Option Forms} {call : Caller} (hc : CallOk P call) {fn : Func} {k : Nat} {c : Code} (hok : codeOk P tab c = true) {T : Tr Value} {H : AHeap} {v : Value}
    (h : endB P fn (dcode P tab call fn.ntmps k c T H) v = true) : AWq P c (finA P fn fun e _ => e = .ret v) (envOf fn.ntmps T) H := by
  unfold endB at h
  split at h
  · rename_i T' H' hd
    split at h
    · rename_i vs hvs
      refine AWp.toQ (AWp.mono (dcode_sound hm hc k c hok T T' H H' _ hd) ?_)
      rintro e E2 H2 ⟨rfl, rfl, rfl⟩
      exact ⟨vs, hvs, by rw [beqV_eq _ _ h]⟩
    · cases h
  · rename_i T' H' hd
    split at h
    · rename_i vs hvs
      refine AWp.toQ (AWp.mono (dcode_sound hm hc k c hok T T' H H' _ hd) ?_)
      rintro e E2 H2 ⟨rfl, rfl, rfl⟩
      exact ⟨vs, hvs, by rw [beqV_eq _ _ h]⟩
    · cases h
  · cases h
/-- What is known of a call over the empty heap that gives a value without addresses, over each heap. -/
theorem ACall.flat {f : FuncId} {args : List Value} {v : Value} (h : ACall P f args AHeap.empty fun e _ => e = .ret v) (ha : args.all Go.Proofs.YtfolofhknhgpiaaGreatDoor.flat = true) (hv : Go.Proofs.YtfolofhknhgpiaaGreatDoor.flat v = true) (B : AHeap) :
    ACall P f args B fun e B' => e = .ret v ∧ B' = B := by
  have h0 : ACall P f args AHeap.empty fun e H => e = .ret v ∧ H = AHeap.empty := by
    intro w0 fr φ w cs hR hA
    refine (h w0 fr φ w cs hR hA).mono fun e w' ⟨ae, H1, ψ, a, b, c, d⟩ => ?_
    subst d
    refine ⟨.ret v, AHeap.empty, φ, Plan.le_refl φ, ⟨b.os, b.tape, b.output, b.size, b.frame, hR.dom, fun i b e => ?_, fun i hi => (List.not_mem_nil hi).elim, fun i j b c l k _ e => ?_⟩, ?_, rfl, rfl⟩
    · simp [AHeap.get, AHeap.empty] at e
    · simp [AHeap.get, AHeap.empty] at e
    · cases c with
      | ret r => rw [r.flat_eq hv]; exact .ret (.of_flat hv)
  have := ACall.frame (Stands.empty B) h0 (fun ae H' ⟨_, e⟩ => ⟨Nat.zero_le _, fun i vs t hi => by rw [e] at hi; simp [AHeap.get, AHeap.empty] at hi⟩)
  rw [map_ren_flat _ _ ha] at this
  refine this.mono ?_
  rintro e B' ⟨a0, H', ⟨rfl, rfl⟩, rfl, rfl, _⟩
  refine ⟨by rw [renEnd, ren_flat _ hv], ?_⟩
  unfold merge
  simp only [AHeap.empty, mergeT, Nat.sub_zero, Nat.add_zero]
end
end Go.Proofs.YtfolofhknhgpiaaGreatDoor
