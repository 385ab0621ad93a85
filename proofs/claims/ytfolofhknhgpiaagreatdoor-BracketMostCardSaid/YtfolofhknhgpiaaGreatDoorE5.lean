/- A call that only adds blocks and answers by a plain value may be taken to leave the heap as it was. -/
import Derived.Test.YtfolofhknhgpiaaGreatDoorA21
set_option linter.unusedVariables false
set_option linter.unusedSimpArgs false
namespace Go.Proofs.YtfolofhknhgpiaaGreatDoor
open Go

theorem RV.down {φ ψ : Plan} (hp : φ.le ψ) : ∀ {v c : Value}, RV φ v c → ∀ {c' : Value}, RV ψ v c' → RV φ v c' := by
  intro v c h
  induction h with
  | bool b => intro c' k; cases k; exact .bool b
  | int k n => intro c' k; cases k; exact .int _ n
  | float k n => intro c' k; cases k; exact .float _ n
  | complex k m n => intro c' k; cases k; exact .complex _ m n
  | string s => intro c' k; cases k; exact .string s
  | ptrNil => intro c' k; cases k; exact .ptrNil
  | ptr e => intro c' k; cases k with | ptr e2 => rw [hp _ _ e] at e2; cases e2; exact .ptr e
  | sliceNil => intro c' k; cases k; exact .sliceNil
  | slice e q => intro c' k; cases k with
    | slice e2 q2 => rw [hp _ _ e] at e2; cases e2; exact .slice e q2
    | sliceDry e2 q2 => rw [hp _ _ e] at e2; cases e2; exact .sliceDry e q2
  | sliceDry e q => intro c' k; cases k with
    | slice e2 q2 => rw [hp _ _ e] at e2; cases e2; exact .slice e q2
    | sliceDry e2 q2 => rw [hp _ _ e] at e2; cases e2; exact .sliceDry e q2
  | mapNil => intro c' k; cases k; exact .mapNil
  | map e => intro c' k; cases k with | map e2 => rw [hp _ _ e] at e2; cases e2; exact .map e
  | func fn s1 r1 s2 r2 i1 i2 => intro c' k; cases k with
    | func _ t1 q1 t2 q2 =>
      refine .func fn t1 (fun i x y a b => ?_) t2 (fun i x y a b => ?_)
      · have hz := Array.getElem?_eq_getElem (by rw [← s1]; exact (Array.getElem?_eq_some_iff.1 a).1)
        exact i1 i x _ a hz (q1 i x y a b)
      · have hz := Array.getElem?_eq_getElem (by rw [← s2]; exact (Array.getElem?_eq_some_iff.1 a).1)
        exact i2 i x _ a hz (q2 i x y a b)
  | nilFunc => intro c' k; cases k; exact .nilFunc
  | iface t _ i => intro c' k; cases k with | iface _ r => exact .iface t (i r)
  | nilIface => intro c' k; cases k; exact .nilIface
  | agg s r i => intro c' k; cases k with
    | agg t q =>
      refine .agg t (fun j x y a b => ?_)
      have hz := Array.getElem?_eq_getElem (by rw [← s]; exact (Array.getElem?_eq_some_iff.1 a).1)
      exact i j x _ a hz (q j x y a b)
  | tuple s r i => intro c' k; cases k with
    | tuple t q =>
      refine .tuple t (fun j x y a b => ?_)
      have hz := Array.getElem?_eq_getElem (by rw [← s]; exact (Array.getElem?_eq_some_iff.1 a).1)
      exact i j x _ a hz (q j x y a b)
theorem RE.down {φ ψ : Plan} (hp : φ.le ψ) {es fs gs : List MapEntry} (h : RE φ es fs) (k : RE ψ es gs) : RE φ es gs := by
  refine ⟨k.1, fun i x y a b => ?_⟩
  obtain ⟨q1, q2, q3, q4⟩ := k.2 i x y a b
  have hlt : i < fs.length := by
    rw [← h.1]
    rcases Nat.lt_or_ge i es.length with h1 | h1
    · exact h1
    · rw [List.getElem?_eq_none h1] at a; cases a
  obtain ⟨_, _, _, r4⟩ := h.2 i x _ a (List.getElem?_eq_getElem hlt)
  exact ⟨q1, q2, q3, r4.down hp q4⟩

theorem Lies.down {P : Program} {fr : Nat → Option Obj} {φ ψ : Plan} {w w' : World} {l : Loc} {b : ABlk} (hp : φ.le ψ) (h : Lies P fr φ w l b) (k : Lies P fr ψ w' l b) : Lies P fr φ w' l b := by
  cases b with
  | cells vs e ro =>
    obtain ⟨cs, e1, z, h1, h2, h3, h4, h5⟩ := h
    obtain ⟨cs', e1', z', k1, k2, k3, k4, k5⟩ := k
    refine ⟨cs', e1', z', k1, k2, k3, fun j v hv => ?_, k5⟩
    obtain ⟨c1, a1, r1⟩ := h4 j v hv
    obtain ⟨c2, a2, r2⟩ := k4 j v hv
    exact ⟨c2, a2, r1.down hp r2⟩
  | map es ck =>
    obtain ⟨h1, h2, h3, fs, h4, h5⟩ := h
    obtain ⟨k1, k2, k3, gs, k4, k5⟩ := k
    exact ⟨k1, k2, k3, gs, k4, h5.down hp k5⟩
  | iter s pos => exact k

theorem Rel.shrink {P : Program} {w0 w w' : World} {fr : Nat → Option Obj} {φ ψ : Plan} {B B' : AHeap} (h : Rel P w0 fr φ B w) (k : Rel P w0 fr ψ B' w') (hp : φ.le ψ) (hx : Ext B B') : Rel P w0 fr φ B w' :=
  ⟨k.os, k.tape, k.output, k.size, k.frame, h.dom, fun i b e => by
    obtain ⟨l, p, q⟩ := h.lies i b e
    obtain ⟨l', p', q'⟩ := k.lies i b (hx.get e)
    rw [hp _ _ p] at p'
    cases p'
    exact ⟨l, p, q.down hp q'⟩, h.resv, h.disj⟩

/-- A call that only adds blocks and answers by a plain value leaves the heap as it was, for all that matters. -/
theorem ACall.shrink {P : Program} {f : FuncId} {args : List Value} {B : AHeap} {v : Value} (hv : ∀ φ c, RV φ v c → ∀ ψ, RV ψ v c) (h : ACall P f args B fun e B' => Ext B B' ∧ e = .ret v) : ACall P f args B fun e B' => B' = B ∧ e = .ret v := by
  intro w0 fr φ w cs hR hA
  refine (h w0 fr φ w cs hR hA).mono ?_
  rintro e w' ⟨ae, B', ψ, a, b, c, hx, rfl⟩
  cases c with
  | ret r => exact ⟨_, B, φ, Plan.le_refl φ, hR.shrink b a hx, .ret (hv _ _ r φ), rfl, rfl⟩
end Go.Proofs.YtfolofhknhgpiaaGreatDoor
