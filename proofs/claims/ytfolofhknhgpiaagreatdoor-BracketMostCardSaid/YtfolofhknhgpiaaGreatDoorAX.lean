/- Functions without a body, over abstract heaps: atomic steps, marks, a byte's place in a string. -/
import Derived.Test.YtfolofhknhgpiaaGreatDoorA11
import Derived.Laws.LoneSync
import Derived.Laws.Externs
set_option linter.unusedVariables false
set_option linter.unusedSimpArgs false
namespace Go.Proofs.YtfolofhknhgpiaaGreatDoor
open Go

/-- What a function without a body does. -/
inductive XK where
  | add (k : IntKind) | load (k : IntKind) | store | cas (k : IntKind) | mark0 (m : Mark) | marked (m : Addr → Mark) | index | same

def xkind (n : String) : Option XK :=
  if n = "sync/atomic.AddInt64" then some (.add .i64)
  else if n = "sync/atomic.AddInt32" then some (.add .i32)
  else if n = "sync/atomic.LoadUint32" then some (.load .u32)
  else if n = "sync/atomic.StoreUint32" then some .store
  else if n = "sync/atomic.CompareAndSwapInt32" then some (.cas .i32)
  else if n = "internal/race.Disable" then some (.mark0 .disable)
  else if n = "internal/race.Enable" then some (.mark0 .enable)
  else if n = "internal/race.Acquire" then some (.marked .acquire)
  else if n = "internal/race.ReleaseMerge" then some (.marked .releaseMerge)
  else if n = "internal/bytealg.IndexByteString" then some .index
  else if n = "internal/abi.NoEscape" then some .same
  else none

def XK.sem : XK → Array Value → Sem Value
  | .add k => Extern.Atomic.update (Op.intArith .add) k true
  | .load k => Extern.Atomic.loadT (.int k)
  | .store => Extern.Atomic.storeT
  | .cas k => Extern.Atomic.casT (.int k)
  | .mark0 m => fun _ => do mark m; pure Extern.Race.none_
  | .marked m => Extern.Race.marked m
  | .index => Extern.BytealgIndexByte.indexByte
  | .same => Extern.AbiNoEscape.same

theorem xkind_find {fn : Func} {x : XK} (h : xkind fn.name = some x) : Extern.find fn = some x.sem := by
  unfold xkind at h
  generalize hn : fn.name = n at h
  repeat' split at h
  all_goals first
    | (cases h; subst n; rename_i hq; unfold Extern.find; rw [hq]; rfl)
    | cases h

theorem xkind_name {n : String} {x : XK} (h : xkind n = some x) : (n == "runtime.NumGoroutine") = false := by
  unfold xkind at h
  repeat' split at h
  all_goals first
    | (rename_i hq; subst hq; decide)
    | cases h

/-- The next step's table does not name it. -/
def noNext (fn : Func) : Bool := (Extern.findNext fn).isNone

/-- A step of its own over an abstract heap. -/
def xrun (x : XK) (args : List Value) (H : AHeap) : Option (Value × AHeap) :=
  match x, args with
  | .add k, [.pointer (some a), .int k' y] => match H.get a.block with
    | some (.cells vs e false) => match vs[a.off]? with
      | some (.int k2 z) => if k' = k ∧ k2 = k ∧ a.spot = none then some (.int k (k.wrap (z + y)), H.set a.block (.cells (putCells vs a.off [.int k (k.wrap (z + y))]) e false)) else none
      | _ => none
    | _ => none
  | .load k, [.pointer (some a)] => match H.get a.block with
    | some (.cells vs e ro) => match vs[a.off]? with
      | some (.int k2 z) => if k2 = k ∧ a.spot = none then some (.int k z, H) else none
      | _ => none
    | _ => none
  | .store, [.pointer (some a), .int k y] => match H.get a.block with
    | some (.cells vs e false) => match vs[a.off]? with
      | some (.int k2 z) => if a.spot = none then some (.tuple #[], H.set a.block (.cells (putCells vs a.off [.int k y]) e false)) else none
      | _ => none
    | _ => none
  | .cas k, [.pointer (some a), .int k1 o, .int k2 y] => match H.get a.block with
    | some (.cells vs e false) => match vs[a.off]? with
      | some (.int k3 z) => if k1 = k ∧ k2 = k ∧ k3 = k ∧ a.spot = none then
          if z = o then some (.bool true, H.set a.block (.cells (putCells vs a.off [.int k y]) e false)) else some (.bool false, H)
        else none
      | _ => none
    | _ => none
  | .mark0 _, [] => some (.tuple #[], H)
  | .marked _, [.pointer (some a)] => if a.spot = none then some (.tuple #[], H) else none
  | .index, [.string s, .int .u8 c] => some (.int .i64 (firstIdx s c.toNat.toUInt8), H)
  | .same, [v] => some (v, H)
  | _, _ => none

def extA (P : Program) (g : FuncId) (args : List Value) (H : AHeap) : Option (Value × AHeap) :=
  match P.funcs[g]? with
  | some fn => if fn.body.isNone && noNext fn then match xkind fn.name with
    | some x => xrun x args H
    | none => none
    else none
  | none => none

/-! ### It is so -/
section
variable {P : Program} {w0 : World} {fr : Nat → Option Obj} {φ : Plan} {H H' : AHeap} {w : World}

theorem RL.out0 {cs : Array Value} (h : RL φ [] cs.toList) : cs = #[] := by
  have := h.1
  rw [← Array.toList_inj]
  exact List.eq_nil_of_length_eq_zero this.symm
theorem RL.out1 {x : Value} {cs : Array Value} (h : RL φ [x] cs.toList) : ∃ c, cs = #[c] ∧ RV φ x c := by
  obtain ⟨l⟩ := cs
  have h1 := h.1
  match l, h with
  | [c], h => exact ⟨c, rfl, h.2 0 x c rfl rfl⟩
  | [], h => simp at h1
  | _ :: _ :: _, h => simp at h1
theorem RL.out2 {x y : Value} {cs : Array Value} (h : RL φ [x, y] cs.toList) : ∃ c d, cs = #[c, d] ∧ RV φ x c ∧ RV φ y d := by
  obtain ⟨l⟩ := cs
  have h1 := h.1
  match l, h with
  | [c, d], h => exact ⟨c, d, rfl, h.2 0 x c rfl rfl, h.2 1 y d rfl rfl⟩
  | [], h => simp at h1
  | [_], h => simp at h1
  | _ :: _ :: _ :: _, h => simp at h1
theorem RL.out3 {x y z : Value} {cs : Array Value} (h : RL φ [x, y, z] cs.toList) : ∃ c d e, cs = #[c, d, e] ∧ RV φ x c ∧ RV φ y d ∧ RV φ z e := by
  obtain ⟨l⟩ := cs
  have h1 := h.1
  match l, h with
  | [c, d, e], h => exact ⟨c, d, e, rfl, h.2 0 x c rfl rfl, h.2 1 y d rfl rfl, h.2 2 z e rfl rfl⟩
  | [], h => simp at h1
  | [_], h => simp at h1
  | [_, _], h => simp at h1
  | _ :: _ :: _ :: _ :: _, h => simp at h1

/-- A cell that may be written, as the world has it. -/
theorem Rel.own (hR : Rel P w0 fr φ H w) {B o : Nat} {l : Loc} {vs : List Value} {e : TypeId} (hH : H.get B = some (.cells vs e false)) (hp : φ B = some l) {k : IntKind} {z : Int} (hz : vs[o]? = some (.int k z)) :
    w.cell? ⟨l.blk, l.base + o, none⟩ = some (.int k z) ∧ w.frozen? ⟨l.blk, l.base + o, none⟩ = false ∧
      ∀ k2 y, Rel P w0 fr φ (H.set B (.cells (putCells vs o [.int k2 y]) e false)) (w.setCell ⟨l.blk, l.base + o, none⟩ (.int k2 y)) := by
  obtain ⟨l', q, h1, h2, h3⟩ := hR.cells hH
  rw [hp] at q; cases q
  have hlt : o < vs.length := by
    rcases Nat.lt_or_ge o vs.length with h | h
    · exact h
    · rw [List.getElem?_eq_none h] at hz; cases hz
  obtain ⟨cv, a, b⟩ := h2 o _ hz
  cases b
  refine ⟨a, ((h3 rfl).2 o (by omega)).2, fun k2 y => ?_⟩
  exact hR.write hH hp (news := [.int k2 y]) (cnews := [.int k2 y]) ((RL.nil φ).cons (.int k2 y)) (by show o + 1 ≤ vs.length; omega)

theorem extA_run {g : FuncId} {args : List Value} {v : Value} (h : extA P g args H = some (v, H')) (hR : Rel P w0 fr φ H w) {cs : Array Value} (hA : RL φ args cs.toList) :
    ∃ cv w', (callFunc g cs).run P w = .ok (.value cv) w' ∧ Rel P w0 fr φ H' w' ∧ RV φ v cv := by
  unfold extA at h
  split at h
  · rename_i fn hf
    split at h
    · rename_i hb
      rw [Bool.and_eq_true] at hb
      obtain ⟨hb, hn⟩ := hb
      have hn : Extern.findNext fn = none := Option.isNone_iff_eq_none.1 hn
      split at h
      · rename_i x hx
        have he := xkind_find hx
        have hnm := xkind_name hx
        unfold xrun at h
        split at h
        · -- add
          rename_i k a k' y
          split at h
          · rename_i vs e hH
            split at h
            · rename_i k2 z hz
              split at h
              · rename_i hk
                obtain ⟨rfl, rfl, hs⟩ := hk
                cases h
                obtain ⟨c, d, rfl, r1, r2⟩ := hA.out2
                cases r2
                cases r1 with
                | ptr ep =>
                  obtain ⟨q1, q2, q3⟩ := hR.own hH ep hz
                  exact ⟨_, _, run_call_add hf hnm hb hn _ he q1 q2 rfl, q3 _ _, .int _ _⟩
              · cases h
            · cases h
          · cases h
        · -- load
          rename_i k a
          split at h
          · rename_i vs e ro hH
            split at h
            · rename_i k2 z hz
              split at h
              · rename_i hk
                obtain ⟨rfl, hs⟩ := hk
                cases h
                obtain ⟨c, rfl, r1⟩ := hA.out1
                cases r1 with
                | ptr ep =>
                  obtain ⟨l', q, h1, h2, h3⟩ := hR.cells hH
                  simp only at q hz
                  rw [ep] at q; cases q
                  obtain ⟨cv, a, b⟩ := h2 _ _ hz
                  cases b
                  exact ⟨_, _, run_call_load hf hnm hb hn _ he a, hR, .int _ _⟩
              · cases h
            · cases h
          · cases h
        · -- store
          rename_i a k y
          split at h
          · rename_i vs e hH
            split at h
            · rename_i k2 z hz
              split at h
              · cases h
                obtain ⟨c, d, rfl, r1, r2⟩ := hA.out2
                cases r2
                cases r1 with
                | ptr ep =>
                  obtain ⟨q1, q2, q3⟩ := hR.own hH ep hz
                  exact ⟨_, _, run_call_store hf hnm hb hn he q1 q2, q3 _ _, .tuple rfl (fun i x y hx _ => by simp at hx)⟩
              · cases h
            · cases h
          · cases h
        · -- compare and swap
          rename_i k a k1 o k2 y
          split at h
          · rename_i vs e hH
            split at h
            · rename_i k3 z hz
              split at h
              · rename_i hk
                obtain ⟨rfl, rfl, rfl, hs⟩ := hk
                obtain ⟨c, d, f, rfl, r1, r2, r3⟩ := hA.out3
                cases r2
                cases r3
                cases r1 with
                | ptr ep =>
                  obtain ⟨q1, q2, q3⟩ := hR.own hH ep hz
                  split at h
                  · rename_i hzo
                    subst hzo
                    cases h
                    exact ⟨_, _, run_call_cas_hit hf hnm hb hn _ he q1 q2, q3 _ _, .bool _⟩
                  · rename_i hzo
                    cases h
                    exact ⟨_, _, run_call_cas_miss hf hnm hb hn _ he q1 q2 hzo, hR, .bool _⟩
              · cases h
            · cases h
          · cases h
        · -- a mark
          cases h
          obtain rfl := hA.out0
          exact ⟨_, _, run_call_mark0 hf hnm hb hn _ he w, hR, .tuple rfl (fun i x y hx _ => by simp at hx)⟩
        · rename_i m a
          split at h
          · cases h
            obtain ⟨c, rfl, r1⟩ := hA.out1
            cases r1 with
            | ptr ep => exact ⟨_, _, run_call_marked hf hnm hb hn _ he _ w, hR, .tuple rfl (fun i x y hx _ => by simp at hx)⟩
          · cases h
        · -- a byte's place
          cases h
          obtain ⟨c, d, rfl, r1, r2⟩ := hA.out2
          cases r1
          cases r2
          refine ⟨_, _, ?_, hR, .int _ _⟩
          rw [run_callFunc_extern hf hnm hb hn he]
          simp only [XK.sem, run_indexByte_string, Result.andThen_ok]
        · cases h
          obtain ⟨c, rfl, r1⟩ := hA.out1
          refine ⟨c, w, ?_, hR, r1⟩
          rw [run_callFunc_extern hf hnm hb hn he]
          rfl
        · cases h
      · cases h
    · cases h
  · cases h
end
end Go.Proofs.YtfolofhknhgpiaaGreatDoor
