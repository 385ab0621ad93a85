/- Abstract heaps over the model's values, and how they lie in a world. -/
import Derived.Calls
import Derived.Orders
import Derived.Below
set_option linter.unusedVariables false
namespace Go.Proofs.YtfolofhknhgpiaaGreatDoor
open Go

/-! ### 1. Maps from numbers, as tries -/
inductive Tr (α : Type) where
  | nil
  | node (l : Tr α) (v : Option α) (r : Tr α)

namespace Tr
variable {α : Type}
def get : Tr α → Nat → Option α
  | .nil, _ => none
  | .node l v r, k => if k = 0 then v else if k % 2 = 1 then l.get (k / 2) else r.get (k / 2 - 1)

def setF : Nat → Tr α → Nat → Option α → Tr α
  | 0, t, _, _ => t
  | n + 1, .nil, k, x => if k = 0 then .node .nil x .nil else if k % 2 = 1 then .node (setF n .nil (k / 2) x) none .nil else .node .nil none (setF n .nil (k / 2 - 1) x)
  | n + 1, .node l v r, k, x => if k = 0 then .node l x r else if k % 2 = 1 then .node (setF n l (k / 2) x) v r else .node l v (setF n r (k / 2 - 1) x)

theorem get_nil (k : Nat) : (Tr.nil : Tr α).get k = none := rfl

theorem get_setF : ∀ (n : Nat) (t : Tr α) (k : Nat) (x : Option α) (j : Nat), k < n → (setF n t k x).get j = if j = k then x else t.get j := by
  intro n
  induction n with
  | zero => intro t k x j h; omega
  | succ n ih =>
    intro t k x j h
    cases t with
    | nil =>
      unfold setF
      by_cases h0 : k = 0
      · subst h0
        simp only [if_true, get]
        by_cases hj : j = 0 <;> simp [hj]
      · rw [if_neg h0]
        by_cases h1 : k % 2 = 1
        · rw [if_pos h1]; simp only [get]
          by_cases hj : j = 0
          · subst hj; simp; omega
          · rw [if_neg hj]
            by_cases hj1 : j % 2 = 1
            · rw [if_pos hj1, ih _ _ _ _ (by omega)]
              by_cases e : j = k
              · subst e; simp
              · rw [if_neg e, if_neg (by omega), get_nil]
            · rw [if_neg hj1, if_neg (by omega)]
        · rw [if_neg h1]; simp only [get]
          by_cases hj : j = 0
          · subst hj; simp; omega
          · rw [if_neg hj]
            by_cases hj1 : j % 2 = 1
            · rw [if_pos hj1, if_neg (by omega)]
            · rw [if_neg hj1, ih _ _ _ _ (by omega)]
              by_cases e : j = k
              · subst e; simp
              · rw [if_neg e, if_neg (by omega), get_nil]
    | node l v r =>
      unfold setF
      by_cases h0 : k = 0
      · subst h0
        simp only [if_true, get]
        by_cases hj : j = 0 <;> simp [hj]
      · rw [if_neg h0]
        by_cases h1 : k % 2 = 1
        · rw [if_pos h1]; simp only [get]
          by_cases hj : j = 0
          · subst hj; rw [if_pos rfl, if_pos rfl, if_neg (by omega)]
          · rw [if_neg hj, if_neg hj]
            by_cases hj1 : j % 2 = 1
            · rw [if_pos hj1, if_pos hj1, ih _ _ _ _ (by omega)]
              by_cases e : j = k
              · subst e; simp
              · rw [if_neg e, if_neg (by omega)]
            · rw [if_neg hj1, if_neg hj1, if_neg (by omega)]
        · rw [if_neg h1]; simp only [get]
          by_cases hj : j = 0
          · subst hj; rw [if_pos rfl, if_pos rfl, if_neg (by omega)]
          · rw [if_neg hj, if_neg hj]
            by_cases hj1 : j % 2 = 1
            · rw [if_pos hj1, if_pos hj1, if_neg (by omega)]
            · rw [if_neg hj1, if_neg hj1, ih _ _ _ _ (by omega)]
              by_cases e : j = k
              · subst e; simp
              · rw [if_neg e, if_neg (by omega)]

def set (t : Tr α) (k : Nat) (x : Option α) : Tr α := setF (k + 1) t k x
theorem get_set (t : Tr α) (k : Nat) (x : Option α) (j : Nat) : (t.set k x).get j = if j = k then x else t.get j :=
  get_setF _ _ _ _ _ (Nat.lt_succ_self k)
theorem get_set_same (t : Tr α) (k : Nat) (x : Option α) : (t.set k x).get k = x := by rw [get_set, if_pos rfl]
theorem get_set_ne (t : Tr α) {k j : Nat} (x : Option α) (h : j ≠ k) : (t.set k x).get j = t.get j := by rw [get_set, if_neg h]
end Tr

/-! ### 2. Heaps -/
/-- What an abstract block is: cells (which are read alone, or written too), a map, a string's iterator. A block that is none of these is gone. -/
inductive ABlk where
  | cells (vs : List Value) (elem : TypeId) (ro : Bool)
  | map (es : List MapEntry) (clock : Nat)
  | iter (s : ByteArray) (pos : Nat)

/-- (The third part: numbers that are kept for blocks to come.) -/
structure AHeap where
  next : Nat
  m : Tr ABlk
  rs : List Nat

namespace AHeap
def empty : AHeap := ⟨0, .nil, []⟩
def get (H : AHeap) (i : Nat) : Option ABlk := if i < H.next then H.m.get i else none
def set (H : AHeap) (i : Nat) (b : ABlk) : AHeap := ⟨H.next, H.m.set i (some b), H.rs⟩
def kill (H : AHeap) (i : Nat) : AHeap := ⟨H.next, H.m.set i none, H.rs⟩
def push (H : AHeap) (b : ABlk) : AHeap := ⟨H.next + 1, H.m.set H.next (some b), H.rs⟩
/-- A number kept; a block under it. -/
def keep (H : AHeap) : AHeap := ⟨H.next + 1, H.m.set H.next none, H.next :: H.rs⟩
def fill (H : AHeap) (i : Nat) (b : ABlk) : AHeap := ⟨H.next, H.m.set i (some b), H.rs.filter (· != i)⟩

theorem get_lt {H : AHeap} {i : Nat} {b : ABlk} (h : H.get i = some b) : i < H.next := by
  unfold get at h; split at h
  · assumption
  · cases h
theorem get_ge {H : AHeap} {i : Nat} (h : H.next ≤ i) : H.get i = none := by unfold get; rw [if_neg (by omega)]
theorem next_push (H : AHeap) (b : ABlk) : (H.push b).next = H.next + 1 := rfl
theorem next_set (H : AHeap) (i : Nat) (b : ABlk) : (H.set i b).next = H.next := rfl
theorem next_kill (H : AHeap) (i : Nat) : (H.kill i).next = H.next := rfl
theorem get_push (H : AHeap) (b : ABlk) (j : Nat) : (H.push b).get j = if j = H.next then some b else H.get j := by
  unfold get push
  by_cases h : j = H.next
  · subst h; simp [Tr.get_set]
  · simp only [h, if_false, Tr.get_set]
    by_cases h2 : j < H.next
    · rw [if_pos (by omega), if_pos h2]
    · rw [if_neg (by omega), if_neg h2]
theorem get_keep (H : AHeap) (j : Nat) : H.keep.get j = if j = H.next then none else H.get j := by
  unfold get keep
  by_cases h : j = H.next
  · subst h; simp [Tr.get_set]
  · simp only [h, if_false, Tr.get_set]
    by_cases h2 : j < H.next
    · rw [if_pos (by omega), if_pos h2]
    · rw [if_neg (by omega), if_neg h2]
theorem get_fill {H : AHeap} {i : Nat} (hi : i < H.next) (b : ABlk) (j : Nat) : (H.fill i b).get j = if j = i then some b else H.get j := by
  unfold get fill
  by_cases h : j = i
  · subst h; simp [Tr.get_set, hi]
  · simp [Tr.get_set, h]
theorem get_push_new (H : AHeap) (b : ABlk) : (H.push b).get H.next = some b := by rw [get_push, if_pos rfl]
theorem get_push_old {H : AHeap} {b c : ABlk} {j : Nat} (h : H.get j = some c) : (H.push b).get j = some c := by
  rw [get_push, if_neg (by have := get_lt h; omega), h]
theorem get_set (H : AHeap) (i : Nat) (b : ABlk) (j : Nat) : (H.set i b).get j = if j = i ∧ i < H.next then some b else H.get j := by
  unfold get set
  by_cases h : j = i
  · subst h
    by_cases h2 : j < H.next <;> simp [Tr.get_set, h2]
  · simp [Tr.get_set, h]
theorem get_set_same {H : AHeap} {i : Nat} {b c : ABlk} (h : H.get i = some c) : (H.set i b).get i = some b := by
  rw [get_set, if_pos ⟨rfl, get_lt h⟩]
theorem get_set_ne {H : AHeap} {i : Nat} {b : ABlk} {j : Nat} (h : j ≠ i) : (H.set i b).get j = H.get j := by
  rw [get_set, if_neg (fun e => h e.1)]
theorem get_kill (H : AHeap) (i j : Nat) : (H.kill i).get j = if j = i then none else H.get j := by
  unfold get kill
  by_cases h : j = i
  · subst h; simp [Tr.get_set]
  · simp [Tr.get_set, h]
theorem get_kill_ne {H : AHeap} {i j : Nat} (h : j ≠ i) : (H.kill i).get j = H.get j := by rw [get_kill, if_neg h]
end AHeap

/-! ### 3. Where an abstract block lies -/
structure Loc where
  blk : Nat
  base : Nat
  ext : Nat
  esz : Nat

abbrev Plan := Nat → Option Loc
def Plan.le (φ ψ : Plan) : Prop := ∀ i l, φ i = some l → ψ i = some l
theorem Plan.le_refl (φ : Plan) : φ.le φ := fun _ _ h => h
theorem Plan.le_trans {φ ψ χ : Plan} (h : φ.le ψ) (k : ψ.le χ) : φ.le χ := fun i l e => k i l (h i l e)

/-- The capacity that is not known: of a slice that append made. -/
def unk (s : Nat) : Nat := 4611686018427387904 + s

/-- An abstract value and a value of the world. -/
inductive RV (φ : Plan) : Value → Value → Prop where
  | bool (b : Bool) : RV φ (.bool b) (.bool b)
  | int (k : IntKind) (n : Int) : RV φ (.int k n) (.int k n)
  | float (k : FloatKind) (n : Nat) : RV φ (.float k n) (.float k n)
  | complex (k : FloatKind) (m n : Nat) : RV φ (.complex k m n) (.complex k m n)
  | string (s : ByteArray) : RV φ (.string s) (.string s)
  | ptrNil : RV φ (.pointer none) (.pointer none)
  | ptr {B o : Nat} {l : Loc} : φ B = some l → RV φ (.pointer (some ⟨B, o, none⟩)) (.pointer (some ⟨l.blk, l.base + o, none⟩))
  | sliceNil : RV φ (.slice none 0 0) (.slice none 0 0)
  | slice {B o n c c' : Nat} {l : Loc} : φ B = some l → (c < 4611686018427387904 ∧ c' = c ∨ c = unk l.esz ∧ n ≤ c' ∧ o + c' * l.esz ≤ l.ext) →
      RV φ (.slice (some ⟨B, o, none⟩) n c) (.slice (some ⟨l.blk, l.base + o, none⟩) n c')
  | sliceDry {B o c : Nat} {l : Loc} {x : Addr} : φ B = some l → c = unk l.esz → RV φ (.slice (some ⟨B, o, none⟩) 0 c) (.slice (some x) 0 0)
  | mapNil : RV φ (.map none) (.map none)
  | map {M : Nat} {l : Loc} : φ M = some l → RV φ (.map (some M)) (.map (some l.blk))
  | func (fn : Fn) {f f' c c' : Array Value} : f.size = f'.size → (∀ (i : Nat) (x y : Value), f[i]? = some x → f'[i]? = some y → RV φ x y) →
      c.size = c'.size → (∀ (i : Nat) (x y : Value), c[i]? = some x → c'[i]? = some y → RV φ x y) → RV φ (.func fn f c) (.func fn f' c')
  | nilFunc : RV φ .nilFunc .nilFunc
  | iface (t : TypeId) {v v' : Value} : RV φ v v' → RV φ (.iface t v) (.iface t v')
  | nilIface : RV φ .nilIface .nilIface
  | agg {xs ys : Array Value} : xs.size = ys.size → (∀ (i : Nat) (x y : Value), xs[i]? = some x → ys[i]? = some y → RV φ x y) → RV φ (.agg xs) (.agg ys)
  | tuple {xs ys : Array Value} : xs.size = ys.size → (∀ (i : Nat) (x y : Value), xs[i]? = some x → ys[i]? = some y → RV φ x y) → RV φ (.tuple xs) (.tuple ys)

theorem RV.mono {φ ψ : Plan} (h : φ.le ψ) : ∀ {v w : Value}, RV φ v w → RV ψ v w := by
  intro v w r
  induction r with
  | bool b => exact .bool b
  | int k n => exact .int k n
  | float k n => exact .float k n
  | complex k m n => exact .complex k m n
  | string s => exact .string s
  | ptrNil => exact .ptrNil
  | ptr e => exact .ptr (h _ _ e)
  | sliceNil => exact .sliceNil
  | slice e k => exact .slice (h _ _ e) k
  | sliceDry e k => exact .sliceDry (h _ _ e) k
  | mapNil => exact .mapNil
  | map e => exact .map (h _ _ e)
  | func fn s1 r1 s2 r2 i1 i2 => exact .func fn s1 (fun i x y a b => i1 i x y a b) s2 (fun i x y a b => i2 i x y a b)
  | nilFunc => exact .nilFunc
  | iface t _ i => exact .iface t i
  | nilIface => exact .nilIface
  | agg s _ i => exact .agg s i
  | tuple s _ i => exact .tuple s i

/-- Lists of values. -/
def RL (φ : Plan) (xs ys : List Value) : Prop := xs.length = ys.length ∧ ∀ (i : Nat) (x y : Value), xs[i]? = some x → ys[i]? = some y → RV φ x y
theorem RL.mono {φ ψ : Plan} (h : φ.le ψ) {xs ys : List Value} (r : RL φ xs ys) : RL ψ xs ys := ⟨r.1, fun i x y a b => (r.2 i x y a b).mono h⟩
theorem RL.nil (φ : Plan) : RL φ [] [] := ⟨rfl, fun i x y a => by simp at a⟩
theorem RL.cons {φ : Plan} {x y : Value} {xs ys : List Value} (h : RV φ x y) (r : RL φ xs ys) : RL φ (x :: xs) (y :: ys) :=
  ⟨by simp [r.1], fun i a b => by
    cases i with
    | zero => simp; rintro rfl rfl; exact h
    | succ i => simpa using r.2 i a b⟩
theorem RL.get {φ : Plan} {xs ys : List Value} (r : RL φ xs ys) {i : Nat} {x : Value} (h : xs[i]? = some x) : ∃ y, ys[i]? = some y ∧ RV φ x y := by
  have hi : i < xs.length := by
    rcases Nat.lt_or_ge i xs.length with e | e
    · exact e
    · rw [List.getElem?_eq_none e] at h; cases h
  have hj : i < ys.length := by rw [← r.1]; exact hi
  exact ⟨ys[i], List.getElem?_eq_getElem hj, r.2 i _ _ h (List.getElem?_eq_getElem hj)⟩
theorem RL.append {φ : Plan} {xs ys xs' ys' : List Value} (h : RL φ xs ys) (k : RL φ xs' ys') : RL φ (xs ++ xs') (ys ++ ys') := by
  refine ⟨by simp [h.1, k.1], fun i x y a b => ?_⟩
  by_cases hi : i < xs.length
  · rw [List.getElem?_append_left hi] at a
    rw [List.getElem?_append_left (h.1 ▸ hi)] at b
    exact h.2 i x y a b
  · rw [List.getElem?_append_right (by omega)] at a
    rw [List.getElem?_append_right (by have := h.1; omega), ← h.1] at b
    exact k.2 _ x y a b
theorem RL.drop {φ : Plan} {xs ys : List Value} (h : RL φ xs ys) (n : Nat) : RL φ (xs.drop n) (ys.drop n) :=
  ⟨by simp [h.1], fun i x y a b => h.2 (n + i) x y (by simpa using a) (by simpa using b)⟩
theorem RL.take {φ : Plan} {xs ys : List Value} (h : RL φ xs ys) (n : Nat) : RL φ (xs.take n) (ys.take n) := by
  refine ⟨by simp [h.1], fun i x y a b => ?_⟩
  rw [List.getElem?_take] at a b
  split at a
  · rename_i hi; rw [if_pos hi] at b; exact h.2 i x y a b
  · cases a
theorem RL.set {φ : Plan} {xs ys : List Value} (h : RL φ xs ys) (n : Nat) {x y : Value} (e : RV φ x y) : RL φ (xs.set n x) (ys.set n y) := by
  refine ⟨by simp [h.1], fun i a b p q => ?_⟩
  rw [List.getElem?_set] at p q
  by_cases hn : n = i
  · subst hn
    simp only [if_true] at p q
    split at p
    · split at q
      · cases p; cases q; exact e
      · cases q
    · cases p
  · rw [if_neg hn] at p q; exact h.2 i a b p q

/-- Arrays of values. -/
def RA (φ : Plan) (xs ys : Array Value) : Prop := xs.size = ys.size ∧ ∀ (i : Nat) (x y : Value), xs[i]? = some x → ys[i]? = some y → RV φ x y
theorem RA.list {φ : Plan} {xs ys : Array Value} : RA φ xs ys ↔ RL φ xs.toList ys.toList := by
  unfold RA RL
  constructor
  · rintro ⟨a, b⟩; exact ⟨by simpa using a, fun i x y => by simpa using b i x y⟩
  · rintro ⟨a, b⟩; exact ⟨by simpa using a, fun i x y => by simpa using b i x y⟩
theorem RA.mono {φ ψ : Plan} (h : φ.le ψ) {xs ys : Array Value} (r : RA φ xs ys) : RA ψ xs ys := ⟨r.1, fun i x y a b => (r.2 i x y a b).mono h⟩
theorem RV.of_RA {φ : Plan} {xs ys : Array Value} (r : RA φ xs ys) : RV φ (.agg xs) (.agg ys) := .agg r.1 r.2
theorem RV.of_RAt {φ : Plan} {xs ys : Array Value} (r : RA φ xs ys) : RV φ (.tuple xs) (.tuple ys) := .tuple r.1 r.2
theorem RV.agg_inv {φ : Plan} {xs : Array Value} {w : Value} (r : RV φ (.agg xs) w) : ∃ ys, w = .agg ys ∧ RA φ xs ys := by
  cases r with
  | agg s i => exact ⟨_, rfl, s, i⟩
theorem RV.tuple_inv {φ : Plan} {xs : Array Value} {w : Value} (r : RV φ (.tuple xs) w) : ∃ ys, w = .tuple ys ∧ RA φ xs ys := by
  cases r with
  | tuple s i => exact ⟨_, rfl, s, i⟩

/-- A value's cells, as a list. -/
def vcells (v : Value) : List Value := match v with | .agg cs => cs.toList | v => [v]
theorem vcells_eq (v : Value) : v.cells.toList = vcells v := by cases v <;> rfl
theorem RV.cells {φ : Plan} {v w : Value} (r : RV φ v w) : RL φ (vcells v) (vcells w) := by
  cases r with
  | agg s i => exact RA.list.1 ⟨s, i⟩
  | bool b => exact (RL.nil φ).cons (.bool b)
  | int k n => exact (RL.nil φ).cons (.int k n)
  | float k n => exact (RL.nil φ).cons (.float k n)
  | complex k m n => exact (RL.nil φ).cons (.complex k m n)
  | string s => exact (RL.nil φ).cons (.string s)
  | ptrNil => exact (RL.nil φ).cons .ptrNil
  | ptr e => exact (RL.nil φ).cons (.ptr e)
  | sliceNil => exact (RL.nil φ).cons .sliceNil
  | slice e k => exact (RL.nil φ).cons (.slice e k)
  | sliceDry e k => exact (RL.nil φ).cons (.sliceDry e k)
  | mapNil => exact (RL.nil φ).cons .mapNil
  | map e => exact (RL.nil φ).cons (.map e)
  | func fn s1 r1 s2 r2 => exact (RL.nil φ).cons (.func fn s1 r1 s2 r2)
  | nilFunc => exact (RL.nil φ).cons .nilFunc
  | iface t e => exact (RL.nil φ).cons (.iface t e)
  | nilIface => exact (RL.nil φ).cons .nilIface
  | tuple s i => exact (RL.nil φ).cons (.tuple s i)

/-- Values that bear no address: numbers, bools, strings. -/
def scalar : Value → Bool
  | .bool _ | .int _ _ | .string _ | .float _ _ => true
  | _ => false
def flat : Value → Bool
  | .agg cs => cs.toList.all scalar
  | v => scalar v
theorem RV.scalar_eq {φ : Plan} {v w : Value} (h : scalar v = true) (r : RV φ v w) : w = v := by
  cases r <;> first | rfl | simp [scalar] at h
theorem RL.scalar_eq {φ : Plan} {xs ys : List Value} (h : xs.all scalar = true) (r : RL φ xs ys) : ys = xs := by
  refine List.ext_getElem? fun i => ?_
  cases hx : xs[i]? with
  | none =>
    rw [List.getElem?_eq_none_iff] at hx ⊢
    rw [← r.1]; exact hx
  | some x =>
    obtain ⟨y, hy, e⟩ := r.get hx
    rw [hy]
    have : scalar x = true := List.all_eq_true.1 h x (List.mem_of_getElem? hx)
    rw [e.scalar_eq this]
theorem RV.flat_eq {φ : Plan} {v w : Value} (h : flat v = true) (r : RV φ v w) : w = v := by
  cases v with
  | agg cs =>
    obtain ⟨ys, rfl, e⟩ := r.agg_inv
    have := (RA.list.1 e).scalar_eq h
    rw [Array.toList_inj] at this
    rw [this]
  | _ => exact r.scalar_eq h
theorem RV.of_scalar {φ : Plan} {v : Value} (h : scalar v = true) : RV φ v v := by
  cases v <;> first | exact .bool _ | exact .int _ _ | exact .string _ | exact .float _ _ | simp [scalar] at h
theorem RL.of_scalar {φ : Plan} {xs : List Value} (h : xs.all scalar = true) : RL φ xs xs :=
  ⟨rfl, fun i x y a b => by
    rw [a] at b; cases b
    exact .of_scalar (List.all_eq_true.1 h x (List.mem_of_getElem? a))⟩
theorem RV.of_flat {φ : Plan} {v : Value} (h : flat v = true) : RV φ v v := by
  cases v with
  | agg cs => exact .of_RA (RA.list.2 (RL.of_scalar h))
  | _ => exact .of_scalar h

/-! ### 4. How a heap lies in a world -/
def RE (φ : Plan) (es fs : List MapEntry) : Prop :=
  es.length = fs.length ∧ ∀ (i : Nat) (x y : MapEntry), es[i]? = some x → fs[i]? = some y → flat x.key = true ∧ y.key = x.key ∧ y.born = x.born ∧ RV φ x.val y.val
theorem RE.mono {φ ψ : Plan} (h : φ.le ψ) {es fs : List MapEntry} (r : RE φ es fs) : RE ψ es fs :=
  ⟨r.1, fun i x y a b => let ⟨p, q, s, t⟩ := r.2 i x y a b; ⟨p, q, s, t.mono h⟩⟩

def free (fr : Nat × Nat) (base ext : Nat) : Prop := ∀ j, j < ext → ¬ (fr.1 ≤ base + j ∧ base + j < fr.2)

/-- How a block lies at its place. -/
def Lies (P : Program) (fr : Nat → Option Obj) (φ : Plan) (w : World) (l : Loc) : ABlk → Prop
  | .cells vs e ro => ∃ cs e' z, w.heap[l.blk]? = some (.cells cs e' z) ∧ vs.length ≤ l.ext ∧ l.base + l.ext ≤ cs.size ∧
      (∀ j v, vs[j]? = some v → ∃ cv, cs[l.base + j]? = some cv ∧ RV φ v cv) ∧
      (ro = false → fr l.blk = none ∧ e' = e ∧ P.cellsOf e = l.esz ∧ free z l.base l.ext ∧ l.base % l.esz = 0)
  | .map es ck => l.base = 0 ∧ l.ext = 1 ∧ fr l.blk = none ∧ ∃ fs, w.heap[l.blk]? = some (.map fs ck) ∧ RE φ es fs.toList
  | .iter s pos => l.base = 0 ∧ l.ext = 1 ∧ fr l.blk = none ∧ w.heap[l.blk]? = some (.stringIter s pos)

def ABlk.rw : ABlk → Bool
  | .cells _ _ ro => !ro
  | _ => true

def apart (l k : Loc) : Prop := l.blk ≠ k.blk

structure Rel (P : Program) (w0 : World) (fr : Nat → Option Obj) (φ : Plan) (H : AHeap) (w : World) : Prop where
  os : w.os = w0.os
  tape : w.tape = w0.tape
  output : w.output = w0.output
  size : w0.heap.size ≤ w.heap.size
  frame : ∀ b o, fr b = some o → w.heap[b]? = some o
  dom : ∀ i, H.next ≤ i → φ i = none
  lies : ∀ i b, H.get i = some b → ∃ l, φ i = some l ∧ Lies P fr φ w l b
  resv : ∀ i, i ∈ H.rs → i < H.next ∧ φ i = none ∧ H.get i = none
  disj : ∀ i j b c l k, i ≠ j → H.get i = some b → H.get j = some c → b.rw = true → φ i = some l → φ j = some k → apart l k

theorem Lies.lt {P : Program} {fr : Nat → Option Obj} {φ : Plan} {w : World} {l : Loc} {b : ABlk} (h : Lies P fr φ w l b) : l.blk < w.heap.size := by
  have key : ∀ o, w.heap[l.blk]? = some o → l.blk < w.heap.size := fun o e => by
    rcases Nat.lt_or_ge l.blk w.heap.size with h | h
    · exact h
    · rw [Array.getElem?_eq_none h] at e; cases e
  cases b with
  | cells vs e ro => obtain ⟨cs, e', z, h, _⟩ := h; exact key _ h
  | map es ck => obtain ⟨_, _, _, fs, h, _⟩ := h; exact key _ h
  | iter s pos => obtain ⟨_, _, _, h⟩ := h; exact key _ h

theorem Lies.frame_none {P : Program} {fr : Nat → Option Obj} {φ : Plan} {w : World} {l : Loc} {b : ABlk} (h : Lies P fr φ w l b) (hb : b.rw = true) : fr l.blk = none := by
  cases b with
  | cells vs e ro => obtain ⟨cs, e', z, _, _, _, _, h⟩ := h; exact (h (by simpa [ABlk.rw] using hb)).1
  | map es ck => exact h.2.2.1
  | iter s pos => exact h.2.2.1

/-- A block whose world's block is unchanged, under a greater plan. -/
theorem Lies.keep {P : Program} {fr : Nat → Option Obj} {φ ψ : Plan} {w w' : World} {l : Loc} {b : ABlk} (h : Lies P fr φ w l b) (hp : φ.le ψ)
    (hw : w'.heap[l.blk]? = w.heap[l.blk]?) : Lies P fr ψ w' l b := by
  cases b with
  | cells vs e ro =>
    obtain ⟨cs, e', z, h1, h2, h3, h4, h5⟩ := h
    exact ⟨cs, e', z, hw.trans h1, h2, h3, fun j v hv => let ⟨cv, a, r⟩ := h4 j v hv; ⟨cv, a, r.mono hp⟩, h5⟩
  | map es ck =>
    obtain ⟨h0, h1, h2, fs, h3, h4⟩ := h
    exact ⟨h0, h1, h2, fs, hw.trans h3, h4.mono hp⟩
  | iter s pos =>
    obtain ⟨h0, h1, h2, h3⟩ := h
    exact ⟨h0, h1, h2, hw.trans h3⟩

/-- Cells of a world's block turned outside a block's own place. -/
theorem Lies.keep_cells {P : Program} {fr : Nat → Option Obj} {φ ψ : Plan} {w w' : World} {l : Loc} {b : ABlk} (h : Lies P fr φ w l b) (hp : φ.le ψ)
    {cs cs' : Array Value} {e : TypeId} {z : Nat × Nat} (ho : w.heap[l.blk]? = some (.cells cs e z)) (hn : w'.heap[l.blk]? = some (.cells cs' e z)) (hs : cs'.size = cs.size)
    (hc : ∀ j, j < l.ext → cs'[l.base + j]? = cs[l.base + j]?) : Lies P fr ψ w' l b := by
  cases b with
  | cells vs e1 ro =>
    obtain ⟨cs1, e', z1, h1, h2, h3, h4, h5⟩ := h
    rw [ho] at h1
    cases h1
    refine ⟨cs', e, z, hn, h2, by omega, fun j v hv => ?_, h5⟩
    obtain ⟨cv, a, r⟩ := h4 j v hv
    have hj : j < vs.length := by
      rcases Nat.lt_or_ge j vs.length with h | h
      · exact h
      · rw [List.getElem?_eq_none h] at hv; cases hv
    exact ⟨cv, by rw [hc j (by omega)]; exact a, r.mono hp⟩
  | map es ck =>
    obtain ⟨h0, h1, h2, fs, h3, h4⟩ := h
    rw [ho] at h3; cases h3
  | iter s pos =>
    obtain ⟨h0, h1, h2, h3⟩ := h
    rw [ho] at h3; cases h3

/-- The world's count of draws is of no account. -/
theorem Rel.drawn {P : Program} {w0 : World} {fr : Nat → Option Obj} {φ : Plan} {H : AHeap} {w : World} (h : Rel P w0 fr φ H w) (n : Nat) : Rel P w0 fr φ H { w with drawn := n } :=
  ⟨h.os, h.tape, h.output, h.size, h.frame, h.dom, fun i b e => let ⟨l, p, q⟩ := h.lies i b e; ⟨l, p, q.keep (Plan.le_refl φ) rfl⟩, h.resv, h.disj⟩

/-- Forgetting a block. -/
theorem Rel.kill {P : Program} {w0 : World} {fr : Nat → Option Obj} {φ : Plan} {H : AHeap} {w : World} (h : Rel P w0 fr φ H w) (i : Nat) : Rel P w0 fr φ (H.kill i) w := by
  refine ⟨h.os, h.tape, h.output, h.size, h.frame, h.dom, fun j b e => ?_, fun j hj => ?_, fun j k b c l m hne e f hb hl hm => ?_⟩
  · rw [AHeap.get_kill] at e
    split at e
    · cases e
    · exact h.lies j b e
  · obtain ⟨a, b, c⟩ := h.resv j hj
    refine ⟨a, b, ?_⟩
    rw [AHeap.get_kill]
    split
    · rfl
    · exact c
  · rw [AHeap.get_kill] at e f
    split at e
    · cases e
    · split at f
      · cases f
      · exact h.disj j k b c l m hne e f hb hl hm

def Plan.put (φ : Plan) (i : Nat) (l : Loc) : Plan := fun j => if j = i then some l else φ j
theorem Plan.le_put {φ : Plan} {i : Nat} (h : φ i = none) (l : Loc) : φ.le (φ.put i l) := fun j k e => by
  unfold Plan.put
  by_cases hj : j = i
  · subst hj; rw [h] at e; cases e
  · rw [if_neg hj]; exact e

end Go.Proofs.YtfolofhknhgpiaaGreatDoor
