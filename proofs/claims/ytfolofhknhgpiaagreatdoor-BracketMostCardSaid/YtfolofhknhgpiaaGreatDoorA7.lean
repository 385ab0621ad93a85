/- Keys of maps, held against each other; loads and look-ups over abstract heaps. -/
import Derived.Test.YtfolofhknhgpiaaGreatDoorA6
import Derived.ChangeKeysEq
set_option linter.unusedVariables false
set_option linter.unusedSimpArgs false
namespace Go.Proofs.YtfolofhknhgpiaaGreatDoor
open Go

/-! ### '==' of two rows of numbers, bools, strings, as the model has it -/
/-- The value of a part, out of its cells. -/
def ofCells (r : Bool) (cs : List Value) : Option Value := if r then some (.agg cs.toArray) else match cs with | [v] => some v | _ => none

def eqScal (a b : Value) : Option Bool :=
  match a, b with
  | .bool a, .bool b => some (a == b)
  | .int k a, .int k' b => if k = k' then some (a == b) else none
  | .string a, .string b => some (a.data.toList == b.data.toList)
  | _, _ => none
def scalT (P : Program) (t : TypeId) (a : Value) : Bool :=
  match P.underlying t, a with
  | some .bool, .bool _ | some (.int _), .int _ _ | some .string, .string _ => true
  | _, _ => false
def eqFs (P : Program) (g : TypeId → List Value → List Value → Option Bool) (xs ys : List Value) : List Field → Option Bool
  | [] => some true
  | f :: fs => if f.name = "_" then eqFs P g xs ys fs else
    match szT P f.type, rowT P f.type with
    | some n, some r => if f.offset + n ≤ xs.length ∧ f.offset + n ≤ ys.length ∧ (r = true ∨ n = 1) then
        match g f.type ((xs.drop f.offset).take n) ((ys.drop f.offset).take n) with
        | some true => eqFs P g xs ys fs
        | some false => some false
        | none => none
      else none
    | _, _ => none
def eqIs (g : List Value → List Value → Option Bool) (n : Nat) (xs ys : List Value) : List Nat → Option Bool
  | [] => some true
  | i :: is => if i * n + n ≤ xs.length ∧ i * n + n ≤ ys.length then
      match g ((xs.drop (i * n)).take n) ((ys.drop (i * n)).take n) with
      | some true => eqIs g n xs ys is
      | some false => some false
      | none => none
    else none
def eqT (P : Program) : Nat → TypeId → List Value → List Value → Option Bool
  | 0, _, _, _ => none
  | d + 1, t, xs, ys => match P.underlying t with
    | some (.struct fs) => if P.stoodInHeld t = true then none else eqFs P (eqT P d) xs ys fs.toList
    | some (.array n e) => match szT P e, rowT P e with
      | some s, some r => if r = true ∨ s = 1 then eqIs (eqT P d e) s xs ys (List.range n) else none
      | _, _ => none
    | _ => match xs, ys with
      | [a], [b] => if scalT P t a = true then eqScal a b else none
      | _, _ => none

theorem szT_cells {P : Program} {t : TypeId} {n : Nat} (h : szT P t = some n) : P.cellsOf t = n ∧ ∃ i, P.info? t = some i := by
  unfold szT at h
  obtain ⟨i, hi, rfl⟩ := Option.map_eq_some_iff.1 h
  exact ⟨by simp [Program.cellsOf, hi], i, hi⟩

theorem part_of {P : Program} {t : TypeId} {n : Nat} {r : Bool} (hn : szT P t = some n) (hr : rowT P t = some r) (hrn : r = true ∨ n = 1) {cs : List Value} {off : Nat} (h : off + n ≤ cs.length) (w : World) :
    ∃ v, ofCells r ((cs.drop off).take n) = some v ∧ (part t cs.toArray off).run P w = .ok v w := by
  cases r with
  | true =>
    refine ⟨_, rfl, ?_⟩
    simp only [part, Sem.run_bind, run_isAgg' hr, Result.andThen_ok, if_true, run_sizeOf' hn]
    simp [List.extract_eq_take_drop]
  | false =>
    have hn1 : n = 1 := by simpa using hrn
    subst hn1
    have hlt : off < cs.length := by omega
    have e : (cs.drop off).take 1 = [cs[off]] := by
      rw [List.drop_eq_getElem_cons hlt]; rfl
    refine ⟨cs[off], by rw [e]; rfl, ?_⟩
    simp only [part, Sem.run_bind, run_isAgg' hr, Result.andThen_ok, Bool.false_eq_true, if_false]
    simp [List.getElem?_eq_getElem hlt]

theorem eqFs_run {P : Program} {d : Nat} (ih : ∀ (t : TypeId) (xs ys : List Value) (r q : Bool) (x y : Value) (w : World), eqT P d t xs ys = some r → rowT P t = some q → ofCells q xs = some x → ofCells q ys = some y → (Op.equalIn d t x y).run P w = .ok r w)
    (xs ys : List Value) : ∀ (fs : List Field) (r : Bool) (w : World), eqFs P (eqT P d) xs ys fs = some r → (Op.eqFields d xs.toArray ys.toArray fs).run P w = .ok r w := by
  intro fs
  induction fs with
  | nil => intro r w h; cases h; rfl
  | cons f fs ihf =>
    intro r w h
    simp only [eqFs] at h
    simp only [Op.eqFields]
    split at h
    · rename_i hn
      rw [if_neg (by simpa using hn)]
      exact ihf r w h
    · rename_i hn
      rw [if_pos (by simpa using hn)]
      split at h
      · rename_i n q hs hq
        split at h
        · rename_i hc
          obtain ⟨x, ex, px⟩ := part_of hs hq hc.2.2 hc.1 w
          obtain ⟨y, ey, py⟩ := part_of hs hq hc.2.2 hc.2.1 w
          simp only [Sem.run_bind, px, py, Result.andThen_ok]
          split at h
          · rename_i hg
            rw [ih _ _ _ _ _ _ _ w hg hq ex ey]
            simp only [Result.andThen_ok, Bool.not_true, Bool.false_eq_true, if_false]
            exact ihf r w h
          · rename_i hg
            rw [ih _ _ _ _ _ _ _ w hg hq ex ey]
            cases h
            rfl
          · cases h
        · cases h
      · cases h
theorem eqIs_run {P : Program} {d : Nat} (ih : ∀ (t : TypeId) (xs ys : List Value) (r q : Bool) (x y : Value) (w : World), eqT P d t xs ys = some r → rowT P t = some q → ofCells q xs = some x → ofCells q ys = some y → (Op.equalIn d t x y).run P w = .ok r w)
    {e : TypeId} {s : Nat} {q : Bool} (hs : szT P e = some s) (hq : rowT P e = some q) (hsq : q = true ∨ s = 1) (xs ys : List Value) : ∀ (is : List Nat) (r : Bool) (w : World), eqIs (eqT P d e) s xs ys is = some r → (Op.eqItems d e s xs.toArray ys.toArray is).run P w = .ok r w := by
  intro is
  induction is with
  | nil => intro r w h; cases h; rfl
  | cons i is ihf =>
    intro r w h
    simp only [eqIs] at h
    simp only [Op.eqItems]
    split at h
    · rename_i hc
      obtain ⟨x, ex, px⟩ := part_of hs hq hsq hc.1 w
      obtain ⟨y, ey, py⟩ := part_of hs hq hsq hc.2 w
      simp only [Sem.run_bind, px, py, Result.andThen_ok]
      split at h
      · rename_i hg
        rw [ih _ _ _ _ _ _ _ w hg hq ex ey]
        simp only [Result.andThen_ok, Bool.not_true, Bool.false_eq_true, if_false]
        exact ihf r w h
      · rename_i hg
        rw [ih _ _ _ _ _ _ _ w hg hq ex ey]
        cases h
        rfl
      · cases h
    · cases h
theorem eqT_run {P : Program} : ∀ (d : Nat) (t : TypeId) (xs ys : List Value) (r q : Bool) (x y : Value) (w : World), eqT P d t xs ys = some r → rowT P t = some q → ofCells q xs = some x → ofCells q ys = some y → (Op.equalIn d t x y).run P w = .ok r w := by
  intro d
  induction d with
  | zero => intro t xs ys r q x y w h; cases h
  | succ d ih =>
    intro t xs ys r q x y w h hq hx hy
    unfold eqT at h
    split at h
    · rename_i fs hu
      have : q = true := by unfold rowT at hq; rw [hu] at hq; cases hq; rfl
      subst this
      simp only [ofCells, if_true, Option.some.injEq] at hx hy
      subst hx hy
      split at h
      · cases h
      · rename_i hst
        have hf : P.fieldsOf t = fs := by simp [Program.fieldsOf, hu]
        rw [run_equalIn_struct w d t _ _ (by rw [hf]; exact hu) (by simpa using hst), hf]
        exact eqFs_run ih xs ys _ _ w h
    · rename_i n e hu
      have : q = true := by unfold rowT at hq; rw [hu] at hq; cases hq; rfl
      subst this
      simp only [ofCells, if_true, Option.some.injEq] at hx hy
      subst hx hy
      split at h
      · rename_i s r' hs hr'
        split at h
        · rename_i hc
          obtain ⟨hc1, i, hi⟩ := szT_cells hs
          rw [run_equalIn_array w d _ _ hu hi, hc1]
          exact eqIs_run ih hs hr' hc xs ys _ _ w h
        · cases h
      · cases h
    · rename_i h1 h2
      have : q = false := by
        unfold rowT at hq
        split at hq
        · rename_i hu; exact absurd hu (h1 _)
        · rename_i hu; exact absurd hu (h2 _ _)
        · cases hq; rfl
        · cases hq
      subst this
      split at h
      · rename_i a b
        simp only [ofCells, Bool.false_eq_true, if_false, Option.some.injEq] at hx hy
        subst hx hy
        split at h
        · rename_i hs
          unfold scalT at hs
          unfold eqScal at h
          split at h
          · rename_i a b
            cases h
            split at hs <;> (try cases hs) <;> rename_i hu he <;> cases he
            exact run_equalIn_bool' w d t a b hu
          · rename_i k a k' b
            split at h
            · rename_i hk; subst hk; cases h
              split at hs <;> (try cases hs) <;> rename_i hu he <;> cases he
              exact run_equalIn_int w d t _ _ a b hu
            · cases h
          · rename_i a b
            cases h
            split at hs <;> (try cases hs) <;> rename_i hu he <;> cases he
            rw [run_equalIn_string w d t a b hu, ByteArray.toList_eq, ByteArray.toList_eq]
          · cases h
        · cases h
      · cases h

/-- '==' of two keys. -/
def keyEq (P : Program) (k : TypeId) (a b : Value) : Option Bool := eqT P 10000 k (vcells a) (vcells b)
theorem ofCells_vcells {P : Program} {k : TypeId} {q : Bool} (hq : rowT P k = some q) {a : Value} (h : (match a with | .agg _ => true | _ => false) = q) : ofCells q (vcells a) = some a := by
  cases a <;> simp_all [ofCells, vcells] <;> (subst h; simp)
def keyFits (P : Program) (k : TypeId) (a : Value) : Bool := flat a && (rowT P k == some (match a with | .agg _ => true | _ => false))
theorem keyEq_run {P : Program} {k : TypeId} {a b : Value} {r : Bool} (h : keyEq P k a b = some r) (ha : keyFits P k a = true) (hb : keyFits P k b = true) (w : World) : (Op.equal k a b).run P w = .ok r w := by
  unfold keyFits at ha hb
  simp only [Bool.and_eq_true, beq_iff_eq] at ha hb
  exact eqT_run 10000 k _ _ r _ a b w h ha.2 (ofCells_vcells ha.2 rfl) (ofCells_vcells ha.2 (by have := ha.2.symm.trans hb.2; simpa using this.symm))

/-- The first entry of a key: its place. -/
def findAt (P : Program) (kt : TypeId) (k : Value) : List MapEntry → Nat → Option (Option Nat)
  | [], _ => some none
  | e :: es, i => if keyFits P kt e.key = true then match keyEq P kt k e.key with
      | some true => some (some i)
      | some false => findAt P kt k es (i + 1)
      | none => none
    else none

/-- The same, quick for strings and numbers. -/
def beqU : List UInt8 → List UInt8 → Bool
  | [], [] => true
  | a :: x, b :: y => Nat.beq a.toNat b.toNat && beqU x y
  | _, _ => false
theorem beqU_eq : ∀ (x y : List UInt8), beqU x y = (x == y)
  | [], [] => rfl
  | [], b :: y => rfl
  | a :: x, [] => rfl
  | a :: x, b :: y => by
    rw [beqU, beqU_eq x y, List.cons_beq_cons]
    congr 1
    by_cases h : a = b
    · subst h; simp
    · have h2 : a.toNat ≠ b.toNat := fun e => h (UInt8.toNat_inj.1 e)
      have h3 : (a == b) = false := by simpa using h
      rw [h3]
      cases hb : Nat.beq a.toNat b.toNat with
      | false => rfl
      | true => exact absurd (Nat.eq_of_beq_eq_true hb) h2
def findStr (s : List UInt8) : List MapEntry → Nat → Option (Option Nat)
  | [], _ => some none
  | e :: es, i => match e.key with
    | .string t => if beqU s t.data.toList then some (some i) else findStr s es (i + 1)
    | _ => none
def findNum (k : IntKind) (n : Int) : List MapEntry → Nat → Option (Option Nat)
  | [], _ => some none
  | e :: es, i => match e.key with
    | .int j m => if j = k then if n = m then some (some i) else findNum k n es (i + 1) else none
    | _ => none
def findQ (P : Program) (kt : TypeId) (k : Value) (es : List MapEntry) : Option (Option Nat) := match P.underlying kt, k with
  | some .string, .string s => findStr s.data.toList es 0
  | some (.int _), .int j n => findNum j n es 0
  | _, _ => findAt P kt k es 0
theorem findStr_ok {P : Program} {kt : TypeId} (hd : P.underlying kt = some .string) (s : ByteArray) : ∀ (es : List MapEntry) (i : Nat) (r : Option Nat), findStr s.data.toList es i = some r → findAt P kt (.string s) es i = some r := by
  intro es
  induction es with
  | nil => intro i r h; exact h
  | cons e es ih =>
    intro i r h
    rw [findStr] at h
    split at h
    · rename_i t ht
      rw [findAt, ht]
      have hf : keyFits P kt (.string t) = true := by simp [keyFits, flat, scalar, rowT, hd]
      rw [if_pos hf]
      have he : keyEq P kt (.string s) (.string t) = some (s.data.toList == t.data.toList) := by
        simp [keyEq, eqT, hd, vcells, scalT, eqScal]
      rw [he, ← beqU_eq]
      split at h
      · rename_i hb; rw [hb]; exact h
      · rename_i hb
        have : beqU s.data.toList t.data.toList = false := by simpa using hb
        rw [this]; exact ih _ _ h
    · cases h
theorem findNum_ok {P : Program} {kt : TypeId} {q : IntKind} (hd : P.underlying kt = some (.int q)) (k : IntKind) (n : Int) : ∀ (es : List MapEntry) (i : Nat) (r : Option Nat), findNum k n es i = some r → findAt P kt (.int k n) es i = some r := by
  intro es
  induction es with
  | nil => intro i r h; exact h
  | cons e es ih =>
    intro i r h
    rw [findNum] at h
    split at h
    · rename_i j m ht
      rw [findAt, ht]
      have hf : keyFits P kt (.int j m) = true := by simp [keyFits, flat, scalar, rowT, hd]
      rw [if_pos hf]
      split at h
      · rename_i hj
        subst hj
        have he : keyEq P kt (.int j n) (.int j m) = some (n == m) := by
          simp [keyEq, eqT, hd, vcells, scalT, eqScal]
        rw [he]
        split at h
        · rename_i hb; rw [show (n == m) = true by simpa using hb]; exact h
        · rename_i hb
          rw [show (n == m) = false by simpa using hb]; exact ih _ _ h
      · cases h
    · cases h
theorem findQ_ok {P : Program} {kt : TypeId} {k : Value} {es : List MapEntry} {r : Option Nat} (h : findQ P kt k es = some r) : findAt P kt k es 0 = some r := by
  unfold findQ at h
  split at h
  · rename_i s hd; exact findStr_ok hd s es 0 r h
  · rename_i q j n hd; exact findNum_ok hd j n es 0 r h
  · exact h

theorem sameNow_eq {P : Program} {kt : TypeId} {d : TypeDesc} (hd : P.underlying kt = some d) {a b : Value} {r q : Bool} (h : Instr.sameNow d a b = some q) (e : keyEq P kt a b = some r) : q = r := by
  unfold Instr.sameNow at h
  split at h
  · rename_i k a k' b
    split at h
    · rename_i hk; subst hk; cases h
      simp [keyEq, eqT, hd, vcells, scalT, eqScal] at e
      exact e
    · cases h
  · rename_i a b
    cases h
    simp only [keyEq, eqT, hd, vcells, scalT, eqScal, if_true, Option.some.injEq] at e
    rw [← e, beq_toListBytes, ByteArray.toList_eq, ByteArray.toList_eq]
  · cases h
    simp [keyEq, eqT, hd, vcells, scalT, eqScal] at e
    exact e
  · cases h

def foundIn (fs : List MapEntry) (i : Nat) (r : Option Nat) : Option (Nat × Value) := r.bind fun j => (fs[j - i]?).map fun e => (j, e.val)

theorem findAt_ge {P : Program} {kt : TypeId} {k : Value} : ∀ (es : List MapEntry) (i j : Nat), findAt P kt k es i = some (some j) → i ≤ j ∧ j - i < es.length := by
  intro es
  induction es with
  | nil => intro i j h; cases h
  | cons e es ih =>
    intro i j h
    simp only [findAt] at h
    split at h
    · split at h
      · cases h; exact ⟨Nat.le_refl _, by simp⟩
      · have := ih _ _ h; simp; omega
      · cases h
    · cases h

theorem RE.tail {φ : Plan} {e f : MapEntry} {es fs : List MapEntry} (h : RE φ (e :: es) (f :: fs)) : RE φ es fs :=
  ⟨by have := h.1; simpa using this, fun i x y a b => h.2 (i + 1) x y (by simpa using a) (by simpa using b)⟩

theorem foundIn_tail {f : MapEntry} {fs : List MapEntry} {i : Nat} {r : Option Nat} (h : ∀ j, r = some j → i + 1 ≤ j) : foundIn (f :: fs) i r = foundIn fs (i + 1) r := by
  cases r with
  | none => rfl
  | some j =>
    have := h j rfl
    simp only [foundIn, Option.bind_some]
    obtain ⟨m, rfl⟩ : ∃ m, j = i + 1 + m := ⟨j - (i + 1), by omega⟩
    rw [show i + 1 + m - i = m + 1 from by omega, show i + 1 + m - (i + 1) = m from by omega]
    rfl

theorem findAsking_run {P : Program} {φ : Plan} {kt : TypeId} {k : Value} (hk : keyFits P kt k = true) : ∀ (es fs : List MapEntry) (i : Nat) (r : Option Nat) (w : World), RE φ es fs → findAt P kt k es i = some r →
    (Instr.findAsking kt k fs i).run P w = .ok (foundIn fs i r) w := by
  intro es
  induction es with
  | nil =>
    intro fs i r w hr h
    cases fs with
    | nil => cases h; rfl
    | cons f fs => have := hr.1; simp at this
  | cons e es ih =>
    intro fs i r w hr h
    cases fs with
    | nil => have := hr.1; simp at this
    | cons f fs =>
      obtain ⟨q1, q2, q3, q4⟩ := hr.2 0 _ _ rfl rfl
      have h0 := h
      simp only [findAt] at h
      simp only [Instr.findAsking, q2]
      split at h
      · rename_i hf
        split at h
        · rename_i he
          cases h
          simp only [Sem.run_bind, keyEq_run he hk hf w, Result.andThen_ok, if_true]
          simp [foundIn]
        · rename_i he
          simp only [Sem.run_bind, keyEq_run he hk hf w, Result.andThen_ok, Bool.false_eq_true, if_false]
          rw [ih fs (i + 1) r w hr.tail h, foundIn_tail]
          intro j hj
          subst hj
          exact (findAt_ge _ _ _ h).1
        · cases h
      · cases h

theorem findNow_eq {P : Program} {φ : Plan} {kt : TypeId} {k : Value} {d : TypeDesc} (hd : P.underlying kt = some d) : ∀ (es fs : List MapEntry) (i : Nat) (r : Option Nat) (q : Option (Nat × Value)), RE φ es fs → findAt P kt k es i = some r →
    Instr.findNow d k fs i = some q → q = foundIn fs i r := by
  intro es
  induction es with
  | nil =>
    intro fs i r q hr h hq
    cases fs with
    | nil => cases h; cases hq; rfl
    | cons f fs => have := hr.1; simp at this
  | cons e es ih =>
    intro fs i r q hr h hq
    cases fs with
    | nil => have := hr.1; simp at this
    | cons f fs =>
      obtain ⟨q1, q2, q3, q4⟩ := hr.2 0 _ _ rfl rfl
      simp only [findAt] at h
      simp only [Instr.findNow, q2] at hq
      split at h
      · rename_i hf
        split at h
        · rename_i he
          cases h
          split at hq
          · cases hq; simp [foundIn]
          · rename_i hs; have := sameNow_eq hd hs he; cases this
          · cases hq
        · rename_i he
          split at hq
          · rename_i hs; have := sameNow_eq hd hs he; cases this
          · rw [ih fs (i + 1) r q hr.tail h hq, foundIn_tail]
            intro j hj
            subst hj
            exact (findAt_ge _ _ _ h).1
          · cases hq
        · cases h
      · cases h

theorem findKey_run {P : Program} {φ : Plan} {kt : TypeId} {k : Value} {es fs : List MapEntry} {r : Option Nat} (hk : keyFits P kt k = true) (hr : RE φ es fs) (h : findQ P kt k es = some r) (w : World) :
    (Instr.findKey kt k fs).run P w = .ok (foundIn fs 0 r) w := by
  have h := findQ_ok h
  have hd : ∃ d, P.underlying kt = some d := by
    unfold keyFits rowT at hk
    cases hu : P.underlying kt with
    | none => rw [hu] at hk; simp at hk
    | some d => exact ⟨d, rfl⟩
  obtain ⟨d, hd⟩ := hd
  simp only [Instr.findKey, Sem.run_bind, run_underlying hd, Result.andThen_ok]
  split
  · rename_i q hq
    rw [findNow_eq hd es fs 0 r q hr h hq]; rfl
  · exact findAsking_run hk es fs 0 r w hr h

/-! ### Loads -/
def aload (P : Program) (H : AHeap) (t : TypeId) (v : Value) : Option Value :=
  match v with
  | .pointer (some a) => match H.get a.block with
    | some (.cells vs _ _) => match szT P t, rowT P t with
      | some n, some r => apart' vs a.off n r
      | _, _ => none
    | _ => none
  | _ => none
theorem load_run {P : Program} {w0 : World} {fr : Nat → Option Obj} {φ : Plan} {H : AHeap} {w : World} (hR : Rel P w0 fr φ H w) {t : TypeId} {x cx v : Value} (h : aload P H t x = some v) (hx : RV φ x cx) :
    ∃ cv, (Instr.loadAt t cx).run P w = .ok cv w ∧ RV φ v cv := by
  unfold aload at h
  split at h
  · rename_i a
    split at h
    · rename_i vs e ro hH
      split at h
      · rename_i n r hn hr
        cases hx with
        | ptr ep =>
          rename_i B o l
          unfold apart' at h
          obtain ⟨l', p, h1, h2, h3⟩ := hR.cells hH
          simp only at p
          rw [ep] at p; cases p
          cases r with
          | true =>
            simp only [if_true] at h
            split at h
            · rename_i hle
              cases h
              obtain ⟨cs, q1, q2, q3⟩ := hR.range hH ep hle
              refine ⟨.agg cs.toArray, ?_, .of_RA (RA.list.2 (by simpa using q1))⟩
              have hl : (loadCells (⟨l.blk, l.base + o, none⟩ : Addr) cs.length).run P w = .ok cs.toArray w :=
                run_loadCells_list (P := P) w _ cs (fun j v hv => by rw [Addr.add_mid]; exact q3 j v hv)
              rw [q2] at hl
              simp only [Instr.loadAt, Instr.sureAddr, Sem.run_bind, Sem.run_pure, Result.andThen_ok, loadVar, run_isAgg' hr, if_true, run_sizeOf' hn, hl]
            · cases h
          | false =>
            simp only [Bool.false_eq_true, if_false] at h
            obtain ⟨cv, q1, q2⟩ := h2 _ _ h
            refine ⟨cv, ?_, q2⟩
            simp only [Instr.loadAt, Instr.sureAddr, Sem.run_bind, Sem.run_pure, Result.andThen_ok, loadVar, run_isAgg' hr, Bool.false_eq_true, if_false]
            simp only [load, Sem.run, q1]
      · cases h
    · cases h
  · cases h

/-! ### Look-ups -/
def alookup (P : Program) (H : AHeap) (t : TypeId) (x k : Value) (ok : Bool) : Option Value :=
  match mapT P t with
  | none => none
  | some (kt, et) =>
    match (match x with
      | .map none => some []
      | .map (some M) => match H.get M with
        | some (.map es _) => some es
        | _ => none
      | _ => none) with
    | none => none
    | some es => if keyFits P kt k = true ∧ runPure P (Instr.checkKey es.isEmpty 10000 kt k) = some () then
        match findQ P kt k es with
        | none => none
        | some (some i) => match es[i]? with
          | some e => some (if ok then .tuple #[e.val, .bool true] else e.val)
          | none => none
        | some none => match zeroC P et with
          | some z => some (if ok then .tuple #[z, .bool false] else z)
          | none => none
      else none
theorem mapT_spec {P : Program} {t kt et : TypeId} (h : mapT P t = some (kt, et)) : P.underlying t = some (.map kt et) := by
  unfold mapT at h
  split at h
  · cases h; assumption
  · cases h
theorem RV.pair {φ : Plan} {a b c d : Value} (h : RV φ a c) (k : RV φ b d) : RV φ (.tuple #[a, b]) (.tuple #[c, d]) :=
  .of_RAt (RA.list.2 (((RL.nil φ).cons k).cons h))
theorem run_lookup {P : Program} {w : World} {t kt et : TypeId} (hm : mapT P t = some (kt, et)) {cx k : Value} {fs : List MapEntry} (ok : Bool)
    (hcx : cx = .map none ∧ fs = [] ∨ ∃ r ck es, cx = .map (some r) ∧ w.heap[r]? = some (.map es ck) ∧ es.toList = fs) (hck : (Instr.checkKey fs.isEmpty 10000 kt k).run P w = .ok () w)
    {q : Option (Nat × Value)} (hf : (Instr.findKey kt k fs).run P w = .ok q w) :
    (∀ i v, q = some (i, v) → (Instr.lookup t cx k ok).run P w = .ok (if ok then .tuple #[v, .bool true] else v) w) ∧
    (∀ z, q = none → (zeroValue et).run P w = .ok z w → (Instr.lookup t cx k ok).run P w = .ok (if ok then .tuple #[z, .bool false] else z) w) := by
  rcases hcx with ⟨rfl, rfl⟩ | ⟨r, ck, es, rfl, hr, rfl⟩
  · constructor
    · rintro i v rfl
      simp only [Instr.lookup, Sem.run_bind, run_underlying (mapT_spec hm), Result.andThen_ok, Sem.run_pure]
      have e : (#[] : Array MapEntry).isEmpty = ([] : List MapEntry).isEmpty := rfl
      rw [e, hck]
      simp only [Result.andThen_ok, hf, Sem.run_bind, Sem.run_pure]
    · rintro z rfl hz
      simp only [Instr.lookup, Sem.run_bind, run_underlying (mapT_spec hm), Result.andThen_ok, Sem.run_pure]
      have e : (#[] : Array MapEntry).isEmpty = ([] : List MapEntry).isEmpty := rfl
      rw [e, hck]
      simp only [Result.andThen_ok, hf, Sem.run_bind, Sem.run_pure, hz]
  · have hg : (getObj r).run P w = .ok (.map es ck) w := by simp [getObj, Sem.run, hr]
    have e : es.isEmpty = es.toList.isEmpty := by cases es; cases ‹List MapEntry› <;> simp
    constructor
    · rintro i v rfl
      simp only [Instr.lookup, Sem.run_bind, run_underlying (mapT_spec hm), Result.andThen_ok, Sem.run_pure, hg, e, hck, hf]
    · rintro z rfl hz
      simp only [Instr.lookup, Sem.run_bind, run_underlying (mapT_spec hm), Result.andThen_ok, Sem.run_pure, hg, e, hck, hf, hz]

theorem lookup_run {P : Program} {w0 : World} {fr : Nat → Option Obj} {φ : Plan} {H : AHeap} {w : World} (hR : Rel P w0 fr φ H w) {t : TypeId} {x k cx ck v : Value} {ok : Bool} (h : alookup P H t x k ok = some v) (hx : RV φ x cx) (hk : RV φ k ck) :
    ∃ cv, (Instr.lookup t cx ck ok).run P w = .ok cv w ∧ RV φ v cv := by
  unfold alookup at h
  split at h
  · cases h
  · rename_i kt et hm
    split at h
    · cases h
    · rename_i es hes
      split at h
      · rename_i hc
        have hfl : flat k = true := by have := hc.1; unfold keyFits at this; simp only [Bool.and_eq_true] at this; exact this.1
        rw [hk.flat_eq hfl]
        -- the world's entries
        have hfs : ∃ fs : List MapEntry, RE φ es fs ∧ (cx = .map none ∧ fs = [] ∨ ∃ r ck es, cx = .map (some r) ∧ w.heap[r]? = some (.map es ck) ∧ es.toList = fs) := by
          split at hes
          · cases hes; cases hx; exact ⟨[], ⟨rfl, fun i x y a => by simp at a⟩, .inl ⟨rfl, rfl⟩⟩
          · rename_i M
            split at hes
            · rename_i es' ck' hM
              cases hes
              cases hx with
              | map ep =>
                obtain ⟨l, p, _, _, _, fs, q1, q2⟩ := hR.lies _ _ hM
                rw [ep] at p; cases p
                exact ⟨fs.toList, q2, .inr ⟨_, _, fs, rfl, q1, rfl⟩⟩
            · cases hes
          · cases hes
        obtain ⟨fs, r1, r2⟩ := hfs
        have hemp : es.isEmpty = fs.isEmpty := by
          have := r1.1
          cases es <;> cases fs <;> simp_all
        have hck := runPure_run (P := P) _ hc.2 w
        rw [hemp] at hck
        split at h
        · cases h
        · rename_i i hi
          split at h
          · rename_i e he
            obtain ⟨f, hf, -⟩ : ∃ f, fs[i]? = some f ∧ True := by
              have : i < es.length := by
                rcases Nat.lt_or_ge i es.length with h1 | h1
                · exact h1
                · rw [List.getElem?_eq_none h1] at he; cases he
              exact ⟨fs[i]'(by rw [← r1.1]; exact this), List.getElem?_eq_getElem _, trivial⟩
            obtain ⟨_, _, _, hv⟩ := r1.2 i _ _ he hf
            have hfound : foundIn fs 0 (some i) = some (i, f.val) := by simp [foundIn, hf]
            refine ⟨_, (run_lookup hm ok r2 hck (findKey_run hc.1 r1 hi w)).1 i f.val hfound, ?_⟩
            cases h
            cases ok
            · exact hv
            · exact hv.pair (.bool true)
          · cases h
        · rename_i hi
          split at h
          · rename_i z hz
            obtain ⟨z1, z2⟩ := run_zeroC hz w
            refine ⟨_, (run_lookup hm ok r2 hck (findKey_run hc.1 r1 hi w)).2 z rfl z1, ?_⟩
            cases h
            cases ok
            · exact .of_closed z2
            · exact (RV.of_closed z2).pair (.bool false)
          · cases h
      · cases h
end Go.Proofs.YtfolofhknhgpiaaGreatDoor
