/- Operations over abstract heaps: slicing, and all that only reckons in one function. -/
import Derived.Test.YtfolofhknhgpiaaGreatDoorA4
set_option linter.unusedVariables false
set_option linter.unusedSimpArgs false
namespace Go.Proofs.YtfolofhknhgpiaaGreatDoor
open Go

/-! ### Slicing -/
def abound (x : Value) (y : Nat) : Option Nat := match x with | .int _ i => if 0 ≤ i ∧ i ≤ (y : Int) then some i.toNat else none | _ => none
def abounds (len cap : Nat) (lo hi mx : Option Value) : Option (Nat × Nat × Nat) :=
  match (match mx with | some v => abound v cap | none => some cap) with
  | none => none
  | some m => match (match hi with | some v => abound v m | none => if mx.isSome then none else some len) with
    | none => none
    | some h => match (match lo with | some v => abound v h | none => some 0) with
      | none => none
      | some l => some (l, h, m)
theorem abound_run {P : Program} {φ : Plan} {x cx : Value} {y n : Nat} (h : abound x y = some n) (hx : RV φ x cx) (code : BoundsCode) (w : World) : (Instr.sliceBound cx y code).run P w = .ok n w ∧ n ≤ y := by
  unfold abound at h
  split at h
  · split at h
    · rename_i hc
      cases h; cases hx
      refine ⟨?_, by omega⟩
      simp only [Instr.sliceBound, asIntOf, Sem.run_bind, Sem.run_pure, Result.andThen_ok]
      rw [if_pos hc]
      rfl
    · cases h
  · cases h

inductive RO (φ : Plan) : Option Value → Option Value → Prop where
  | none : RO φ none none
  | some {v w : Value} : RV φ v w → RO φ (some v) (some w)

theorem abounds_run {P : Program} {φ : Plan} {len cap l h m : Nat} {lo hi mx clo chi cmx : Option Value} (e : abounds len cap lo hi mx = some (l, h, m)) (h1 : RO φ lo clo) (h2 : RO φ hi chi) (h3 : RO φ mx cmx) (is : Bool) (w : World) :
    (Instr.sliceBounds is len cap clo chi cmx).run P w = .ok (l, h, m) w ∧ l ≤ h ∧ (hi = none → mx = none ∧ h = len) ∧ (hi ≠ none → h ≤ m) ∧ m ≤ cap ∧ (mx = none → m = cap) := by
  unfold abounds at e
  cases h3 with
  | none =>
    simp only at e
    cases h2 with
    | none =>
      simp only [Option.isSome_none, Bool.false_eq_true, if_false] at e
      cases h1 with
      | none => simp only at e; cases e; exact ⟨rfl, Nat.zero_le _, fun _ => ⟨rfl, rfl⟩, fun q => absurd rfl q, Nat.le_refl _, fun _ => rfl⟩
      | some r1 =>
        simp only at e
        split at e
        · cases e
        · rename_i l' hl
          cases e
          obtain ⟨p, q⟩ := abound_run (P := P) hl r1 .sliceB w
          exact ⟨by simp [Instr.sliceBounds, p], q, fun _ => ⟨rfl, rfl⟩, fun q => absurd rfl q, Nat.le_refl _, fun _ => rfl⟩
    | some r2 =>
      simp only at e
      split at e
      · cases e
      · rename_i h' hh
        obtain ⟨p2, q2⟩ := abound_run (P := P) hh r2 (if is then .sliceAcap else .sliceAlen) w
        cases h1 with
        | none => simp only at e; cases e; exact ⟨by simp [Instr.sliceBounds, p2], Nat.zero_le _, by simp, fun _ => q2, Nat.le_refl _, fun _ => rfl⟩
        | some r1 =>
          simp only at e
          split at e
          · cases e
          · rename_i l' hl
            cases e
            obtain ⟨p, q⟩ := abound_run (P := P) hl r1 .sliceB w
            exact ⟨by simp [Instr.sliceBounds, p2, p], q, by simp, fun _ => q2, Nat.le_refl _, fun _ => rfl⟩
  | some r3 =>
    simp only at e
    split at e
    · cases e
    · rename_i m' hm
      obtain ⟨p3, q3⟩ := abound_run (P := P) hm r3 (if is then .slice3Acap else .slice3Alen) w
      cases h2 with
      | none => simp at e
      | some r2 =>
        simp only at e
        split at e
        · cases e
        · rename_i h' hh
          obtain ⟨p2, q2⟩ := abound_run (P := P) hh r2 .slice3B w
          cases h1 with
          | none => simp only at e; cases e; exact ⟨by simp [Instr.sliceBounds, p3, p2], Nat.zero_le _, by simp, fun _ => q2, q3, by simp⟩
          | some r1 =>
            simp only at e
            split at e
            · cases e
            · rename_i l' hl
              cases e
              obtain ⟨p, q⟩ := abound_run (P := P) hl r1 .slice3C w
              exact ⟨by simp [Instr.sliceBounds, p3, p2, p], q, by simp, fun _ => q2, q3, by simp⟩

/-- The half of the numbers from which on a capacity is not known. -/
def big : Nat := 4611686018427387904
def asliceOf (s : Nat) (a : Addr) (len c : Nat) (lo hi mx : Option Value) : Option Value :=
  if c < big then match abounds len c lo hi mx with
    | some (l, h, m) => some (.slice (some (if m = l then a else ⟨a.block, a.off + l * s, none⟩)) (h - l) (m - l))
    | none => none
  else if c = unk s ∧ mx = none then match abounds len len lo hi none with
    | some (l, h, _) => some (.slice (some ⟨a.block, a.off + l * s, none⟩) (h - l) (unk s))
    | none => none
  else none
def aslice (P : Program) (t : Nat) (x : Value) (lo hi mx : Option Value) : Option Value :=
  match x with
  | .string b => if stringT P t = true ∧ mx = none then match abounds b.size b.size lo hi none with
      | some (l, h, _) => some (.string ⟨(b.data.toList.extract l h).toArray⟩)
      | none => none
    else none
  | .slice none 0 0 => match sliceT P t with
    | some _ => match abounds 0 0 lo hi mx with
      | some _ => some (.slice none 0 0)
      | none => none
    | none => none
  | .slice (some a) len c => match sliceT P t with
    | some (_, s, _) => asliceOf s a len c lo hi mx
    | none => none
  | .pointer (some a) => match arrayT P t with
    | some (n, _, s) => if n < big then match abounds n n lo hi mx with
      | some (l, h, m) => some (.slice (some (if m = l then a else ⟨a.block, a.off + l * s, none⟩)) (h - l) (m - l))
      | none => none
      else none
    | none => none
  | _ => none

theorem Addr.add_mid' (b o n s : Nat) : (⟨b, o, none⟩ : Addr).add (n * s) = ⟨b, o + n * s, none⟩ := Addr.add_mid b o (n * s)

theorem slice_run {P : Program} {φ : Plan} {t : Nat} {x cx v : Value} {lo hi mx clo chi cmx : Option Value} (h : aslice P t x lo hi mx = some v) (hx : RV φ x cx) (h1 : RO φ lo clo) (h2 : RO φ hi chi) (h3 : RO φ mx cmx) (w : World) :
    ∃ cv, (Instr.sliceAt t cx clo chi cmx).run P w = .ok cv w ∧ RV φ v cv := by
  unfold aslice at h
  split at h
  · rename_i b
    split at h
    · rename_i hs
      obtain ⟨hs, rfl⟩ := hs
      cases h3
      split at h
      · rename_i l hh m hb
        cases h
        cases hx
        obtain ⟨p, q, _⟩ := abounds_run (P := P) hb h1 h2 .none false w
        refine ⟨.string (b.extract l hh), ?_, ?_⟩
        · simp only [Instr.sliceAt, Sem.run_bind, run_underlying (stringT_spec hs), Result.andThen_ok, Instr.slice, Option.isSome_none, Bool.false_eq_true, if_false, Sem.run_pure, p]
        · have : (b.extract l hh) = ⟨(b.data.toList.extract l hh).toArray⟩ := by
            apply ByteArray.ext
            rw [ByteArray.data_extract]
            apply Array.ext'
            simp
          rw [this]; exact .string _
      · cases h
    · cases h
  · split at h
    · rename_i e hsl
      obtain ⟨e, s, by'⟩ := e
      split at h
      · rename_i r hb
        obtain ⟨l, hh, m⟩ := r
        cases h
        cases hx
        obtain ⟨p, q, q1, q2, q3, _⟩ := abounds_run (P := P) hb h1 h2 h3 true w
        obtain ⟨hu, _⟩ := sliceT_spec hsl
        have hm : m = 0 := by omega
        have hh0 : hh = 0 := by
          by_cases hn : hi = none
          · exact (q1 hn).2
          · have := q2 hn; omega
        have hl : l = 0 := by omega
        subst hm hh0 hl
        refine ⟨.slice none 0 0, ?_, .sliceNil⟩
        simp only [Instr.sliceAt, Sem.run_bind, run_underlying hu, Result.andThen_ok, Instr.slice, p, run_sizeOf' (sliceT_sz hsl)]
        rfl
      · cases h
    · cases h
  · rename_i a len c
    split at h
    · rename_i e s by' hsl
      obtain ⟨hu, _⟩ := sliceT_spec hsl
      unfold asliceOf at h
      split at h
      · rename_i hc
        split at h
        · rename_i l hh m hb
          cases h
          obtain ⟨p, q, q1, q2, q3, _⟩ := abounds_run (P := P) hb h1 h2 h3 true w
          cases hx with
          | slice ep ec =>
            rename_i B o c' lo'
            rcases ec with ⟨_, rfl⟩ | ⟨hu2, _⟩
            · refine ⟨.slice (some (if m = l then ⟨lo'.blk, lo'.base + o, none⟩ else ⟨lo'.blk, lo'.base + (o + l * s), none⟩)) (hh - l) (m - l), ?_, ?_⟩
              · simp only [Instr.sliceAt, Sem.run_bind, run_underlying hu, Result.andThen_ok, Instr.slice, p, run_sizeOf' (sliceT_sz hsl), Sem.run_pure]
                by_cases hml : m = l
                · rw [if_pos hml, if_pos hml]
                · rw [if_neg hml, if_neg hml]
                  simp only [Option.map_some, Addr.add_mid, Nat.add_assoc]
              · have hmb : m - l < big := by unfold big at *; omega
                by_cases hml : m = l
                · rw [if_pos hml, if_pos hml]; exact .slice ep (.inl ⟨hmb, rfl⟩)
                · rw [if_neg hml, if_neg hml]; exact .slice ep (.inl ⟨hmb, rfl⟩)
            · unfold unk big at *; omega
          | sliceDry ep ec => unfold unk big at *; omega
        · cases h
      · split at h
        · rename_i hc hk
          obtain ⟨hk, rfl⟩ := hk
          cases h3
          split at h
          · rename_i l hh m hb
            cases h
            cases hx with
            | slice ep ec =>
              rename_i B o c' lo'
              rcases ec with ⟨h0, _⟩ | ⟨hu2, hle, hext⟩
              · unfold big at hc; omega
              · have hes : lo'.esz = s := by unfold unk at *; omega
                -- the bounds hold of the true capacity, too
                have hb' : abounds len c' lo hi none = some (l, hh, c') := by
                  unfold abounds at hb ⊢
                  simp only at hb ⊢
                  cases hi with
                  | none =>
                    simp only [Option.isSome_none, Bool.false_eq_true, if_false] at hb ⊢
                    cases lo with
                    | none => simp only at hb ⊢; cases hb; rfl
                    | some v =>
                      simp only at hb ⊢
                      cases hv : abound v len with
                      | none => rw [hv] at hb; cases hb
                      | some q => rw [hv] at hb; simp only at hb ⊢; cases hb; rfl
                  | some u =>
                    simp only at hb ⊢
                    cases hq : abound u len with
                    | none => rw [hq] at hb; cases hb
                    | some h' =>
                      have hq' : abound u c' = some h' := by
                        unfold abound at hq ⊢
                        split at hq
                        · split at hq
                          · rw [if_pos (by omega)]; exact hq
                          · cases hq
                        · cases hq
                      rw [hq] at hb; rw [hq']
                      simp only at hb ⊢
                      cases lo with
                      | none => simp only at hb ⊢; cases hb; rfl
                      | some v =>
                        simp only at hb ⊢
                        cases hv : abound v h' with
                        | none => rw [hv] at hb; cases hb
                        | some q => rw [hv] at hb; simp only at hb ⊢; cases hb; rfl
                obtain ⟨p, q, q1, q2, q3, _⟩ := abounds_run (P := P) hb' h1 h2 .none true w
                obtain ⟨_, _, r1, r2, r3, _⟩ := abounds_run (P := P) hb h1 h2 .none true w
                have hhl : hh ≤ len := by
                  by_cases hn : hi = none
                  · rw [(r1 hn).2]; exact Nat.le_refl _
                  · have := r2 hn; omega
                refine ⟨.slice (some (if c' = l then ⟨lo'.blk, lo'.base + o, none⟩ else ⟨lo'.blk, lo'.base + (o + l * s), none⟩)) (hh - l) (c' - l), ?_, ?_⟩
                · simp only [Instr.sliceAt, Sem.run_bind, run_underlying hu, Result.andThen_ok, Instr.slice, p, run_sizeOf' (sliceT_sz hsl), Sem.run_pure]
                  by_cases hml : c' = l
                  · rw [if_pos hml, if_pos hml]
                  · rw [if_neg hml, if_neg hml]
                    simp only [Option.map_some, Addr.add_mid, Nat.add_assoc]
                · by_cases hml : c' = l
                  · rw [if_pos hml]
                    have e1 : hh - l = 0 := by omega
                    have e2 : c' - l = 0 := by omega
                    rw [e1, e2]
                    exact .sliceDry ep (by rw [← hes])
                  · rw [if_neg hml]
                    refine .slice ep (.inr ⟨by rw [← hes], by omega, ?_⟩)
                    rw [← hes]
                    have : o + l * lo'.esz + (c' - l) * lo'.esz = o + c' * lo'.esz := by
                      rw [Nat.add_assoc, ← Nat.add_mul]; congr 2; omega
                    simp only at *; omega
            | sliceDry ep ec =>
              rename_i B o lo' x'
              have hes : lo'.esz = s := by unfold unk at *; omega
              obtain ⟨p, q, q1, q2, q3, q4⟩ := abounds_run (P := P) hb h1 h2 .none true w
              have hm : m = 0 := q4 rfl
              have hh0 : hh = 0 := by
                by_cases hn : hi = none
                · exact (q1 hn).2
                · have := q2 hn; omega
              have hl : l = 0 := by omega
              subst hm hh0 hl
              refine ⟨.slice (some x') 0 0, ?_, .sliceDry ep (by rw [← hes])⟩
              simp only [Instr.sliceAt, Sem.run_bind, run_underlying hu, Result.andThen_ok, Instr.slice, p, run_sizeOf' (sliceT_sz hsl)]
              rfl
          · cases h
        · cases h
    · cases h
  · rename_i a
    split at h
    · rename_i n e s ha
      obtain ⟨hu, hs⟩ := arrayT_spec ha
      split at h
      · rename_i hnb
        split at h
        · rename_i l hh m hb
          cases h
          obtain ⟨p, q, q1, q2, q3, _⟩ := abounds_run (P := P) hb h1 h2 h3 false w
          cases hx with
          | ptr ep =>
            rename_i B o lo'
            refine ⟨.slice (some (if m = l then ⟨lo'.blk, lo'.base + o, none⟩ else ⟨lo'.blk, lo'.base + (o + l * s), none⟩)) (hh - l) (m - l), ?_, ?_⟩
            · simp only [Instr.sliceAt, Sem.run_bind, run_underlying hu, Result.andThen_ok, Instr.sureAddr, Sem.run_pure, p, run_sizeOf' hs]
              by_cases hml : m = l
              · rw [if_pos hml, if_pos hml]
              · rw [if_neg hml, if_neg hml]
                simp only [Addr.add_mid, Nat.add_assoc]
            · have hmb : m - l < big := by omega
              by_cases hml : m = l
              · rw [if_pos hml, if_pos hml]; exact .slice ep (.inl ⟨hmb, rfl⟩)
              · rw [if_neg hml, if_neg hml]; exact .slice ep (.inl ⟨hmb, rfl⟩)
        · cases h
      · cases h
    · cases h
  · cases h
end Go.Proofs.YtfolofhknhgpiaaGreatDoor
