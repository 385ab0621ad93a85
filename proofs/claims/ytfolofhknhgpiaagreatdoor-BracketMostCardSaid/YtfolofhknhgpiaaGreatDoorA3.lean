/- Operations over abstract heaps: those that only reckon, all of them. -/
import Derived.Test.YtfolofhknhgpiaaGreatDoorA2
set_option linter.unusedVariables false
set_option linter.unusedSimpArgs false
namespace Go.Proofs.YtfolofhknhgpiaaGreatDoor
open Go

theorem run_sizeOf' {P : Program} {t : TypeId} {n : Nat} (h : szT P t = some n) (w : World) : (sizeOf t).run P w = .ok n w := by
  obtain ⟨i, hi, rfl⟩ := Option.map_eq_some_iff.1 h
  simp [sizeOf, typeInfo, hi]
theorem run_isAgg' {P : Program} {t : TypeId} {r : Bool} (h : rowT P t = some r) (w : World) : (isAgg t).run P w = .ok r w := by
  unfold rowT at h
  split at h <;> cases h <;> rename_i hu
  · simp [isAgg, run_underlying hu]
  · simp [isAgg, run_underlying hu]
  · rename_i h1 h2
    simp only [isAgg, Sem.run_bind, run_underlying hu, Result.andThen_ok]
    rfl

/-! ### Parts of rows -/
def apart' (cs : List Value) (off n : Nat) (r : Bool) : Option Value :=
  if r then (if off + n ≤ cs.length then some (.agg ((cs.drop off).take n).toArray) else none) else cs[off]?
theorem run_part {P : Program} {t : TypeId} {n : Nat} {r : Bool} (hn : szT P t = some n) (hr : rowT P t = some r) {φ : Plan} {cs ds : List Value} (h : RL φ cs ds) {off : Nat} {v : Value}
    (e : apart' cs off n r = some v) (w : World) : ∃ cv, (part t ds.toArray off).run P w = .ok cv w ∧ RV φ v cv := by
  unfold apart' at e
  cases r with
  | true =>
    simp only [if_true] at e
    split at e
    · rename_i hle
      cases e
      refine ⟨.agg (ds.toArray.extract off (off + n)), ?_, ?_⟩
      · simp only [part, Sem.run_bind, run_isAgg' hr, Result.andThen_ok, if_true, run_sizeOf' hn]; rfl
      · refine .of_RA (RA.list.2 ?_)
        have := (h.drop off).take n
        simpa [List.extract_eq_take_drop] using this
    · cases e
  | false =>
    simp only [Bool.false_eq_true, if_false] at e
    obtain ⟨y, hy, ry⟩ := h.get e
    refine ⟨y, ?_, ry⟩
    simp only [part, Sem.run_bind, run_isAgg' hr, Result.andThen_ok, Bool.false_eq_true, if_false]
    simp [hy]

/-! ### A struct, an array, a row made of parts -/
def afill (pl : Nat → Option (Nat × Nat)) : List Value → List (Nat × Value) → Option (List Value)
  | cs, [] => some cs
  | cs, (i, v) :: r => match pl i with
    | none => none
    | some (off, n) => if (vcells v).length = n ∧ off + n ≤ cs.length then afill pl (putCells cs off (vcells v)) r else none

theorem foldl_put : ∀ (vs : List Value) (k : Nat) (cs : Array Value) (off : Nat),
    ((vs.zipIdx k).foldl (fun cs (p : Value × Nat) => cs.setIfInBounds (off + p.2) p.1) cs) = over cs (off + k) vs
  | [], _, _, _ => rfl
  | v :: r, k, cs, off => by
    rw [List.zipIdx_cons, List.foldl_cons, foldl_put r (k + 1)]
    rfl
theorem over_list {vs : List Value} {cs : Array Value} {o : Nat} (h : o + vs.length ≤ cs.size) : (over cs o vs).toList = putCells cs.toList o vs := by
  refine List.ext_getElem? fun j => ?_
  rw [putCells_get (by simpa using h)]
  have := over_get vs cs o j h
  simpa using this

theorem RL.putCells {φ : Plan} {xs ys as bs : List Value} (h : RL φ xs ys) (k : RL φ as bs) (o : Nat) : RL φ (putCells xs o as) (putCells ys o bs) := by
  unfold Go.Proofs.YtfolofhknhgpiaaGreatDoor.putCells
  rw [← k.1]
  exact ((h.take o).append k).append (h.drop _)

def RP (φ : Plan) (ps qs : List (Nat × Value)) : Prop := ps.length = qs.length ∧ ∀ (i : Nat) (p q : Nat × Value), ps[i]? = some p → qs[i]? = some q → p.1 = q.1 ∧ RV φ p.2 q.2
theorem fill_run {φ : Plan} (pl : Nat → Option (Nat × Nat)) : ∀ (ps qs : List (Nat × Value)) (cs : List Value) (ds : Array Value) (r : List Value), RP φ ps qs → RL φ cs ds.toList → afill pl cs ps = some r →
    ∃ r', Instr.fill pl ds qs = some r' ∧ RL φ r r'.toList := by
  intro ps
  induction ps with
  | nil =>
    intro qs cs ds r hp hc h
    cases qs with
    | nil => cases h; exact ⟨ds, rfl, hc⟩
    | cons q qs => have := hp.1; simp at this
  | cons p ps ih =>
    intro qs cs ds r hp hc h
    cases qs with
    | nil => have := hp.1; simp at this
    | cons q qs =>
      obtain ⟨i, v⟩ := p
      obtain ⟨j, u⟩ := q
      obtain ⟨e1, e2⟩ := hp.2 0 _ _ rfl rfl
      simp only at e1 e2; subst e1
      simp only [afill] at h
      split at h
      · cases h
      · rename_i off n hpl
        split at h
        · rename_i hc2
          have hu : u.cells.toList = vcells u := vcells_eq u
          have hus : u.cells.size = n := by rw [← Array.length_toList, hu, ← e2.cells.1]; exact hc2.1
          have hds : ds.size = cs.length := by rw [← Array.length_toList, hc.1]
          simp only [Instr.fill, hpl]
          rw [if_neg (by simp [hus]; omega)]
          have hfold : (u.cells.zipIdx.foldl (fun cs (x : Value × Nat) => cs.setIfInBounds (off + x.2) x.1) ds) = over ds off (vcells u) := by
            rw [← hu, ← Array.foldl_toList, Array.toList_zipIdx, foldl_put]; rfl
          refine ih qs _ _ r ⟨by have := hp.1; simpa using this, fun k a b ha hb => hp.2 (k + 1) a b (by simpa using ha) (by simpa using hb)⟩ ?_ h
          show RL φ _ (u.cells.zipIdx.foldl _ ds).toList
          rw [hfold, over_list (by rw [← hu, Array.length_toList, hus, hds]; exact hc2.2)]
          exact hc.putCells e2.cells off
        · cases h

def zeroC (P : Program) (t : TypeId) : Option Value := (zeroT P t).bind fun z => if closed z then some z else none
theorem run_zeroC {P : Program} {t : TypeId} {z : Value} (h : zeroC P t = some z) (w : World) : (zeroValue t).run P w = .ok z w ∧ closed z = true := by
  unfold zeroC zeroT at h
  cases hi : P.info? t with
  | none => rw [hi] at h; cases h
  | some i =>
    rw [hi] at h
    simp only [Option.bind_some] at h
    cases hz : i.zero with
    | none => rw [hz] at h; cases h
    | some z' =>
      rw [hz] at h
      simp only [Option.bind_some] at h
      split at h
      · cases h; rename_i hc; exact ⟨by simp [zeroValue, typeInfo, hi, hz], hc⟩
      · cases h

def abuild (P : Program) (t : TypeId) (ps : List (Nat × Value)) : Option Value :=
  match zeroC P t with
  | none => none
  | some z => match structT P t with
    | some pl => (afill (fun i => pl[i]?) (vcells z) ps).map fun l => .agg l.toArray
    | none => match arrayT P t with
      | some (_, _, s) => (afill (fun i => some (i * s, s)) (vcells z) ps).map fun l => .agg l.toArray
      | none => none

theorem mapM_places {P : Program} : ∀ (fs : List Field) (pl : List (Nat × Nat)) (w : World), fs.mapM (fun f => (szT P f.type).map fun n => (f.offset, n)) = some pl →
    (fs.mapM fun f => do pure (f.offset, ← sizeOf f.type) : Sem (List (Nat × Nat))).run P w = .ok pl w := by
  intro fs
  induction fs with
  | nil => intro pl w h; simp at h; subst h; rfl
  | cons f fs ih =>
    intro pl w h
    rw [List.mapM_cons] at h ⊢
    cases hz : szT P f.type with
    | none => rw [hz] at h; cases h
    | some n =>
      rw [hz] at h
      cases hr : fs.mapM (fun f => (szT P f.type).map fun n => (f.offset, n)) with
      | none => rw [hr] at h; cases h
      | some q =>
        rw [hr] at h
        simp at h
        subst h
        simp only [Sem.run_bind, run_sizeOf' hz, Result.andThen_ok, Sem.run_pure, ih q w hr]

theorem build_run {P : Program} {φ : Plan} {t : TypeId} {ps : List (Nat × Value)} {qs : Array (Nat × Value)} {v : Value} (hp : RP φ ps qs.toList) (h : abuild P t ps = some v) (w : World) :
    ∃ cv, (Instr.build t qs).run P w = .ok cv w ∧ RV φ v cv := by
  unfold abuild at h
  split at h
  · cases h
  · rename_i z hz
    obtain ⟨rz, cz⟩ := run_zeroC hz w
    have hzl : RL φ (vcells z) z.cells.toList := by rw [vcells_eq]; exact (RV.of_closed cz).cells
    split at h
    · rename_i pl hpl
      obtain ⟨l, hl, rfl⟩ := Option.map_eq_some_iff.1 h
      obtain ⟨r', h1, h2⟩ := fill_run _ _ _ _ _ _ hp hzl hl
      unfold structT at hpl
      split at hpl
      · rename_i fs hu
        refine ⟨.agg r', ?_, .of_RA (RA.list.2 (by simpa using h2))⟩
        have hm : (fs.mapM fun f => do pure (f.offset, ← sizeOf f.type) : Sem (Array (Nat × Nat))).run P w = .ok pl.toArray w := by
          rw [Array.mapM_eq_mapM_toList, Sem.run_map, mapM_places _ _ w hpl]
          rfl
        simp only [Instr.build, Sem.run_bind, rz, Result.andThen_ok, run_underlying hu, hm]
        have hpe : (fun (x : Nat) => pl.toArray[x]?) = fun (i : Nat) => pl[i]? := by funext i; simp
        rw [hpe, h1]; rfl
      · cases hpl
    · split at h
      · rename_i hst _ e s ha
        obtain ⟨l, hl, rfl⟩ := Option.map_eq_some_iff.1 h
        obtain ⟨r', h1, h2⟩ := fill_run _ _ _ _ _ _ hp hzl hl
        unfold arrayT at ha
        split at ha
        · rename_i n' e' hu
          obtain ⟨s', hs, he⟩ := Option.map_eq_some_iff.1 ha
          cases he
          refine ⟨.agg r', ?_, .of_RA (RA.list.2 (by simpa using h2))⟩
          simp only [Instr.build, Sem.run_bind, rz, Result.andThen_ok, run_underlying hu, run_sizeOf' hs, h1]; rfl
        · cases ha
      · cases h
end Go.Proofs.YtfolofhknhgpiaaGreatDoor
