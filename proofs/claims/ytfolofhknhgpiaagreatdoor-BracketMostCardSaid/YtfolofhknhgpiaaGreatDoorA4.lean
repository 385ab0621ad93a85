/- Operations over abstract heaps: places, bounds; all that only reckons, in one function. -/
import Derived.Test.YtfolofhknhgpiaaGreatDoorA3
import Derived.Deep.MidRow
set_option linter.unusedVariables false
set_option linter.unusedSimpArgs false
namespace Go.Proofs.YtfolofhknhgpiaaGreatDoor
open Go

/-! ### Places -/
def afieldAddr (P : Program) (s i : Nat) (v : Value) : Option Value :=
  match v, fieldT P s i with
  | .pointer (some a), some (off, n, _) => if n = 0 then none else some (.pointer (some ⟨a.block, a.off + off, none⟩))
  | _, _ => none
theorem fieldAddr_run {P : Program} {φ : Plan} {s i : Nat} {x cx v : Value} (h : afieldAddr P s i x = some v) (hx : RV φ x cx) (w : World) :
    ∃ cv, (Instr.fieldAt s cx i).run P w = .ok cv w ∧ RV φ v cv := by
  unfold afieldAddr at h
  split at h
  · rename_i a off n r hf
    split at h
    · cases h
    · rename_i hn
      cases h
      unfold fieldT at hf
      split at hf
      · rename_i fs hu
        split at hf
        · rename_i f hfi
          split at hf
          · rename_i n' r' hs hr
            cases hf
            cases hx with
            | ptr e =>
              refine ⟨_, ?_, .ptr (o := _ + f.offset) e⟩
              simp only [Instr.fieldAt, Sem.run_bind, run_underlying hu, Result.andThen_ok, hfi, Instr.sureAddr, fieldPlace, run_sizeOf' hs, Sem.run_pure]
              rw [if_neg hn]
              simp only [Sem.run_pure, Result.andThen_ok, Addr.add_mid, Nat.add_assoc]
          · cases hf
        · cases hf
      · cases hf
  · cases h

def afield (P : Program) (s i : Nat) (v : Value) : Option Value :=
  match v, fieldT P s i with
  | .agg cs, some (off, n, r) => apart' cs.toList off n r
  | _, _ => none
theorem field_run {P : Program} {φ : Plan} {s i : Nat} {x cx v : Value} (h : afield P s i x = some v) (hx : RV φ x cx) (w : World) :
    ∃ cv, (Instr.field s cx i).run P w = .ok cv w ∧ RV φ v cv := by
  unfold afield at h
  split at h
  · rename_i cs off n r hf
    obtain ⟨ds, rfl, hr⟩ := hx.agg_inv
    unfold fieldT at hf
    split at hf
    · rename_i fs hu
      split at hf
      · rename_i f hfi
        split at hf
        · rename_i n' r' hs hr'
          cases hf
          obtain ⟨cv, p, q⟩ := run_part hs hr' (RA.list.1 hr) h w
          refine ⟨cv, ?_, q⟩
          simp only [Instr.field, Sem.run_bind, run_underlying hu, Result.andThen_ok, hfi, asAgg, Sem.run_pure]
          simpa using p
        · cases hf
      · cases hf
    · cases hf
  · cases h

def aindexAddr (P : Program) (t : Nat) (x ix : Value) : Option Value :=
  match ix with
  | .int _ i => match x with
    | .pointer (some a) => match arrayT P t with
      | some (n, _, s) => if 0 ≤ i ∧ i < (n : Int) then some (.pointer (some ⟨a.block, a.off + i.toNat * s, none⟩)) else none
      | none => none
    | .slice (some a) len _ => match sliceT P t with
      | some (_, s, _) => if 0 ≤ i ∧ i < (len : Int) then some (.pointer (some ⟨a.block, a.off + i.toNat * s, none⟩)) else none
      | none => none
    | _ => none
  | _ => none
theorem sliceT_spec {P : Program} {t e s b : Nat} (h : sliceT P t = some (e, s, b)) : P.underlying t = some (.slice e) ∧ ∃ i, P.info? e = some i ∧ i.size = s ∧ i.bytes = b := by
  unfold sliceT at h
  split at h
  · rename_i e' hu
    obtain ⟨i, hi, he⟩ := Option.map_eq_some_iff.1 h
    cases he
    exact ⟨hu, i, hi, rfl, rfl⟩
  · cases h
theorem sliceT_sz {P : Program} {t e s b : Nat} (h : sliceT P t = some (e, s, b)) : szT P e = some s := by
  obtain ⟨_, i, hi, rfl, _⟩ := sliceT_spec h
  simp [szT, hi]
theorem arrayT_spec {P : Program} {t n e s : Nat} (h : arrayT P t = some (n, e, s)) : P.underlying t = some (.array n e) ∧ szT P e = some s := by
  unfold arrayT at h
  split at h
  · rename_i n' e' hu
    obtain ⟨s', hs, he⟩ := Option.map_eq_some_iff.1 h
    cases he
    exact ⟨hu, hs⟩
  · cases h
theorem indexAddr_run {P : Program} {φ : Plan} {t : Nat} {x ix cx cix v : Value} (h : aindexAddr P t x ix = some v) (hx : RV φ x cx) (hi : RV φ ix cix) (w : World) :
    ∃ cv, (Instr.indexAt t cx cix).run P w = .ok cv w ∧ RV φ v cv := by
  unfold aindexAddr at h
  split at h
  · rename_i k i
    cases hi
    split at h
    · rename_i a
      split at h
      · rename_i n e s ha
        obtain ⟨hu, hs⟩ := arrayT_spec ha
        split at h
        · rename_i hlt
          cases h
          cases hx with
          | ptr ep =>
            refine ⟨_, ?_, .ptr (o := _ + i.toNat * s) ep⟩
            simp only [Instr.indexAt, asIntOf, Sem.run_bind, Sem.run_pure, Result.andThen_ok, run_underlying hu, Instr.sureAddr]
            rw [if_pos hlt]
            simp only [Sem.run_bind, run_sizeOf' hs, Sem.run_pure, Result.andThen_ok, Addr.add_mid, Nat.add_assoc]
        · cases h
      · cases h
    · rename_i a len c
      split at h
      · rename_i e s b ha
        obtain ⟨hu, _⟩ := sliceT_spec ha
        split at h
        · rename_i hlt
          cases h
          cases hx with
          | slice ep ec =>
            refine ⟨_, ?_, .ptr (o := _ + i.toNat * s) ep⟩
            simp only [Instr.indexAt, asIntOf, Sem.run_bind, Sem.run_pure, Result.andThen_ok, run_underlying hu]
            rw [if_pos hlt]
            simp only [Sem.run_bind, run_sizeOf' (sliceT_sz ha), Sem.run_pure, Result.andThen_ok, Addr.add_mid, Nat.add_assoc]
          | sliceDry ep ec => omega
        · cases h
      · cases h
    · cases h
  · cases h

def aindex (P : Program) (t : Nat) (x ix : Value) : Option Value :=
  match x, ix with
  | .agg cs, .int _ i => match arrayT P t with
    | some (n, e, s) => match rowT P e with
      | some r => if 0 ≤ i ∧ i < (n : Int) then apart' cs.toList (i.toNat * s) s r else none
      | none => none
    | none => none
  | .string b, .int _ i => if stringT P t = true ∧ 0 ≤ i then (b.data.toList[i.toNat]?).map fun c => .int .u8 c.toNat else none
  | _, _ => none
theorem stringT_spec {P : Program} {t : Nat} (h : stringT P t = true) : P.underlying t = some .string := by
  unfold stringT at h
  split at h
  · assumption
  · cases h
theorem index_run {P : Program} {φ : Plan} {t : Nat} {x ix cx cix v : Value} (h : aindex P t x ix = some v) (hx : RV φ x cx) (hi : RV φ ix cix) (w : World) :
    ∃ cv, (Instr.index t cx cix).run P w = .ok cv w ∧ RV φ v cv := by
  unfold aindex at h
  split at h
  · rename_i cs k i
    cases hi
    obtain ⟨ds, rfl, hr⟩ := hx.agg_inv
    split at h
    · rename_i n e s ha
      obtain ⟨hu, hs⟩ := arrayT_spec ha
      split at h
      · rename_i r hrow
        split at h
        · rename_i hlt
          obtain ⟨cv, p, q⟩ := run_part hs hrow (RA.list.1 hr) h w
          refine ⟨cv, ?_, q⟩
          simp only [Instr.index, asIntOf, Sem.run_bind, Sem.run_pure, Result.andThen_ok, run_underlying hu]
          rw [if_pos hlt]
          simp only [Sem.run_bind, run_sizeOf' hs, Result.andThen_ok]
          simpa using p
        · cases h
      · cases h
    · cases h
  · rename_i b k i
    cases hx; cases hi
    split at h
    · rename_i hc
      obtain ⟨c, hc1, rfl⟩ := Option.map_eq_some_iff.1 h
      refine ⟨.int .u8 c.toNat, ?_, .int _ _⟩
      have hb : b[i.toNat]? = some c := by
        have hlt : i.toNat < b.data.toList.length := by
          rcases Nat.lt_or_ge i.toNat b.data.toList.length with h1 | h1
          · exact h1
          · rw [List.getElem?_eq_none h1] at hc1; cases hc1
        have hlt' : i.toNat < b.size := by simpa using hlt
        rw [getElem?_pos b i.toNat hlt']
        rw [List.getElem?_eq_getElem hlt] at hc1
        cases hc1
        simp [ByteArray.getElem_eq_getElem_data]
      simp only [Instr.index, asIntOf, Sem.run_bind, Sem.run_pure, Result.andThen_ok, run_underlying (stringT_spec hc.1)]
      rw [if_pos hc.2, hb]
      rfl
    · cases h
  · cases h
end Go.Proofs.YtfolofhknhgpiaaGreatDoor
