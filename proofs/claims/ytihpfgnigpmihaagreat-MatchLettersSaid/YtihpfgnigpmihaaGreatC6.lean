/- Finding a key in the engine's maps. -/
import Derived.Test.YtihpfgnigpmihaaGreatC5
set_option linter.unusedVariables false
set_option linter.unusedSimpArgs false
set_option maxRecDepth 100000
namespace Go.Proofs.YtihpfgnigpmihaaGreat
open Go

/-- A type of keys whose values are told apart by what they stand for. -/
structure KeyT (P : Program) (kt : TypeId) {α : Type} [DecidableEq α] (val : α → Value) : Prop where
  fits : ∀ a, keyFits P kt (val a) = true
  eq : ∀ a b, keyEq P kt (val a) (val b) = some (decide (a = b))

theorem findAt_key {P : Program} {kt : TypeId} {α : Type} [DecidableEq α] {val : α → Value} (hk : KeyT P kt val) (a : α) : ∀ (es : List MapEntry) (ks : List α) (i : Nat), es.map (·.key) = ks.map val →
    findAt P kt (val a) es i = some (if a ∈ ks then some (i + ks.idxOf a) else none)
  | [], [], i, _ => rfl
  | [], _ :: _, i, h => by simp at h
  | _ :: _, [], i, h => by simp at h
  | e :: es, b :: ks, i, h => by
    simp only [List.map_cons, List.cons.injEq] at h
    rw [findAt, h.1, hk.fits, if_pos rfl, hk.eq]
    by_cases hab : a = b
    · subst hab
      simp [List.idxOf_cons]
    · simp only [hab, decide_false]
      rw [findAt_key hk a es ks (i + 1) h.2]
      simp only [List.mem_cons, hab, false_or, List.idxOf_cons]
      have hba : (b == a) = false := by simpa using fun h => hab h.symm
      simp only [hba, cond_false]
      split
      · congr 2; omega
      · rfl
theorem keySt : KeyT Tryz.prog 79 St.val := ⟨fits_st, key_st_dec⟩
theorem keyRes : KeyT Tryz.prog 56 Res.val := ⟨fits_res, key_res_dec⟩
theorem check_st (s : St) (b : Bool) : runPure Tryz.prog (Instr.checkKey b 10000 79 s.val) = some () := by cases b <;> kernel_rfl
theorem check_res (s : Res) (b : Bool) : runPure Tryz.prog (Instr.checkKey b 10000 56 s.val) = some () := by cases b <;> kernel_rfl
end Go.Proofs.YtihpfgnigpmihaaGreat
