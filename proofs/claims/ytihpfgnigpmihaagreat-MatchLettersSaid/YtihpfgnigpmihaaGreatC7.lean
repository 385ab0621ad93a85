/- The engine's memory: what is looked up, what is kept. -/
import Derived.Test.YtihpfgnigpmihaaGreatC6
set_option linter.unusedVariables false
set_option linter.unusedSimpArgs false
set_option maxRecDepth 100000
namespace Go.Proofs.YtihpfgnigpmihaaGreat
open Go

theorem memo_miss {H : AHeap} {K ck : Nat} {es : List MapEntry} {ks : List St} (hK : H.get K = some (.map es ck)) (hk : es.map (·.key) = ks.map St.val) {s : St} (hs : s ∉ ks) :
    alookup Tryz.prog H 72 (.map (some K)) s.val true = some (.tuple #[.slice none 0 0, .bool false]) := by
  have hm : mapT Tryz.prog 72 = some (79, 51) := by kernel_rfl
  have hz : zeroC Tryz.prog 51 = some (.slice none 0 0) := by kernel_rfl
  unfold alookup
  simp only [hm, hK, hz, fits_st, check_st, findAt_key keySt s es ks 0 hk, hs, if_true, if_false, and_self]
theorem memo_hit {H : AHeap} {K ck : Nat} {es : List MapEntry} {ks : List St} (hK : H.get K = some (.map es ck)) (hk : es.map (·.key) = ks.map St.val) {s : St} (hs : s ∈ ks) :
    ∃ e, e ∈ es ∧ e.key = s.val ∧ alookup Tryz.prog H 72 (.map (some K)) s.val true = some (.tuple #[e.val, .bool true]) := by
  have hm : mapT Tryz.prog 72 = some (79, 51) := by kernel_rfl
  have hl : ks.idxOf s < ks.length := List.idxOf_lt_length_of_mem hs
  have hlen : es.length = ks.length := by simpa using congrArg List.length hk
  have he : es[ks.idxOf s]? = some (es[ks.idxOf s]'(by omega)) := List.getElem?_eq_getElem (by omega)
  refine ⟨es[ks.idxOf s]'(by omega), List.getElem_mem _, ?_, ?_⟩
  · have := congrArg (fun l => l[ks.idxOf s]?) hk
    simp only [List.getElem?_map, he, Option.map_some, List.getElem?_eq_getElem hl, Option.some.injEq] at this
    rw [this, List.getElem_idxOf hl]
  · unfold alookup
    simp only [hm, hK, fits_st, check_st, findAt_key keySt s es ks 0 hk, hs, if_true, and_self, Nat.zero_add, he]
end Go.Proofs.YtihpfgnigpmihaaGreat
