/- Operations over abstract heaps: make, maps. -/
import Derived.Test.YtfolofhknhgpiaaGreatDoorA9
import Derived.Laws.MakeOwn
set_option linter.unusedVariables false
set_option linter.unusedSimpArgs false
namespace Go.Proofs.YtfolofhknhgpiaaGreatDoor
open Go

section
variable {P : Program} {w0 : World} {fr : Nat → Option Obj} {φ : Plan} {H : AHeap} {w : World}

theorem wrap_i64 (n : Int) (h0 : -9223372036854775808 ≤ n) (h1 : n ≤ 9223372036854775807) : IntKind.i64.wrap n = n := by
  show (if (true && decide (n % (2 ^ 64 : Int) ≥ (2 ^ (64 - 1) : Int))) then n % (2 ^ 64 : Int) - (2 ^ 64 : Int) else n % (2 ^ 64 : Int)) = n
  simp only [Bool.true_and, decide_eq_true_eq]
  have e1 : (2 ^ 64 : Int) = 18446744073709551616 := by decide
  have e2 : (2 ^ (64 - 1) : Int) = 9223372036854775808 := by decide
  rw [e1, e2]
  split <;> omega

/-! ### make([]T, n, c) -/
def amakeSlice (P : Program) (H : AHeap) (t : TypeId) (n c : Value) : Option (Value × AHeap) :=
  match n, c with
  | .int _ n, .int _ c => match sliceT P t with
    | some (e, s, b) => match zeroC P e with
      | some z => if s = 1 ∧ z.oneCell' = true ∧ 0 < b ∧ 0 ≤ n ∧ n ≤ c ∧ c * b ≤ 140737488355328 then
          some (.slice (some ⟨H.next, 0, none⟩) n.toNat c.toNat, H.push (.cells (List.replicate c.toNat z) e false))
        else none
      | none => none
    | none => none
  | _, _ => none

theorem vcells_one {z : Value} (h : z.oneCell' = true) : vcells z = [z] := by cases z <;> first | rfl | simp [Value.oneCell'] at h

theorem makeSlice_run (hR : Rel P w0 fr φ H w) {t : TypeId} {n c cn cc v : Value} {H' : AHeap} (h : amakeSlice P H t n c = some (v, H')) (hn : RV φ n cn) (hc : RV φ c cc) :
    Done P w0 fr φ w (Instr.makeSlice t cn cc) v H' := by
  unfold amakeSlice at h
  split at h
  · rename_i k1 n k2 c
    cases hn; cases hc
    split at h
    · rename_i e s b hsl
      obtain ⟨hu, i, hi, his, hib⟩ := sliceT_spec hsl
      split at h
      · rename_i z hz
        obtain ⟨z1, z2⟩ := run_zeroC hz w
        split at h
        · rename_i hcond
          obtain ⟨hs1, hone, hb0, hn0, hnc, hcb⟩ := hcond
          cases h
          obtain ⟨n', rfl⟩ := Int.eq_ofNat_of_zero_le hn0
          obtain ⟨c', rfl⟩ := Int.eq_ofNat_of_zero_le (show (0 : Int) ≤ c by omega)
          have hcb' : c' * b ≤ 140737488355328 := by omega
          have hle : c' ≤ c' * b := Nat.le_mul_of_pos_right _ hb0
          have hw1 : IntKind.i64.wrap (n' : Int) = n' := by
            exact wrap_i64 _ (by omega) (by omega)
          have hw2 : IntKind.i64.wrap (c' : Int) = c' := by
            exact wrap_i64 _ (by omega) (by omega)
          have hN := hR.newCells (vs := List.replicate c' z) (cs := List.replicate c' z) e (by
            have := (RV.of_closed (φ := φ) z2)
            exact ⟨rfl, fun j x y hx hy => by
              rw [List.getElem?_replicate] at hx hy
              split at hx
              · cases hx; rename_i hj; rw [if_pos hj] at hy; cases hy; exact this
              · cases hx⟩)
          refine ⟨.slice (some ⟨w.heap.size, 0, none⟩) n' c', _, _, ?_, Plan.le_put hR.next_none _, hN, ?_⟩
          · have hbz : (i.bytes : Int) * (c' : Int) ≤ 2 ^ 48 := by
              rw [hib, Int.mul_comm]; omega
            have hbz2 : (i.bytes : Int) * (n' : Int) ≤ 2 ^ 48 := by
              rw [hib]
              have : b * n' ≤ c' * b := by rw [Nat.mul_comm]; exact Nat.mul_le_mul_right _ (by omega)
              have h2 : ((b * n' : Nat) : Int) ≤ 2 ^ 48 := by omega
              simpa using h2
            have hroom : ¬ (((c' : Int).toNat * i.bytes) > roomBytes) := by
              rw [hib]; simp only [Int.toNat_natCast, roomBytes]; omega
            simp only [Instr.makeSlice, Sem.run_bind, run_underlying hu, Result.andThen_ok, asInt, asIntOf, Sem.run_pure, run_typeInfo w hi, hw1, hw2]
            have ht : (decide ((c' : Int) < 0) || decide ((i.bytes : Int) * (c' : Int) > 2 ^ 48)) = false := by
              simp only [Bool.or_eq_false_iff, decide_eq_false_iff_not]
              exact ⟨by omega, by omega⟩
            have htl : (decide ((n' : Int) < 0) || decide ((i.bytes : Int) * (n' : Int) > 2 ^ 48)) = false := by
              simp only [Bool.or_eq_false_iff, decide_eq_false_iff_not]
              exact ⟨by omega, by omega⟩
            rw [if_neg (by rw [ht]; simp; omega)]
            simp only [Sem.run_bind, askRoom]
            rw [if_neg hroom]
            simp only [Sem.run_pure, Result.andThen_ok, run_sizeOf' (sliceT_sz hsl), hs1, Nat.mul_one, Int.toNat_natCast]
            have hzc : z.cells = #[z] := by rw [← Array.toList_inj, vcells_eq, vcells_one hone]
            by_cases h0 : c' = 0
            · subst h0
              simp only [if_true, Sem.run_pure, Sem.run_bind, Result.andThen_ok, newRow, newObj, Sem.run, World.alloc]
              rw [show Array.range 0 = #[] from rfl, Array.map_empty]
              rfl
            · simp only [h0, if_false, Sem.run_bind, z1, Result.andThen_ok, Sem.run_pure, newRow, newObj, Sem.run, World.alloc, hzc]
              congr 2
              congr 1
              congr 1
              apply Array.ext'
              simp only [Array.toList_map, Array.toList_range, List.size_toArray, List.length_cons, List.length_nil, Nat.zero_add, Nat.mod_one]
              refine List.ext_getElem? fun j => ?_
              rw [List.getElem?_map, List.getElem?_replicate]
              by_cases hj : j < c'
              · rw [List.getElem?_range hj, if_pos hj]; rfl
              · rw [List.getElem?_eq_none (by simpa using hj), if_neg hj]; rfl
          · have : RV (φ.put H.next ⟨w.heap.size, 0, (List.replicate c' z).length, P.cellsOf e⟩) (.slice (some ⟨H.next, 0, none⟩) n' c') (.slice (some ⟨w.heap.size, 0 + 0, none⟩) n' c') :=
              .slice (l := ⟨w.heap.size, 0, (List.replicate c' z).length, P.cellsOf e⟩) (by simp [Plan.put]) (.inl ⟨by omega, rfl⟩)
            exact this
        · cases h
      · cases h
    · cases h
  · cases h

/-! ### Maps -/
def amakeMap (H : AHeap) : Value × AHeap := (.map (some H.next), H.push (.map [] 0))
theorem newMap_run (hR : Rel P w0 fr φ H w) : Done P w0 fr φ w (do pure (.map (some (← newObj (.map #[] 0))))) (amakeMap H).1 (amakeMap H).2 := by
  have h := hR.alloc (.map #[] 0) (.map [] 0) ⟨w.heap.size, 0, 1, 0⟩ rfl fun ψ _ => ⟨rfl, rfl, hR.fresh, #[], heap_alloc_new' _, rfl, fun i x y a => by simp at a⟩
  refine ⟨.map (some w.heap.size), _, _, ?_, Plan.le_put hR.next_none _, h, .map (l := ⟨w.heap.size, 0, 1, 0⟩) (by simp [Plan.put, amakeMap])⟩
  simp only [newObj, Sem.run_bind, Sem.run, Result.andThen_ok, Sem.run_pure, World.alloc]

/-- A map turned. -/
theorem Rel.setMap (hR : Rel P w0 fr φ H w) {M : Nat} {es : List MapEntry} {ck : Nat} (hM : H.get M = some (.map es ck)) {l : Loc} (hl : φ M = some l) (es' : List MapEntry) (ck' : Nat) {fs' : Array MapEntry} (hr : RE φ es' fs'.toList) :
    Rel P w0 fr φ (H.set M (.map es' ck')) { w with heap := w.heap.setIfInBounds l.blk (.map fs' ck') } := by
  obtain ⟨l', p, q⟩ := hR.lies _ _ hM
  rw [hl] at p; cases p
  have hlt := q.lt
  have q0 := q
  obtain ⟨q1, q2, q3, fs, q4, q5⟩ := q
  refine ⟨hR.os, hR.tape, hR.output, by simpa using hR.size, fun b o e => ?_, hR.dom, fun j b hj => ?_, fun j hj => ?_, fun j k b c m n hne ej ek hb hm hn => ?_⟩
  · rw [Array.getElem?_setIfInBounds_ne (by rintro rfl; rw [q3] at e; cases e)]
    exact hR.frame b o e
  · by_cases hji : j = M
    · subst hji
      rw [AHeap.get_set_same hM] at hj; cases hj
      exact ⟨l, hl, q1, q2, q3, fs', by simp [hlt], hr⟩
    · rw [AHeap.get_set_ne hji] at hj
      obtain ⟨k, r1, r2⟩ := hR.lies j b hj
      refine ⟨k, r1, r2.keep (Plan.le_refl φ) ?_⟩
      rw [Array.getElem?_setIfInBounds_ne]
      intro hb
      have ap := hR.disj M j _ _ l k (Ne.symm hji) hM hj rfl hl r1
      -- the block is a map's
      cases b with
      | cells vs e ro => obtain ⟨cs, e', z, h1, _⟩ := r2; rw [← hb, q4] at h1; cases h1
      | map es2 ck2 =>
        obtain ⟨a1, a2, _⟩ := r2
        exact ap hb
      | iter s pos => obtain ⟨_, _, _, h1⟩ := r2; rw [← hb, q4] at h1; cases h1
  · obtain ⟨a, b, c⟩ := hR.resv j hj
    refine ⟨a, b, ?_⟩
    rw [AHeap.get_set_ne (by rintro rfl; rw [hM] at c; cases c)]
    exact c
  · have key : ∀ x y, (H.set M (.map es' ck')).get x = some y → ∃ y', H.get x = some y' ∧ y'.rw = y.rw := fun x y hxy => by
      by_cases hxi : x = M
      · subst hxi; rw [AHeap.get_set_same hM] at hxy; cases hxy; exact ⟨_, hM, rfl⟩
      · rw [AHeap.get_set_ne hxi] at hxy; exact ⟨y, hxy, rfl⟩
    obtain ⟨b', eb, rb⟩ := key _ _ ej
    obtain ⟨c', ec, rc⟩ := key _ _ ek
    exact hR.disj j k b' c' m n hne eb ec (rb.trans hb) hm hn

def findIn (P : Program) (kt : TypeId) (k : Value) (es : List MapEntry) : Option (Option Nat) :=
  if keyFits P kt k = true ∧ runPure P (Instr.checkKey false 10000 kt k) = some () then findQ P kt k es else none

theorem sameBits_flat {v : Value} (h : Instr.sameBits 10000 v v = true) : (Instr.keyThatStays v v) = pure v := by
  unfold Instr.keyThatStays; rw [if_pos h]

/-- The entries behind m[k] = x. -/
def aput (P : Program) (kt : TypeId) (k x : Value) (es : List MapEntry) (ck : Nat) : Option (List MapEntry × Nat) :=
  match findIn P kt k es with
  | some (some i) => match es[i]? with
    | some e => if Instr.sameBits 10000 e.key k = true then some (es.set i { e with key := k, val := x }, ck) else none
    | none => none
  | some none => some (es ++ [⟨k, x, ck⟩], ck + 1)
  | none => none

theorem RE.set {φ : Plan} {es fs : List MapEntry} (h : RE φ es fs) (i : Nat) {e f : MapEntry} (hf : flat e.key = true) (hk : f.key = e.key) (hb : f.born = e.born) (hv : RV φ e.val f.val) : RE φ (es.set i e) (fs.set i f) := by
  refine ⟨by simp [h.1], fun j x y hx hy => ?_⟩
  rw [List.getElem?_set] at hx hy
  by_cases hij : i = j
  · subst hij
    simp only [if_true] at hx hy
    split at hx
    · split at hy
      · cases hx; cases hy; exact ⟨hf, hk, hb, hv⟩
      · cases hy
    · cases hx
  · rw [if_neg hij] at hx hy; exact h.2 j x y hx hy
theorem RE.snoc {φ : Plan} {es fs : List MapEntry} (h : RE φ es fs) {e f : MapEntry} (hf : flat e.key = true) (hk : f.key = e.key) (hb : f.born = e.born) (hv : RV φ e.val f.val) : RE φ (es ++ [e]) (fs ++ [f]) := by
  refine ⟨by simp [h.1], fun j x y hx hy => ?_⟩
  by_cases hj : j < es.length
  · rw [List.getElem?_append_left hj] at hx
    rw [List.getElem?_append_left (h.1 ▸ hj)] at hy
    exact h.2 j x y hx hy
  · rw [List.getElem?_append_right (by omega)] at hx
    rw [List.getElem?_append_right (by have := h.1; omega), ← h.1] at hy
    cases hq : j - es.length with
    | zero => rw [hq] at hx hy; simp at hx hy; subst hx hy; exact ⟨hf, hk, hb, hv⟩
    | succ m => rw [hq] at hx; simp at hx

theorem RE.get {φ : Plan} {es fs : List MapEntry} (h : RE φ es fs) {i : Nat} {e : MapEntry} (he : es[i]? = some e) : ∃ f, fs[i]? = some f ∧ f.key = e.key ∧ f.born = e.born ∧ RV φ e.val f.val ∧ flat e.key = true := by
  have hi : i < es.length := by
    rcases Nat.lt_or_ge i es.length with h1 | h1
    · exact h1
    · rw [List.getElem?_eq_none h1] at he; cases he
  have hj : i < fs.length := by rw [← h.1]; exact hi
  obtain ⟨a, b, c, d⟩ := h.2 i e fs[i] he (List.getElem?_eq_getElem hj)
  exact ⟨fs[i], List.getElem?_eq_getElem hj, b, c, d, a⟩

theorem toList_modify {α : Type} (a : Array α) (i : Nat) (f : α → α) : (a.modify i f).toList = a.toList.modify i f := by
  refine List.ext_getElem? fun j => ?_
  rw [Array.getElem?_toList, Array.getElem?_modify, List.getElem?_modify, Array.getElem?_toList]
  by_cases h : i = j
  · simp only [h, if_true]; rfl
  · simp only [h, if_false]; simp
theorem modify_eq_set {α : Type} {l : List α} {i : Nat} {x : α} (h : l[i]? = some x) (f : α → α) : l.modify i f = l.set i (f x) := by
  refine List.ext_getElem? fun j => ?_
  rw [List.getElem?_modify, List.getElem?_set]
  by_cases hij : i = j
  · subst hij
    have : i < l.length := by
      rcases Nat.lt_or_ge i l.length with h1 | h1
      · exact h1
      · rw [List.getElem?_eq_none h1] at h; cases h
    have hx : l[i] = x := by rw [List.getElem?_eq_getElem this] at h; cases h; rfl
    simp [this, hx]
  · simp [hij]

def amapUpdate (P : Program) (H : AHeap) (t : TypeId) (m k x : Value) : Option AHeap :=
  match mapT P t, m with
  | some (kt, _), .map (some M) => match H.get M with
    | some (.map es ck) => match aput P kt k x es ck with
      | some (es', ck') => some (H.set M (.map es' ck'))
      | none => none
    | _ => none
  | _, _ => none

theorem mapUpdate_run (hR : Rel P w0 fr φ H w) {t : TypeId} {m k x cm ck cx : Value} {H' : AHeap} (h : amapUpdate P H t m k x = some H') (hm : RV φ m cm) (hk : RV φ k ck) (hx : RV φ x cx) :
    ∃ w', (Instr.mapUpdate t cm ck cx).run P w = .ok () w' ∧ Rel P w0 fr φ H' w' := by
  unfold amapUpdate at h
  split at h
  · rename_i kt et M hmt
    split at h
    · rename_i es clk hM
      split at h
      · rename_i es' ck' hput
        cases h
        cases hm with
        | map ep =>
          rename_i l
          obtain ⟨l', p, q⟩ := hR.lies _ _ hM
          rw [ep] at p; cases p
          obtain ⟨q1, q2, q3, fs, q4, q5⟩ := q
          have hg : (getObj l.blk).run P w = .ok (.map fs clk) w := by simp [getObj, Sem.run, q4]
          have hset : ∀ (fs' : Array MapEntry) (c : Nat), (setObj l.blk (.map fs' c)).run P w = .ok () { w with heap := w.heap.setIfInBounds l.blk (.map fs' c) } := fun fs' c => by simp [setObj, Sem.run, q4]
          unfold aput findIn at hput
          split at hput
          · rename_i i hfind
            split at hfind
            · rename_i hc
              have hfl : flat k = true := by have := hc.1; unfold keyFits at this; simp only [Bool.and_eq_true] at this; exact this.1
              rw [hk.flat_eq hfl]
              split at hput
              · rename_i e he
                split at hput
                · rename_i hsb
                  cases hput
                  obtain ⟨f, hf, fk, fb, fv, ff⟩ := q5.get he
                  have hfr := findKey_run hc.1 q5 hfind w
                  have hfi : fs[i]? = some f := by simpa using hf
                  have hfound : foundIn fs.toList 0 (some i) = some (i, f.val) := by simp [foundIn, hfi]
                  rw [hfound] at hfr
                  have hre := q5.set i (e := { e with key := k, val := x }) (f := { f with key := k, val := cx }) hfl rfl fb hx
                  refine ⟨{ w with heap := w.heap.setIfInBounds l.blk (.map (fs.modify i fun e => { e with key := k, val := cx }) clk) }, ?_, hR.setMap hM ep _ _ ?_⟩
                  · simp only [Instr.mapUpdate, Sem.run_bind, run_underlying (mapT_spec hmt), Result.andThen_ok, hg, runPure_run (P := P) _ hc.2 w, hfr, hfi, Option.map_some, Option.getD_some]
                    have hst : Instr.keyThatStays f.key k = pure k := by unfold Instr.keyThatStays; rw [if_pos (by rw [fk]; exact hsb)]
                    rw [hst]
                    simp only [Sem.run_pure, Result.andThen_ok]
                    exact hset _ _
                  · rw [toList_modify, modify_eq_set hf]
                    exact hre
                · cases hput
              · cases hput
            · cases hfind
          · rename_i hfind
            split at hfind
            · rename_i hc
              have hfl : flat k = true := by have := hc.1; unfold keyFits at this; simp only [Bool.and_eq_true] at this; exact this.1
              rw [hk.flat_eq hfl]
              cases hput
              have hfr := findKey_run hc.1 q5 hfind w
              have hre := q5.snoc (e := ⟨k, x, clk⟩) (f := ⟨k, cx, clk⟩) hfl rfl rfl hx
              refine ⟨{ w with heap := w.heap.setIfInBounds l.blk (.map (fs.push ⟨k, cx, clk⟩) (clk + 1)) }, ?_, hR.setMap hM ep _ _ (by simpa using hre)⟩
              simp only [Instr.mapUpdate, Sem.run_bind, run_underlying (mapT_spec hmt), Result.andThen_ok, hg, runPure_run (P := P) _ hc.2 w, hfr, foundIn, Option.bind_none]
              exact hset _ _
            · cases hfind
          · cases hput
      · cases h
    · cases h
  · cases h
end
end Go.Proofs.YtfolofhknhgpiaaGreatDoor
