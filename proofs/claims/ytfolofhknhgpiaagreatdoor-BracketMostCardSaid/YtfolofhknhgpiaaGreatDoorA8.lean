/- Operations over abstract heaps that make or write memory: variables, rows. -/
import Derived.Test.YtfolofhknhgpiaaGreatDoorA7
set_option linter.unusedVariables false
set_option linter.unusedSimpArgs false
namespace Go.Proofs.YtfolofhknhgpiaaGreatDoor
open Go

theorem RV.one {φ : Plan} {v cv : Value} (h : RV φ v cv) : cv.oneCell' = v.oneCell' := by cases h <;> rfl
theorem RL.one {φ : Plan} {xs ys : List Value} (h : RL φ xs ys) (k : xs.all (·.oneCell') = true) : ∀ y ∈ ys, y.oneCell' = true := by
  intro y hy
  obtain ⟨i, hi⟩ := List.mem_iff_getElem?.1 hy
  have hlt : i < xs.length := by
    rw [h.1]
    rcases Nat.lt_or_ge i ys.length with h1 | h1
    · exact h1
    · rw [List.getElem?_eq_none h1] at hi; cases hi
  rw [(h.2 i xs[i] y (List.getElem?_eq_getElem hlt) hi).one]
  exact List.all_eq_true.1 k _ (List.getElem_mem hlt)

section
variable {P : Program} {w0 : World} {fr : Nat → Option Obj} {φ : Plan} {H : AHeap} {w : World}

/-- What an operation that makes or writes memory leaves. -/
def Done (P : Program) (w0 : World) (fr : Nat → Option Obj) (φ : Plan) (w : World) (s : Sem Value) (v : Value) (H' : AHeap) : Prop :=
  ∃ cv w' φ', s.run P w = .ok cv w' ∧ φ.le φ' ∧ Rel P w0 fr φ' H' w' ∧ RV φ' v cv

/-! ### Variables -/
def anew (H : AHeap) (e : TypeId) (v : Value) : Value × AHeap := (.pointer (some ⟨H.next, 0, none⟩), H.push (.cells (vcells v) e false))
theorem new_run (hR : Rel P w0 fr φ H w) {e : TypeId} {v cv : Value} (hv : RV φ v cv) :
    Done P w0 fr φ w (do pure (.pointer (some (← newVar e cv)))) (anew H e v).1 (anew H e v).2 := by
  have h := hR.newCells e hv.cells
  refine ⟨.pointer (some ⟨w.heap.size, 0, none⟩), _, _, ?_, Plan.le_put hR.next_none _, h, ?_⟩
  · simp only [newVar, newRow, newObj, Sem.run_bind]
    simp only [Sem.run, Result.andThen_ok, Sem.run_pure, World.alloc]
    rw [← vcells_eq]
  · have : RV (φ.put H.next ⟨w.heap.size, 0, (vcells cv).length, P.cellsOf e⟩) (.pointer (some ⟨H.next, 0, none⟩)) (.pointer (some ⟨w.heap.size, 0 + 0, none⟩)) :=
      .ptr (l := ⟨w.heap.size, 0, (vcells cv).length, P.cellsOf e⟩) (by simp [Plan.put])
    exact this

def aalloc (P : Program) (H : AHeap) (e : TypeId) : Option (Value × AHeap) := (zeroC P e).map (anew H e)
theorem alloc_run (hR : Rel P w0 fr φ H w) {e : TypeId} {v : Value} {H' : AHeap} (h : aalloc P H e = some (v, H')) : Done P w0 fr φ w (Instr.alloc e true (.tuple #[])) v H' := by
  obtain ⟨z, hz, he⟩ := Option.map_eq_some_iff.1 h
  obtain ⟨h1, h2⟩ := run_zeroC hz w
  obtain ⟨cv, w', φ', a, b⟩ := new_run hR (e := e) (RV.of_closed (φ := φ) h2)
  rw [he] at b
  refine ⟨cv, w', φ', ?_, b⟩
  simp only [Instr.alloc, Sem.run_bind, h1, Result.andThen_ok]
  rw [Sem.run_bind] at a
  exact a
theorem box_run (hR : Rel P w0 fr φ H w) {e : TypeId} {v cv : Value} (hv : RV φ v cv) : Done P w0 fr φ w (Instr.box e cv) (anew H e v).1 (anew H e v).2 := new_run hR hv

def astore (P : Program) (H : AHeap) (t : TypeId) (p v : Value) : Option AHeap :=
  match p with
  | .pointer (some a) => match H.get a.block with
    | some (.cells vs e false) => if szT P t = some (vcells v).length ∧ (vcells v).all (·.oneCell') = true ∧ a.off + (vcells v).length ≤ vs.length then
        some (H.set a.block (.cells (putCells vs a.off (vcells v)) e false)) else none
    | _ => none
  | _ => none
theorem store_run (hR : Rel P w0 fr φ H w) {t : TypeId} {p v cp cv : Value} {H' : AHeap} (h : astore P H t p v = some H') (hp : RV φ p cp) (hv : RV φ v cv) :
    ∃ w', (Instr.storeAt t cp cv).run P w = .ok () w' ∧ Rel P w0 fr φ H' w' := by
  unfold astore at h
  split at h
  · rename_i a
    split at h
    · rename_i vs e hH
      split at h
      · rename_i hc
        cases h
        cases hp with
        | ptr ep =>
          rename_i B o l
          obtain ⟨l', q, h1, h2, h3⟩ := hR.cells hH
          simp only at q hH hc
          rw [ep] at q; cases q
          have hcl := hv.cells
          have hlen : (vcells cv).length = (vcells v).length := hcl.1.symm
          refine ⟨_, ?_, hR.write hH ep hcl hc.2.2⟩
          have hst := run_storeCells_cells (P := P) l.blk (l.base + o) (vcells cv) 0 w (fun j hj => by
            rw [show l.base + o + 0 + j = l.base + (o + j) from by omega]
            exact ((h3 rfl).2 (o + j) (by omega)).1) (fun j hj => by
            rw [show l.base + o + 0 + j = l.base + (o + j) from by omega]
            exact ((h3 rfl).2 (o + j) (by omega)).2) (hcl.one hc.2.1)
          simp only [Instr.storeAt, Instr.sureAddr, Sem.run_bind, Sem.run_pure, Result.andThen_ok, storeVar, run_sizeOf' hc.1]
          have hsz : cv.cells.size = (vcells v).length := by rw [← Array.length_toList, vcells_eq, hlen]
          rw [hsz]
          simp only [ne_eq, not_true_eq_false, if_false, Sem.run_bind, Sem.run_pure, Result.andThen_ok, vcells_eq]
          exact hst
      · cases h
    · cases h
  · cases h

/-! ### Rows -/
def abuildSlice (P : Program) (H : AHeap) (t : TypeId) (len : Nat) (ps : List (Nat × Value)) : Option (Value × AHeap) :=
  match sliceT P t with
  | some (e, s, _) => match zeroC P e with
    | some z => if len * s ≤ 16777216 ∧ (vcells z).length = s ∧ len ≤ 16777216 then
        match afill (fun i => some (i * s, s)) ((List.replicate len (vcells z)).flatten) ps with
        | some cs => some (.slice (some ⟨H.next, 0, none⟩) len len, H.push (.cells cs e false))
        | none => none
      else none
    | none => none
  | none => none

theorem zeros_eq (z : Array Value) (n : Nat) (hz : 0 < z.size ∨ n = 0) : ((Array.range (n * z.size)).map (fun i => z[i % z.size]!)).toList = (List.replicate n z.toList).flatten := by
  rcases hz with hz | rfl
  · refine List.ext_getElem? fun i => ?_
    induction n generalizing i with
    | zero => simp
    | succ n ih =>
      rw [List.replicate_succ, List.flatten_cons]
      by_cases hi : i < z.size
      · rw [List.getElem?_append_left (by simpa using hi)]
        simp only [Array.toList_map, Array.toList_range, List.getElem?_map, List.getElem?_range, Array.getElem?_toList]
        rw [List.getElem?_range (by rw [Nat.add_mul, Nat.one_mul]; omega)]
        simp [Nat.mod_eq_of_lt hi, hi]
      · rw [List.getElem?_append_right (by simpa using Nat.le_of_not_lt hi)]
        have := ih (i - z.size)
        simp only [Array.length_toList]
        rw [← this]
        simp only [Array.toList_map, Array.toList_range, List.getElem?_map]
        by_cases hi2 : i < (n + 1) * z.size
        · rw [List.getElem?_range hi2, List.getElem?_range (by rw [Nat.add_mul, Nat.one_mul] at hi2; omega)]
          simp only [Option.map_some]
          congr 2
          exact (Nat.mod_eq_sub_mod (Nat.le_of_not_lt hi))
        · rw [List.getElem?_eq_none (by simpa using Nat.le_of_not_lt hi2), List.getElem?_eq_none (by simp; rw [Nat.add_mul, Nat.one_mul] at hi2; omega)]
  · simp

theorem flatten_nils {α : Type} (n : Nat) : (List.replicate n ([] : List α)).flatten = [] := by
  induction n with
  | zero => rfl
  | succ n ih => rw [List.replicate_succ, List.flatten_cons, ih]; rfl
theorem RL.zeros {φ : Plan} {cs : List Value} (h : RL φ cs cs) (n : Nat) : RL φ ((List.replicate n cs).flatten) ((List.replicate n cs).flatten) := by
  induction n with
  | zero => exact RL.nil φ
  | succ n ih => rw [List.replicate_succ, List.flatten_cons]; exact h.append ih

theorem buildSlice_run (hR : Rel P w0 fr φ H w) {t : TypeId} {len : Nat} {ps : List (Nat × Value)} {qs : Array (Nat × Value)} {v : Value} {H' : AHeap} (h : abuildSlice P H t len ps = some (v, H')) (hp : RP φ ps qs.toList) :
    Done P w0 fr φ w (Instr.buildSlice t len qs) v H' := by
  unfold abuildSlice at h
  split at h
  · rename_i e s by' hsl
    obtain ⟨hu, _⟩ := sliceT_spec hsl
    split at h
    · rename_i z hz
      obtain ⟨z1, z2⟩ := run_zeroC hz w
      split at h
      · rename_i hc
        split at h
        · rename_i cs hcs
          cases h
          have hzl : z.cells.toList = vcells z := vcells_eq z
          have hzs : z.cells.size = s := by rw [← Array.length_toList, hzl]; exact hc.2.1
          have hRL : RL φ (vcells z) (vcells z) := by have := (RV.of_closed (φ := φ) z2).cells; exact this
          have key : ∃ r', Instr.fill (fun i => some (i * s, s)) ((Array.range (len * s)).map ((if len * s = 0 then #[] else z.cells)[· % (if len * s = 0 then (#[] : Array Value) else z.cells).size]!)) qs.toList = some r' ∧ RL φ cs r'.toList := by
            refine fill_run _ ps qs.toList _ _ _ hp ?_ hcs
            by_cases h0 : len * s = 0
            · have : (List.replicate len (vcells z)).flatten = [] := by
                rcases Nat.mul_eq_zero.1 h0 with rfl | hs0
                · rfl
                · have : vcells z = [] := List.eq_nil_of_length_eq_zero (by rw [hc.2.1, hs0])
                  rw [this]
                  exact flatten_nils len
              rw [this, h0]
              simpa using RL.nil φ
            · simp only [h0, if_false]
              rw [show len * s = len * z.cells.size from by rw [hzs], zeros_eq z.cells len (.inl (by rw [hzs]; exact Nat.pos_of_ne_zero (fun e => h0 (by rw [e, Nat.mul_zero])))), hzl]
              exact hRL.zeros len
          obtain ⟨r', k1, k2⟩ := key
          have hN := hR.newCells e k2
          refine ⟨.slice (some ⟨w.heap.size, 0, none⟩) len len, _, _, ?_, Plan.le_put hR.next_none _, hN, ?_⟩
          · simp only [Instr.buildSlice, Sem.run_bind, run_underlying hu, Result.andThen_ok, run_sizeOf' (sliceT_sz hsl)]
            rw [if_neg (by omega)]
            by_cases h0 : len * s = 0
            · simp only [h0, if_true, Sem.run_pure, Sem.run_bind, Result.andThen_ok] at k1 ⊢
              rw [k1]
              simp only [newRow, newObj, Sem.run_bind, Sem.run, Result.andThen_ok, Sem.run_pure, World.alloc, Array.toArray_toList]
            · simp only [h0, if_false, Sem.run_pure, Sem.run_bind, Result.andThen_ok, z1] at k1 ⊢
              rw [k1]
              simp only [newRow, newObj, Sem.run_bind, Sem.run, Result.andThen_ok, Sem.run_pure, World.alloc, Array.toArray_toList]
          · have : RV (φ.put H.next ⟨w.heap.size, 0, r'.toList.length, P.cellsOf e⟩) (.slice (some ⟨H.next, 0, none⟩) len len) (.slice (some ⟨w.heap.size, 0 + 0, none⟩) len len) :=
              .slice (l := ⟨w.heap.size, 0, r'.toList.length, P.cellsOf e⟩) (by simp [Plan.put]) (.inl ⟨by omega, rfl⟩)
            exact this
        · cases h
      · cases h
    · cases h
  · cases h
end
end Go.Proofs.YtfolofhknhgpiaaGreatDoor
