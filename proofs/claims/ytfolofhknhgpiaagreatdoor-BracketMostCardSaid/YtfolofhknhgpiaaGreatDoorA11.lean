/- Operations over abstract heaps: m[k] op= x; all that reads, all that writes, in one function each. -/
import Derived.Test.YtfolofhknhgpiaaGreatDoorA10
import Derived.Laws.BytesString
import Derived.Laws.Cells
import Derived.Lib.SliceRun
set_option linter.unusedVariables false
set_option linter.unusedSimpArgs false
namespace Go.Proofs.YtfolofhknhgpiaaGreatDoor
open Go

section
variable {P : Program} {w0 : World} {fr : Nat → Option Obj} {φ : Plan} {H : AHeap} {w : World}

def amapEntry (P : Program) (H : AHeap) (t : TypeId) (m k : Value) : Option (Value × AHeap) :=
  match mapT P t, m with
  | some (kt, et), .map (some M) => match H.get M with
    | some (.map es ck) => match findIn P kt k es with
      | some (some i) => match es[i]? with
        | some e => if Instr.sameBits 10000 e.key k = true then some (.tuple #[e.val, .int .i64 e.born], H.set M (.map (es.set i { e with key := k }) ck)) else none
        | none => none
      | some none => match zeroC P et with
        | some z => some (.tuple #[z, .int .i64 ck], H.set M (.map (es ++ [⟨k, z, ck⟩]) (ck + 1)))
        | none => none
      | none => none
    | _ => none
  | _, _ => none
theorem mapEntry_run (hR : Rel P w0 fr φ H w) {t : TypeId} {m k cm ck v : Value} {H' : AHeap} (h : amapEntry P H t m k = some (v, H')) (hm : RV φ m cm) (hk : RV φ k ck) :
    Done P w0 fr φ w (Instr.mapEntry t cm ck) v H' := by
  unfold amapEntry at h
  split at h
  · rename_i kt et M hmt
    split at h
    · rename_i es clk hM
      cases hm with
      | map ep =>
        rename_i l
        obtain ⟨l', p, q⟩ := hR.lies _ _ hM
        rw [ep] at p; cases p
        obtain ⟨q1, q2, q3, fs, q4, q5⟩ := q
        have hg : (getObj l.blk).run P w = .ok (.map fs clk) w := by simp [getObj, Sem.run, q4]
        have hset : ∀ (fs' : Array MapEntry) (c : Nat), (setObj l.blk (.map fs' c)).run P w = .ok () { w with heap := w.heap.setIfInBounds l.blk (.map fs' c) } := fun fs' c => by simp [setObj, Sem.run, q4]
        split at h
        · rename_i i hfind
          unfold findIn at hfind
          split at hfind
          · rename_i hc
            have hfl : flat k = true := by have := hc.1; unfold keyFits at this; simp only [Bool.and_eq_true] at this; exact this.1
            rw [hk.flat_eq hfl]
            split at h
            · rename_i e he
              split at h
              · rename_i hsb
                cases h
                obtain ⟨f, hf, fk, fb, fv, ff⟩ := q5.get he
                have hfr := findKey_run hc.1 q5 hfind w
                have hfi : fs[i]? = some f := by simpa using hf
                have hfound : foundIn fs.toList 0 (some i) = some (i, f.val) := by simp [foundIn, hfi]
                rw [hfound] at hfr
                have hre := q5.set i (e := { e with key := k }) (f := { f with key := k }) hfl rfl fb fv
                refine ⟨.tuple #[f.val, goInt f.born], { w with heap := w.heap.setIfInBounds l.blk (.map (fs.modify i fun e => { e with key := k }) clk) }, φ, ?_, Plan.le_refl φ, hR.setMap hM ep _ _ ?_, ?_⟩
                · simp only [Instr.mapEntry, Sem.run_bind, run_underlying (mapT_spec hmt), Result.andThen_ok, hg, runPure_run (P := P) _ hc.2 w, hfr, hfi, Option.map_some, Option.getD_some]
                  have hst : Instr.keyThatStays f.key k = pure k := by unfold Instr.keyThatStays; rw [if_pos (by rw [fk]; exact hsb)]
                  rw [hst]
                  simp only [Sem.run_pure, Result.andThen_ok, hset]
                · rw [toList_modify, modify_eq_set hf]
                  exact hre
                · rw [fb]; exact fv.pair (.int _ _)
              · cases h
            · cases h
          · cases hfind
        · rename_i hfind
          unfold findIn at hfind
          split at hfind
          · rename_i hc
            have hfl : flat k = true := by have := hc.1; unfold keyFits at this; simp only [Bool.and_eq_true] at this; exact this.1
            rw [hk.flat_eq hfl]
            split at h
            · rename_i z hz
              cases h
              obtain ⟨z1, z2⟩ := run_zeroC hz w
              have hfr := findKey_run hc.1 q5 hfind w
              have hre := q5.snoc (e := ⟨k, z, clk⟩) (f := ⟨k, z, clk⟩) hfl rfl rfl (.of_closed z2)
              refine ⟨.tuple #[z, goInt clk], { w with heap := w.heap.setIfInBounds l.blk (.map (fs.push ⟨k, z, clk⟩) (clk + 1)) }, φ, ?_, Plan.le_refl φ, hR.setMap hM ep _ _ (by simpa using hre), (RV.of_closed z2).pair (.int _ _)⟩
              simp only [Instr.mapEntry, Sem.run_bind, run_underlying (mapT_spec hmt), Result.andThen_ok, hg, runPure_run (P := P) _ hc.2 w, hfr, foundIn, Option.bind_none, z1, hset, Sem.run_pure]
            · cases h
          · cases hfind
        · cases h
    · cases h
  · cases h

def bornAt (n : Int) : List MapEntry → Nat → Option Nat
  | [], _ => none
  | e :: es, i => if ((e.born : Int) == n) = true then some i else bornAt n es (i + 1)
theorem bornAt_eq {φ : Plan} (n : Int) : ∀ (es fs : List MapEntry) (i : Nat), RE φ es fs → bornAt n es i = bornAt n fs i := by
  intro es
  induction es with
  | nil => intro fs i h; cases fs with
    | nil => rfl
    | cons f fs => have := h.1; simp at this
  | cons e es ih => intro fs i h; cases fs with
    | nil => have := h.1; simp at this
    | cons f fs =>
      obtain ⟨_, _, hb, _⟩ := h.2 0 _ _ rfl rfl
      simp only [bornAt, hb]
      rw [ih fs (i + 1) h.tail]
theorem bornAt_findIdx (n : Int) : ∀ (fs : List MapEntry) (i : Nat), bornAt n fs i = (fs.findIdx? (fun e => (e.born : Int) == n)).map (· + i) := by
  intro fs
  induction fs with
  | nil => intro i; rfl
  | cons f fs ih =>
    intro i
    simp only [bornAt, List.findIdx?_cons]
    split
    · simp
    · rw [ih (i + 1)]
      cases fs.findIdx? (fun e => (e.born : Int) == n) with
      | none => rfl
      | some j => simp; omega
def aentryStore (H : AHeap) (m s x : Value) : Option AHeap :=
  match m, s with
  | .map (some M), .int _ n => match H.get M with
    | some (.map es ck) => match bornAt n es 0 with
      | some i => match es[i]? with
        | some e => some (H.set M (.map (es.set i { e with val := x }) ck))
        | none => none
      | none => none
    | _ => none
  | _, _ => none
theorem entryStore_run (hR : Rel P w0 fr φ H w) {t : TypeId} {m s x cm cs cx : Value} {H' : AHeap} (h : aentryStore H m s x = some H') (hm : RV φ m cm) (hs : RV φ s cs) (hx : RV φ x cx) :
    ∃ w', (Instr.entryStore t cm cs cx).run P w = .ok () w' ∧ Rel P w0 fr φ H' w' := by
  unfold aentryStore at h
  split at h
  · rename_i M k n
    cases hs
    split at h
    · rename_i es clk hM
      cases hm with
      | map ep =>
        rename_i l
        obtain ⟨l', p, q⟩ := hR.lies _ _ hM
        rw [ep] at p; cases p
        obtain ⟨q1, q2, q3, fs, q4, q5⟩ := q
        have hg : (getObj l.blk).run P w = .ok (.map fs clk) w := by simp [getObj, Sem.run, q4]
        have hset : ∀ (fs' : Array MapEntry) (c : Nat), (setObj l.blk (.map fs' c)).run P w = .ok () { w with heap := w.heap.setIfInBounds l.blk (.map fs' c) } := fun fs' c => by simp [setObj, Sem.run, q4]
        split at h
        · rename_i i hb
          split at h
          · rename_i e he
            cases h
            obtain ⟨f, hf, fk, fb, fv, ff⟩ := q5.get he
            have hidx : fs.findIdx? (fun e => (e.born : Int) == n) = some i := by
              rw [bornAt_eq n es fs.toList 0 q5, bornAt_findIdx] at hb
              cases hq : fs.toList.findIdx? (fun e => (e.born : Int) == n) with
              | none => rw [hq] at hb; cases hb
              | some j =>
                rw [hq] at hb; simp at hb; subst hb
                obtain ⟨fs⟩ := fs; rw [List.findIdx?_toArray]; exact hq
            have hre := q5.set i (e := { e with val := x }) (f := { f with val := cx }) ff fk fb hx
            refine ⟨{ w with heap := w.heap.setIfInBounds l.blk (.map (fs.modify i fun e => { e with val := cx }) clk) }, ?_, hR.setMap hM ep _ _ ?_⟩
            · simp only [Instr.entryStore, Sem.run_bind, Sem.run_pure, Result.andThen_ok, hg, asInt, asIntOf, hidx, hset]
            · rw [toList_modify, modify_eq_set hf]
              exact hre
          · cases h
        · cases h
    · cases h
  · cases h

/-! ### All that reads -/
def amapLen (H : AHeap) (P : Program) (t : TypeId) (v : Value) : Option Value :=
  match mapT P t, v with
  | some _, .map none => some (.int .i64 0)
  | some _, .map (some M) => match H.get M with
    | some (.map es _) => some (.int .i64 es.length)
    | _ => none
  | _, _ => none
theorem mapLen_run (hR : Rel P w0 fr φ H w) {t ty : TypeId} {x cx v : Value} (h : amapLen H P t x = some v) (hx : RV φ x cx) : (Builtin.len_ #[t] ty #[cx]).run P w = .ok v w ∧ RV φ v v := by
  unfold amapLen at h
  split at h
  · rename_i e hm
    obtain ⟨kt, et⟩ := e
    cases h; cases hx
    exact ⟨by simp [Builtin.len_, run_underlying (mapT_spec hm), goInt], .int _ _⟩
  · rename_i e M hm
    obtain ⟨kt, et⟩ := e
    split at h
    · rename_i es clk hM
      cases h
      cases hx with
      | map ep =>
        rename_i l
        obtain ⟨l', p, q⟩ := hR.lies _ _ hM
        rw [ep] at p; cases p
        obtain ⟨q1, q2, q3, fs, q4, q5⟩ := q
        have hg : (getObj l.blk).run P w = .ok (.map fs clk) w := by simp [getObj, Sem.run, q4]
        have : fs.size = es.length := by rw [← Array.length_toList, q5.1]
        exact ⟨by simp [Builtin.len_, run_underlying (mapT_spec hm), hg, goInt, this], .int _ _⟩
    · cases h
  · cases h

/-- Bytes out of cells. -/
def intsOf : List Value → Option (List Int)
  | [] => some []
  | .int .u8 n :: l => match intsOf l with
    | some r => some (n :: r)
    | none => none
  | _ => none
theorem intsOf_eq : ∀ (l : List Value) (ns : List Int), intsOf l = some ns → l = ns.map (Value.int .u8)
  | [], ns, h => by cases h; rfl
  | v :: l, ns, h => by
    unfold intsOf at h
    split at h
    · rename_i he; cases he
    · rename_i n l' he
      cases he
      split at h
      · rename_i r hr
        cases h
        rw [List.map_cons, ← intsOf_eq _ r hr]
      · cases h
    · cases h
/-- A slice of bytes as a string. -/
def abytes (P : Program) (H : AHeap) (s d : TypeId) (v : Value) : Option Value :=
  match sliceT P s with
  | some (e, m, _) => if m = 1 ∧ intT P e = some .u8 ∧ stringT P d = true then
      match v with
      | .slice (some a) n _ => if n = 0 then none else match H.get a.block with
        | some (.cells vs _ _) => if a.off + n * 1 ≤ vs.length then match intsOf ((vs.drop a.off).take (n * 1)) with
            | some ns => some (.string (ns.foldl (fun r n => r.push (UInt8.ofNat n.toNat)) ByteArray.empty))
            | none => none
          else none
        | _ => none
      | _ => none
    else none
  | none => none
theorem bytes_run (hR : Rel P w0 fr φ H w) {s d : TypeId} {x cx v : Value} (h : abytes P H s d x = some v) (hx : RV φ x cx) : (convert s d cx).run P w = .ok v w ∧ RV φ v v := by
  unfold abytes at h
  split at h
  · rename_i e m b' hs
    split at h
    · rename_i hc
      obtain ⟨rfl, he, hd⟩ := hc
      split at h
      · rename_i a n c
        split at h
        · cases h
        · rename_i hn0
          split at h
          · rename_i vs e' ro hH
            split at h
            · rename_i hle
              split at h
              · rename_i ns hns
                cases h
                cases hx with
                | sliceDry ep ec => exact absurd rfl hn0
                | slice ep ec =>
                  rename_i B o c' l
                  refine ⟨?_, .string _⟩
                  obtain ⟨cs, q1, q2, q3⟩ := hR.range hH ep hle
                  have heq := intsOf_eq _ _ hns
                  have hcs : cs = ns.map (Value.int .u8) := by
                    have h1 : (((vs.drop o).take (n * 1)).all scalar) = true := by
                      rw [heq, List.all_eq_true]
                      intro v hv
                      obtain ⟨k, _, rfl⟩ := List.mem_map.1 hv
                      rfl
                    rw [q1.scalar_eq h1, heq]
                  have hlen : cs.length = n := by rw [q2]; omega
                  have hload := run_loadCells_list (P := P) w ⟨l.blk, l.base + o, none⟩ cs (fun j v hv => by
                    rw [Addr.add_mid]; exact q3 j v hv)
                  rw [hlen, hcs] at hload
                  obtain ⟨hu, _⟩ := sliceT_spec hs
                  simp only [convert, Sem.run_bind, run_underlying hu, Result.andThen_ok, run_underlying (stringT_spec hd), run_underlying (intT_spec he)]
                  exact run_bytesToString w _ n c' ns hload
              · cases h
            · cases h
          · cases h
      · cases h
    · cases h
  · cases h
/-- A pointer as an unsafe one. -/
def unsafeFrom (P : Program) (s d : TypeId) : Option TypeId := match P.underlying s, P.underlying d with
  | some (.pointer t), some .unsafePointer => some t
  | _, _ => none
def aunsafe (P : Program) (H : AHeap) (t : TypeId) (v : Value) : Option Value := match v, szT P t with
  | .pointer (some a), some (_ + 1) => match H.get a.block with
    | some (.cells vs _ _) => if a.off < vs.length ∧ a.spot = none then some v else none
    | _ => none
  | _, _ => none
/-- An unsafe pointer as one to a variable of its block's own type. -/
def unsafeTo (P : Program) (s d : TypeId) : Option TypeId := match P.underlying s, P.underlying d with
  | some .unsafePointer, some (.pointer t) => some t
  | _, _ => none
def aunback (P : Program) (H : AHeap) (t : TypeId) (v : Value) : Option Value := match v, szT P t with
  | .pointer (some a), some (m + 1) => match H.get a.block with
    | some (.cells vs e false) => if e = t ∧ P.cellsOf e = m + 1 ∧ a.off % (m + 1) = 0 ∧ a.off + (m + 1) ≤ vs.length ∧ a.spot = none then some v else none
    | _ => none
  | _, _ => none
theorem liesAt_own {P : Program} {e : TypeId} {m count off : Nat} (hm : P.cellsOf e = m + 1) (ho : off % (m + 1) = 0) (hc : off / (m + 1) + 1 ≤ count) : liesAt P P.depth e count off e 1 = true := by
  have hd : P.depth = (2 * (P.types.size + Made.depth) + 1) + 1 := rfl
  rw [hd]
  unfold liesAt
  rw [Bool.or_eq_true]
  left
  rw [hd]
  unfold rowAt
  simp only [hm]
  rw [if_neg (Nat.succ_ne_zero m), Bool.or_eq_true]
  left
  have hs : sameLayout P ((2 * (P.types.size + Made.depth) + 1) + 1) e e = true := by
    unfold sameLayout
    rw [Bool.or_eq_true]
    left
    simp
  simp only [Bool.and_eq_true, beq_iff_eq, decide_eq_true_eq]
  exact ⟨⟨ho, hc⟩, hs⟩
theorem unback_run (hR : Rel P w0 fr φ H w) {s d t : TypeId} {x cx v : Value} (hu : unsafeTo P s d = some t) (h : aunback P H t x = some v) (hx : RV φ x cx) : (convert s d cx).run P w = .ok cx w ∧ RV φ v cx := by
  unfold unsafeTo at hu
  split at hu
  · rename_i t' h1 h2
    cases hu
    unfold aunback at h
    split at h
    · rename_i a m hn
      split at h
      · rename_i vs e hH
        split at h
        · rename_i hc
          cases h
          refine ⟨?_, hx⟩
          obtain ⟨rfl, hcm, hom, hov, hsp⟩ := hc
          cases hx with
          | ptr ep =>
            rename_i B o l
            obtain ⟨l', hp, cs, e', z, hw, q2, q3, _, q5⟩ := hR.lies _ _ hH
            rw [ep] at hp
            cases hp
            obtain ⟨_, rfl, q6, _, q7⟩ := q5 rfl
            simp only at hom hov
            have hesz : l.esz = m + 1 := by rw [← q6]; exact hcm
            have hoff : (l.base + o) % (m + 1) = 0 := by rw [Nat.add_mod, ← hesz, q7, hesz, hom]; simp
            have hcount : (l.base + o) / (m + 1) + 1 ≤ cs.size / (m + 1) := by
              rw [Nat.le_div_iff_mul_le (Nat.succ_pos m), Nat.add_mul, Nat.div_mul_cancel (Nat.dvd_of_mod_eq_zero hoff)]
              omega
            have hs1 : (sizeOf e').run P w = .ok (m + 1) w := run_sizeOf' hn w
            have hu1 : (underlying s).run P w = .ok .unsafePointer w := run_underlying h1 w
            have hu2 : (underlying d).run P w = .ok (.pointer e') w := run_underlying h2 w
            have hsh : (shape l.blk).run P w = .ok (some (e', cs.size)) w := by
              simp only [shape, Sem.run, World.shape?, hw]
            have hv : (Conv.seenAt ⟨l.blk, l.base + o, none⟩).run P w = .ok ⟨l.blk, l.base + o, none⟩ w := by
              simp only [Conv.seenAt, viewAt, Sem.run_bind, hsh, Result.andThen_ok, Option.isSome_some, if_true, Sem.run_pure]
            have hva : (variablesAt ⟨l.blk, l.base + o, none⟩ e' 1).run P w = .ok true w := by
              have hpr : (program : Sem Program).run P w = .ok P w := rfl
              simp only [variablesAt, Sem.run_bind, hpr, hsh, Result.andThen_ok, Sem.run_pure]
              rw [hcm, liesAt_own hcm hoff hcount]
            have key : (Conv.unsafePointer s d (.pointer (some ⟨l.blk, l.base + o, none⟩))).run P w = .ok (.pointer (some ⟨l.blk, l.base + o, none⟩)) w := by
              simp only [Conv.unsafePointer, Sem.run_bind, hu1, hu2, Result.andThen_ok, hv, hs1, hva]
              simp
            have hd : (convert s d (.pointer (some ⟨l.blk, l.base + o, none⟩))).run P w = (Conv.unsafePointer s d (.pointer (some ⟨l.blk, l.base + o, none⟩))).run P w := by
              simp only [convert, Sem.run_bind, hu1, hu2, Result.andThen_ok]
            rw [hd]; exact key
        · cases h
      · cases h
    · cases h
  · cases hu
def aconvR (P : Program) (H : AHeap) (s d : TypeId) (v : Value) : Option Value := match unsafeFrom P s d with
  | some t => aunsafe P H t v
  | none => match unsafeTo P s d with
    | some t => aunback P H t v
    | none => abytes P H s d v
theorem unsafe_run (hR : Rel P w0 fr φ H w) {s d t : TypeId} {x cx v : Value} (hu : unsafeFrom P s d = some t) (h : aunsafe P H t x = some v) (hx : RV φ x cx) : (convert s d cx).run P w = .ok cx w ∧ RV φ v cx := by
  unfold unsafeFrom at hu
  split at hu
  · rename_i t' h1 h2
    cases hu
    unfold aunsafe at h
    split at h
    · rename_i a n hn
      split at h
      · rename_i vs e ro hH
        split at h
        · rename_i hc
          cases h
          refine ⟨?_, hx⟩
          cases hx with
          | ptr ep =>
            rename_i B o l
            obtain ⟨l', hp, cs, e', z, hw, q2, q3, _⟩ := hR.lies _ _ hH
            rw [ep] at hp
            cases hp
            have ho : ¬ (l.base + o ≥ cs.size) := by have := hc.1; simp only at this; omega
            have hs1 : (sizeOf t).run P w = .ok (n + 1) w := run_sizeOf' hn w
            have hu1 : (underlying s).run P w = .ok (.pointer t) w := run_underlying h1 w
            have hu2 : (underlying d).run P w = .ok .unsafePointer w := run_underlying h2 w
            have hsh : (shape l.blk).run P w = .ok (some (e', cs.size)) w := by
              simp only [shape, Sem.run, World.shape?, hw]
            have hv : (Conv.seenAt ⟨l.blk, l.base + o, none⟩).run P w = .ok ⟨l.blk, l.base + o, none⟩ w := by
              simp only [Conv.seenAt, viewAt, Sem.run_bind, hsh, Result.andThen_ok, Option.isSome_some, if_true, Sem.run_pure]
            have hci : (cellsIn l.blk).run P w = .ok (some cs.size) w := by
              simp only [cellsIn, Sem.run_bind, hsh, Result.andThen_ok, Sem.run_pure]
            have key : (Conv.unsafePointer s d (.pointer (some ⟨l.blk, l.base + o, none⟩))).run P w = .ok (.pointer (some ⟨l.blk, l.base + o, none⟩)) w := by
              simp only [Conv.unsafePointer, Sem.run_bind, hu1, hu2, Result.andThen_ok, hv, hci, hs1]
              simp [ho]
            have hd : (convert s d (.pointer (some ⟨l.blk, l.base + o, none⟩))).run P w = (Conv.unsafePointer s d (.pointer (some ⟨l.blk, l.base + o, none⟩))).run P w := by
              simp only [convert, Sem.run_bind, hu1, hu2, Result.andThen_ok]
            rw [hd]; exact key
        · cases h
      · cases h
    · cases h
  · cases hu
def rexec (P : Program) (E : AEnv) (H : AHeap) (o : Oper) : Option Value :=
  match o.op with
  | .load t x => match E.eval x with
    | some a => aload P H t a
    | none => none
  | .lookup t x k ok => match E.eval x, E.eval k with
    | some a, some b => alookup P H t a b ok
    | _, _ => none
  | .convert s d x => match E.eval x with
    | some a => aconvR P H s d a
    | none => none
  | .call c => match c.callee with
    | .builtin .len => match evals E c.args.toList, c.argTypes.toList with
      | some [v], [t] => amapLen H P t v
      | _, _ => none
    | .builtin .unsafeSliceData => match evals E c.args.toList with
      | some [.slice (some a) (n + 1) c] => if n + 1 ≤ c then some (.pointer (some a)) else none
      | _ => none
    | _ => none
  | _ => none

theorem arr_one {α : Type} {a : Array α} {x : α} (h : a.toList = [x]) : a = #[x] := by rw [← Array.toList_inj, h]
theorem arr_two {α : Type} {a : Array α} {x y : α} (h : a.toList = [x, y]) : a = #[x, y] := by rw [← Array.toList_inj, h]
theorem RL.one_inv {φ : Plan} {x : Value} {ys : List Value} (h : RL φ [x] ys) : ∃ y, ys = [y] ∧ RV φ x y := by
  obtain ⟨y, hy, r⟩ := h.get (i := 0) rfl
  match ys, h.1, hy with
  | [z], _, hy => simp at hy; subst hy; exact ⟨z, rfl, r⟩
theorem RL.two_inv {φ : Plan} {x x' : Value} {ys : List Value} (h : RL φ [x, x'] ys) : ∃ y y', ys = [y, y'] ∧ RV φ x y ∧ RV φ x' y' := by
  obtain ⟨y, hy, r⟩ := h.get (i := 0) rfl
  obtain ⟨y', hy', r'⟩ := h.get (i := 1) rfl
  match ys, h.1, hy, hy' with
  | [z, z'], _, hy, hy' => simp at hy hy'; subst hy hy'; exact ⟨z, z', rfl, r, r'⟩

theorem rexec_run (hR : Rel P w0 fr φ H w) {E : AEnv} {a : Act} (he : RelE φ E a) {o : Oper} {v : Value} (h : rexec P E H o = some v) :
    ∃ cv, (execOp a.eval o).run P w = .ok (.value cv) w ∧ RV φ v cv := by
  have val : ∀ (s : Sem Value) (cv : Value), s.run P w = .ok cv w → (do pure (Next.value (← s)) : Sem Next).run P w = .ok (.value cv) w := fun s cv hs => by
    rw [Sem.run_bind, hs]; rfl
  unfold rexec at h
  unfold execOp
  split at h
  · rename_i t x hop
    simp only [hop]
    split at h
    · rename_i p hp
      obtain ⟨cv, h1, h2⟩ := load_run hR h (he.eval hp)
      exact ⟨cv, val _ _ h1, h2⟩
    · cases h
  · rename_i t x k ok hop
    simp only [hop]
    split at h
    · rename_i p q hp hq
      obtain ⟨cv, h1, h2⟩ := lookup_run hR h (he.eval hp) (he.eval hq)
      exact ⟨cv, val _ _ h1, h2⟩
    · cases h
  · rename_i s d x hop
    simp only [hop]
    split at h
    · rename_i p hp
      unfold aconvR at h
      split at h
      · rename_i t' hu
        obtain ⟨h1, h2⟩ := unsafe_run hR hu h (he.eval hp)
        exact ⟨_, val _ _ h1, h2⟩
      · split at h
        · rename_i t' hu
          obtain ⟨h1, h2⟩ := unback_run hR hu h (he.eval hp)
          exact ⟨_, val _ _ h1, h2⟩
        · obtain ⟨h1, h2⟩ := bytes_run hR h (he.eval hp)
          exact ⟨v, val _ _ h1, h2⟩
    · cases h
  · rename_i c hop
    simp only [hop]
    split at h
    · rename_i hb
      split at h
      · rename_i v' t hv ht
        have hr := evals_run he _ _ hv
        obtain ⟨y, hy, r⟩ := hr.one_inv
        obtain ⟨h1, h2⟩ := mapLen_run (ty := o.type) hR h r
        refine ⟨v, ?_, h2⟩
        simp only [resolve, hb, Sem.run_bind, Sem.run_pure, Result.andThen_ok, invoke, builtin]
        have e1 : c.args.map a.eval = #[y] := arr_one (by simpa using hy)
        rw [e1, arr_one ht, h1]
        rfl
      · cases h
    · rename_i hb
      split at h
      · rename_i ad n c' hv
        by_cases hnc : n + 1 ≤ c'
        case neg => simp [hnc] at h
        simp only [hnc, if_true] at h
        cases h
        have hr := evals_run he _ _ hv
        obtain ⟨cx, hy, r1⟩ := hr.one_inv
        have e1 : c.args.map a.eval = #[cx] := arr_one (by simpa using hy)
        have fin : ∀ l o c2, n + 1 ≤ c2 → (Builtin.unsafeSliceData_ c.argTypes o #[.slice (some l) (n + 1) c2]).run P w = .ok (.pointer (some l)) w := fun l o c2 hc2 => by
          obtain ⟨k, rfl⟩ : ∃ k, c2 = k + 1 := ⟨c2 - 1, by omega⟩
          rfl
        have hrun : ∀ l c2, cx = .slice (some l) (n + 1) c2 → n + 1 ≤ c2 → (do let d ← resolve a.eval c o.type; invoke d.target d.args : Sem Next).run P w = .ok (.value (.pointer (some l))) w := fun l c2 e hc2 => by
          simp only [resolve, hb, Sem.run_bind, Sem.run_pure, Result.andThen_ok, invoke, builtin]
          rw [e1, e, fin l o.type c2 hc2]
          rfl
        cases r1 with
        | slice ep ec =>
          rcases ec with ⟨_, rfl⟩ | ⟨_, h2, _⟩
          · exact ⟨_, hrun _ _ rfl hnc, .ptr ep⟩
          · exact ⟨_, hrun _ _ rfl h2, .ptr ep⟩
      · cases h
    · cases h
  · cases h

/-- A row of bytes as a string: what was read is frozen. -/
def aunsafeString (P : Program) (H : AHeap) (pt : TypeId) (p n : Value) : Option (Value × AHeap) := match p, n, P.underlying pt with
  | .pointer (some a), .int .i64 k, some (.pointer t) => match H.get a.block with
    | some (.cells vs e false) => match intsOf ((vs.drop a.off).take k.toNat) with
      | some ns => if e = t ∧ P.cellsOf e = 1 ∧ 0 < k ∧ k ≤ 140737488355328 ∧ a.off + k.toNat ≤ vs.length ∧ a.spot = none then
          some (.string (ns.foldl (fun r n => r.push n.toNat.toUInt8) ByteArray.empty), H.kill a.block) else none
      | none => none
    | _ => none
  | _, _, _ => none
theorem run_loadInts {P : Program} {w : World} : ∀ (l : List Int) (a : Addr) (acc : ByteArray), (∀ j x, l[j]? = some x → w.cell? (a.add j) = some (.int .u8 x)) →
    (loadBytes a acc l.length).run P w = .ok (l.foldl (fun r n => r.push n.toNat.toUInt8) acc) w
  | [], a, acc, _ => rfl
  | x :: l, a, acc, h => by
    have h0 : w.cell? a = some (.int .u8 x) := by
      have := h 0 x rfl
      simpa [Addr.add] using this
    have ih := run_loadInts (P := P) l (a.add 1) (acc.push x.toNat.toUInt8) (fun j y hy => by
      have := h (j + 1) y (by simpa using hy)
      have e : (a.add 1).add j = a.add (j + 1) := by
        unfold Addr.add
        by_cases hj : j = 0
        · subst hj; simp
        · simp [hj]; omega
      rw [e]; exact this)
    simp only [List.length_cons, loadBytes, Sem.run_bind, run_load, h0, Result.andThen]
    rw [ih]
    rfl
theorem liesAt_row {P : Program} {e : TypeId} (hc : P.cellsOf e = 1) (count off n : Nat) (hn : off + n ≤ count) : liesAt P P.depth e count off e n = true := by
  have hd : P.depth = (2 * (P.types.size + Made.depth) + 1) + 1 := rfl
  rw [hd]
  simp only [liesAt, Bool.or_eq_true]
  left
  rw [hd]
  simp [rowAt, hc, hn, sameLayout, Nat.mod_one]
theorem freeze_cells {w : World} {g : Nat} {cs : Array Value} {e : TypeId} {z : Nat × Nat} (h : w.heap[g]? = some (.cells cs e z)) (o n : Nat) : ∃ z', (w.freeze ⟨g, o, none⟩ n).heap[g]? = some (.cells cs e z') := by
  unfold World.freeze
  split
  · exact ⟨z, h⟩
  · simp only [Array.getElem?_modify, h]
    exact ⟨_, rfl⟩
theorem freeze_ne {w : World} {g b : Nat} (h : b ≠ g) (o n : Nat) : (w.freeze ⟨g, o, none⟩ n).heap[b]? = w.heap[b]? := by
  unfold World.freeze
  split
  · rfl
  · simp only [Array.getElem?_modify]
    rw [if_neg (fun e => h e.symm)]
theorem freeze_same (w : World) (p : Addr) (n : Nat) : (w.freeze p n).os = w.os ∧ (w.freeze p n).tape = w.tape ∧ (w.freeze p n).output = w.output ∧ (w.freeze p n).heap.size = w.heap.size := by
  unfold World.freeze
  split
  · exact ⟨rfl, rfl, rfl, rfl⟩
  · exact ⟨rfl, rfl, rfl, by simp⟩
theorem Rel.freeze_kill (h : Rel P w0 fr φ H w) {i : Nat} {vs : List Value} {e : TypeId} {l : Loc} (hi : H.get i = some (.cells vs e false)) (hp : φ i = some l) (o n : Nat) :
    Rel P w0 fr φ (H.kill i) (w.freeze ⟨l.blk, o, none⟩ n) := by
  obtain ⟨l', p, q⟩ := h.lies i _ hi
  rw [hp] at p; cases p
  obtain ⟨cs, e', z, h1, h2, h3, h4, h5⟩ := q
  obtain ⟨h5, h6, h7, h8, h9⟩ := h5 rfl
  obtain ⟨s1, s2, s3, s4⟩ := freeze_same w ⟨l.blk, o, none⟩ n
  have hk := h.kill i
  refine ⟨s1.trans h.os, s2.trans h.tape, s3.trans h.output, by rw [s4]; exact h.size, fun b p hb => ?_, h.dom, fun j b hj => ?_, hk.resv, hk.disj⟩
  · rw [freeze_ne]
    · exact h.frame b p hb
    · rintro rfl; rw [h5] at hb; cases hb
  · obtain ⟨k, hk1, hk2⟩ := hk.lies j b hj
    refine ⟨k, hk1, ?_⟩
    by_cases hne : k.blk = l.blk
    · rw [AHeap.get_kill] at hj
      split at hj
      · cases hj
      · rename_i hji
        have ap := h.disj i j _ _ l k (Ne.symm hji) hi hj rfl hp hk1
        exact absurd hne.symm ap
    · exact hk2.keep (Plan.le_refl φ) (freeze_ne hne _ _)
theorem unsafeString_run (hR : Rel P w0 fr φ H w) {pt it ty : TypeId} {p n cp cn v : Value} {H' : AHeap} (h : aunsafeString P H pt p n = some (v, H')) (hp : RV φ p cp) (hn : RV φ n cn) :
    ∃ w', (Builtin.unsafeString_ #[pt, it] ty #[cp, cn]).run P w = .ok v w' ∧ Rel P w0 fr φ H' w' ∧ RV φ v v := by
  unfold aunsafeString at h
  split at h
  · rename_i a k t hpt
    split at h
    · rename_i vs e hH
      split at h
      · rename_i ns hns
        split at h
        · rename_i hc
          cases h
          obtain ⟨rfl, hce, hk0, hk1, hov, hsp⟩ := hc
          cases hn
          cases hp with
          | ptr ep =>
            rename_i B o l
            simp only at hov hns hH
            have hrel := hR.freeze_kill hH ep (l.base + o) k.toNat
            obtain ⟨l', hp', cs, e', z, hw, q2, q3, q4, q5⟩ := hR.lies _ _ hH
            rw [ep] at hp'
            cases hp'
            obtain ⟨_, rfl, q6, _, q7⟩ := q5 rfl
            have hlen : ns.length = k.toNat := by
              have h1 := intsOf_eq _ _ hns
              have h2 := congrArg List.length h1
              simp only [List.length_map, List.length_take, List.length_drop] at h2
              omega
            have hcell : ∀ j x, ns[j]? = some x → w.cell? ((⟨l.blk, l.base + o, none⟩ : Addr).add j) = some (.int .u8 x) := fun j x hx => by
              have h1 := intsOf_eq _ _ hns
              have h2 : ((vs.drop o).take k.toNat)[j]? = some (.int .u8 x) := by rw [h1, List.getElem?_map, hx]; rfl
              have hj : j < k.toNat := by
                have := (List.getElem?_eq_some_iff.1 hx).1
                omega
              rw [List.getElem?_take, if_pos hj, List.getElem?_drop] at h2
              obtain ⟨cv, c1, c2⟩ := q4 _ _ h2
              cases c2
              rw [Addr.add_mid]
              unfold World.cell?
              simp only [hw]
              simpa [Nat.add_assoc] using c1
            refine ⟨_, ?_, hrel, .string _⟩
            have hlb := run_loadInts (P := P) ns ⟨l.blk, l.base + o, none⟩ .empty hcell
            rw [hlen] at hlb
            have hlies := liesAt_row (P := P) hce (cs.size / P.cellsOf e') (l.base + o) k.toNat (by rw [hce, Nat.div_one]; omega)
            have hsh : (shape l.blk).run P w = .ok (some (e', cs.size)) w := by
              simp only [shape, Sem.run, World.shape?, hw]
            have hva : (variablesAt ⟨l.blk, l.base + o, none⟩ e' k.toNat).run P w = .ok true w := by
              have hpr : (program : Sem Program).run P w = .ok P w := rfl
              simp only [variablesAt, Sem.run_bind, hpr, hsh, Result.andThen_ok, Sem.run_pure, hlies]
            have hel : (elemOf pt).run P w = .ok e' w := by
              simp only [elemOf, Sem.run_bind, run_underlying hpt, Result.andThen_ok, Sem.run_pure]
            have hmax : IntKind.i64.max = 9223372036854775807 := rfl
            have h1 : ¬ k < 0 := by omega
            have h2 : ¬ k > 9223372036854775807 := by omega
            have h3 : ¬ k = 0 := by omega
            have hai : (asInt (.int .i64 k)).run P w = .ok k w := rfl
            have h3' : k ≠ 0 := by omega
            change ((asInt (.int .i64 k)) >>= _ : Sem Value).run P w = _
            rw [Sem.run_bind, hai, Result.andThen_ok]
            simp [hai, hmax, h1, h2, h3', hel, hva, hlb, freeze, Sem.run]
        · cases h
      · cases h
    · cases h
  · cases h

/-- A slice's elements (of one cell each) emptied. -/
def aclear (P : Program) (H : AHeap) (t : TypeId) (x : Value) : Option (Value × AHeap) := match x, sliceT P t with
  | .slice (some a) (n + 1) _, some (e, _, _) => match H.get a.block, zeroC P e with
    | some (.cells vs e' false), some z => if scalar z = true ∧ a.off + (n + 1) ≤ vs.length ∧ a.spot = none then
        some (.tuple #[], H.set a.block (.cells (putCells vs a.off (List.replicate (n + 1) z)) e' false)) else none
    | _, _ => none
  | .slice none 0 0, some _ => some (.tuple #[], H)
  | .slice (some _) 0 _, some _ => some (.tuple #[], H)
  | _, _ => none
theorem clear_run (hR : Rel P w0 fr φ H w) {t ty : TypeId} {x cx v : Value} {H' : AHeap} (h : aclear P H t x = some (v, H')) (hx : RV φ x cx) :
    ∃ w', (Builtin.clear_ #[t] ty #[cx]).run P w = .ok v w' ∧ Rel P w0 fr φ H' w' ∧ RV φ v v := by
  have tup : RV φ (.tuple #[]) (.tuple #[]) := .tuple rfl (fun i x y hx _ => by simp at hx)
  have dry : ∀ (a : Option Addr) (n c : Nat), (n = 0 ∨ a = none) → ∀ e, P.underlying t = some (.slice e) → (Builtin.clear_ #[t] ty #[.slice a n c]).run P w = .ok (.tuple #[]) w := fun a n c h0 e hu => by
    rcases h0 with rfl | rfl
    · cases a <;> simp [Builtin.clear_, run_underlying hu]
    · simp [Builtin.clear_, run_underlying hu]
  unfold aclear at h
  split at h
  · rename_i a n c e s b hs
    split at h
    · rename_i vs e' z hH hz
      split at h
      · rename_i hc
        cases h
        obtain ⟨hsc, hov, hsp⟩ := hc
        obtain ⟨hu, _⟩ := sliceT_spec hs
        have hone : z.cells = #[z] ∧ z.oneCell' = true := by
          cases z <;> first | exact ⟨rfl, rfl⟩ | simp [scalar] at hsc
        cases hx with
        | slice ep ec =>
          rename_i B o c' l
          simp only at hov hH
          obtain ⟨l', q, h1, h2, h3⟩ := hR.cells hH
          rw [ep] at q; cases q
          refine ⟨_, ?_, hR.write hH ep (news := List.replicate (n + 1) z) (cnews := List.replicate (n + 1) z) (RL.of_scalar (by
            rw [List.all_eq_true]; intro y hy; rw [List.eq_of_mem_replicate hy]; exact hsc)) (by simpa using hov), tup⟩
          exact Lib.run_clear_slice w t e ty z hu (fun w => (run_zeroC hz w).1) hone.1 hone.2 l.blk (l.base + o) (n + 1) c' (Nat.succ_pos n) (fun j hj => by
            rw [Nat.add_assoc]; exact ((h3 rfl).2 (o + j) (by omega)).1) (fun j hj => by
            rw [Nat.add_assoc]; exact ((h3 rfl).2 (o + j) (by omega)).2)
      · cases h
    · cases h
  · rename_i r hs
    cases h
    cases hx
    obtain ⟨e, s, b⟩ := r
    exact ⟨w, dry _ _ _ (.inr rfl) e (sliceT_spec hs).1, hR, tup⟩
  · rename_i a c r hs
    cases h
    obtain ⟨e, s, b⟩ := r
    cases hx with
    | slice ep ec => exact ⟨w, dry _ _ _ (.inl rfl) e (sliceT_spec hs).1, hR, tup⟩
    | sliceDry ep ec => exact ⟨w, dry _ _ _ (.inl rfl) e (sliceT_spec hs).1, hR, tup⟩
  · cases h

/-! ### All that makes or writes memory, but for calls -/
def wexec (P : Program) (E : AEnv) (H : AHeap) (o : Oper) : Option (Value × AHeap) :=
  match o.op with
  | .alloc e => aalloc P H e
  | .box e x => match E.eval x with
    | some v => some (anew H e v)
    | none => none
  | .store t p x => match E.eval p, E.eval x with
    | some p, some v => match astore P H t p v with
      | some H' => some (undef, H')
      | none => none
    | _, _ => none
  | .buildSlice t len ps => match evalps E ps.toList with
    | some ps => abuildSlice P H t len ps
    | none => none
  | .makeSlice t n c => match E.eval n, E.eval c with
    | some n, some c => amakeSlice P H t n c
    | _, _ => none
  | .makeMap _ none => some (amakeMap H)
  | .mapUpdate t m k x | .insert t m k x => match E.eval m, E.eval k, E.eval x with
    | some m, some k, some x => match amapUpdate P H t m k x with
      | some H' => some (undef, H')
      | none => none
    | _, _, _ => none
  | .mapEntry t m k => match E.eval m, E.eval k with
    | some m, some k => amapEntry P H t m k
    | _, _ => none
  | .entryStore _ m s x => match E.eval m, E.eval s, E.eval x with
    | some m, some s, some x => match aentryStore H m s x with
      | some H' => some (undef, H')
      | none => none
    | _, _, _ => none
  | .call c => match c.callee with
    | .builtin .append => match evals E c.args.toList, c.argTypes.toList with
      | some [x, y], [t, tx] => aappend P H t tx x y
      | _, _ => none
    | .builtin .unsafeString => match evals E c.args.toList, c.argTypes.toList with
      | some [x, y], [t, _] => aunsafeString P H t x y
      | _, _ => none
    | .builtin .clear => match evals E c.args.toList, c.argTypes.toList with
      | some [x], [t] => aclear P H t x
      | _, _ => none
    | _ => none
  | _ => none

/-- What one operation leaves. -/
def DoneN (P : Program) (w0 : World) (fr : Nat → Option Obj) (φ : Plan) (w : World) (s : Sem Next) (v : Value) (H' : AHeap) : Prop :=
  ∃ nx cv w' φ', s.run P w = .ok nx w' ∧ (nx = .value cv ∨ nx = .skip ∧ cv = undef) ∧ φ.le φ' ∧ Rel P w0 fr φ' H' w' ∧ RV φ' v cv

theorem RV.undef (φ : Plan) : RV φ undef undef := .of_RAt ⟨rfl, fun i x y a => by simp at a⟩

theorem wexec_run (hR : Rel P w0 fr φ H w) {E : AEnv} {a : Act} (he : RelE φ E a) {o : Oper} {v : Value} {H' : AHeap} (h : wexec P E H o = some (v, H')) : DoneN P w0 fr φ w (execOp a.eval o) v H' := by
  have val : ∀ (s : Sem Value), Done P w0 fr φ w s v H' → DoneN P w0 fr φ w (do pure (Next.value (← s)) : Sem Next) v H' := fun s hs => by
    obtain ⟨cv, w', φ', h1, h2, h3, h4⟩ := hs
    exact ⟨.value cv, cv, w', φ', by rw [Sem.run_bind, h1]; rfl, .inl rfl, h2, h3, h4⟩
  have unit : ∀ (s : Sem Unit), v = Go.undef → (∃ w', s.run P w = .ok () w' ∧ Rel P w0 fr φ H' w') → DoneN P w0 fr φ w (do s; pure Next.skip : Sem Next) v H' := fun s hv hs => by
    obtain ⟨w', h1, h2⟩ := hs
    subst hv
    exact ⟨.skip, Go.undef, w', φ, by rw [Sem.run_bind, h1]; rfl, .inr ⟨rfl, rfl⟩, Plan.le_refl φ, h2, .undef φ⟩
  unfold wexec at h
  unfold execOp
  split at h
  · rename_i e hop; simp only [hop]; exact val _ (alloc_run hR h)
  · rename_i e x hop
    simp only [hop]
    split at h
    · rename_i p hp
      have hb := box_run (e := e) hR (he.eval hp)
      cases h
      exact val _ hb
    · cases h
  · rename_i t p x hop
    simp only [hop]
    split at h
    · rename_i p' x' hp hx
      split at h
      · rename_i H2 hs
        cases h
        exact unit _ rfl (store_run hR hs (he.eval hp) (he.eval hx))
      · cases h
    · cases h
  · rename_i t len ps hop
    simp only [hop]
    split at h
    · rename_i qs hq
      exact val _ (buildSlice_run hR h (by simpa using evalps_run he _ _ hq))
    · cases h
  · rename_i t n c hop
    simp only [hop]
    split at h
    · rename_i p q hp hq
      exact val _ (makeSlice_run hR h (he.eval hp) (he.eval hq))
    · cases h
  · rename_i t hop
    simp only [hop]
    have hb := newMap_run hR
    cases h
    exact val _ hb
  · rename_i t m k x hop
    simp only [hop]
    split at h
    · rename_i p q r hp hq hr
      split at h
      · rename_i H2 hs
        cases h
        exact unit _ rfl (mapUpdate_run hR hs (he.eval hp) (he.eval hq) (he.eval hr))
      · cases h
    · cases h
  · rename_i t m k x hop
    simp only [hop]
    split at h
    · rename_i p q r hp hq hr
      split at h
      · rename_i H2 hs
        cases h
        exact unit _ rfl (mapUpdate_run hR hs (he.eval hp) (he.eval hq) (he.eval hr))
      · cases h
    · cases h
  · rename_i t m k hop
    simp only [hop]
    split at h
    · rename_i p q hp hq
      exact val _ (mapEntry_run hR h (he.eval hp) (he.eval hq))
    · cases h
  · rename_i t m s x hop
    simp only [hop]
    split at h
    · rename_i p q r hp hq hr
      split at h
      · rename_i H2 hs
        cases h
        exact unit _ rfl (entryStore_run hR hs (he.eval hp) (he.eval hq) (he.eval hr))
      · cases h
    · cases h
  · rename_i c hop
    simp only [hop]
    split at h
    · rename_i hb
      split at h
      · rename_i x y t tx hv ht
        have hr := evals_run he _ _ hv
        obtain ⟨cx, cy, hy, r1, r2⟩ := hr.two_inv
        have := append_run (ty := o.type) hR h r1 r2
        obtain ⟨cv, w', φ', h1, h2, h3, h4⟩ := this
        refine ⟨.value cv, cv, w', φ', ?_, .inl rfl, h2, h3, h4⟩
        simp only [resolve, hb, Sem.run_bind, Sem.run_pure, Result.andThen_ok, invoke, builtin]
        have e1 : c.args.map a.eval = #[cx, cy] := arr_two (by simpa using hy)
        rw [e1, arr_two ht, h1]
        rfl
      · cases h
    · rename_i hb
      split at h
      · rename_i x y t tx hv ht
        have hr := evals_run he _ _ hv
        obtain ⟨cx, cy, hy, r1, r2⟩ := hr.two_inv
        obtain ⟨w', h1, h2, h3⟩ := unsafeString_run (it := tx) (ty := o.type) hR h r1 r2
        refine ⟨.value v, v, w', φ, ?_, .inl rfl, Plan.le_refl φ, h2, h3⟩
        simp only [resolve, hb, Sem.run_bind, Sem.run_pure, Result.andThen_ok, invoke, builtin]
        have e1 : c.args.map a.eval = #[cx, cy] := arr_two (by simpa using hy)
        rw [e1, arr_two ht, h1]
        rfl
      · cases h
    · rename_i hb
      split at h
      · rename_i x t hv ht
        have hr := evals_run he _ _ hv
        obtain ⟨cx, hy, r1⟩ := hr.one_inv
        obtain ⟨w', h1, h2, h3⟩ := clear_run (ty := o.type) hR h r1
        refine ⟨.value v, v, w', φ, ?_, .inl rfl, Plan.le_refl φ, h2, h3⟩
        simp only [resolve, hb, Sem.run_bind, Sem.run_pure, Result.andThen_ok, invoke, builtin]
        have e1 : c.args.map a.eval = #[cx] := arr_one (by simpa using hy)
        rw [e1, arr_one ht, h1]
        rfl
      · cases h
    · cases h
  · cases h
end
end Go.Proofs.YtfolofhknhgpiaaGreatDoor
