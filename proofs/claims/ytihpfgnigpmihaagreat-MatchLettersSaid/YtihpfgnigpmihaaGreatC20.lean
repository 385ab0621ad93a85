/- Find of a tree that lies in a heap; the given statements' calls out of calls over abstract heaps. -/
import Derived.Test.YtihpfgnigpmihaaGreatC19
import Derived.Test.YtihpfgnigpmihaaGreatB3
set_option linter.unusedVariables false
set_option linter.unusedSimpArgs false
set_option maxRecDepth 100000
namespace Go.Proofs.YtihpfgnigpmihaaGreat
open Go Go.RowKit

theorem tree_find {l : List NdR} (hl : 0 < l.length) (hs : (decide (l.length < far) && l.all fun r => decide (r.kl.length < far)) = true) {N nc : Nat} {ns : List Nd} {B : AHeap} (T : Tree B N nc ns) (hp : ns.map Nd.pn = l.map NdR.pn)
    {ra : Option Addr} {R rc : Nat} {row : List Int} (hrow : row ≠ [] → ra = some ⟨R, 0, none⟩ ∧ ∃ e ro, B.get R = some (.cells (row.map fun c => .int .i32 c) e ro)) (hlong : row.length < far) {start : Nat} (W : Nat → List Res)
    (hden : ∀ q, start ≤ q → q ≤ row.length → ∃ n, den (l.map NdR.pn) row n ⟨l.length - 1, 0, q, minus 10⟩ = some (W q)) :
    ACall Tryz.prog 8 [.agg #[.slice (some ⟨N, 0, none⟩) ns.length nc, .int .i64 0], .slice ra row.length rc, .int .i64 (start : Int), .pointer none] B fun e B' => Ext B B' ∧ Found W start row.length e B' := by
  rw [Bool.and_eq_true] at hs
  have hlen : ns.length = l.length := by simpa using congrArg List.length hp
  have hkl : ∀ nd ∈ ns, nd.kl.length < far := fun nd hnd => by
    have h1 : nd.pn ∈ l.map NdR.pn := hp ▸ List.mem_map_of_mem hnd
    obtain ⟨r, hr, he⟩ := List.mem_map.1 h1
    have h2 := of_decide_eq_true (List.all_eq_true.1 hs.2 r hr)
    have h3 : nd.kl = r.kl := (congrArg Pn.kids he).symm
    rw [h3]; exact h2
  have hE : Src B ⟨0, N, R, 0, 0, nc, 0, rc, ra⟩ ns row := ⟨T.nodes, hrow, T.kids, hlong, by rw [hlen]; exact of_decide_eq_true hs.1, hkl⟩
  exact find_spec hE rfl (by rw [hlen]; exact hl) (fun B' hx => T.right B' hx) W (fun q h1 h2 => by rw [hp, hlen]; exact hden q h1 h2)

/-- The chapter's examples hold, in each heap. -/
theorem known_at (B : AHeap) : ACall Tryz.prog 10 [] B fun e B' => e = .ret (.bool true) ∧ B' = B := ACall.flat known_gives rfl rfl B

/-- What is told of a slice of bytes that comes in. -/
def InRow (w : World) (a : Option Addr) (len cap : Nat) (zs : List Int) : Prop :=
  (a = none ∧ len = 0 ∧ cap = 0 ∧ zs = []) ∨
  ∃ x, a = some x ∧ len ≤ cap ∧ cap ≤ maxLen ∧ zs.length = cap ∧ (∀ i, i < zs.length → w.cell? (x.add i) = some (.int .u8 (zs.getD i 0))) ∧ ∀ n ∈ zs, (Lit.int .u8 n).wf = true
theorem u8_fits {n : Int} (h : (Lit.int .u8 n).wf = true) : 0 ≤ n ∧ n < 256 := by
  have := h
  simp [Lit.wf, IntKind.min, IntKind.max, IntKind.bits, IntKind.signed] at this
  omega
theorem input_row {w : World} {a : Option Addr} {len cap : Nat} {zs : List Int} (h : InRow w a len cap zs) : ∃ (ob : Option ABlk) (l : Loc) (ds : List Nat) (da : Nat → Option Addr) (dc : Nat), ds.length = len ∧ (∀ z ∈ ds, z < 256) ∧
    (∀ (φ : Plan) i, φ i = some l → RV φ (.slice (da i) ds.length dc) (.slice a len cap)) ∧ (ds ≠ [] → ∀ i, da i = some ⟨i, 0, none⟩ ∧ ob = some (.cells (ds.map fun (z : Nat) => .int .u8 (z : Int)) 5 true)) ∧
    ∀ b, ob = some b → b.rw = false ∧ ∀ (P : Program) fr φ, Lies P fr φ w l b := by
  rcases h with ⟨rfl, rfl, rfl, rfl⟩ | ⟨x, rfl, hl, hm, hz, hc, hw⟩
  · exact ⟨none, ⟨0, 0, 0, 1⟩, [], fun _ => none, 0, rfl, fun z hz => absurd hz List.not_mem_nil, fun φ i _ => .sliceNil, fun h => absurd rfl h, fun b hb => by cases hb⟩
  · rcases Nat.eq_zero_or_pos cap with h0 | h0
    · subst h0
      obtain rfl : len = 0 := by omega
      exact ⟨none, ⟨0, 0, 0, 1⟩, [], fun i => some ⟨i, 0, none⟩, unk 1, rfl, fun z hz => absurd hz List.not_mem_nil, fun φ i hi => .sliceDry hi rfl, fun h => absurd rfl h, fun b hb => by cases hb⟩
    · have hcell : ∀ i, i < cap → ∃ cs e z, w.heap[x.block]? = some (.cells cs e z) ∧ x.spot.isSome = false ∨ 0 < i := fun i hi => by
        rcases Nat.eq_zero_or_pos i with h | h
        · subst h
          have := hc 0 (by omega)
          unfold World.cell? Addr.add at this
          simp only [if_true] at this
          split at this
          · rename_i cs e z hh
            refine ⟨cs, e, z, .inl ⟨hh, ?_⟩⟩
            split at this
            · cases this
            · rename_i hs; simpa using hs
          · cases this
        · exact ⟨#[], 0, (0, 0), .inr h⟩
      obtain ⟨cs, e, z, h⟩ := hcell 0 h0
      obtain ⟨hh, hs⟩ := h.resolve_right (Nat.lt_irrefl 0)
      have hspot : x.spot = none := by simpa using hs
      have hcs : ∀ i, i < cap → cs[x.off + i]? = some (.int .u8 (zs.getD i 0)) := fun i hi => by
        have := hc i (by omega)
        unfold World.cell? Addr.add at this
        by_cases h : i = 0
        · subst h
          simp only [if_true, hh] at this
          rw [if_neg (by simp [hspot])] at this
          exact this
        · simp only [h, if_false, hh] at this
          exact this
      have hfit : ∀ n ∈ zs, 0 ≤ n ∧ n < 256 := fun n hn => u8_fits (hw n hn)
      have hlen : ((zs.take len).map Int.toNat).length = len := by simp; omega
      refine ⟨some (.cells (((zs.take len).map Int.toNat).map fun (z : Nat) => .int .u8 (z : Int)) 5 true), ⟨x.block, x.off, cap, 1⟩, (zs.take len).map Int.toNat, fun i => some ⟨i, 0, none⟩, unk 1, hlen, fun n hn => ?_, fun φ i hi => ?_, fun _ i => ⟨rfl, rfl⟩, fun b hb => ?_⟩
      · obtain ⟨m, hm1, rfl⟩ := List.mem_map.1 hn
        have := hfit m (List.mem_of_mem_take hm1)
        omega
      · rw [hlen]
        have : (some x : Option Addr) = some ⟨x.block, x.off + 0, none⟩ := by
          obtain ⟨b, o, s⟩ := x
          simp only at hspot
          subst hspot; rfl
        rw [this]
        exact .slice hi (.inr ⟨rfl, hl, by simp⟩)
      · cases hb
        refine ⟨rfl, fun P fr φ => ⟨cs, e, z, hh, by simp; omega, ?_, fun j v hv => ?_, fun h => by cases h⟩⟩
        · show x.off + cap ≤ cs.size
          have := hcs (cap - 1) (by omega)
          have hlt : x.off + (cap - 1) < cs.size := by
            rcases Nat.lt_or_ge (x.off + (cap - 1)) cs.size with q | q
            · exact q
            · rw [Array.getElem?_eq_none q] at this; cases this
          omega
        · have hj : j < len := by
            rcases Nat.lt_or_ge j len with q | q
            · exact q
            · rw [List.getElem?_eq_none (by simp; omega)] at hv; cases hv
          refine ⟨_, hcs j (by omega), ?_⟩
          have hjz : j < zs.length := by omega
          have hv' : v = .int .u8 (zs.getD j 0) := by
            simp only [List.getElem?_map, List.getElem?_take, if_pos hj, List.getElem?_eq_getElem hjz, Option.map_some, Option.some.injEq] at hv
            rw [← hv]
            have := hfit _ (List.getElem_mem hjz)
            simp only [List.getD_eq_getElem?_getD, List.getElem?_eq_getElem hjz, Option.getD_some]
            congr 1; omega
          rw [hv']; exact .int _ _

theorem below_of {P : Program} {w w' : World} {ψ : Plan} {H : AHeap} (h : Rel P w (fun b => w.heap[b]?) ψ H w') : Below w.heap.size w w' :=
  ⟨h.os, h.tape, h.output, h.size, fun k hk => by
    rw [Array.getElem?_eq_getElem hk]
    exact h.frame k _ (Array.getElem?_eq_getElem hk)⟩
/-- A call with a slice of bytes and plain values. -/
theorem link1 {P : Program} {f : FuncId} {rest : List Value} (hf : rest.all Go.Proofs.YtihpfgnigpmihaaGreat.flat = true) {w : World} {a : Option Addr} {len cap : Nat} {z : List Int} (h : InRow w a len cap z)
    (H : ∀ (da : Option Addr) (dc D : Nat) (ds : List Nat) (B : AHeap), (∀ z ∈ ds, z < 256) → (ds ≠ [] → da = some ⟨D, 0, none⟩ ∧ ∃ e ro, B.get D = some (.cells (ds.map fun (z : Nat) => .int .u8 (z : Int)) e ro)) →
      ACall P f (.slice da ds.length dc :: rest) B fun e B' => e = .ret (.bool true) ∧ Ext B B') :
    Calls P f (Value.slice a len cap :: rest).toArray w fun e w' => e = .returned (.bool true) ∧ Below w.heap.size w w' := by
  obtain ⟨ob, l, ds, da, dc, h1, h2, h3, h4, h5⟩ := input_row h
  let φ : Plan := fun i => if i = 0 then some l else none
  have hR : Rel P w (fun b => w.heap[b]?) φ (mkH [ob]) w := by
    refine ⟨rfl, rfl, rfl, Nat.le_refl _, fun b o e => e, fun i hi => ?_, fun i b hb => ?_, fun i hi => absurd hi List.not_mem_nil, fun i j b c l k hne hb hc hrw _ _ => ?_⟩
    · have : (1 : Nat) ≤ i := hi
      exact if_neg (by omega)
    · rw [mkH_get] at hb
      cases i with
      | zero => exact ⟨l, rfl, (h5 b (by simpa using hb)).2 _ _ _⟩
      | succ i => simp at hb
    · rw [mkH_get] at hb hc
      cases i with
      | zero =>
        cases j with
        | zero => exact absurd rfl hne
        | succ j => simp at hc
      | succ i => simp at hb
  have := H (da 0) dc 0 ds (mkH [ob]) h2 (fun hne => ⟨(h4 hne 0).1, 5, true, by rw [mkH_get]; exact (h4 hne 0).2⟩) w _ φ w (Value.slice a len cap :: rest).toArray hR (by
    simp only [List.toList_toArray]
    refine RL.cons (h3 φ 0 rfl) ?_
    refine ⟨rfl, fun i x y hx hy => ?_⟩
    rw [hx] at hy; cases hy
    exact .of_flat (List.all_eq_true.1 hf x (List.mem_of_getElem? hx)))
  refine this.mono fun e w' hq => ?_
  obtain ⟨ae, H', ψ, q1, q2, q3, rfl, q5⟩ := hq
  cases q3 with
  | ret r => cases r; exact ⟨rfl, below_of q2⟩
/-- A call with two slices of bytes and plain values. -/
theorem link2 {P : Program} {f : FuncId} {rest : List Value} (hf : rest.all Go.Proofs.YtihpfgnigpmihaaGreat.flat = true) {w : World} {a a' : Option Addr} {len cap len' cap' : Nat} {z z' : List Int} (h : InRow w a len cap z) (h' : InRow w a' len' cap' z')
    (H : ∀ (da da' : Option Addr) (dc D dc' D' : Nat) (ds ds' : List Nat) (B : AHeap), (∀ z ∈ ds, z < 256) → (ds ≠ [] → da = some ⟨D, 0, none⟩ ∧ ∃ e ro, B.get D = some (.cells (ds.map fun (z : Nat) => .int .u8 (z : Int)) e ro)) →
      (∀ z ∈ ds', z < 256) → (ds' ≠ [] → da' = some ⟨D', 0, none⟩ ∧ ∃ e ro, B.get D' = some (.cells (ds'.map fun (z : Nat) => .int .u8 (z : Int)) e ro)) →
      ACall P f (.slice da ds.length dc :: .slice da' ds'.length dc' :: rest) B fun e B' => e = .ret (.bool true) ∧ Ext B B') :
    Calls P f (Value.slice a len cap :: Value.slice a' len' cap' :: rest).toArray w fun e w' => e = .returned (.bool true) ∧ Below w.heap.size w w' := by
  obtain ⟨ob, l, ds, da, dc, h1, h2, h3, h4, h5⟩ := input_row h
  obtain ⟨ob', l', ds', da', dc', k1, k2, k3, k4, k5⟩ := input_row h'
  let φ : Plan := fun i => if i = 0 then some l else if i = 1 then some l' else none
  have hro : ∀ i b, (mkH [ob, ob']).get i = some b → b.rw = false := fun i b hb => by
    rw [mkH_get] at hb
    match i with
    | 0 => exact (h5 b (by simpa using hb)).1
    | 1 => exact (k5 b (by simpa using hb)).1
    | i + 2 => simp at hb
  have hR : Rel P w (fun b => w.heap[b]?) φ (mkH [ob, ob']) w := by
    refine ⟨rfl, rfl, rfl, Nat.le_refl _, fun b o e => e, fun i hi => ?_, fun i b hb => ?_, fun i hi => absurd hi List.not_mem_nil, fun i j b c l k hne hb hc hrw _ _ => ?_⟩
    · have : (2 : Nat) ≤ i := hi
      show (if i = 0 then some l else if i = 1 then some l' else none) = none
      rw [if_neg (by omega), if_neg (by omega)]
    · rw [mkH_get] at hb
      match i with
      | 0 => exact ⟨l, rfl, (h5 b (by simpa using hb)).2 _ _ _⟩
      | 1 => exact ⟨l', rfl, (k5 b (by simpa using hb)).2 _ _ _⟩
      | i + 2 => simp at hb
    · rw [hro i b hb] at hrw; cases hrw
  have := H (da 0) (da' 1) dc 0 dc' 1 ds ds' (mkH [ob, ob']) h2 (fun hne => ⟨(h4 hne 0).1, 5, true, by rw [mkH_get]; exact (h4 hne 0).2⟩) k2 (fun hne => ⟨(k4 hne 1).1, 5, true, by rw [mkH_get]; exact (k4 hne 1).2⟩) w _ φ w (Value.slice a len cap :: Value.slice a' len' cap' :: rest).toArray hR (by
    simp only [List.toList_toArray]
    refine RL.cons (h3 φ 0 rfl) (RL.cons (k3 φ 1 rfl) ?_)
    refine ⟨rfl, fun i x y hx hy => ?_⟩
    rw [hx] at hy; cases hy
    exact .of_flat (List.all_eq_true.1 hf x (List.mem_of_getElem? hx)))
  refine this.mono fun e w' hq => ?_
  obtain ⟨ae, H', ψ, q1, q2, q3, rfl, q5⟩ := hq
  cases q3 with
  | ret r => cases r; exact ⟨rfl, below_of q2⟩

/-! ### Spans held against each other -/
theorem runPure_bind {α β : Type} (P : Program) (f : α → Sem β) (x : Sem α) : runPure P (x >>= f) = (runPure P x).bind fun a => runPure P (f a) := by
  induction x with
  | pure a => rfl
  | program k ih => exact ih P
  | _ => rfl
def flds35 : Array Field := #[⟨"From", 3, 0, false, "", "", 0⟩, ⟨"To", 3, 1, false, "", "", 8⟩]
theorem und35 : runPure Tryz.prog (underlying 35) = some (.struct flds35) := by kernel_rfl
theorem und3 : runPure Tryz.prog (underlying 3) = some (.int .i64) := by kernel_rfl
theorem part3 (xs : Array Value) (i : Nat) (v : Value) (h : xs[i]? = some v) : runPure Tryz.prog (part 3 xs i) = some v := by
  unfold part
  have : runPure Tryz.prog (isAgg 3) = some false := by kernel_rfl
  rw [runPure_bind, this]
  simp only [Option.bind_some, Bool.false_eq_true, if_false, h]
  rfl
theorem stood35 : runPure Tryz.prog program = some Tryz.prog := rfl
theorem st35 : Tryz.prog.stoodInHeld 35 = false := by kernel_rfl
theorem eq3 (d : Nat) (a c : Int) : runPure Tryz.prog (Op.equalIn (d + 1) 3 (.int .i64 a) (.int .i64 c)) = some (a == c) := by
  unfold Op.equalIn
  rw [runPure_bind, und3]
  simp only [Option.bind_some]
  rfl
theorem part0 (x y : Value) : runPure Tryz.prog (part 3 #[x, y] 0) = some x := part3 _ 0 x rfl
theorem part1 (x y : Value) : runPure Tryz.prog (part 3 #[x, y] 1) = some y := part3 _ 1 y rfl
theorem eq35 (d : Nat) (a b c e : Int) : runPure Tryz.prog (Op.equalIn (d + 2) 35 (.agg #[.int .i64 a, .int .i64 b]) (.agg #[.int .i64 c, .int .i64 e])) = some (a == c && b == e) := by
  unfold Op.equalIn
  rw [runPure_bind, und35]
  simp only [Option.bind_some]
  rw [runPure_bind, stood35]
  simp only [Option.bind_some, st35, Bool.false_eq_true, if_false]
  unfold flds35
  simp only [List.forIn_toArray, List.forIn_cons, List.forIn_nil]
  cases h1 : (a == c) <;> cases h2 : (b == e) <;> simp [runPure_bind, part0, part1, eq3, h1, h2, runPure, pure]
theorem guard35 {x y : Operand} (a b c d : Int) : runPure Tryz.prog (eqGuard .eql 35 x y (.agg #[.int .i64 a, .int .i64 b]) (.agg #[.int .i64 c, .int .i64 d])) = some () := by kernel_rfl
theorem agg35 {x y : Operand} (a b c e : Int) : aagg Tryz.prog .eql 35 x y (.agg #[.int .i64 a, .int .i64 b]) (.agg #[.int .i64 c, .int .i64 e]) = some (.bool (a == c && b == e)) := by
  unfold aagg
  have h : runPure Tryz.prog (binOp .eql 35 (.agg #[.int .i64 a, .int .i64 b]) (.agg #[.int .i64 c, .int .i64 e])) = some (.bool (a == c && b == e)) := by
    show runPure Tryz.prog (do pure (Value.bool (← Op.equal 35 _ _))) = _
    rw [runPure_bind]
    unfold Op.equal
    rw [show Op.maxDepth = 9998 + 2 from rfl, eq35]
    rfl
  have hf : (Go.Proofs.YtihpfgnigpmihaaGreat.flat (.agg #[.int .i64 a, .int .i64 b]) && Go.Proofs.YtihpfgnigpmihaaGreat.flat (.agg #[.int .i64 c, .int .i64 e])) = true := rfl
  simp only [hf, if_true, runPure_bind, guard35, Option.bind_some, h]
end Go.Proofs.YtihpfgnigpmihaaGreat
