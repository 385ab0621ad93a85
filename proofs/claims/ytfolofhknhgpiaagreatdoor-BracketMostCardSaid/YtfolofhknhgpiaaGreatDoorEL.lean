/- The given statements' calls out of calls over abstract heaps; the chapter's examples over each heap; rules for pieces that are carried out. -/
import Derived.Test.YtfolofhknhgpiaaGreatDoorEB
import Derived.Test.YtfolofhknhgpiaaGreatDoorA22
import Derived.Below
import Derived.OpenShut
set_option linter.unusedVariables false
set_option linter.unusedSimpArgs false
set_option maxRecDepth 100000
namespace Go.Proofs.YtfolofhknhgpiaaGreatDoor
open Go Go.RowKit

/-- The chapter's examples hold, in each heap. -/
theorem known_at (B : AHeap) : ACall Tryz.prog 9 [] B fun e B' => e = .ret (.bool true) ∧ B' = B := ACall.flat known_gives rfl rfl B

/-- What is told of a slice of bytes that comes in. -/
def InRow (w : World) (a : Option Addr) (len cap : Nat) (zs : List Int) : Prop :=
  (a = none ∧ len = 0 ∧ cap = 0 ∧ zs = []) ∨
  ∃ x, a = some x ∧ len ≤ cap ∧ cap ≤ maxLen ∧ zs.length = cap ∧ (∀ i, i < zs.length → w.cell? (x.add i) = some (.int .u8 (zs.getD i 0))) ∧ ∀ n ∈ zs, (Lit.int .u8 n).wf = true
theorem u8_fits {n : Int} (h : (Lit.int .u8 n).wf = true) : 0 ≤ n ∧ n < 256 := by
  have := h
  simp [Lit.wf, IntKind.min, IntKind.max, IntKind.bits, IntKind.signed] at this
  omega
theorem input_row {w : World} {a : Option Addr} {len cap : Nat} {zs : List Int} (h : InRow w a len cap zs) : ∃ (ob : Option ABlk) (l : Loc) (ds : List Nat) (da : Nat → Option Addr) (dc : Nat), (ds.length = len ∧ len ≤ maxLen) ∧ (∀ z ∈ ds, z < 256) ∧
    (∀ (φ : Plan) i, φ i = some l → RV φ (.slice (da i) ds.length dc) (.slice a len cap)) ∧ (ds ≠ [] → ∀ i, da i = some ⟨i, 0, none⟩ ∧ ob = some (.cells (ds.map fun (z : Nat) => .int .u8 (z : Int)) 5 true)) ∧
    ∀ b, ob = some b → b.rw = false ∧ ∀ (P : Program) fr φ, Lies P fr φ w l b := by
  rcases h with ⟨rfl, rfl, rfl, rfl⟩ | ⟨x, rfl, hl, hm, hz, hc, hw⟩
  · exact ⟨none, ⟨0, 0, 0, 1⟩, [], fun _ => none, 0, ⟨rfl, Nat.zero_le _⟩, fun z hz => absurd hz List.not_mem_nil, fun φ i _ => .sliceNil, fun h => absurd rfl h, fun b hb => by cases hb⟩
  · rcases Nat.eq_zero_or_pos cap with h0 | h0
    · subst h0
      obtain rfl : len = 0 := by omega
      exact ⟨none, ⟨0, 0, 0, 1⟩, [], fun i => some ⟨i, 0, none⟩, unk 1, ⟨rfl, Nat.zero_le _⟩, fun z hz => absurd hz List.not_mem_nil, fun φ i hi => .sliceDry hi rfl, fun h => absurd rfl h, fun b hb => by cases hb⟩
    · have hcell : ∀ i, i < cap → ∃ cs e z, w.heap[x.block]? = some (.cells cs e z) ∧ x.spot.isSome = false ∨ 0 < i := fun i hi => by
        rcases Nat.eq_zero_or_pos i with h | h
        · subst h
          have := hc 0 (by omega)
          unfold World.cell? Addr.add at this
          simp only [if_true] at this
          split at this
          · rename_i cs e z hh
            refine ⟨cs, e, z, .inl ⟨hh, ?_⟩⟩
            split at this
            · cases this
            · rename_i hs; simpa using hs
          · cases this
        · exact ⟨#[], 0, (0, 0), .inr h⟩
      obtain ⟨cs, e, z, h⟩ := hcell 0 h0
      obtain ⟨hh, hs⟩ := h.resolve_right (Nat.lt_irrefl 0)
      have hspot : x.spot = none := by simpa using hs
      have hcs : ∀ i, i < cap → cs[x.off + i]? = some (.int .u8 (zs.getD i 0)) := fun i hi => by
        have := hc i (by omega)
        unfold World.cell? Addr.add at this
        by_cases h : i = 0
        · subst h
          simp only [if_true, hh] at this
          rw [if_neg (by simp [hspot])] at this
          exact this
        · simp only [h, if_false, hh] at this
          exact this
      have hfit : ∀ n ∈ zs, 0 ≤ n ∧ n < 256 := fun n hn => u8_fits (hw n hn)
      have hlen : ((zs.take len).map Int.toNat).length = len := by simp; omega
      refine ⟨some (.cells (((zs.take len).map Int.toNat).map fun (z : Nat) => .int .u8 (z : Int)) 5 true), ⟨x.block, x.off, cap, 1⟩, (zs.take len).map Int.toNat, fun i => some ⟨i, 0, none⟩, unk 1, ⟨hlen, Nat.le_trans hl hm⟩, fun n hn => ?_, fun φ i hi => ?_, fun _ i => ⟨rfl, rfl⟩, fun b hb => ?_⟩
      · obtain ⟨m, hm1, rfl⟩ := List.mem_map.1 hn
        have := hfit m (List.mem_of_mem_take hm1)
        omega
      · rw [hlen]
        have : (some x : Option Addr) = some ⟨x.block, x.off + 0, none⟩ := by
          obtain ⟨b, o, s⟩ := x
          simp only at hspot
          subst hspot; rfl
        rw [this]
        exact .slice hi (.inr ⟨rfl, hl, by simp⟩)
      · cases hb
        refine ⟨rfl, fun P fr φ => ⟨cs, e, z, hh, by simp; omega, ?_, fun j v hv => ?_, fun h => by cases h⟩⟩
        · show x.off + cap ≤ cs.size
          have := hcs (cap - 1) (by omega)
          have hlt : x.off + (cap - 1) < cs.size := by
            rcases Nat.lt_or_ge (x.off + (cap - 1)) cs.size with q | q
            · exact q
            · rw [Array.getElem?_eq_none q] at this; cases this
          omega
        · have hj : j < len := by
            rcases Nat.lt_or_ge j len with q | q
            · exact q
            · rw [List.getElem?_eq_none (by simp; omega)] at hv; cases hv
          refine ⟨_, hcs j (by omega), ?_⟩
          have hjz : j < zs.length := by omega
          have hv' : v = .int .u8 (zs.getD j 0) := by
            simp only [List.getElem?_map, List.getElem?_take, if_pos hj, List.getElem?_eq_getElem hjz, Option.map_some, Option.some.injEq] at hv
            rw [← hv]
            have := hfit _ (List.getElem_mem hjz)
            simp only [List.getD_eq_getElem?_getD, List.getElem?_eq_getElem hjz, Option.getD_some]
            congr 1; omega
          rw [hv']; exact .int _ _

theorem below_of {P : Program} {w w' : World} {ψ : Plan} {H : AHeap} (h : Rel P w (fun b => w.heap[b]?) ψ H w') : Below w.heap.size w w' :=
  ⟨h.os, h.tape, h.output, h.size, fun k hk => by
    rw [Array.getElem?_eq_getElem hk]
    exact h.frame k _ (Array.getElem?_eq_getElem hk)⟩
/-- A call with a slice of bytes and plain values. -/
theorem link1 {P : Program} {f : FuncId} {rest : List Value} (hf : rest.all Go.Proofs.YtfolofhknhgpiaaGreatDoor.flat = true) {w : World} {a : Option Addr} {len cap : Nat} {z : List Int} (h : InRow w a len cap z)
    (H : ∀ (da : Option Addr) (dc : Nat) (ds : List Nat) (ob : Option ABlk), (∀ z ∈ ds, z < 256) → ds.length ≤ maxLen → (ds ≠ [] → da = some ⟨0, 0, none⟩ ∧ ob = some (.cells (ds.map fun (z : Nat) => .int .u8 (z : Int)) 5 true)) →
      ACall P f (.slice da ds.length dc :: rest) (mkH [ob]) fun e _ => e = .ret (.bool true)) :
    Calls P f (Value.slice a len cap :: rest).toArray w fun e w' => e = .returned (.bool true) ∧ Below w.heap.size w w' := by
  obtain ⟨ob, l, ds, da, dc, h1, h2, h3, h4, h5⟩ := input_row h
  let φ : Plan := fun i => if i = 0 then some l else none
  have hR : Rel P w (fun b => w.heap[b]?) φ (mkH [ob]) w := by
    refine ⟨rfl, rfl, rfl, Nat.le_refl _, fun b o e => e, fun i hi => ?_, fun i b hb => ?_, fun i hi => absurd hi List.not_mem_nil, fun i j b c l k hne hb hc hrw _ _ => ?_⟩
    · have : (1 : Nat) ≤ i := hi
      exact if_neg (by omega)
    · rw [mkH_get] at hb
      cases i with
      | zero => exact ⟨l, rfl, (h5 b (by simpa using hb)).2 _ _ _⟩
      | succ i => simp at hb
    · rw [mkH_get] at hb hc
      cases i with
      | zero =>
        cases j with
        | zero => exact absurd rfl hne
        | succ j => simp at hc
      | succ i => simp at hb
  have := H (da 0) dc ds ob h2 (h1.1.symm ▸ h1.2) (fun hne => h4 hne 0) w _ φ w (Value.slice a len cap :: rest).toArray hR (by
    simp only [List.toList_toArray]
    refine RL.cons (h3 φ 0 rfl) ?_
    refine ⟨rfl, fun i x y hx hy => ?_⟩
    rw [hx] at hy; cases hy
    exact .of_flat (List.all_eq_true.1 hf x (List.mem_of_getElem? hx)))
  refine this.mono fun e w' hq => ?_
  obtain ⟨ae, H', ψ, q1, q2, q3, rfl⟩ := hq
  cases q3 with
  | ret r => cases r; exact ⟨rfl, below_of q2⟩

/-! ### Pieces that are carried out -/
def outTc : Option (AExit × Tr Value × AHeap) → Tr Value
  | some (_, T, _) => T
  | none => .nil
def outHc : Option (AExit × Tr Value × AHeap) → AHeap
  | some (_, _, H) => H
  | none => AHeap.empty
def normalB : Option (AExit × Tr Value × AHeap) → Bool
  | some (.normal, _, _) => true
  | _ => false
def isScope : Code → Bool
  | .scope _ => true
  | _ => false
def scopeOf : Code → Code
  | .scope c => c
  | c => c
section
variable {P : Program} {Q : AExit → AEnv → AHeap → Prop} {E : AEnv} {H : AHeap}
theorem AWp.piece (hm : P.follows .mixedOrders = true) {tab : Nat → Option Forms} {call : Caller} (hc : CallOk P call) {n k : Nat} {x : Code} (hs : isSeq x = true) (hok : codeOk P tab (fst x) = true) {T : Tr Value} (hn : normalB (dcode P tab call n k (fst x) T H) = true)
    (kk : AWp P (snd x) Q (envOf n (outTc (dcode P tab call n k (fst x) T H))) (outHc (dcode P tab call n k (fst x) T H))) : AWp P x Q (envOf n T) H := by
  refine AWp.seq' hs ?_
  unfold normalB at hn
  split at hn
  · rename_i T' H' hd
    rw [hd] at kk
    exact (dcode_sound hm hc k (fst x) hok T T' H H' _ hd).mono (fun e E2 H2 ⟨e1, e2, e3⟩ => by subst e1 e2 e3; exact kk)
  · cases hn
theorem AOps.piece {call : Caller} (hc : CallOk P call) {ops : Array Oper} {rb : Nat → Option Nat} {n : Nat} {l : List Nat} {T : Tr Value} (hn : normalB (dops P call ops rb n l T H) = true)
    (kk : Q .normal (envOf n (outTc (dops P call ops rb n l T H))) (outHc (dops P call ops rb n l T H))) : AOps P ops rb Q l (envOf n T) H := by
  unfold normalB at hn
  split at hn
  · rename_i T' H' hd
    rw [hd] at kk
    exact dops_sound hc l _ T T' H H' hd kk
  · cases hn
theorem AWp.scope' {x : Code} (h : isScope x = true) (k : AWp P (scopeOf x) (noGotoA Q) E H) : AWp P x Q E H := by
  cases x with
  | scope b => exact .scope k
  | _ => cases h
end
theorem rem_ok (k : IntKind) (z m : Nat) (hm : 0 < m) : anum .rem k k (z : Int) (m : Int) = some (.int k ((z % m : Nat) : Int)) := by
  unfold anum
  simp only [if_true]
  unfold aint
  simp only []
  rw [if_neg (by omega), Int.ofNat_tmod]
end Go.Proofs.YtfolofhknhgpiaaGreatDoor
