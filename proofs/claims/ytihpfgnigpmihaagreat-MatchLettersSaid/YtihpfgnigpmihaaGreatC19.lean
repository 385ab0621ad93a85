/- Trees: where they lie; tree.Right of them. -/
import Derived.Test.YtihpfgnigpmihaaGreatC18
set_option linter.unusedVariables false
set_option linter.unusedSimpArgs false
set_option maxRecDepth 100000
namespace Go.Proofs.YtihpfgnigpmihaaGreat
open Go

theorem ACall.resv {P : Program} {f : FuncId} {args : List Value} {B : AHeap} {Q : AEnd → AHeap → Prop} (h : (∀ i ∈ B.rs, i < B.next ∧ B.get i = none) → ACall P f args B Q) : ACall P f args B Q :=
  fun w0 fr φ w cs hR hA => h (fun i hi => ⟨(hR.resv i hi).1, (hR.resv i hi).2.2⟩) w0 fr φ w cs hR hA

/-- A call carried out over a part of a heap that it leaves as it was. -/
theorem ACall.part {P : Program} {call : Caller} (hc : CallOk P call) {f : FuncId} {args : List Value} {L : List (Option ABlk)} {b : Nat} {B : AHeap} {v : Value} (h : (call f args (mkH L)).isSome = true) (hv : outV (call f args (mkH L)) = v) (hfl : Go.Proofs.YtihpfgnigpmihaaGreat.flat v = true)
    (hL : (List.range L.length).map (outH (call f args (mkH L))).get = L) (hn : Nat.ble L.length (outH (call f args (mkH L))).next = true) (ro : noRoH (outH (call f args (mkH L))) = true) (hb : b + L.length ≤ B.next)
    (hB : ∀ i, i < L.length → ∃ x, L[i]? = some (some x) ∧ B.get (b + i) = some (renB (shift b L.length B.next) x)) :
    ACall P f (args.map (ren (shift b L.length B.next))) B fun e B' => e = .ret v ∧ Ext B B' := by
  refine ACall.resv fun hrs => ?_
  cases hr : call f args (mkH L) with
  | none => rw [hr] at h; cases h
  | some r =>
    obtain ⟨v0, H'⟩ := r
    rw [hr] at hv hL hn ro
    simp only [outV, outH] at hv hL hn ro
    subst hv
    have hs : Stands (shift b L.length B.next) (mkH L) B := by
      refine ⟨fun i j e => shift_inj hb i j e, fun i hi => ?_, fun i hi => ?_, fun i x hx => ?_, rfl, fun i hi => ?_⟩
      · have : i < L.length := hi
        unfold shift; rw [if_pos this]; omega
      · have : ¬ i < L.length := Nat.not_lt.2 hi
        unfold shift; rw [if_neg this]; rfl
      · have hi : i < L.length := AHeap.get_lt hx
        obtain ⟨y, h1, h2⟩ := hB i hi
        rw [mkH_get, h1] at hx
        cases hx
        have : shift b L.length B.next i = b + i := by unfold shift; rw [if_pos hi, Nat.add_comm]
        rw [this]; exact h2
      · have hi' : i < L.length := hi
        have : shift b L.length B.next i = b + i := by unfold shift; rw [if_pos hi', Nat.add_comm]
        rw [this]
        intro hm
        obtain ⟨y, h1, h2⟩ := hB i hi'
        rw [(hrs _ hm).2] at h2; cases h2
    refine (ACall.frame hs (hc f args _ v0 H' hr) (fun ae H2 ⟨_, e⟩ => ⟨by rw [e]; exact Nat.le_of_ble_eq_true hn, fun i vs t hi => absurd (e ▸ hi) (noRoH_ok ro i vs t)⟩)).mono ?_
    rintro e B' ⟨a0, H2, ⟨rfl, rfl⟩, rfl, _, hm⟩
    refine ⟨by rw [renEnd, ren_flat _ hfl], ⟨by rw [hm.next]; exact Nat.le_add_right _ _, fun j hj => ?_, hm.rs⟩⟩
    by_cases hin : b ≤ j ∧ j < b + L.length
    · obtain ⟨i, rfl⟩ : ∃ i, j = b + i := ⟨j - b, by omega⟩
      have hi : i < L.length := by omega
      have hsh : shift b L.length B.next i = b + i := by unfold shift; rw [if_pos hi, Nat.add_comm]
      obtain ⟨x, h1, h2⟩ := hB i hi
      have h3 : H2.get i = some x := by
        have := congrArg (fun l => l[i]?) hL
        simp only [List.getElem?_map, List.getElem?_range hi, Option.map_some, h1] at this
        exact Option.some.inj this
      have := hm.new i (Nat.lt_of_lt_of_le hi (Nat.le_of_ble_eq_true hn))
      rw [hsh, h3] at this
      rw [this, h2]; rfl
    · refine hm.old j hj fun i hi => ?_
      have hi' : i < L.length := hi
      unfold shift; rw [if_pos hi']; omega

/-- A node by what it has; its kids are the list of a block that is told by a number. -/
structure NdR where
  kind : Nat
  cell : Int
  grp : Int
  lo : Nat
  hi : Int
  kid : Option (Nat × Nat)
  kl : List Nat
def NdR.kv (r : NdR) (f : Nat → Nat) : Value := match r.kid with
  | none => .slice none 0 0
  | some (j, c) => .slice (some ⟨f j, 0, none⟩) r.kl.length c
def NdR.nd (f : Nat → Nat) (r : NdR) : Nd := ⟨r.kind, r.cell, false, .slice none 0 0, .slice none 0 0, r.grp, r.lo, r.hi, r.kv f, r.kl, rfl, rfl, by unfold NdR.kv; split <;> rfl⟩
def NdR.pn (r : NdR) : Pn := ⟨r.kind, r.cell, r.lo, r.hi, r.kl⟩
theorem NdR.pn_eq (f : Nat → Nat) (r : NdR) : (r.nd f).pn = r.pn := rfl
theorem pns (f : Nat → Nat) (l : List NdR) : (l.map (NdR.nd f)).map Nd.pn = l.map NdR.pn := by simp [NdR.pn_eq]
theorem NdR.ren (ρ f : Nat → Nat) (r : NdR) : ((r.nd f).cells).map (Go.Proofs.YtihpfgnigpmihaaGreat.ren ρ) = (r.nd fun i => ρ (f i)).cells := by
  have : Go.Proofs.YtihpfgnigpmihaaGreat.ren ρ (r.kv f) = r.kv fun i => ρ (f i) := by
    unfold NdR.kv
    cases r.kid with
    | none => rfl
    | some p => rfl
  show [_, _, _, _, _, _, _, _, Go.Proofs.YtihpfgnigpmihaaGreat.ren ρ (r.kv f)] = _
  rw [this]; rfl
theorem nodes_ren (ρ f : Nat → Nat) : ∀ (l : List NdR), (nodeCells (l.map (NdR.nd f))).map (ren ρ) = nodeCells (l.map (NdR.nd fun i => ρ (f i)))
  | [] => rfl
  | r :: l => by
    show ((r.nd f).cells ++ nodeCells (l.map (NdR.nd f))).map _ = (r.nd _).cells ++ nodeCells (l.map _)
    rw [List.map_append, NdR.ren, nodes_ren ρ f l]
def kidBlk (kl : List Nat) : Option ABlk := some (.cells (kl.map fun (k : Nat) => .int .i64 (k : Int)) 3 false)
/-- A tree's blocks: the nodes, the lists of kids. -/
def layout (l : List NdR) (ks : List (List Nat)) : List (Option ABlk) := some (.cells (nodeCells (l.map (NdR.nd id))) 44 false) :: ks.map kidBlk
def kidsB (l : List NdR) (ks : List (List Nat)) : Bool := l.all fun r => match r.kid with
  | none => decide (r.kl = [])
  | some (j + 1, _) => decide (ks[j]? = some r.kl)
  | _ => false

/-- A tree in a heap. -/
structure Tree (B : AHeap) (N nc : Nat) (ns : List Nd) : Prop where
  nodes : B.get N = some (.cells (nodeCells ns) 44 false)
  kids : ∀ nd ∈ ns, KidsAt B nd
  right : ∀ B2, Ext B B2 → ACall Tryz.prog 12 [.agg #[.slice (some ⟨N, 0, none⟩) ns.length nc, .int .i64 0]] B2 fun e B' => e = .ret (.bool true) ∧ Ext B2 B'
def rightR (P : Program) (l : List NdR) (ks : List (List Nat)) (nc : Nat) : Option (Value × AHeap) := dcall P tab tfns noBase 1000 20 12 [.agg #[.slice (some ⟨0, 0, none⟩) l.length nc, .int .i64 0]] (mkH (layout l ks))
/-- Blocks laid from a number on are a tree. -/
theorem Tree.of {l : List NdR} {ks : List (List Nat)} {nc b : Nat} {B : AHeap} (hk : kidsB l ks = true) (h1 : (rightR Tryz.prog l ks nc).isSome = true) (h2 : outV (rightR Tryz.prog l ks nc) = .bool true)
    (h3 : (List.range (layout l ks).length).map (outH (rightR Tryz.prog l ks nc)).get = layout l ks) (h4 : Nat.ble (layout l ks).length (outH (rightR Tryz.prog l ks nc)).next = true) (h5 : noRoH (outH (rightR Tryz.prog l ks nc)) = true) (hl : 0 < l.length)
    (g0 : B.get b = some (.cells (nodeCells (l.map (NdR.nd fun i => b + i))) 44 false)) (g1 : ∀ j kl, ks[j]? = some kl → B.get (b + (j + 1)) = kidBlk kl) : Tree B b nc (l.map (NdR.nd fun i => b + i)) := by
  refine ⟨g0, fun nd hnd => ?_, fun B2 hx => ?_⟩
  · obtain ⟨r, hr, rfl⟩ := List.mem_map.1 hnd
    have := List.all_eq_true.1 hk r hr
    cases hkid : r.kid with
    | none =>
      rw [hkid] at this
      exact .inl ⟨by show r.kv _ = _; unfold NdR.kv; rw [hkid], of_decide_eq_true this⟩
    | some p =>
      obtain ⟨j, c⟩ := p
      rw [hkid] at this
      cases j with
      | zero => cases this
      | succ j =>
        exact .inr ⟨b + (j + 1), c, by show r.kv _ = _; unfold NdR.kv; rw [hkid]; rfl, g1 j r.kl (of_decide_eq_true this)⟩
  · have hlast : b + (layout l ks).length ≤ B2.next := by
      have hlen : (layout l ks).length = ks.length + 1 := by simp [layout]
      rw [hlen]
      cases hks : ks.length with
      | zero => have := AHeap.get_lt (hx.get g0); omega
      | succ n =>
        have := AHeap.get_lt (hx.get (g1 n _ (List.getElem?_eq_getElem (by omega))))
        omega
    have := ACall.part (call_ok noBase_ok 1000 20) (f := 12) (args := [.agg #[.slice (some ⟨0, 0, none⟩) l.length nc, .int .i64 0]]) (L := layout l ks) (b := b) (B := B2) h1 h2 rfl h3 h4 h5 hlast (fun i hi => ?_)
    · have hlen : 0 < (layout l ks).length := by simp [layout]
      have hsh : shift b (layout l ks).length B2.next 0 = b := by unfold shift; rw [if_pos hlen, Nat.zero_add]
      have hren : [Value.agg #[.slice (some ⟨0, 0, none⟩) l.length nc, .int .i64 0]].map (ren (shift b (layout l ks).length B2.next)) = [.agg #[.slice (some ⟨b, 0, none⟩) (l.map (NdR.nd fun i => b + i)).length nc, .int .i64 0]] := by
        show [Value.agg #[.slice (some ⟨shift b (layout l ks).length B2.next 0, 0, none⟩) l.length nc, .int .i64 0]] = _
        rw [hsh, List.length_map]
      rw [hren] at this
      exact this
    · cases i with
      | zero =>
        refine ⟨_, rfl, ?_⟩
        rw [Nat.add_zero, hx.get g0]
        show _ = some (ABlk.cells ((nodeCells (l.map (NdR.nd id))).map (ren _)) 44 false)
        rw [nodes_ren]
        congr 3
        refine List.map_congr_left fun r hr => ?_
        have hkr := List.all_eq_true.1 hk r hr
        have : r.kv (fun i => b + i) = r.kv (fun i => shift b (layout l ks).length B2.next (id i)) := by
          unfold NdR.kv
          cases hkid : r.kid with
          | none => rfl
          | some p =>
            obtain ⟨j, c⟩ := p
            rw [hkid] at hkr
            cases j with
            | zero => cases hkr
            | succ j =>
              have hj : j < ks.length := (List.getElem?_eq_some_iff.1 (of_decide_eq_true hkr)).1
              have : shift b (layout l ks).length B2.next (id (j + 1)) = b + (j + 1) := by
                unfold shift
                rw [if_pos (by simp [layout]; omega)]
                simp only [id]; omega
              simp only [this]
        unfold NdR.nd
        simp only [this]
      | succ j =>
        have hj : j < ks.length := by simp [layout] at hi; exact hi
        refine ⟨.cells ((ks[j]).map fun (k : Nat) => .int .i64 (k : Int)) 3 false, by simp [layout, kidBlk, List.getElem?_eq_getElem hj], ?_⟩
        rw [hx.get (g1 j ks[j] (List.getElem?_eq_getElem hj))]
        show _ = some (ABlk.cells (((ks[j]).map fun (k : Nat) => Value.int .i64 (k : Int)).map (ren _)) 3 false)
        rw [List.map_map]; rfl

/-- A known call that gives a tree. -/
theorem Gives.tree {f : FuncId} {args : List Value} {l : List NdR} {ks : List (List Nat)} {nc : Nat} (h : Gives Tryz.prog f args (.agg #[.slice (some ⟨0, 0, none⟩) l.length nc, .int .i64 0]) (mkH (layout l ks))) (hk : kidsB l ks = true) (hl : 0 < l.length)
    (h1 : (rightR Tryz.prog l ks nc).isSome = true) (h2 : outV (rightR Tryz.prog l ks nc) = .bool true)
    (h3 : (List.range (layout l ks).length).map (outH (rightR Tryz.prog l ks nc)).get = layout l ks) (h4 : Nat.ble (layout l ks).length (outH (rightR Tryz.prog l ks nc)).next = true) (h5 : noRoH (outH (rightR Tryz.prog l ks nc)) = true) (B : AHeap) :
    ACall Tryz.prog f args B fun e B' => ∃ N ns, e = .ret (.agg #[.slice (some ⟨N, 0, none⟩) ns.length nc, .int .i64 0]) ∧ Ext B B' ∧ Tree B' N nc ns ∧ ns.map Nd.pn = l.map NdR.pn := by
  refine (h.at B).mono ?_
  rintro e B' ⟨rfl, hB'⟩
  have hm := merge_ok (Stands.empty B) (Nat.zero_le (mkH (layout l ks)).next)
  rw [← hB'] at hm
  have hx : Ext B B' := ⟨by rw [hm.next]; exact Nat.le_add_right _ _, fun j hj => hm.old j hj (fun i hi => absurd hi (Nat.not_lt_zero i)), hm.rs⟩
  have hsh : ∀ i, shift 0 0 B.next i = B.next + i := fun i => rfl
  have hfun : (fun i => shift 0 0 B.next (id i)) = fun i => B.next + i := rfl
  refine ⟨B.next, l.map (NdR.nd fun i => B.next + i), by rw [List.length_map]; rfl, hx, Tree.of hk h1 h2 h3 h4 h5 hl ?_ (fun j kl hj => ?_), pns _ l⟩
  · have := hm.new 0 (by show 0 < (layout l ks).length; simp [layout])
    rw [mkH_get] at this
    have this : B'.get B.next = some (.cells ((nodeCells (l.map (NdR.nd id))).map (ren (shift 0 0 B.next))) 44 false) := this
    rw [nodes_ren, hfun] at this
    exact this
  · have hjl : j < ks.length := (List.getElem?_eq_some_iff.1 hj).1
    have := hm.new (j + 1) (by show j + 1 < (layout l ks).length; simp [layout]; exact hjl)
    rw [mkH_get] at this
    have h6 : ((layout l ks)[j + 1]?).join = kidBlk kl := by simp [layout, hj]
    rw [h6, hsh] at this
    rw [this]
    show some (ABlk.cells ((kl.map fun (k : Nat) => Value.int .i64 (k : Int)).map (ren _)) 3 false) = _
    rw [List.map_map]; rfl
end Go.Proofs.YtihpfgnigpmihaaGreat
