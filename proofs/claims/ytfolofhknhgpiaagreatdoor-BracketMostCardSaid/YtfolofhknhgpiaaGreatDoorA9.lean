/- Operations over abstract heaps: append, make. -/
import Derived.Test.YtfolofhknhgpiaaGreatDoorA8
import Derived.Deep.Upon
set_option linter.unusedVariables false
set_option linter.unusedSimpArgs false
namespace Go.Proofs.YtfolofhknhgpiaaGreatDoor
open Go

/-- What an append's second argument yields. -/
def asrc (P : Program) (H : AHeap) (tx : TypeId) (s : Nat) (x : Value) : Option (Nat × List Value) :=
  match x with
  | .slice none 0 0 => match sliceT P tx with
    | some _ => some (0, [])
    | none => none
  | .slice (some a) n _ => match sliceT P tx with
    | some _ => if n = 0 then some (0, []) else
      match H.get a.block with
      | some (.cells vs _ _) => if a.off + n * s ≤ vs.length then some (n, (vs.drop a.off).take (n * s)) else none
      | _ => none
    | none => none
  | .string b => if stringT P tx = true ∧ s = 1 then some (b.size, b.data.toList.map fun c => .int .u8 c.toNat) else none
  | _ => none

section
variable {P : Program} {w0 : World} {fr : Nat → Option Obj} {φ : Plan} {H : AHeap} {w : World}

theorem src_run (hR : Rel P w0 fr φ H w) {tx : TypeId} {s n : Nat} {x cx : Value} {news : List Value} (h : asrc P H tx s x = some (n, news)) (hx : RV φ x cx) (h1 : news.all (·.oneCell') = true) :
    ∃ cnews, RL φ news cnews ∧ Src P s tx cx n cnews w ∧ news.length = n * s := by
  unfold asrc at h
  split at h
  · split at h
    · rename_i e hs
      obtain ⟨hu, _⟩ := sliceT_spec hs
      cases h; cases hx
      exact ⟨[], RL.nil φ, Src.ofNil w hu 0, by simp⟩
    · cases h
  · rename_i a n' c
    split at h
    · rename_i e hs
      obtain ⟨hu, _⟩ := sliceT_spec hs
      split at h
      · rename_i h0
        cases h; subst h0
        refine ⟨[], RL.nil φ, ?_, by simp⟩
        cases hx with
        | slice ep ec => exact Src.ofSlice w hu _ 0 _ [] (by simp) (fun j u hj => by simp at hj) (by simp)
        | sliceDry ep ec => exact Src.ofSlice w hu _ 0 _ [] (by simp) (fun j u hj => by simp at hj) (by simp)
      · rename_i h0
        split at h
        · rename_i vs e' ro hH
          split at h
          · rename_i hle
            cases h
            cases hx with
            | slice ep ec =>
              obtain ⟨cs, q1, q2, q3⟩ := hR.range hH ep hle
              refine ⟨cs, q1, Src.ofSlice w hu _ n _ cs q2 (fun j u hj => by rw [Addr.add_mid]; exact q3 j u hj) (q1.one h1), by rw [q1.1, q2]⟩
            | sliceDry ep ec => exact absurd rfl h0
          · cases h
        · cases h
    · cases h
  · rename_i b
    split at h
    · rename_i hs
      obtain ⟨hs, rfl⟩ := hs
      cases h; cases hx
      refine ⟨byteCells b, ?_, Src.ofString w (stringT_spec hs) b, ?_⟩
      · refine RL.of_scalar ?_
        rw [List.all_eq_true]
        intro v hv
        obtain ⟨c, _, rfl⟩ := List.mem_map.1 hv
        rfl
      · rw [Nat.mul_one, List.length_map, Array.length_toList]; rfl
    · cases h
  · cases h

/-- append's answer, the second argument's cells at hand. -/
def aappendTo (H : AHeap) (e s by' : Nat) (x : Value) (n : Nat) (news : List Value) : Option (Value × AHeap) :=
  match x with
  | .slice none 0 0 => if n = 0 then some (.slice none 0 0, H)
    else if n * by' ≤ 140737488355328 then some (.slice (some ⟨H.next, 0, none⟩) n (unk s), H.push (.cells news e false)) else none
  | .slice (some a) len c =>
    if n = 0 then (if c = unk s ∨ c < big ∧ len ≤ c then some (.slice (some a) len c, H) else none)
    else match H.get a.block with
    | some (.cells vs e' ro) =>
      if a.off + len * s ≤ vs.length then
        if c = unk s then
          if ro = false ∧ e' = e ∧ (len + n) * by' ≤ 140737488355328 ∧ a.off % s = 0 then
            some (.slice (some ⟨H.next, 0, none⟩) (len + n) (unk s), (H.kill a.block).push (.cells ((vs.drop a.off).take (len * s) ++ news) e false))
          else none
        else if c < big then
          if len + n ≤ c then
            if ro = false ∧ a.off + (len + n) * s ≤ vs.length then
              some (.slice (some a) (len + n) c, H.set a.block (.cells (putCells vs (a.off + len * s) news) e' false))
            else none
          else if (len + n) * by' ≤ 140737488355328 then
            some (.slice (some ⟨H.next, 0, none⟩) (len + n) (unk s), H.push (.cells ((vs.drop a.off).take (len * s) ++ news) e false))
          else none
        else none
      else none
    | _ => none
  | _ => none
def aappend (P : Program) (H : AHeap) (t tx : TypeId) (x y : Value) : Option (Value × AHeap) :=
  match sliceT P t with
  | some (e, s, by') => match zeroT P e with
    | some z => if (vcells z).length = s ∧ 0 < by' then
        match asrc P H tx s y with
        | some (n, news) => if news.all (·.oneCell') = true then aappendTo H e s by' x n news else none
        | none => none
      else none
    | none => none
  | none => none

theorem zeroCells_size (z : Array Value) (n : Nat) : (Builtin.zeroCells z n).size = n * z.size := by simp [Builtin.zeroCells]

/-- A row that is laid anew: the old cells, the new ones, and room. -/
theorem grown_run (hR : Rel P w0 fr φ H w) (H2 : AHeap) (hR2 : ∀ w', Rel P w0 fr φ H w' → Rel P w0 fr φ H2 w') (hnext : H2.next = H.next) {t tx ty e s by' : Nat} {i : TypeInfo} {z : Value} (hu : P.underlying t = some (.slice e)) (hi : P.info? e = some i) (his : i.size = s) (hib : i.bytes = by') (hz : i.zero = some z) (hzs : (vcells z).length = s)
    (base : Option Addr) (len c : Nat) {olds colds : List Value} (hro : RL φ olds colds) (hol : olds.length = len * s) (hold : (Builtin.firstCells s len (.slice base len c)).run P w.drew = .ok colds.toArray w.drew)
    {cx : Value} {n : Nat} {news cnews : List Value} (hrn : RL φ news cnews) (hnl : news.length = n * s) (hsrc : Src P s tx cx n cnews w) (hg : c < len + n) (hfit : (len + n) * by' ≤ 140737488355328) (hby : 0 < by') :
    Done P w0 fr φ w (Builtin.append_ #[t, tx] ty #[.slice base len c, cx]) (.slice (some ⟨H.next, 0, none⟩) (len + n) (unk s)) (H2.push (.cells (olds ++ news) e false)) := by
  subst his hib
  have h63 : ((len + n : Nat) : Int) ≤ 9223372036854775807 := by
    have : len + n ≤ (len + n) * i.bytes := Nat.le_mul_of_pos_right _ hby
    omega
  have hrun := run_append_grow_src (P := P) w t tx ty e i z hu hi hz base len c colds hold cx n cnews hsrc hg h63 (growslice_fits hg hfit)
  have hD : Rel P w0 fr φ H2 w.drew := hR2 _ (hR.drawn _)
  have hcap := grownCap_ge w (len + n) c e
  generalize grownCap w (len + n) c e = cap at hrun hcap
  let cs : Array Value := (colds ++ cnews).toArray ++ Builtin.zeroCells z.cells (cap - (len + n))
  have hzz : z.cells.size = i.size := by rw [← Array.length_toList, vcells_eq, hzs]
  have hcs : cs.size = len * i.size + n * i.size + (cap - (len + n)) * i.size := by
    simp only [cs, Array.size_append, List.size_toArray, List.length_append, zeroCells_size, hzz, ← hro.1, ← hrn.1, hol, hnl]
  have hal := hD.alloc (.cells cs e) (.cells (olds ++ news) e false) ⟨w.drew.heap.size, 0, cs.size, P.cellsOf e⟩ rfl fun ψ hψ =>
    Lies.newCells ψ hD.fresh (fun j v hv => by
      obtain ⟨y, a, b⟩ := (hro.append hrn).get hv
      refine ⟨y, ?_, b.mono hψ⟩
      have hj : j < (colds ++ cnews).length := by
        rcases Nat.lt_or_ge j (colds ++ cnews).length with h1 | h1
        · exact h1
        · rw [List.getElem?_eq_none h1] at a; cases a
      simp only [cs]
      rw [Array.getElem?_append_left (by simpa using hj)]
      simpa using a) (by rw [hcs]; simp [hol, hnl]) rfl
  rw [hnext] at hal
  refine ⟨_, _, _, hrun, Plan.le_put hR.next_none _, hal, ?_⟩
  have hsz : P.cellsOf e = i.size := by simp [Program.cellsOf, hi]
  have key : RV (φ.put H.next ⟨w.drew.heap.size, 0, cs.size, P.cellsOf e⟩) (.slice (some ⟨H.next, 0, none⟩) (len + n) (unk i.size)) (.slice (some ⟨w.drew.heap.size, 0 + 0, none⟩) (len + n) cap) := by
    refine .slice (l := ⟨w.drew.heap.size, 0, cs.size, P.cellsOf e⟩) (by simp [Plan.put]) (.inr ⟨by rw [hsz], hcap, ?_⟩)
    simp only [hsz, hcs, Nat.zero_add]
    rw [← Nat.add_mul, ← Nat.add_mul]
    exact Nat.mul_le_mul_right _ (by omega)
  exact key

theorem append_run (hR : Rel P w0 fr φ H w) {t tx ty : TypeId} {x y cx cy v : Value} {H' : AHeap} (h : aappend P H t tx x y = some (v, H')) (hx : RV φ x cx) (hy : RV φ y cy) :
    Done P w0 fr φ w (Builtin.append_ #[t, tx] ty #[cx, cy]) v H' := by
  unfold aappend at h
  split at h
  · rename_i e s by' hsl
    obtain ⟨hu, i, hi, his, hib⟩ := sliceT_spec hsl
    split at h
    · rename_i z hz
      have hiz : i.zero = some z := by unfold zeroT at hz; rw [hi] at hz; exact hz
      split at h
      · rename_i hc
        split at h
        · rename_i n news hsrc0
          split at h
          · rename_i hone
            obtain ⟨cnews, hrn, hsrc, hnl⟩ := src_run hR hsrc0 hy hone
            have hsrc' : Src P i.size tx cy n cnews w := by rw [his]; exact hsrc
            unfold aappendTo at h
            split at h
            · cases hx
              split at h
              · rename_i h0; subst h0
                cases h
                have hcn : cnews = [] := List.eq_nil_of_length_eq_zero (by rw [← hrn.1, hnl]; simp)
                subst hcn
                exact ⟨_, w, φ, run_append_nothing w t tx ty e i hu hi none 0 0 (Nat.le_refl _) cy hsrc', Plan.le_refl φ, hR, .sliceNil⟩
              · split at h
                · rename_i h0 hfit
                  cases h
                  have := grown_run hR H (fun _ q => q) rfl (ty := ty) hu hi his hib hiz hc.1 none 0 0 (RL.nil φ) (by simp) (run_firstCells_none (P := P) w.drew s 0 0 0) hrn hnl hsrc (by omega) (by simpa using hfit) hc.2
                  simpa using this
                · cases h
            · rename_i a len c
              split at h
              · rename_i h0; subst h0
                have hcn : cnews = [] := List.eq_nil_of_length_eq_zero (by rw [← hrn.1, hnl]; simp)
                subst hcn
                split at h
                · rename_i hcc
                  cases h
                  have hx0 := hx
                  cases hx with
                  | slice ep ec =>
                    refine ⟨_, w, φ, run_append_nothing w t tx ty e i hu hi _ len _ ?_ cy hsrc', Plan.le_refl φ, hR, hx0⟩
                    unfold unk big at *
                    omega
                  | sliceDry ep ec =>
                    exact ⟨_, w, φ, run_append_nothing w t tx ty e i hu hi _ 0 0 (Nat.le_refl _) cy hsrc', Plan.le_refl φ, hR, hx0⟩
                · cases h
              · rename_i h0
                split at h
                · rename_i vs e' ro hH
                  split at h
                  · rename_i hlen
                    split at h
                    · rename_i hunk
                      split at h
                      · rename_i hcond
                        obtain ⟨rfl, rfl, hfit, hos⟩ := hcond
                        cases h
                        cases hx with
                        | slice ep ec =>
                          rename_i B o c' l
                          simp only at hH hlen hos
                          rcases ec with ⟨h1, _⟩ | ⟨h1, h2, h3⟩
                          · unfold unk at hunk; omega
                          · have hes : l.esz = s := by unfold unk at *; omega
                            obtain ⟨l', q, k1, k2, k3⟩ := hR.cells hH
                            rw [ep] at q; cases q
                            by_cases hroom : len + n ≤ c'
                            · -- there is room
                              have hext : o + len * s + news.length ≤ l.ext := by
                                rw [hnl, Nat.add_assoc, ← Nat.add_mul]
                                have := Nat.mul_le_mul_right s hroom
                                rw [hes] at h3
                                omega
                              have hrun := run_append_room_src (P := P) w t tx ty e' i hu hi l.blk (l.base + o) len c' cy n cnews hsrc' hroom
                                (fun j hj => by
                                  rw [his, show l.base + o + len * s + j = l.base + (o + len * s + j) from by omega]
                                  exact ((k3 rfl).2 _ (by rw [← hrn.1] at hj; omega)).1)
                                (fun j hj => by
                                  rw [his, show l.base + o + len * s + j = l.base + (o + len * s + j) from by omega]
                                  exact ((k3 rfl).2 _ (by rw [← hrn.1] at hj; omega)).2)
                              have hG := hR.grow hH ep hrn hlen hext (by rw [hes]; exact hos)
                              rw [his, show l.base + o + len * s = l.base + (o + len * s) from by omega] at hrun
                              refine ⟨_, _, _, hrun, Plan.le_put hR.next_none _, hG, ?_⟩
                              have key : RV (φ.put H.next ⟨l.blk, l.base + o, l.ext - o, l.esz⟩) (.slice (some ⟨H.next, 0, none⟩) (len + n) (unk s)) (.slice (some ⟨l.blk, l.base + o + 0, none⟩) (len + n) c') := by
                                refine .slice (l := ⟨l.blk, l.base + o, l.ext - o, l.esz⟩) (by simp [Plan.put]) (.inr ⟨by rw [hes], hroom, ?_⟩)
                                simp only
                                omega
                              exact key
                            · obtain ⟨cs, q1, q2, q3⟩ := hR.range hH ep hlen
                              refine grown_run hR (H.kill B) (fun w' q => q.kill B) rfl (ty := ty) hu hi his hib hiz hc.1 _ len c' q1 (by simp; omega) ?_ hrn hnl hsrc (by omega) hfit hc.2
                              exact run_firstCells_some (P := P) w.drew s len _ len c' cs q2 (fun j v hv => by rw [Addr.add_mid]; exact q3 j v hv)
                        | sliceDry ep ec =>
                          rename_i B o l x'
                          simp only at hH hlen
                          have := grown_run hR (H.kill B) (fun w' q => q.kill B) rfl (ty := ty) hu hi his hib hiz hc.1 (some x') 0 0 (RL.nil φ) (by simp)
                            (run_firstCells_some (P := P) w.drew s 0 x' 0 0 [] (by simp) (fun j v hv => by simp at hv)) hrn hnl hsrc (by omega) hfit hc.2
                          simpa using this
                      · cases h
                    · rename_i hunk
                      split at h
                      · rename_i hbig
                        have hx0 := hx
                        cases hx with
                        | slice ep ec =>
                          rename_i B o c' l
                          simp only at hH hlen
                          rcases ec with ⟨h1, rfl⟩ | ⟨h1, _⟩
                          · obtain ⟨l', q, k1, k2, k3⟩ := hR.cells hH
                            rw [ep] at q; cases q
                            split at h
                            · rename_i hroom
                              split at h
                              · rename_i hcond
                                obtain ⟨rfl, hle⟩ := hcond
                                cases h
                                simp only at hle
                                have hnl2 : len * s + n * s = (len + n) * s := by rw [Nat.add_mul]
                                have hrun := run_append_room_src (P := P) w t tx ty e i hu hi l.blk (l.base + o) len c' cy n cnews hsrc' hroom
                                  (fun j hj => by
                                    rw [his, show l.base + o + len * s + j = l.base + (o + len * s + j) from by omega]
                                    exact ((k3 rfl).2 _ (by rw [← hrn.1, hnl] at hj; omega)).1)
                                  (fun j hj => by
                                    rw [his, show l.base + o + len * s + j = l.base + (o + len * s + j) from by omega]
                                    exact ((k3 rfl).2 _ (by rw [← hrn.1, hnl] at hj; omega)).2)
                                have hW := hR.write hH ep hrn (o := o + len * s) (by rw [hnl]; omega)
                                rw [his, show l.base + o + len * s = l.base + (o + len * s) from by omega] at hrun
                                exact ⟨_, _, φ, hrun, Plan.le_refl φ, hW, .slice ep (.inl ⟨h1, rfl⟩)⟩
                              · cases h
                            · rename_i hroom
                              split at h
                              · rename_i hfit
                                cases h
                                obtain ⟨cs, q1, q2, q3⟩ := hR.range hH ep hlen
                                refine grown_run hR H (fun w' q => q) rfl (ty := ty) hu hi his hib hiz hc.1 _ len c' q1 (by simp; omega) ?_ hrn hnl hsrc (by omega) hfit hc.2
                                exact run_firstCells_some (P := P) w.drew s len _ len c' cs q2 (fun j v hv => by rw [Addr.add_mid]; exact q3 j v hv)
                              · cases h
                          · unfold unk big at *; omega
                        | sliceDry ep ec => unfold unk big at *; omega
                      · cases h
                  · cases h
                · cases h
            · cases h
          · cases h
        · cases h
      · cases h
    · cases h
  · cases h
end
end Go.Proofs.YtfolofhknhgpiaaGreatDoor
