/- match.newMatcher, slices.Clone of one span. -/
import Derived.Test.YtihpfgnigpmihaaGreatC15
set_option linter.unusedVariables false
set_option linter.unusedSimpArgs false
set_option maxRecDepth 100000
namespace Go.Proofs.YtihpfgnigpmihaaGreat
open Go

/-- What a matcher is made of. -/
structure Src (B : AHeap) (p : Pl) (ns : List Nd) (row : List Int) : Prop where
  nodes : B.get p.N = some (.cells (nodeCells ns) 44 false)
  rowAt : row ≠ [] → p.ra = some ⟨p.R, 0, none⟩ ∧ ∃ e ro, B.get p.R = some (.cells (row.map fun c => .int .i32 c) e ro)
  kids : ∀ nd ∈ ns, KidsAt B nd
  long : row.length < far
  many : ns.length < far
  klong : ∀ nd ∈ ns, nd.kl.length < far
theorem Src.ext {B B' : AHeap} {p : Pl} {ns : List Nd} {row : List Int} (h : Src B p ns row) (g : Ext B B') : Src B' p ns row := by
  refine ⟨g.get h.nodes, fun hr => ?_, fun nd hnd => ?_, h.long, h.many, h.klong⟩
  · obtain ⟨a, e, ro, b⟩ := h.rowAt hr
    exact ⟨a, e, ro, g.get b⟩
  · rcases h.kids nd hnd with k | ⟨kb, kc, k1, k2⟩
    · exact .inl k
    · exact .inr ⟨kb, kc, k1, g.get k2⟩
def treeV (p : Pl) (ns : List Nd) : Value := .agg #[.slice (some ⟨p.N, 0, none⟩) ns.length p.nc, .int .i64 p.groups]
def rowV (p : Pl) (row : List Int) : Value := .slice p.ra row.length p.rc
def Pl.with (p : Pl) (m k f : Nat) : Pl := { p with M := m, K := k, F := f }

theorem matcher_spec {ns : List Nd} {row : List Int} {p : Pl} {B : AHeap} (hE : Src B p ns row) : ACall Tryz.prog 13 [treeV p ns, rowV p row, .pointer none] B fun e B' =>
    ∃ m k f, e = .ret (.pointer (some ⟨m, 0, none⟩)) ∧ Ext B B' ∧ Eng B' (p.with m k f) ns row ∧ (∀ pv, Memo ns row k pv B') ∧ B.next ≤ k := by
  refine ACall.walk (fn := Tryz.f13) (c := bodyOf Tryz.prog 13) (by kernel_rfl) (by kernel_rfl) (by kernel_rfl) ?_
  refine AWp.seq' (by kernel_rfl) (AWp.region' (by kernel_rfl) ?_)
  refine AOps.write (n := 15) 0 [1] (.pointer (some ⟨B.next, 0, none⟩)) (B.push (.cells ([.slice (some ⟨p.N, 0, none⟩) ns.length p.nc, .int .i64 p.groups]) 31 false)) (by kernel_rfl) rfl (by kernel_rfl) (by kernel_rfl) (by kernel_rfl) (by kernel_rfl) ?_
  refine AOps.run (n := 15) [] [1] [] (cs := []) (by kernel_rfl) (by kernel_rfl) (by kernel_rfl) ?_ ?_
  · intro x hx; cases hx
  show AWp _ _ _ _ _
  refine AWp.view [(1, .slice p.ra row.length p.rc), (2, .pointer none), (3, .pointer (some ⟨B.next, 0, none⟩))] (by kernel_rfl) ?_
  refine AWp.seq' (by kernel_rfl) (AWp.region' (by kernel_rfl) ?_)
  refine AOps.run (n := 15) [(0, .blk ([.slice (some ⟨p.N, 0, none⟩) ns.length p.nc, .int .i64 p.groups]))] [0, 1, 2] [3, 4, 5, 6, 7, 8, 9, 10, 11, 12, 13, 14, 15, 16, 17, 18, 19] (cs := [.blk (B.next) ([.slice (some ⟨p.N, 0, none⟩) ns.length p.nc, .int .i64 p.groups])]) (by kernel_rfl) (by kernel_rfl) (by kernel_rfl) ?_ ?_
  · intro x hx
    simp only [List.mem_cons, List.not_mem_nil, or_false] at hx
    subst hx
    exact ⟨31, false, AHeap.get_push_new _ _⟩
  refine AOps.write (n := 15) 3 [4, 5, 6, 7, 8, 9, 10, 11, 12, 13, 14, 15, 16, 17, 18, 19] (.map (some (B.next + 1))) ((B.push (.cells ([.slice (some ⟨p.N, 0, none⟩) ns.length p.nc, .int .i64 p.groups]) 31 false)).push (.map [] 0)) (by kernel_rfl) rfl (by kernel_rfl) (by kernel_rfl) (by kernel_rfl) (by kernel_rfl) ?_
  refine AOps.write (n := 15) 4 [5, 6, 7, 8, 9, 10, 11, 12, 13, 14, 15, 16, 17, 18, 19] (.map (some (B.next + 2))) (((B.push (.cells ([.slice (some ⟨p.N, 0, none⟩) ns.length p.nc, .int .i64 p.groups]) 31 false)).push (.map [] 0)).push (.map [] 0)) (by kernel_rfl) rfl (by kernel_rfl) (by kernel_rfl) (by kernel_rfl) (by kernel_rfl) ?_
  have hK0 : (((B.push (.cells ([.slice (some ⟨p.N, 0, none⟩) ns.length p.nc, .int .i64 p.groups]) 31 false)).push (.map [] 0)).push (.map [] 0)).get (B.next + 1) = some (.map [] 0) := AHeap.get_push_old (AHeap.get_push_new _ _)
  have hF0 : (((B.push (.cells ([.slice (some ⟨p.N, 0, none⟩) ns.length p.nc, .int .i64 p.groups]) 31 false)).push (.map [] 0)).push (.map [] 0)).get (B.next + 2) = some (.map (askEntries.take 0) 0) := AHeap.get_push_new _ _
  have hX0 : Ext B (((B.push (.cells ([.slice (some ⟨p.N, 0, none⟩) ns.length p.nc, .int .i64 p.groups]) 31 false)).push (.map [] 0)).push (.map [] 0)) := ((Ext.push B _).trans (Ext.push _ _)).trans (Ext.push _ _)
  have hn0 : (((B.push (.cells ([.slice (some ⟨p.N, 0, none⟩) ns.length p.nc, .int .i64 p.groups]) 31 false)).push (.map [] 0)).push (.map [] 0)).next = B.next + 3 := rfl
  generalize ((B.push (.cells ([.slice (some ⟨p.N, 0, none⟩) ns.length p.nc, .int .i64 p.groups]) 31 false)).push (.map [] 0)).push (.map [] 0) = H0 at hK0 hF0 hX0 hn0 ⊢
  refine AOps.insert (n := 15) 5 [6, 7, 8, 9, 10, 11, 12, 13, 14, 15, 16, 17, 18, 19] (t := 75) (kt := 5) (et := 73) (M := B.next + 2) (k := .int .u8 1) (x := .func (.func 25) #[] #[]) (es := askEntries.take 0) (es' := askEntries.take 1) (ck := 0) (ck' := 1) (by kernel_rfl) rfl (by kernel_rfl) (by kernel_rfl) (by kernel_rfl) mt75 hF0 (by kernel_rfl) ?_
  have hK1 : (H0.set (B.next + 2) (.map (askEntries.take 1) 1)).get (B.next + 1) = some (.map [] 0) := by rw [AHeap.get_set_ne (by omega)]; exact hK0
  have hF1 := AHeap.get_set_same (b := .map (askEntries.take 1) 1) hF0
  have hX1 := hX0.set_new (i := B.next + 2) (by omega) (.map (askEntries.take 1) 1)
  have hn1 : (H0.set (B.next + 2) (.map (askEntries.take 1) 1)).next = B.next + 3 := hn0
  generalize H0.set (B.next + 2) (.map (askEntries.take 1) 1) = H1 at hK1 hF1 hX1 hn1 ⊢
  clear hK0 hF0 hX0 hn0
  refine AOps.insert (n := 15) 6 [7, 8, 9, 10, 11, 12, 13, 14, 15, 16, 17, 18, 19] (t := 75) (kt := 5) (et := 73) (M := B.next + 2) (k := .int .u8 2) (x := .func (.func 26) #[] #[]) (es := askEntries.take 1) (es' := askEntries.take 2) (ck := 1) (ck' := 2) (by kernel_rfl) rfl (by kernel_rfl) (by kernel_rfl) (by kernel_rfl) mt75 hF1 (by kernel_rfl) ?_
  have hK2 : (H1.set (B.next + 2) (.map (askEntries.take 2) 2)).get (B.next + 1) = some (.map [] 0) := by rw [AHeap.get_set_ne (by omega)]; exact hK1
  have hF2 := AHeap.get_set_same (b := .map (askEntries.take 2) 2) hF1
  have hX2 := hX1.set_new (i := B.next + 2) (by omega) (.map (askEntries.take 2) 2)
  have hn2 : (H1.set (B.next + 2) (.map (askEntries.take 2) 2)).next = B.next + 3 := hn1
  generalize H1.set (B.next + 2) (.map (askEntries.take 2) 2) = H2 at hK2 hF2 hX2 hn2 ⊢
  clear hK1 hF1 hX1 hn1
  refine AOps.insert (n := 15) 7 [8, 9, 10, 11, 12, 13, 14, 15, 16, 17, 18, 19] (t := 75) (kt := 5) (et := 73) (M := B.next + 2) (k := .int .u8 3) (x := .func (.func 27) #[] #[]) (es := askEntries.take 2) (es' := askEntries.take 3) (ck := 2) (ck' := 3) (by kernel_rfl) rfl (by kernel_rfl) (by kernel_rfl) (by kernel_rfl) mt75 hF2 (by kernel_rfl) ?_
  have hK3 : (H2.set (B.next + 2) (.map (askEntries.take 3) 3)).get (B.next + 1) = some (.map [] 0) := by rw [AHeap.get_set_ne (by omega)]; exact hK2
  have hF3 := AHeap.get_set_same (b := .map (askEntries.take 3) 3) hF2
  have hX3 := hX2.set_new (i := B.next + 2) (by omega) (.map (askEntries.take 3) 3)
  have hn3 : (H2.set (B.next + 2) (.map (askEntries.take 3) 3)).next = B.next + 3 := hn2
  generalize H2.set (B.next + 2) (.map (askEntries.take 3) 3) = H3 at hK3 hF3 hX3 hn3 ⊢
  clear hK2 hF2 hX2 hn2
  refine AOps.insert (n := 15) 8 [9, 10, 11, 12, 13, 14, 15, 16, 17, 18, 19] (t := 75) (kt := 5) (et := 73) (M := B.next + 2) (k := .int .u8 4) (x := .func (.func 28) #[] #[]) (es := askEntries.take 3) (es' := askEntries.take 4) (ck := 3) (ck' := 4) (by kernel_rfl) rfl (by kernel_rfl) (by kernel_rfl) (by kernel_rfl) mt75 hF3 (by kernel_rfl) ?_
  have hK4 : (H3.set (B.next + 2) (.map (askEntries.take 4) 4)).get (B.next + 1) = some (.map [] 0) := by rw [AHeap.get_set_ne (by omega)]; exact hK3
  have hF4 := AHeap.get_set_same (b := .map (askEntries.take 4) 4) hF3
  have hX4 := hX3.set_new (i := B.next + 2) (by omega) (.map (askEntries.take 4) 4)
  have hn4 : (H3.set (B.next + 2) (.map (askEntries.take 4) 4)).next = B.next + 3 := hn3
  generalize H3.set (B.next + 2) (.map (askEntries.take 4) 4) = H4 at hK4 hF4 hX4 hn4 ⊢
  clear hK3 hF3 hX3 hn3
  refine AOps.insert (n := 15) 9 [10, 11, 12, 13, 14, 15, 16, 17, 18, 19] (t := 75) (kt := 5) (et := 73) (M := B.next + 2) (k := .int .u8 5) (x := .func (.func 29) #[] #[]) (es := askEntries.take 4) (es' := askEntries.take 5) (ck := 4) (ck' := 5) (by kernel_rfl) rfl (by kernel_rfl) (by kernel_rfl) (by kernel_rfl) mt75 hF4 (by kernel_rfl) ?_
  have hK5 : (H4.set (B.next + 2) (.map (askEntries.take 5) 5)).get (B.next + 1) = some (.map [] 0) := by rw [AHeap.get_set_ne (by omega)]; exact hK4
  have hF5 := AHeap.get_set_same (b := .map (askEntries.take 5) 5) hF4
  have hX5 := hX4.set_new (i := B.next + 2) (by omega) (.map (askEntries.take 5) 5)
  have hn5 : (H4.set (B.next + 2) (.map (askEntries.take 5) 5)).next = B.next + 3 := hn4
  generalize H4.set (B.next + 2) (.map (askEntries.take 5) 5) = H5 at hK5 hF5 hX5 hn5 ⊢
  clear hK4 hF4 hX4 hn4
  refine AOps.insert (n := 15) 10 [11, 12, 13, 14, 15, 16, 17, 18, 19] (t := 75) (kt := 5) (et := 73) (M := B.next + 2) (k := .int .u8 11) (x := .func (.func 30) #[] #[]) (es := askEntries.take 5) (es' := askEntries.take 6) (ck := 5) (ck' := 6) (by kernel_rfl) rfl (by kernel_rfl) (by kernel_rfl) (by kernel_rfl) mt75 hF5 (by kernel_rfl) ?_
  have hK6 : (H5.set (B.next + 2) (.map (askEntries.take 6) 6)).get (B.next + 1) = some (.map [] 0) := by rw [AHeap.get_set_ne (by omega)]; exact hK5
  have hF6 := AHeap.get_set_same (b := .map (askEntries.take 6) 6) hF5
  have hX6 := hX5.set_new (i := B.next + 2) (by omega) (.map (askEntries.take 6) 6)
  have hn6 : (H5.set (B.next + 2) (.map (askEntries.take 6) 6)).next = B.next + 3 := hn5
  generalize H5.set (B.next + 2) (.map (askEntries.take 6) 6) = H6 at hK6 hF6 hX6 hn6 ⊢
  clear hK5 hF5 hX5 hn5
  refine AOps.insert (n := 15) 11 [12, 13, 14, 15, 16, 17, 18, 19] (t := 75) (kt := 5) (et := 73) (M := B.next + 2) (k := .int .u8 6) (x := .func (.func 31) #[] #[]) (es := askEntries.take 6) (es' := askEntries.take 7) (ck := 6) (ck' := 7) (by kernel_rfl) rfl (by kernel_rfl) (by kernel_rfl) (by kernel_rfl) mt75 hF6 (by kernel_rfl) ?_
  have hK7 : (H6.set (B.next + 2) (.map (askEntries.take 7) 7)).get (B.next + 1) = some (.map [] 0) := by rw [AHeap.get_set_ne (by omega)]; exact hK6
  have hF7 := AHeap.get_set_same (b := .map (askEntries.take 7) 7) hF6
  have hX7 := hX6.set_new (i := B.next + 2) (by omega) (.map (askEntries.take 7) 7)
  have hn7 : (H6.set (B.next + 2) (.map (askEntries.take 7) 7)).next = B.next + 3 := hn6
  generalize H6.set (B.next + 2) (.map (askEntries.take 7) 7) = H7 at hK7 hF7 hX7 hn7 ⊢
  clear hK6 hF6 hX6 hn6
  refine AOps.insert (n := 15) 12 [13, 14, 15, 16, 17, 18, 19] (t := 75) (kt := 5) (et := 73) (M := B.next + 2) (k := .int .u8 7) (x := .func (.func 32) #[] #[]) (es := askEntries.take 7) (es' := askEntries.take 8) (ck := 7) (ck' := 8) (by kernel_rfl) rfl (by kernel_rfl) (by kernel_rfl) (by kernel_rfl) mt75 hF7 (by kernel_rfl) ?_
  have hK8 : (H7.set (B.next + 2) (.map (askEntries.take 8) 8)).get (B.next + 1) = some (.map [] 0) := by rw [AHeap.get_set_ne (by omega)]; exact hK7
  have hF8 := AHeap.get_set_same (b := .map (askEntries.take 8) 8) hF7
  have hX8 := hX7.set_new (i := B.next + 2) (by omega) (.map (askEntries.take 8) 8)
  have hn8 : (H7.set (B.next + 2) (.map (askEntries.take 8) 8)).next = B.next + 3 := hn7
  generalize H7.set (B.next + 2) (.map (askEntries.take 8) 8) = H8 at hK8 hF8 hX8 hn8 ⊢
  clear hK7 hF7 hX7 hn7
  refine AOps.insert (n := 15) 13 [14, 15, 16, 17, 18, 19] (t := 75) (kt := 5) (et := 73) (M := B.next + 2) (k := .int .u8 8) (x := .func (.func 33) #[] #[]) (es := askEntries.take 8) (es' := askEntries.take 9) (ck := 8) (ck' := 9) (by kernel_rfl) rfl (by kernel_rfl) (by kernel_rfl) (by kernel_rfl) mt75 hF8 (by kernel_rfl) ?_
  have hK9 : (H8.set (B.next + 2) (.map (askEntries.take 9) 9)).get (B.next + 1) = some (.map [] 0) := by rw [AHeap.get_set_ne (by omega)]; exact hK8
  have hF9 := AHeap.get_set_same (b := .map (askEntries.take 9) 9) hF8
  have hX9 := hX8.set_new (i := B.next + 2) (by omega) (.map (askEntries.take 9) 9)
  have hn9 : (H8.set (B.next + 2) (.map (askEntries.take 9) 9)).next = B.next + 3 := hn8
  generalize H8.set (B.next + 2) (.map (askEntries.take 9) 9) = H9 at hK9 hF9 hX9 hn9 ⊢
  clear hK8 hF8 hX8 hn8
  refine AOps.insert (n := 15) 14 [15, 16, 17, 18, 19] (t := 75) (kt := 5) (et := 73) (M := B.next + 2) (k := .int .u8 9) (x := .func (.func 34) #[] #[]) (es := askEntries.take 9) (es' := askEntries.take 10) (ck := 9) (ck' := 10) (by kernel_rfl) rfl (by kernel_rfl) (by kernel_rfl) (by kernel_rfl) mt75 hF9 (by kernel_rfl) ?_
  have hK10 : (H9.set (B.next + 2) (.map (askEntries.take 10) 10)).get (B.next + 1) = some (.map [] 0) := by rw [AHeap.get_set_ne (by omega)]; exact hK9
  have hF10 := AHeap.get_set_same (b := .map (askEntries.take 10) 10) hF9
  have hX10 := hX9.set_new (i := B.next + 2) (by omega) (.map (askEntries.take 10) 10)
  have hn10 : (H9.set (B.next + 2) (.map (askEntries.take 10) 10)).next = B.next + 3 := hn9
  generalize H9.set (B.next + 2) (.map (askEntries.take 10) 10) = H10 at hK10 hF10 hX10 hn10 ⊢
  clear hK9 hF9 hX9 hn9
  refine AOps.insert (n := 15) 15 [16, 17, 18, 19] (t := 75) (kt := 5) (et := 73) (M := B.next + 2) (k := .int .u8 10) (x := .func (.func 35) #[] #[]) (es := askEntries.take 10) (es' := askEntries.take 11) (ck := 10) (ck' := 11) (by kernel_rfl) rfl (by kernel_rfl) (by kernel_rfl) (by kernel_rfl) mt75 hF10 (by kernel_rfl) ?_
  have hK11 : (H10.set (B.next + 2) (.map (askEntries.take 11) 11)).get (B.next + 1) = some (.map [] 0) := by rw [AHeap.get_set_ne (by omega)]; exact hK10
  have hF11 := AHeap.get_set_same (b := .map (askEntries.take 11) 11) hF10
  have hX11 := hX10.set_new (i := B.next + 2) (by omega) (.map (askEntries.take 11) 11)
  have hn11 : (H10.set (B.next + 2) (.map (askEntries.take 11) 11)).next = B.next + 3 := hn10
  generalize H10.set (B.next + 2) (.map (askEntries.take 11) 11) = H11 at hK11 hF11 hX11 hn11 ⊢
  clear hK10 hF10 hX10 hn10
  refine AOps.run (n := 15) [] [16, 17] [18, 19] (cs := []) (by kernel_rfl) (by kernel_rfl) (by kernel_rfl) ?_ ?_
  · intro x hx; cases hx
  refine AOps.write (n := 15) 18 [19] (.pointer (some ⟨H11.next, 0, none⟩)) (H11.push (.cells (matCells (.slice (some ⟨p.N, 0, none⟩) ns.length p.nc) p.groups (.slice p.ra row.length p.rc) (B.next + 1) (B.next + 2)) 77 false)) (by kernel_rfl) rfl (by kernel_rfl) (by kernel_rfl) (by kernel_rfl) (by kernel_rfl) ?_
  refine AOps.run (n := 15) [] [19] [] (cs := []) (by kernel_rfl) (by kernel_rfl) (by kernel_rfl) ?_ ?_
  · intro x hx; cases hx
  show AWp _ _ _ _ _
  refine AWp.view [(6, .pointer (some ⟨H11.next, 0, none⟩))] (by kernel_rfl) ?_
  refine AWp.ret' (by kernel_rfl) ⟨[.pointer (some ⟨H11.next, 0, none⟩)], by kernel_rfl, H11.next, B.next + 1, B.next + 2, rfl, hX11.trans (Ext.push _ _), ?_, ?_, Nat.le_succ _⟩
  · refine ⟨AHeap.get_push_new _ _, AHeap.get_push_old (hX11.get hE.nodes), fun hr => ?_, ⟨11, AHeap.get_push_old hF11⟩, by show B.next + 2 ≠ B.next + 1; omega, fun nd hnd => ?_, hE.long, hE.many, hE.klong⟩
    · obtain ⟨a, e, ro, b⟩ := hE.rowAt hr
      exact ⟨a, e, ro, AHeap.get_push_old (hX11.get b)⟩
    · rcases hE.kids nd hnd with k | ⟨kb, kc, k1, k2⟩
      · exact .inl k
      · exact .inr ⟨kb, kc, k1, AHeap.get_push_old (hX11.get k2)⟩
  · exact fun pv => ⟨[], 0, [], AHeap.get_push_old hK11, rfl, fun e he => absurd he List.not_mem_nil⟩

theorem clone_spec {id o c : Nat} {B : AHeap} {cs : List Value} {e : TypeId} {ro : Bool} {x y : Int} (hB : B.get id = some (.cells cs e ro)) (hcs : (cs.drop o).take 2 = [.int .i64 x, .int .i64 y]) (ho : o + 2 ≤ cs.length) :
    ACall Tryz.prog 15 [.slice (some ⟨id, o, none⟩) 1 c] B fun e' B' => ∃ j, e' = .ret (.slice (some ⟨j, 0, none⟩) 1 (unk 2)) ∧ Ext B B' ∧ B'.get j = some (.cells [.int .i64 x, .int .i64 y] 35 false) ∧ B.next ≤ j := by
  refine ACall.walk (fn := Tryz.f15) (c := bodyOf Tryz.prog 15) (by kernel_rfl) (by kernel_rfl) (by kernel_rfl) ?_
  refine AWp.seq' (by kernel_rfl) (AWp.region' (by kernel_rfl) ?_)
  refine AOps.run (n := 8) [] [0] [] (cs := []) (by kernel_rfl) (by kernel_rfl) (by kernel_rfl) ?_ ?_
  · intro x hx; cases hx
  show AWp _ _ _ _ _
  refine AWp.view [(0, .slice (some ⟨id, o, none⟩) 1 c)] (by kernel_rfl) ?_
  refine AWp.seq' (by kernel_rfl) ?_
  refine AWp.seq' (by kernel_rfl) (AWp.region' (by kernel_rfl) ?_)
  refine AOps.run (n := 8) [] [0, 1] [] (cs := []) (by kernel_rfl) (by kernel_rfl) (by kernel_rfl) ?_ ?_
  · intro x hx; cases hx
  show AWp _ _ _ _ _
  refine AWp.view [(0, .slice (some ⟨id, o, none⟩) 1 c), (4, .bool false)] (by kernel_rfl) ?_
  refine AWp.condF (c := .tmp 4) (by kernel_rfl) (by kernel_rfl) ?_
  refine AWp.skip' (by kernel_rfl) ?_
  show AWp _ _ _ _ _
  refine AWp.seq' (by kernel_rfl) (AWp.region' (by kernel_rfl) ?_)
  refine AOps.write (n := 8) 0 [1, 2, 3] (.slice (some ⟨B.next, 0, none⟩) 0 0) (B.push (.cells [] 35 false)) (by kernel_rfl) rfl (by kernel_rfl) (by kernel_rfl) (by kernel_rfl) (by kernel_rfl) ?_
  refine AOps.run (n := 8) [] [1] [2, 3] (cs := []) (by kernel_rfl) (by kernel_rfl) (by kernel_rfl) ?_ ?_
  · intro x hx; cases hx
  have hA : aappend Tryz.prog (B.push (.cells [] 35 false)) 26 26 (.slice (some ⟨B.next, 0, none⟩) 0 0) (.slice (some ⟨id, o, none⟩) 1 c) = some (.slice (some ⟨B.next + 1, 0, none⟩) 1 (unk 2), (B.push (.cells [] 35 false)).push (.cells [.int .i64 x, .int .i64 y] 35 false)) := by
    have hz : zeroT Tryz.prog 35 = some (.agg #[.int .i64 0, .int .i64 0]) := by kernel_rfl
    have hs : sliceT Tryz.prog 26 = some (35, 2, 16) := by kernel_rfl
    have hb : (B.push (.cells [] 35 false)).get id = some (.cells cs e ro) := AHeap.get_push_old hB
    have hn : (B.push (.cells [] 35 false)).get B.next = some (.cells [] 35 false) := AHeap.get_push_new _ _
    unfold aappend
    rw [hs]
    simp only [hz]
    rw [if_pos ⟨rfl, by decide⟩]
    unfold asrc
    rw [hs]
    simp only [hb]
    rw [if_neg (by decide), if_pos (by omega)]
    simp only [Nat.one_mul, hcs]
    rw [if_pos (show ([Value.int .i64 x, Value.int .i64 y].all (·.oneCell')) = true from rfl)]
    unfold aappendTo
    simp only [hn]
    rfl
  refine AOps.append (n := 8) 2 [3] (t := 26) (tx := 26) (x := .slice (some ⟨B.next, 0, none⟩) 0 0) (y := .slice (some ⟨id, o, none⟩) 1 c) (v := .slice (some ⟨B.next + 1, 0, none⟩) 1 (unk 2)) (H' := (B.push (.cells [] 35 false)).push (.cells [.int .i64 x, .int .i64 y] 35 false)) (by kernel_rfl) rfl (by kernel_rfl) (by kernel_rfl) (by kernel_rfl) hA ?_
  refine AOps.run (n := 8) [] [3] [] (cs := []) (by kernel_rfl) (by kernel_rfl) (by kernel_rfl) ?_ ?_
  · intro x hx; cases hx
  show AWp _ _ _ _ _
  refine AWp.view [(2, .slice (some ⟨B.next + 1, 0, none⟩) 1 (unk 2))] (by kernel_rfl) ?_
  exact AWp.ret' (by kernel_rfl) ⟨[.slice (some ⟨B.next + 1, 0, none⟩) 1 (unk 2)], by kernel_rfl, B.next + 1, rfl, (Ext.push _ _).trans (Ext.push _ _), AHeap.get_push_new _ _, Nat.le_succ _⟩
end Go.Proofs.YtihpfgnigpmihaaGreat
