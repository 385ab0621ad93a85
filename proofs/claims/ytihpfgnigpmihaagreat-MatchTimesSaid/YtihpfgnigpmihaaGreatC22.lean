/- MatchTimes. -/
import Derived.Test.YtihpfgnigpmihaaGreatC20
import Derived.Test.YtihpfgnigpmihaaGreatD2
import Derived.Test.YtihpfgnigpmihaaGreatB4
import Derived.Test.YtihpfgnigpmihaaGreatB5
set_option linter.unusedVariables false
set_option linter.unusedSimpArgs false
set_option maxRecDepth 100000
namespace Go.Proofs.YtihpfgnigpmihaaGreat
open Go

theorem conv_u8 {k : Nat} (hk : k < 256) : aconv Tryz.prog 5 3 (.int .u8 (k : Int)) = some (.int .i64 ((k : Nat) : Int)) := by
  have h : aconv Tryz.prog 5 3 (.int .u8 (k : Int)) = some (.int .i64 (IntKind.i64.wrap (k : Int))) := by kernel_rfl
  rw [h, wrap_id (by omega) (by omega)]
theorem wrap_u8' {n : Int} (h1 : 0 ≤ n) (h2 : n < 256) : IntKind.u8.wrap n = n := by
  unfold IntKind.wrap
  have hb : IntKind.u8.bits = 8 := rfl
  have hs : IntKind.u8.signed = false := rfl
  simp only [hb, hs, Bool.false_and]
  simp
  omega
theorem wrap_u8 {a b : Nat} (h : a + b < 256) : IntKind.u8.wrap ((a : Int) + (b : Int)) = ((a + b : Nat) : Int) := by
  rw [wrap_u8' (by omega) (by omega)]; omega
theorem conv_to_u8 {k : Nat} (hk : k < 256) : aconv Tryz.prog 3 5 (.int .i64 (k : Int)) = some (.int .u8 ((k : Nat) : Int)) := by
  have h : aconv Tryz.prog 3 5 (.int .i64 (k : Int)) = some (.int .u8 (IntKind.u8.wrap (k : Int))) := by kernel_rfl
  rw [h, wrap_u8' (by omega) (by omega)]
def byteStr (n : Nat) : ByteArray := ByteArray.empty.push (UInt8.ofNat ((n : Int)).toNat)
theorem bytes_one {H : AHeap} {j n : Nat} (h : H.get j = some (.cells [.int .u8 (n : Int)] 5 false)) : abytes Tryz.prog H 22 9 (.slice (some ⟨j, 0, none⟩) 1 1) = some (.string (byteStr n)) := by
  have h1 : sliceT Tryz.prog 22 = some (5, 1, 1) := by kernel_rfl
  have h2 : intT Tryz.prog 5 = some .u8 := by kernel_rfl
  have h3 : stringT Tryz.prog 9 = true := by kernel_rfl
  unfold abytes
  simp only [h1, h2, h3, h, and_self, if_true]
  rfl
def timesStr (x y : Nat) : ByteArray := (((⟨#[97, 123]⟩ : ByteArray) ++ byteStr (48 + x)) ++ (⟨#[44]⟩ : ByteArray) ++ byteStr (48 + y)) ++ (⟨#[125]⟩ : ByteArray)
def timesL (x y : Nat) : List NdR := [⟨1, 97, 0, 0, 0, none, []⟩, ⟨10, 0, 0, x, (y : Int), some (1, 1), [0]⟩]
theorem of_times {x z : Nat} (hx : x < 4) (hz : z < 3) (B : AHeap) : ACall Tryz.prog 9 [.string (timesStr x (x + z))] B fun e B' => ∃ N ns, e = .ret (.agg #[.slice (some ⟨N, 0, none⟩) ns.length 4611686018427387913, .int .i64 0]) ∧ Ext B B' ∧ Tree B' N 4611686018427387913 ns ∧ ns.map Nd.pn = (timesL x (x + z)).map NdR.pn := by
  rcases (show (x = 0 ∧ z = 0) ∨ (x = 0 ∧ z = 1) ∨ (x = 0 ∧ z = 2) ∨ (x = 1 ∧ z = 0) ∨ (x = 1 ∧ z = 1) ∨ (x = 1 ∧ z = 2) ∨ (x = 2 ∧ z = 0) ∨ (x = 2 ∧ z = 1) ∨ (x = 2 ∧ z = 2) ∨ (x = 3 ∧ z = 0) ∨ (x = 3 ∧ z = 1) ∨ (x = 3 ∧ z = 2) from by omega) with ⟨rfl, rfl⟩ | ⟨rfl, rfl⟩ | ⟨rfl, rfl⟩ | ⟨rfl, rfl⟩ | ⟨rfl, rfl⟩ | ⟨rfl, rfl⟩ | ⟨rfl, rfl⟩ | ⟨rfl, rfl⟩ | ⟨rfl, rfl⟩ | ⟨rfl, rfl⟩ | ⟨rfl, rfl⟩ | ⟨rfl, rfl⟩
  · have e1 : t00.2.2.1 = .agg #[.slice (some ⟨0, 0, none⟩) (timesL 0 0).length 4611686018427387913, .int .i64 0] := by kernel_rfl
    have e2 : t00.2.2.2 = layout (timesL 0 0) [[0]] := by kernel_rfl
    have e3 : t00.2.1 = [.string (timesStr 0 0)] := by kernel_rfl
    have g := t00_gives
    rw [e1, e2, e3] at g
    exact g.tree (by kernel_rfl) (Nat.succ_pos _) (by kernel_rfl) (by kernel_rfl) (by kernel_rfl) (by kernel_rfl) (by kernel_rfl) B
  · have e1 : t01.2.2.1 = .agg #[.slice (some ⟨0, 0, none⟩) (timesL 0 1).length 4611686018427387913, .int .i64 0] := by kernel_rfl
    have e2 : t01.2.2.2 = layout (timesL 0 1) [[0]] := by kernel_rfl
    have e3 : t01.2.1 = [.string (timesStr 0 1)] := by kernel_rfl
    have g := t01_gives
    rw [e1, e2, e3] at g
    exact g.tree (by kernel_rfl) (Nat.succ_pos _) (by kernel_rfl) (by kernel_rfl) (by kernel_rfl) (by kernel_rfl) (by kernel_rfl) B
  · have e1 : t02.2.2.1 = .agg #[.slice (some ⟨0, 0, none⟩) (timesL 0 2).length 4611686018427387913, .int .i64 0] := by kernel_rfl
    have e2 : t02.2.2.2 = layout (timesL 0 2) [[0]] := by kernel_rfl
    have e3 : t02.2.1 = [.string (timesStr 0 2)] := by kernel_rfl
    have g := t02_gives
    rw [e1, e2, e3] at g
    exact g.tree (by kernel_rfl) (Nat.succ_pos _) (by kernel_rfl) (by kernel_rfl) (by kernel_rfl) (by kernel_rfl) (by kernel_rfl) B
  · have e1 : t11.2.2.1 = .agg #[.slice (some ⟨0, 0, none⟩) (timesL 1 1).length 4611686018427387913, .int .i64 0] := by kernel_rfl
    have e2 : t11.2.2.2 = layout (timesL 1 1) [[0]] := by kernel_rfl
    have e3 : t11.2.1 = [.string (timesStr 1 1)] := by kernel_rfl
    have g := t11_gives
    rw [e1, e2, e3] at g
    exact g.tree (by kernel_rfl) (Nat.succ_pos _) (by kernel_rfl) (by kernel_rfl) (by kernel_rfl) (by kernel_rfl) (by kernel_rfl) B
  · have e1 : t12.2.2.1 = .agg #[.slice (some ⟨0, 0, none⟩) (timesL 1 2).length 4611686018427387913, .int .i64 0] := by kernel_rfl
    have e2 : t12.2.2.2 = layout (timesL 1 2) [[0]] := by kernel_rfl
    have e3 : t12.2.1 = [.string (timesStr 1 2)] := by kernel_rfl
    have g := t12_gives
    rw [e1, e2, e3] at g
    exact g.tree (by kernel_rfl) (Nat.succ_pos _) (by kernel_rfl) (by kernel_rfl) (by kernel_rfl) (by kernel_rfl) (by kernel_rfl) B
  · have e1 : t13.2.2.1 = .agg #[.slice (some ⟨0, 0, none⟩) (timesL 1 3).length 4611686018427387913, .int .i64 0] := by kernel_rfl
    have e2 : t13.2.2.2 = layout (timesL 1 3) [[0]] := by kernel_rfl
    have e3 : t13.2.1 = [.string (timesStr 1 3)] := by kernel_rfl
    have g := t13_gives
    rw [e1, e2, e3] at g
    exact g.tree (by kernel_rfl) (Nat.succ_pos _) (by kernel_rfl) (by kernel_rfl) (by kernel_rfl) (by kernel_rfl) (by kernel_rfl) B
  · have e1 : t22.2.2.1 = .agg #[.slice (some ⟨0, 0, none⟩) (timesL 2 2).length 4611686018427387913, .int .i64 0] := by kernel_rfl
    have e2 : t22.2.2.2 = layout (timesL 2 2) [[0]] := by kernel_rfl
    have e3 : t22.2.1 = [.string (timesStr 2 2)] := by kernel_rfl
    have g := t22_gives
    rw [e1, e2, e3] at g
    exact g.tree (by kernel_rfl) (Nat.succ_pos _) (by kernel_rfl) (by kernel_rfl) (by kernel_rfl) (by kernel_rfl) (by kernel_rfl) B
  · have e1 : t23.2.2.1 = .agg #[.slice (some ⟨0, 0, none⟩) (timesL 2 3).length 4611686018427387913, .int .i64 0] := by kernel_rfl
    have e2 : t23.2.2.2 = layout (timesL 2 3) [[0]] := by kernel_rfl
    have e3 : t23.2.1 = [.string (timesStr 2 3)] := by kernel_rfl
    have g := t23_gives
    rw [e1, e2, e3] at g
    exact g.tree (by kernel_rfl) (Nat.succ_pos _) (by kernel_rfl) (by kernel_rfl) (by kernel_rfl) (by kernel_rfl) (by kernel_rfl) B
  · have e1 : t24.2.2.1 = .agg #[.slice (some ⟨0, 0, none⟩) (timesL 2 4).length 4611686018427387913, .int .i64 0] := by kernel_rfl
    have e2 : t24.2.2.2 = layout (timesL 2 4) [[0]] := by kernel_rfl
    have e3 : t24.2.1 = [.string (timesStr 2 4)] := by kernel_rfl
    have g := t24_gives
    rw [e1, e2, e3] at g
    exact g.tree (by kernel_rfl) (Nat.succ_pos _) (by kernel_rfl) (by kernel_rfl) (by kernel_rfl) (by kernel_rfl) (by kernel_rfl) B
  · have e1 : t33.2.2.1 = .agg #[.slice (some ⟨0, 0, none⟩) (timesL 3 3).length 4611686018427387913, .int .i64 0] := by kernel_rfl
    have e2 : t33.2.2.2 = layout (timesL 3 3) [[0]] := by kernel_rfl
    have e3 : t33.2.1 = [.string (timesStr 3 3)] := by kernel_rfl
    have g := t33_gives
    rw [e1, e2, e3] at g
    exact g.tree (by kernel_rfl) (Nat.succ_pos _) (by kernel_rfl) (by kernel_rfl) (by kernel_rfl) (by kernel_rfl) (by kernel_rfl) B
  · have e1 : t34.2.2.1 = .agg #[.slice (some ⟨0, 0, none⟩) (timesL 3 4).length 4611686018427387913, .int .i64 0] := by kernel_rfl
    have e2 : t34.2.2.2 = layout (timesL 3 4) [[0]] := by kernel_rfl
    have e3 : t34.2.1 = [.string (timesStr 3 4)] := by kernel_rfl
    have g := t34_gives
    rw [e1, e2, e3] at g
    exact g.tree (by kernel_rfl) (Nat.succ_pos _) (by kernel_rfl) (by kernel_rfl) (by kernel_rfl) (by kernel_rfl) (by kernel_rfl) B
  · have e1 : t35.2.2.1 = .agg #[.slice (some ⟨0, 0, none⟩) (timesL 3 5).length 4611686018427387913, .int .i64 0] := by kernel_rfl
    have e2 : t35.2.2.2 = layout (timesL 3 5) [[0]] := by kernel_rfl
    have e3 : t35.2.1 = [.string (timesStr 3 5)] := by kernel_rfl
    have g := t35_gives
    rw [e1, e2, e3] at g
    exact g.tree (by kernel_rfl) (Nat.succ_pos _) (by kernel_rfl) (by kernel_rfl) (by kernel_rfl) (by kernel_rfl) (by kernel_rfl) B

theorem Found.split {W : Nat → List Res} {start len : Nat} {e : AEnd} {B : AHeap} (h : Found W start len e B) : ∃ sv b, e = .ret (.tuple #[sv, .bool b]) ∧
    (b = true → ∃ q x l j, start ≤ q ∧ q ≤ len ∧ W q = x :: l ∧ (∀ i, start ≤ i → i < q → W i = []) ∧ sv = .slice (some ⟨j, 0, none⟩) 1 (unk 2) ∧ B.get j = some (.cells [.int .i64 ((q : Nat) : Int), .int .i64 ((x.stop : Nat) : Int)] 35 false)) ∧
    (b = false → ∀ i, start ≤ i → i ≤ len → W i = []) := by
  rcases h with ⟨q, x, l, j, h1, h2, h3, h4, rfl, h5⟩ | ⟨h1, rfl⟩
  · exact ⟨_, true, rfl, fun _ => ⟨q, x, l, j, h1, h2, h3, h4, rfl, h5⟩, (fun h => by cases h)⟩
  · exact ⟨_, false, rfl, (fun h => by cases h), fun _ => h1⟩
theorem run_at {row : List Int} {c : Int} : ∀ {n p : Nat}, (∀ j, j < n → row[p + j]? = some c) → row[p + n]? ≠ some c → runFrom row c p = n
  | 0, p, _, h => run_no (by simpa using h)
  | n + 1, p, hall, h => by
    rw [run_yes (by simpa using hall 0 (Nat.succ_pos n)), run_at (n := n) (p := p + 1) (fun j hj => by have := hall (j + 1) (by omega); rwa [show p + 1 + j = p + (j + 1) from by omega]) (by rwa [show p + 1 + n = p + (n + 1) from by omega])]
theorem eq_span {x y : Operand} (a b : Int) : aagg Tryz.prog .eql 35 x y (.agg #[.int .i64 a, .int .i64 b]) (.agg #[.int .i64 a, .int .i64 b]) = some (.bool true) := by rw [agg35]; simp

theorem timesLaw {B : AHeap} {da : Option Addr} {dc D a b : Nat} {ds : List Nat} (ha : a < 256) (hb256 : b < 256) (h256 : ∀ z ∈ ds, z < 256) (hd : ds ≠ [] → da = some ⟨D, 0, none⟩ ∧ ∃ e ro, B.get D = some (.cells (ds.map fun (z : Nat) => .int .u8 (z : Int)) e ro)) :
    ACall Tryz.prog 5 [.slice da ds.length dc, .int .u8 (a : Int), .int .u8 (b : Int)] B fun e B' => e = .ret (.bool true) ∧ Ext B B' := by
  refine ACall.walk (fn := Tryz.f5) (c := bodyOf Tryz.prog 5) (by kernel_rfl) (by kernel_rfl) (by kernel_rfl) ?_
  refine AWp.seq' (by kernel_rfl) (AWp.region' (by kernel_rfl) ?_)
  refine AOps.run (n := 99) [] [0] [] (cs := []) (by kernel_rfl) (by kernel_rfl) (by kernel_rfl) ?_ ?_
  · intro x hx; cases hx
  show AWp _ _ _ _ _
  refine AWp.view [(0, .slice da ds.length dc), (1, .int .u8 ((a : Nat) : Int)), (2, .int .u8 ((b : Nat) : Int))] (by kernel_rfl) ?_
  refine AWp.seq' (by kernel_rfl) (AWp.region' (by kernel_rfl) ?_)
  refine AOps.run (n := 99) [] [0] [1, 2] (cs := []) (by kernel_rfl) (by kernel_rfl) (by kernel_rfl) ?_ ?_
  · intro x hx; cases hx
  refine AOps.call (n := 99) 1 [2] 7 [.slice da ds.length dc, .int .i64 ((12 : Nat) : Int)] (by kernel_rfl) rfl (by kernel_rfl) (by kernel_rfl) (by kernel_rfl) (by kernel_rfl) (by kernel_rfl) (cells_spec h256 (by decide) hd) ?_
  rintro e B1 ⟨ra, R, rc, rfl, hx1, hrow⟩
  refine ⟨_, rfl, ?_⟩
  generalize hrd : (ds.take 12).map cellOf = row at hrow ⊢
  have hlen : row.length ≤ 12 := by rw [← hrd]; simp; omega
  have hfar : row.length < far := Nat.lt_of_le_of_lt hlen (by decide)
  refine AOps.run (n := 99) [] [2] [] (cs := []) (by kernel_rfl) (by kernel_rfl) (by kernel_rfl) ?_ ?_
  · intro x hx; cases hx
  show AWp _ _ _ _ _
  refine AWp.view [(1, .int .u8 ((a : Nat) : Int)), (2, .int .u8 ((b : Nat) : Int)), (7, .slice ra row.length rc)] (by kernel_rfl) ?_
  have hx4 : a % 4 < 4 := Nat.mod_lt _ (by decide)
  have hz3 : b % 3 < 3 := Nat.mod_lt _ (by decide)
  refine AWp.seq' (by kernel_rfl) (AWp.region' (by kernel_rfl) ?_)
  refine AOps.run (n := 99) [(1, .val (.int .u8 ((a % 4 : Nat) : Int))), (2, .val (.int .i64 ((a % 4 : Nat) : Int)))] [0, 1, 2, 3] [] (cs := [.some (anum .rem .u8 .u8 (a : Int) ((4 : Nat) : Int)) (.int .u8 ((a % 4 : Nat) : Int)), .some (aconv Tryz.prog 5 3 (.int .u8 ((a % 4 : Nat) : Int))) (.int .i64 ((a % 4 : Nat) : Int))]) (by kernel_rfl) (by kernel_rfl) (by kernel_rfl) ?_ ?_
  · intro x hx
    simp only [List.mem_cons, List.not_mem_nil, or_false] at hx
    rcases hx with rfl | rfl
    · exact rem_ok .u8 a 4 (by decide)
    · exact conv_u8 (by omega)
  show AWp _ _ _ _ _
  generalize a % 4 = x at hx4 ⊢
  refine AWp.view [(2, .int .u8 ((b : Nat) : Int)), (7, .slice ra row.length rc), (8, .int .i64 ((x : Nat) : Int))] (by kernel_rfl) ?_
  refine AWp.seq' (by kernel_rfl) (AWp.region' (by kernel_rfl) ?_)
  refine AOps.run (n := 99) [(2, .val (.int .u8 ((b % 3 : Nat) : Int))), (3, .val (.int .i64 ((b % 3 : Nat) : Int))), (4, .val (.int .i64 ((x + b % 3 : Nat) : Int)))] [0, 1, 2, 3, 4, 5] [] (cs := [.some (anum .rem .u8 .u8 (b : Int) ((3 : Nat) : Int)) (.int .u8 ((b % 3 : Nat) : Int)), .some (aconv Tryz.prog 5 3 (.int .u8 ((b % 3 : Nat) : Int))) (.int .i64 ((b % 3 : Nat) : Int)), .some (some (.int .i64 (IntKind.i64.wrap ((x : Int) + ((b % 3 : Nat) : Int))))) (.int .i64 ((x + b % 3 : Nat) : Int))]) (by kernel_rfl) (by kernel_rfl) (by kernel_rfl) ?_ ?_
  · intro x hx
    simp only [List.mem_cons, List.not_mem_nil, or_false] at hx
    rcases hx with rfl | rfl | rfl
    · exact rem_ok .u8 b 3 (by decide)
    · exact conv_u8 (by omega)
    · exact congrArg (fun x => some (Value.int .i64 x)) (wrap_add (by omega))
  show AWp _ _ _ _ _
  generalize b % 3 = z at hz3 ⊢
  refine AWp.view [(7, .slice ra row.length rc), (8, .int .i64 ((x : Nat) : Int)), (9, .int .i64 ((x + z : Nat) : Int))] (by kernel_rfl) ?_
  refine AWp.seq' (by kernel_rfl) (AWp.region' (by kernel_rfl) ?_)
  refine AOps.run (n := 99) [(1, .val (.int .u8 ((x : Nat) : Int))), (2, .val (.int .u8 ((48 + (x) : Nat) : Int)))] [0, 1, 2] [3, 4, 5, 6, 7, 8, 9, 10, 11, 12, 13, 14] (cs := [.some (aconv Tryz.prog 3 5 (.int .i64 ((x : Nat) : Int))) (.int .u8 ((x : Nat) : Int)), .some (some (.int .u8 (IntKind.u8.wrap (((48 : Nat) : Int) + ((x : Nat) : Int))))) (.int .u8 ((48 + (x) : Nat) : Int))]) (by kernel_rfl) (by kernel_rfl) (by kernel_rfl) ?_ ?_
  · intro x hx
    simp only [List.mem_cons, List.not_mem_nil, or_false] at hx
    rcases hx with rfl | rfl
    · exact conv_to_u8 (by omega)
    · exact congrArg (fun x => some (Value.int .u8 x)) (wrap_u8 (by omega))
  refine AOps.write (n := 99) 3 [4, 5, 6, 7, 8, 9, 10, 11, 12, 13, 14] (.slice (some ⟨B1.next, 0, none⟩) 1 1) (B1.push (.cells [.int .u8 ((48 + (x) : Nat) : Int)] 5 false)) (by kernel_rfl) rfl (by kernel_rfl) (by kernel_rfl) (by kernel_rfl) (by kernel_rfl) ?_
  refine AOps.run (n := 99) [(4, .raw (.string (byteStr (48 + x)))), (5, .val (.string ((⟨#[97, 123]⟩ : ByteArray) ++ byteStr (48 + x)))), (6, .val (.string (((⟨#[97, 123]⟩ : ByteArray) ++ byteStr (48 + x)) ++ (⟨#[44]⟩ : ByteArray)))), (8, .val (.int .u8 ((x + z : Nat) : Int))), (9, .val (.int .u8 ((48 + (x + z) : Nat) : Int)))] [4, 5, 6, 7, 8, 9] [10, 11, 12, 13, 14] (cs := [.bytes 22 9 (.slice (some ⟨B1.next, 0, none⟩) 1 1) (.string (byteStr (48 + x))), .some (some (.string ((⟨#[97, 123]⟩ : ByteArray) ++ byteStr (48 + x)))) (.string ((⟨#[97, 123]⟩ : ByteArray) ++ byteStr (48 + x))), .some (some (.string (((⟨#[97, 123]⟩ : ByteArray) ++ byteStr (48 + x)) ++ (⟨#[44]⟩ : ByteArray)))) (.string (((⟨#[97, 123]⟩ : ByteArray) ++ byteStr (48 + x)) ++ (⟨#[44]⟩ : ByteArray))), .some (aconv Tryz.prog 3 5 (.int .i64 ((x + z : Nat) : Int))) (.int .u8 ((x + z : Nat) : Int)), .some (some (.int .u8 (IntKind.u8.wrap (((48 : Nat) : Int) + ((x + z : Nat) : Int))))) (.int .u8 ((48 + (x + z) : Nat) : Int))]) (by kernel_rfl) (by kernel_rfl) (by kernel_rfl) ?_ ?_
  · intro x hx
    simp only [List.mem_cons, List.not_mem_nil, or_false] at hx
    rcases hx with rfl | rfl | rfl | rfl | rfl
    · exact bytes_one (AHeap.get_push_new _ _)
    · rfl
    · rfl
    · exact conv_to_u8 (by omega)
    · exact congrArg (fun x => some (Value.int .u8 x)) (wrap_u8 (by omega))
  have hxp : Ext B1 (B1.push (.cells [.int .u8 ((48 + (x) : Nat) : Int)] 5 false)) := Ext.push _ _
  generalize B1.push (.cells [.int .u8 ((48 + (x) : Nat) : Int)] 5 false) = B2 at hxp ⊢
  refine AOps.write (n := 99) 10 [11, 12, 13, 14] (.slice (some ⟨B2.next, 0, none⟩) 1 1) (B2.push (.cells [.int .u8 ((48 + (x + z) : Nat) : Int)] 5 false)) (by kernel_rfl) rfl (by kernel_rfl) (by kernel_rfl) (by kernel_rfl) (by kernel_rfl) ?_
  refine AOps.run (n := 99) [(11, .raw (.string (byteStr (48 + (x + z))))), (12, .val (.string ((((⟨#[97, 123]⟩ : ByteArray) ++ byteStr (48 + x)) ++ (⟨#[44]⟩ : ByteArray)) ++ byteStr (48 + (x + z))))), (13, .val (.string (((((⟨#[97, 123]⟩ : ByteArray) ++ byteStr (48 + x)) ++ (⟨#[44]⟩ : ByteArray)) ++ byteStr (48 + (x + z))) ++ (⟨#[125]⟩ : ByteArray))))] [11, 12, 13, 14] [] (cs := [.bytes 22 9 (.slice (some ⟨B2.next, 0, none⟩) 1 1) (.string (byteStr (48 + (x + z)))), .some (some (.string ((((⟨#[97, 123]⟩ : ByteArray) ++ byteStr (48 + x)) ++ (⟨#[44]⟩ : ByteArray)) ++ byteStr (48 + (x + z))))) (.string ((((⟨#[97, 123]⟩ : ByteArray) ++ byteStr (48 + x)) ++ (⟨#[44]⟩ : ByteArray)) ++ byteStr (48 + (x + z)))), .some (some (.string (((((⟨#[97, 123]⟩ : ByteArray) ++ byteStr (48 + x)) ++ (⟨#[44]⟩ : ByteArray)) ++ byteStr (48 + (x + z))) ++ (⟨#[125]⟩ : ByteArray)))) (.string (((((⟨#[97, 123]⟩ : ByteArray) ++ byteStr (48 + x)) ++ (⟨#[44]⟩ : ByteArray)) ++ byteStr (48 + (x + z))) ++ (⟨#[125]⟩ : ByteArray)))]) (by kernel_rfl) (by kernel_rfl) (by kernel_rfl) ?_ ?_
  · intro x hx
    simp only [List.mem_cons, List.not_mem_nil, or_false] at hx
    rcases hx with rfl | rfl | rfl
    · exact bytes_one (AHeap.get_push_new _ _)
    · rfl
    · rfl
  show AWp _ _ _ _ _
  have hxq : Ext B1 (B2.push (.cells [.int .u8 ((48 + (x + z) : Nat) : Int)] 5 false)) := hxp.trans (Ext.push _ _)
  generalize B2.push (.cells [.int .u8 ((48 + (x + z) : Nat) : Int)] 5 false) = B3 at hxq ⊢
  refine AWp.view [(7, .slice ra row.length rc), (8, .int .i64 ((x : Nat) : Int)), (9, .int .i64 ((x + z : Nat) : Int)), (10, .string (timesStr x (x + z)))] (by kernel_rfl) ?_
  refine AWp.seq' (by kernel_rfl) (AWp.region' (by kernel_rfl) ?_)
  refine AOps.run (n := 99) [] [0] [1, 2, 3, 4, 5, 6, 7, 8] (cs := []) (by kernel_rfl) (by kernel_rfl) (by kernel_rfl) ?_ ?_
  · intro x hx; cases hx
  refine AOps.call (n := 99) 1 [2, 3, 4, 5, 6, 7, 8] 9 [.string (timesStr x (x + z))] (by kernel_rfl) rfl (by kernel_rfl) (by kernel_rfl) (by kernel_rfl) (by kernel_rfl) (by kernel_rfl) (of_times hx4 hz3 B3) ?_
  rintro e B4 ⟨N, ns, rfl, hx4', hT, hp⟩
  refine ⟨_, rfl, ?_⟩
  refine AOps.run (n := 99) [] [2] [3, 4, 5, 6, 7, 8] (cs := []) (by kernel_rfl) (by kernel_rfl) (by kernel_rfl) ?_ ?_
  · intro x hx; cases hx
  have hxr : Ext B1 B4 := hxq.trans hx4'
  refine AOps.call (n := 99) 3 [4, 5, 6, 7, 8] 8 [.agg #[.slice (some ⟨N, 0, none⟩) ns.length 4611686018427387913, .int .i64 0], .slice ra row.length rc, .int .i64 0, .pointer none] (by kernel_rfl) rfl (by kernel_rfl) (by kernel_rfl) (by kernel_rfl) (by kernel_rfl) (by kernel_rfl) (tree_find (l := timesL x (x + z)) (Nat.succ_pos _) rfl hT hp (fun hr => ⟨(hrow hr).1, 25, false, hxr.get (hrow hr).2.2⟩) hfar (start := 0) (fun q => resOf (minus 10) (stops row 97 x (x + z) 0 q)) (fun q _ hq => ⟨_, den_times (ns := (timesL x (x + z)).map NdR.pn) (i := 1) rfl rfl rfl rfl rfl rfl (by unfold most; omega) (x + z) 0 q (by omega) (by unfold far; omega)⟩)) ?_
  rintro e B5 ⟨hx5, hF⟩
  obtain ⟨sv, fb, rfl, hyes, hno⟩ := hF.split
  refine ⟨_, rfl, ?_⟩
  refine AOps.run (n := 99) [] [4, 5, 6, 7, 8] [] (cs := []) (by kernel_rfl) (by kernel_rfl) (by kernel_rfl) ?_ ?_
  · intro x hx; cases hx
  show AWp _ _ _ _ _
  have hxB : Ext B B5 := hx1.trans (hxr.trans hx5)
  have hrow5 : row ≠ [] → ra = some ⟨R, 0, none⟩ ∧ B5.get R = some (.cells (row.map fun c => .int .i32 c) 25 false) := fun hr => ⟨(hrow hr).1, (hxr.trans hx5).get (hrow hr).2.2⟩
  clear hrow hT hp hF
  refine AWp.view [(7, .slice ra row.length rc), (8, .int .i64 ((x : Nat) : Int)), (9, .int .i64 ((x + z : Nat) : Int)), (11, sv), (12, .bool fb)] (by kernel_rfl) ?_
  refine AWp.seq' (by kernel_rfl) ?_
  refine AWp.seq' (by kernel_rfl) (AWp.region' (by kernel_rfl) ?_)
  refine AOps.run (n := 99) [] [0] [] (cs := []) (by kernel_rfl) (by kernel_rfl) (by kernel_rfl) ?_ ?_
  · intro x hx; cases hx
  show AWp _ _ _ _ _
  refine AWp.view [(7, .slice ra row.length rc), (8, .int .i64 ((x : Nat) : Int)), (9, .int .i64 ((x + z : Nat) : Int)), (11, sv), (12, .bool fb), (13, .int .i64 ((0 : Nat) : Int))] (by kernel_rfl) ?_
  refine AWp.block' (id := 0) (by kernel_rfl) ?_
  refine AWp.loop' (by kernel_rfl) (N := row.length + 1 - 0) (fun m E H => ∃ p : Nat, m = row.length + 1 - p ∧ p ≤ row.length + 1 ∧ AEnv.le (envOf 99 (mkE [(7, .slice ra row.length rc), (8, .int .i64 ((x : Nat) : Int)), (9, .int .i64 ((x + z : Nat) : Int)), (11, sv), (12, .bool fb), (13, .int .i64 ((p : Nat) : Int))])) E ∧ H = B5 ∧ ∀ i, i < p → runFrom row 97 i < x)
    ⟨0, rfl, Nat.zero_le _, AEnv.le_refl _, rfl, fun i hi => absurd hi (Nat.not_lt_zero i)⟩ ?_
  rintro m E H ⟨p, rfl, hp1, hEn, rfl, hbef⟩
  refine AWp.env hEn ?_
  refine AWp.seq' (by kernel_rfl) ?_
  refine AWp.seq' (by kernel_rfl) (AWp.region' (by kernel_rfl) ?_)
  refine AOps.run (n := 99) [(3, .val (.bool (decide ((p : Int) ≤ (row.length : Int)))))] [0, 1, 2, 3] [] (cs := [.some (some (.bool (decide ((p : Int) ≤ (row.length : Int))))) (.bool (decide ((p : Int) ≤ (row.length : Int))))]) (by kernel_rfl) (by kernel_rfl) (by kernel_rfl) ?_ ?_
  · intro x hx
    simp only [List.mem_cons, List.not_mem_nil, or_false] at hx
    subst hx
    rfl
  show AWp _ _ _ _ _
  refine AWp.view [(7, .slice ra row.length rc), (8, .int .i64 ((x : Nat) : Int)), (9, .int .i64 ((x + z : Nat) : Int)), (11, sv), (12, .bool fb), (13, .int .i64 ((p : Nat) : Int)), (49, .bool (decide ((p : Int) ≤ (row.length : Int))))] (by kernel_rfl) ?_
  refine AWp.cond_ (c := .tmp 49) (t := decide ((p : Int) ≤ (row.length : Int))) (by kernel_rfl) (by kernel_rfl) (fun hT => ?_) (fun hF => ?_)
  · have hle : p ≤ row.length := by have := of_decide_eq_true hT; omega
    refine AWp.skip' (by kernel_rfl) ?_
    show AWp _ _ _ _ _
    refine AWp.seq' (by kernel_rfl) (AWp.block' (id := 1) (by kernel_rfl) ?_)
    refine AWp.seq' (by kernel_rfl) (AWp.region' (by kernel_rfl) ?_)
    refine AOps.run (n := 99) [] [0] [] (cs := []) (by kernel_rfl) (by kernel_rfl) (by kernel_rfl) ?_ ?_
    · intro x hx; cases hx
    show AWp _ _ _ _ _
    refine AWp.view [(7, .slice ra row.length rc), (8, .int .i64 ((x : Nat) : Int)), (9, .int .i64 ((x + z : Nat) : Int)), (11, sv), (12, .bool fb), (13, .int .i64 ((p : Nat) : Int)), (14, .int .i64 ((0 : Nat) : Int))] (by kernel_rfl) ?_
    refine AWp.seq' (by kernel_rfl) (AWp.block' (id := 2) (by kernel_rfl) ?_)
    refine AWp.loop' (by kernel_rfl) (N := row.length - p - 0) (fun m E H' => ∃ n : Nat, m = row.length - p - n ∧ p + n ≤ row.length ∧ AEnv.le (envOf 99 (mkE [(7, .slice ra row.length rc), (8, .int .i64 ((x : Nat) : Int)), (9, .int .i64 ((x + z : Nat) : Int)), (11, sv), (12, .bool fb), (13, .int .i64 ((p : Nat) : Int)), (14, .int .i64 ((n : Nat) : Int))])) E ∧ H' = H ∧ ∀ j, j < n → row[p + j]? = some 97)
      ⟨0, rfl, hle, AEnv.le_refl _, rfl, fun i hi => absurd hi (Nat.not_lt_zero i)⟩ ?_
    rintro m E H' ⟨n, rfl, hn1, hEn, rfl, hall⟩
    refine AWp.env hEn ?_
    by_cases hin : row[p + n]? = some 97
    · have hlt : p + n < row.length := (List.getElem?_eq_some_iff.1 hin).1
      obtain ⟨hra, hRow⟩ := hrow5 (fun e => by rw [e] at hlt; simp at hlt)
      obtain ⟨ch, hch⟩ : ∃ ch, row[p + n]? = some ch := ⟨97, hin⟩
      have hc : ch = 97 := by rw [hch] at hin; exact Option.some.inj hin
      refine AWp.seq' (by kernel_rfl) ?_
      refine AWp.seq' (by kernel_rfl) (AWp.region' (by kernel_rfl) ?_)
      refine AOps.run (n := 99) [(2, .val (.int .i64 ((p + n : Nat) : Int))), (5, .val (.bool true)), (10, .val (.int .i64 ((p + n : Nat) : Int))), (11, .val (.pointer (some ⟨R, 0 + (p + n) * 1, none⟩))), (12, .part (row.map fun c => .int .i32 c) (.int .i32 ch)), (13, .val (.bool true))] [0, 1, 2, 3, 4, 5, 6, 7, 8, 9, 10, 11, 12, 13, 14] [] (cs := [.some (some (.int .i64 (IntKind.i64.wrap ((p : Int) + (n : Int))))) (.int .i64 ((p + n : Nat) : Int)), .some (some (.bool (decide (((p + n : Nat) : Int) < (row.length : Int))))) (.bool true), .some (some (.int .i64 (IntKind.i64.wrap ((p : Int) + (n : Int))))) (.int .i64 ((p + n : Nat) : Int)), .some (aindexAddr Tryz.prog 23 (.slice ra row.length rc) (.int .i64 ((p + n : Nat) : Int))) (.pointer (some ⟨R, 0 + (p + n) * 1, none⟩)), .blk (R) (row.map fun c => .int .i32 c), .some (apart' (row.map fun c => .int .i32 c) (0 + (p + n) * 1) 1 false) (.int .i32 ch), .some (some (.bool (decide (ch = 97)))) (.bool true)]) (by kernel_rfl) (by kernel_rfl) (by kernel_rfl) ?_ ?_
      · intro x hx
        simp only [List.mem_cons, List.not_mem_nil, or_false] at hx
        rcases hx with rfl | rfl | rfl | rfl | rfl | rfl | rfl
        · exact congrArg (fun x => some (Value.int .i64 x)) (wrap_add (by omega))
        · exact congrArg (fun b => some (Value.bool b)) (decide_eq_true (by omega))
        · exact congrArg (fun x => some (Value.int .i64 x)) (wrap_add (by omega))
        · rw [hra]; exact indexAddr_ok (by kernel_rfl : sliceT Tryz.prog 23 = some (25, 1, 4)) hlt
        · exact ⟨25, false, hRow⟩
        · exact apart_one (by simp [hch])
        · exact congrArg (fun b => some (Value.bool b)) (decide_eq_true hc)
      show AWp _ _ _ _ _
      refine AWp.view [(7, .slice ra row.length rc), (8, .int .i64 ((x : Nat) : Int)), (9, .int .i64 ((x + z : Nat) : Int)), (11, sv), (12, .bool fb), (13, .int .i64 ((p : Nat) : Int)), (14, .int .i64 ((n : Nat) : Int)), (66, .bool true)] (by kernel_rfl) ?_
      refine AWp.condT (c := .tmp 66) (by kernel_rfl) (by kernel_rfl) ?_
      refine AWp.skip' (by kernel_rfl) ?_
      show AWp _ _ _ _ _
      refine AWp.block' (id := 3) (by kernel_rfl) ?_
      refine AWp.region' (by kernel_rfl) ?_
      refine AOps.run (n := 99) [(1, .val (.int .i64 ((n + 1 : Nat) : Int)))] [0, 1, 2] [] (cs := [.some (some (.int .i64 (IntKind.i64.wrap ((n : Int) + ((1 : Nat) : Int))))) (.int .i64 ((n + 1 : Nat) : Int))]) (by kernel_rfl) (by kernel_rfl) (by kernel_rfl) ?_ ?_
      · intro x hx
        simp only [List.mem_cons, List.not_mem_nil, or_false] at hx
        subst hx
        exact congrArg (fun x => some (Value.int .i64 x)) (wrap_add (by omega))
      exact ⟨row.length - p - (n + 1), by omega, n + 1, rfl, by omega, mkE_le [(7, .slice ra row.length rc), (8, .int .i64 ((x : Nat) : Int)), (9, .int .i64 ((x + z : Nat) : Int)), (11, sv), (12, .bool fb), (13, .int .i64 ((p : Nat) : Int)), (14, .int .i64 ((n + 1 : Nat) : Int))] (by kernel_rfl), rfl, fun j hj => by
        rcases Nat.lt_or_ge j n with h | h
        · exact hall j h
        · rw [show j = n from by omega]; exact hin⟩
    have hrun : runFrom row 97 p = n := run_at hall hin
    refine AWp.seq' (by kernel_rfl) ?_
    refine AWp.mono (Q := fun e E2 H2 => e = .exit 2 ∧ AEnv.le (envOf 99 (mkE [(7, .slice ra row.length rc), (8, .int .i64 ((x : Nat) : Int)), (9, .int .i64 ((x + z : Nat) : Int)), (11, sv), (12, .bool fb), (13, .int .i64 ((p : Nat) : Int)), (14, .int .i64 ((n : Nat) : Int))])) E2 ∧ H2 = H') ?_ ?_
    · rcases Nat.lt_or_ge (p + n) row.length with hlt | hge
      · obtain ⟨ch, hch⟩ : ∃ ch, row[p + n]? = some ch := ⟨_, List.getElem?_eq_getElem hlt⟩
        obtain ⟨hra, hRow⟩ := hrow5 (fun e => by rw [e] at hlt; simp at hlt)
        have hc : ¬ ch = 97 := fun e => hin (by rw [hch, e])
        refine AWp.seq' (by kernel_rfl) (AWp.region' (by kernel_rfl) ?_)
        refine AOps.run (n := 99) [(2, .val (.int .i64 ((p + n : Nat) : Int))), (5, .val (.bool true)), (10, .val (.int .i64 ((p + n : Nat) : Int))), (11, .val (.pointer (some ⟨R, 0 + (p + n) * 1, none⟩))), (12, .part (row.map fun c => .int .i32 c) (.int .i32 ch)), (13, .val (.bool false))] [0, 1, 2, 3, 4, 5, 6, 7, 8, 9, 10, 11, 12, 13, 14] [] (cs := [.some (some (.int .i64 (IntKind.i64.wrap ((p : Int) + (n : Int))))) (.int .i64 ((p + n : Nat) : Int)), .some (some (.bool (decide (((p + n : Nat) : Int) < (row.length : Int))))) (.bool true), .some (some (.int .i64 (IntKind.i64.wrap ((p : Int) + (n : Int))))) (.int .i64 ((p + n : Nat) : Int)), .some (aindexAddr Tryz.prog 23 (.slice ra row.length rc) (.int .i64 ((p + n : Nat) : Int))) (.pointer (some ⟨R, 0 + (p + n) * 1, none⟩)), .blk (R) (row.map fun c => .int .i32 c), .some (apart' (row.map fun c => .int .i32 c) (0 + (p + n) * 1) 1 false) (.int .i32 ch), .some (some (.bool (decide (ch = 97)))) (.bool false)]) (by kernel_rfl) (by kernel_rfl) (by kernel_rfl) ?_ ?_
        · intro x hx
          simp only [List.mem_cons, List.not_mem_nil, or_false] at hx
          rcases hx with rfl | rfl | rfl | rfl | rfl | rfl | rfl
          · exact congrArg (fun x => some (Value.int .i64 x)) (wrap_add (by omega))
          · exact congrArg (fun b => some (Value.bool b)) (decide_eq_true (by omega))
          · exact congrArg (fun x => some (Value.int .i64 x)) (wrap_add (by omega))
          · rw [hra]; exact indexAddr_ok (by kernel_rfl : sliceT Tryz.prog 23 = some (25, 1, 4)) hlt
          · exact ⟨25, false, hRow⟩
          · exact apart_one (by simp [hch])
          · exact congrArg (fun b => some (Value.bool b)) (decide_eq_false hc)
        show AWp _ _ _ _ _
        refine AWp.view [(7, .slice ra row.length rc), (8, .int .i64 ((x : Nat) : Int)), (9, .int .i64 ((x + z : Nat) : Int)), (11, sv), (12, .bool fb), (13, .int .i64 ((p : Nat) : Int)), (14, .int .i64 ((n : Nat) : Int)), (66, .bool false)] (by kernel_rfl) ?_
        refine AWp.condF (c := .tmp 66) (by kernel_rfl) (by kernel_rfl) ?_
        refine AWp.exit' (id := 2) (by kernel_rfl) ?_
        exact ⟨rfl, mkE_le [(7, .slice ra row.length rc), (8, .int .i64 ((x : Nat) : Int)), (9, .int .i64 ((x + z : Nat) : Int)), (11, sv), (12, .bool fb), (13, .int .i64 ((p : Nat) : Int)), (14, .int .i64 ((n : Nat) : Int))] (by kernel_rfl), rfl⟩
      · skip
        refine AWp.seq' (by kernel_rfl) (AWp.region' (by kernel_rfl) ?_)
        refine AOps.run (n := 99) [(2, .val (.int .i64 ((p + n : Nat) : Int))), (5, .val (.bool false))] [0, 1, 2, 3, 4, 5, 6, 7, 8, 9, 10, 11, 12, 13, 14] [] (cs := [.some (some (.int .i64 (IntKind.i64.wrap ((p : Int) + (n : Int))))) (.int .i64 ((p + n : Nat) : Int)), .some (some (.bool (decide (((p + n : Nat) : Int) < (row.length : Int))))) (.bool false)]) (by kernel_rfl) (by kernel_rfl) (by kernel_rfl) ?_ ?_
        · intro x hx
          simp only [List.mem_cons, List.not_mem_nil, or_false] at hx
          rcases hx with rfl | rfl
          · exact congrArg (fun x => some (Value.int .i64 x)) (wrap_add (by omega))
          · exact congrArg (fun b => some (Value.bool b)) (decide_eq_false (by omega))
        show AWp _ _ _ _ _
        refine AWp.view [(7, .slice ra row.length rc), (8, .int .i64 ((x : Nat) : Int)), (9, .int .i64 ((x + z : Nat) : Int)), (11, sv), (12, .bool fb), (13, .int .i64 ((p : Nat) : Int)), (14, .int .i64 ((n : Nat) : Int)), (66, .bool false)] (by kernel_rfl) ?_
        refine AWp.condF (c := .tmp 66) (by kernel_rfl) (by kernel_rfl) ?_
        refine AWp.exit' (id := 2) (by kernel_rfl) ?_
        exact ⟨rfl, mkE_le [(7, .slice ra row.length rc), (8, .int .i64 ((x : Nat) : Int)), (9, .int .i64 ((x + z : Nat) : Int)), (11, sv), (12, .bool fb), (13, .int .i64 ((p : Nat) : Int)), (14, .int .i64 ((n : Nat) : Int))] (by kernel_rfl), rfl⟩
    rintro e E2 H2 ⟨rfl, hE2, rfl⟩
    show AWp _ _ _ _ _
    refine AWp.env hE2 ?_
    refine AWp.seq' (by kernel_rfl) (AWp.region' (by kernel_rfl) ?_)
    refine AOps.run (n := 99) [(2, .val (.bool (decide ((n : Int) ≥ (x : Int)))))] [0, 1, 2] [] (cs := [.some (some (.bool (decide ((n : Int) ≥ (x : Int))))) (.bool (decide ((n : Int) ≥ (x : Int))))]) (by kernel_rfl) (by kernel_rfl) (by kernel_rfl) ?_ ?_
    · intro x hx
      simp only [List.mem_cons, List.not_mem_nil, or_false] at hx
      subst hx
      rfl
    show AWp _ _ _ _ _
    refine AWp.view [(7, .slice ra row.length rc), (8, .int .i64 ((x : Nat) : Int)), (9, .int .i64 ((x + z : Nat) : Int)), (11, sv), (12, .bool fb), (13, .int .i64 ((p : Nat) : Int)), (14, .int .i64 ((n : Nat) : Int)), (71, .bool (decide ((n : Int) ≥ (x : Int))))] (by kernel_rfl) ?_
    refine AWp.cond_ (c := .tmp 71) (t := decide ((n : Int) ≥ (x : Int))) (by kernel_rfl) (by kernel_rfl) (fun hT => ?_) (fun hF => ?_)
    · have hge : x ≤ n := by have := of_decide_eq_true hT; omega
      have hhead := stops_head row 97 x (x + z) 0 p
      rw [hrun, if_pos (by omega)] at hhead
      obtain ⟨l0, hl0⟩ := hhead
      have hb : fb = true := by
        cases fb with
        | true => rfl
        | false =>
          have := hno rfl p (Nat.zero_le _) hle
          simp only [resOf, hl0, List.map_cons] at this; cases this
      obtain ⟨q, r, l, j, _, hq2, hq3, hq4, rfl, hj⟩ := hyes hb
      subst hb
      have hqp : q = p := by
        rcases Nat.lt_trichotomy q p with h | h | h
        · have h1 := stops_head row 97 x (x + z) 0 q
          rw [if_neg (by have := hbef q h; omega)] at h1
          simp only [resOf, h1, List.map_nil] at hq3; cases hq3
        · exact h
        · have := hq4 p (Nat.zero_le _) h
          simp only [resOf, hl0, List.map_cons] at this; cases this
      subst hqp
      have hstop : r.stop = q + min n (x + z) := by simp only [resOf, hl0, List.map_cons, List.cons.injEq] at hq3; rw [← hq3.1]
      rw [hstop] at hj
      refine AWp.seq' (by kernel_rfl) (AWp.region' (by kernel_rfl) ?_)
      refine AOps.call (n := 99) 0 [1, 2, 3, 4, 5, 6, 7, 8, 9, 10, 11, 12, 13, 14, 15, 16, 17, 18, 19, 20, 21, 22] 10 [] (by kernel_rfl) rfl (by kernel_rfl) (by kernel_rfl) (by kernel_rfl) (by kernel_rfl) (by kernel_rfl) (known_at _) ?_
      rintro e B6 ⟨rfl, rfl⟩
      refine ⟨_, rfl, ?_⟩
      refine AOps.run (n := 99) [(12, .blk ([.int .i64 ((q : Nat) : Int), .int .i64 ((q + min n (x + z) : Nat) : Int)])), (17, .val (.int .i64 ((min n (x + z) : Nat) : Int))), (18, .val (.int .i64 ((q + min n (x + z) : Nat) : Int))), (20, .val (.bool true))] [1, 2, 3, 4, 5, 6, 7, 8, 9, 10, 11, 12, 13, 14, 15, 16, 17, 18, 19, 20, 21, 22] [] (cs := [.blk (j) ([.int .i64 ((q : Nat) : Int), .int .i64 ((q + min n (x + z) : Nat) : Int)]), .some (abuiltin Tryz.prog .min [3, 3] 3 [.int .i64 ((n : Nat) : Int), .int .i64 ((x + z : Nat) : Int)]) (.int .i64 ((min n (x + z) : Nat) : Int)), .some (some (.int .i64 (IntKind.i64.wrap ((q : Int) + ((min n (x + z) : Nat) : Int))))) (.int .i64 ((q + min n (x + z) : Nat) : Int)), .some (aagg Tryz.prog .eql 35 (.tmp 84) (.tmp 91) (.agg #[.int .i64 ((q : Nat) : Int), .int .i64 ((q + min n (x + z) : Nat) : Int)]) (.agg #[.int .i64 ((q : Nat) : Int), .int .i64 ((q + min n (x + z) : Nat) : Int)])) (.bool true)]) (by kernel_rfl) (by kernel_rfl) (by kernel_rfl) ?_ ?_
      · intro x hx
        simp only [List.mem_cons, List.not_mem_nil, or_false] at hx
        rcases hx with rfl | rfl | rfl | rfl
        · exact ⟨35, false, hj⟩
        · exact min_ok _ _
        · exact congrArg (fun x => some (Value.int .i64 x)) (wrap_add (by omega))
        · exact eq_span _ _
      show AWp _ _ _ _ _
      refine AWp.view [(6, .bool true)] (by kernel_rfl) ?_
      exact AWp.ret' (by kernel_rfl) ⟨[.bool true], by kernel_rfl, rfl, hxB⟩
    · have hlt : n < x := by have := of_decide_eq_false hF; omega
      refine AWp.skip' (by kernel_rfl) ?_
      show AWp _ _ _ _ _
      refine AWp.view [(7, .slice ra row.length rc), (8, .int .i64 ((x : Nat) : Int)), (9, .int .i64 ((x + z : Nat) : Int)), (11, sv), (12, .bool fb), (13, .int .i64 ((p : Nat) : Int))] (by kernel_rfl) ?_
      refine AWp.region' (by kernel_rfl) ?_
      refine AOps.run (n := 99) [(1, .val (.int .i64 ((p + 1 : Nat) : Int)))] [0, 1, 2] [] (cs := [.some (some (.int .i64 (IntKind.i64.wrap ((p : Int) + ((1 : Nat) : Int))))) (.int .i64 ((p + 1 : Nat) : Int))]) (by kernel_rfl) (by kernel_rfl) (by kernel_rfl) ?_ ?_
      · intro x hx
        simp only [List.mem_cons, List.not_mem_nil, or_false] at hx
        subst hx
        exact congrArg (fun x => some (Value.int .i64 x)) (wrap_add (by omega))
      exact ⟨row.length + 1 - (p + 1), by omega, p + 1, rfl, by omega, mkE_le [(7, .slice ra row.length rc), (8, .int .i64 ((x : Nat) : Int)), (9, .int .i64 ((x + z : Nat) : Int)), (11, sv), (12, .bool fb), (13, .int .i64 ((p + 1 : Nat) : Int))] (by kernel_rfl), rfl, fun i hi => by
        rcases Nat.lt_or_ge i p with h | h
        · exact hbef i h
        · rw [show i = p from by omega, hrun]; exact hlt⟩
  · have hgt : row.length < p := by have := of_decide_eq_false hF; omega
    have hb : fb = false := by
      cases fb with
      | false => rfl
      | true =>
        obtain ⟨q, r, l, j, _, hq2, hq3, _⟩ := hyes rfl
        have h1 := stops_head row 97 x (x + z) 0 q
        rw [if_neg (by have := hbef q (by omega); omega)] at h1
        simp only [resOf, h1, List.map_nil] at hq3; cases hq3
    subst hb
    refine AWp.exit' (id := 0) (by kernel_rfl) ?_
    show AWp _ _ _ _ _
    refine AWp.view [(7, .slice ra row.length rc), (8, .int .i64 ((x : Nat) : Int)), (9, .int .i64 ((x + z : Nat) : Int)), (11, sv), (12, .bool false)] (by kernel_rfl) ?_
    refine AWp.seq' (by kernel_rfl) (AWp.region' (by kernel_rfl) ?_)
    refine AOps.call (n := 99) 0 [1, 2, 3, 4, 5] 10 [] (by kernel_rfl) rfl (by kernel_rfl) (by kernel_rfl) (by kernel_rfl) (by kernel_rfl) (by kernel_rfl) (known_at _) ?_
    rintro e B6 ⟨rfl, rfl⟩
    refine ⟨_, rfl, ?_⟩
    refine AOps.run (n := 99) [] [1, 2, 3, 4, 5] [] (cs := []) (by kernel_rfl) (by kernel_rfl) (by kernel_rfl) ?_ ?_
    · intro x hx; cases hx
    show AWp _ _ _ _ _
    refine AWp.view [(6, .bool true)] (by kernel_rfl) ?_
    exact AWp.ret' (by kernel_rfl) ⟨[.bool true], by kernel_rfl, rfl, hxB⟩
end Go.Proofs.YtihpfgnigpmihaaGreat
