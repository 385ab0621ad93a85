/- The engine's states and results as values; match.here. -/
import Derived.Test.YtihpfgnigpmihaaGreatA21
import Derived.Test.YtihpfgnigpmihaaGreatD0
set_option linter.unusedVariables false
set_option linter.unusedSimpArgs false
set_option maxRecDepth 100000
namespace Go.Proofs.YtihpfgnigpmihaaGreat
open Go

def spans (v : Spans) : List Value := [.int .i64 (v 0), .int .i64 (v 1), .int .i64 (v 2), .int .i64 (v 3), .int .i64 (v 4), .int .i64 (v 5), .int .i64 (v 6), .int .i64 (v 7), .int .i64 (v 8), .int .i64 (v 9),
  .int .i64 (v 10), .int .i64 (v 11), .int .i64 (v 12), .int .i64 (v 13), .int .i64 (v 14), .int .i64 (v 15), .int .i64 (v 16), .int .i64 (v 17), .int .i64 (v 18), .int .i64 (v 19)]
def St.cells (s : St) : List Value := .int .i64 (s.node : Int) :: .int .i64 (s.done : Int) :: .int .i64 (s.pos : Int) :: spans s.g
def St.val (s : St) : Value := .agg ⟨s.cells⟩
def Res.cells (r : Res) : List Value := .int .i64 (r.stop : Int) :: spans r.g
def Res.val (r : Res) : Value := .agg ⟨r.cells⟩

/-- A slice of results. -/
def Rows (B : AHeap) (v : Value) (rs : List Res) : Prop := (rs = [] ∧ v = .slice none 0 0) ∨
  ∃ id c, v = .slice (some ⟨id, 0, none⟩) rs.length c ∧ (c = rs.length ∨ c = unk 21) ∧ B.get id = some (.cells (rs.flatMap Res.cells) 56 false)
theorem Rows.ext {B B' : AHeap} (h : Ext B B') {v : Value} {rs : List Res} (k : Rows B v rs) : Rows B' v rs := by
  rcases k with k | ⟨id, c, k1, k2, k3⟩
  · exact .inl k
  · exact .inr ⟨id, c, k1, k2, h.get k3⟩

theorem wrap_id {n : Int} (h1 : -9223372036854775808 ≤ n) (h2 : n < 9223372036854775808) : IntKind.i64.wrap n = n := by
  unfold IntKind.wrap
  have hb : IntKind.i64.bits = 64 := rfl
  have hs : IntKind.i64.signed = true := rfl
  simp only [hb, hs, Bool.true_and]
  split
  · rename_i h; simp at h; omega
  · rename_i h; simp at h; omega
theorem wrap_add {a b : Nat} (h : a + b < 4611686018427387904) : IntKind.i64.wrap ((a : Int) + (b : Int)) = ((a + b : Nat) : Int) := by
  rw [wrap_id (by omega) (by omega)]; omega

theorem here_spec (s : St) (k : Nat) (b : Bool) (h62 : s.pos + k < 4611686018427387904) (B : AHeap) : ACall Tryz.prog 49 [s.val, .int .i64 k, .bool b] B fun e B' =>
    ∃ v, e = .ret v ∧ Ext B B' ∧ Rows B' v (if b then [⟨s.pos + k, s.g⟩] else []) ∧ ∀ a n c, v = .slice (some a) n c → B.next ≤ a.block := by
  cases b with
  | false =>
    have hv : outV (runCall Tryz.prog 49 [s.val, .int .i64 k, .bool false]) = .slice none 0 0 := by kernel_rfl
    refine (ACall.evald (call_ok noBase_ok 1000 4) (f := 49) (args := [s.val, .int .i64 k, .bool false]) (by kernel_rfl) (by kernel_rfl) (by kernel_rfl) B).mono ?_
    rintro e B' ⟨rfl, h, _⟩
    have hw : ren (shift 0 0 B.next) (outV (runCall Tryz.prog 49 [s.val, .int .i64 k, .bool false])) = .slice none 0 0 := by rw [hv]; rfl
    exact ⟨_, rfl, h, .inl ⟨rfl, hw⟩, fun a n c e => by have := e.symm.trans hw; cases this⟩
  | true =>
    have hv : outV (runCall Tryz.prog 49 [s.val, .int .i64 k, .bool true]) = .slice (some ⟨1, 0, none⟩) 1 1 := by kernel_rfl
    have hn : (outH (runCall Tryz.prog 49 [s.val, .int .i64 k, .bool true])).next = 2 := by kernel_rfl
    have hg : (outH (runCall Tryz.prog 49 [s.val, .int .i64 k, .bool true])).get 1 = some (.cells (.int .i64 (IntKind.i64.wrap ((s.pos : Int) + (k : Int))) :: spans s.g) 56 false) := by kernel_rfl
    refine (ACall.evald (call_ok noBase_ok 1000 4) (f := 49) (args := [s.val, .int .i64 k, .bool true]) (by kernel_rfl) (by kernel_rfl) (by kernel_rfl) B).mono ?_
    rintro e B' ⟨rfl, h, hb⟩
    have h1 := hb 1 (by show 1 < (outH (runCall Tryz.prog 49 [s.val, .int .i64 k, .bool true])).next; rw [hn]; decide)
    have hw : ren (shift 0 0 B.next) (outV (runCall Tryz.prog 49 [s.val, .int .i64 k, .bool true])) = .slice (some ⟨B.next + 1, 0, none⟩) 1 1 := by rw [hv]; rfl
    refine ⟨_, rfl, h, .inr ⟨B.next + 1, 1, hw, .inl rfl, ?_⟩, fun a n c e => by have := hw.symm.trans e; cases this; exact Nat.le_succ _⟩
    · rw [h1]
      show ((outH (runCall Tryz.prog 49 [s.val, .int .i64 k, .bool true])).get 1).map _ = _
      rw [hg, wrap_add h62]; rfl
end Go.Proofs.YtihpfgnigpmihaaGreat
