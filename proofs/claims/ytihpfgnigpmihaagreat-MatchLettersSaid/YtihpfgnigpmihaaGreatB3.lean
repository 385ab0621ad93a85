/- A call without arguments, carried out piece by piece. -/
import Derived.Test.YtihpfgnigpmihaaGreatB2
set_option linter.unusedVariables false
set_option maxRecDepth 100000
namespace Go.Proofs.YtihpfgnigpmihaaGreat
open Go


def knownF5 : List (Nat × Value) := [(0, .bool false), (4, .pointer (some ⟨0, 0, none⟩)), (8, .slice (some ⟨1, 0, none⟩) 1 4611686018427387906), (9, .bool true), (10, .slice (some ⟨2, 0, none⟩) 1 4611686018427387906), (11, .bool true)]
def knownL5 : List (Option ABlk) := [some (.cells [.slice (some ⟨3, 0, none⟩) 14 4611686018427387913, .int .i64 2] 31 false), some (.cells [.int .i64 0, .int .i64 0] 35 false), some (.cells [.int .i64 1, .int .i64 3] 35 false), some (.cells [.int .u8 1, .int .i32 97, .bool false, .slice none 0 0, .slice none 0 0, .int .i64 0, .int .i64 0, .int .i64 0, .slice none 0 0, .int .u8 1, .int .i32 97, .bool false, .slice none 0 0, .slice none 0 0, .int .i64 0, .int .i64 0, .int .i64 0, .slice none 0 0, .int .u8 1, .int .i32 98, .bool false, .slice none 0 0, .slice none 0 0, .int .i64 0, .int .i64 0, .int .i64 0, .slice none 0 0, .int .u8 8, .int .i32 0, .bool false, .slice none 0 0, .slice none 0 0, .int .i64 0, .int .i64 0, .int .i64 0, .slice (some ⟨4, 0, none⟩) 2 4611686018427387905, .int .u8 9, .int .i32 0, .bool false, .slice none 0 0, .slice none 0 0, .int .i64 0, .int .i64 0, .int .i64 0, .slice (some ⟨5, 0, none⟩) 2 4611686018427387905, .int .u8 7, .int .i32 0, .bool false, .slice none 0 0, .slice none 0 0, .int .i64 1, .int .i64 0, .int .i64 0, .slice (some ⟨6, 0, none⟩) 1 1, .int .u8 1, .int .i32 99, .bool false, .slice none 0 0, .slice none 0 0, .int .i64 0, .int .i64 0, .int .i64 0, .slice none 0 0, .int .u8 1, .int .i32 98, .bool false, .slice none 0 0, .slice none 0 0, .int .i64 0, .int .i64 0, .int .i64 0, .slice none 0 0, .int .u8 1, .int .i32 99, .bool false, .slice none 0 0, .slice none 0 0, .int .i64 0, .int .i64 0, .int .i64 0, .slice none 0 0, .int .u8 1, .int .i32 100, .bool false, .slice none 0 0, .slice none 0 0, .int .i64 0, .int .i64 0, .int .i64 0, .slice none 0 0, .int .u8 8, .int .i32 0, .bool false, .slice none 0 0, .slice none 0 0, .int .i64 0, .int .i64 0, .int .i64 0, .slice (some ⟨7, 0, none⟩) 3 4611686018427387905, .int .u8 9, .int .i32 0, .bool false, .slice none 0 0, .slice none 0 0, .int .i64 0, .int .i64 0, .int .i64 0, .slice (some ⟨8, 0, none⟩) 2 4611686018427387905, .int .u8 7, .int .i32 0, .bool false, .slice none 0 0, .slice none 0 0, .int .i64 2, .int .i64 0, .int .i64 0, .slice (some ⟨9, 0, none⟩) 1 1, .int .u8 8, .int .i32 0, .bool false, .slice none 0 0, .slice none 0 0, .int .i64 0, .int .i64 0, .int .i64 0, .slice (some ⟨10, 0, none⟩) 2 4611686018427387905] 44 false), some (.cells [.int .i64 1, .int .i64 2] 3 false), some (.cells [.int .i64 0, .int .i64 3] 3 false), some (.cells [.int .i64 4] 3 false), some (.cells [.int .i64 7, .int .i64 8, .int .i64 9] 3 false), some (.cells [.int .i64 6, .int .i64 10] 3 false), some (.cells [.int .i64 11] 3 false), some (.cells [.int .i64 5, .int .i64 12] 3 false)]
theorem known_piece5 : cutB (runAt Tryz.prog 10 104 (memo facts0) 100000 (piece 5 (bodyOf Tryz.prog 10)) (mkE knownF4) (mkH knownL4)) [1, 3, 103, 5, 7, 8, 9, 10, 11, 12, 13] knownF5 knownL5 = true := by decide +kernel

def knownF6 : List (Nat × Value) := [(0, .bool false), (8, .slice (some ⟨0, 0, none⟩) 1 4611686018427387906), (9, .bool true), (10, .slice (some ⟨1, 0, none⟩) 1 4611686018427387906), (11, .bool true), (12, .slice (some ⟨2, 0, none⟩) 3 4611686018427387906), (13, .bool true)]
def knownL6 : List (Option ABlk) := [some (.cells [.int .i64 0, .int .i64 0] 35 false), some (.cells [.int .i64 1, .int .i64 3] 35 false), some (.cells [.int .i64 0, .int .i64 4, .int .i64 0, .int .i64 1, .int .i64 1, .int .i64 4] 35 false)]
theorem known_piece6 : cutB (runAt Tryz.prog 10 104 (memo facts0) 100000 (piece 6 (bodyOf Tryz.prog 10)) (mkE knownF5) (mkH knownL5)) [1, 2, 342] knownF6 knownL6 = true := by decide +kernel
theorem known_last : endB Tryz.prog Tryz.f10 (runAt Tryz.prog 10 104 (memo facts0) 100000 (behind 7 (bodyOf Tryz.prog 10)) (mkE knownF6) (mkH knownL6)) (.bool true) = true := by decide +kernel

theorem known_gives : ACall Tryz.prog 10 [] AHeap.empty fun e _ => e = .ret (.bool true) := by
  have hc := call_ok (base := (memo facts0)) facts0_ok 100000 60
  refine .of_bodyQ (fn := Tryz.f10) (c := bodyOf Tryz.prog 10) (by kernel_rfl) (by kernel_rfl) (by decide) ?_
  show AWq _ (behind 0 (bodyOf Tryz.prog 10)) _ _ _
  refine AWq.step (tab := tab 10) mixed hc (by decide +kernel) (by decide +kernel) known_piece0 ?_
  refine AWq.step (tab := tab 10) mixed hc (by decide +kernel) (by decide +kernel) known_piece1 ?_
  refine AWq.step (tab := tab 10) mixed hc (by decide +kernel) (by decide +kernel) known_piece2 ?_
  refine AWq.step (tab := tab 10) mixed hc (by decide +kernel) (by decide +kernel) known_piece3 ?_
  refine AWq.step (tab := tab 10) mixed hc (by decide +kernel) (by decide +kernel) known_piece4 ?_
  refine AWq.step (tab := tab 10) mixed hc (by decide +kernel) (by decide +kernel) known_piece5 ?_
  refine AWq.step (tab := tab 10) mixed hc (by decide +kernel) (by decide +kernel) known_piece6 ?_
  exact AWq.done (tab := tab 10) mixed hc (by decide +kernel) known_last
end Go.Proofs.YtihpfgnigpmihaaGreat
