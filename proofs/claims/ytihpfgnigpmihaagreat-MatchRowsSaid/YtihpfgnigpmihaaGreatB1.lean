/- Calls of arguments without addresses, carried out. -/
import Derived.Test.YtihpfgnigpmihaaGreatB0
set_option linter.unusedVariables false
set_option maxRecDepth 100000
namespace Go.Proofs.YtihpfgnigpmihaaGreat
open Go

def starFact : Fact :=
(9, [.string ⟨#[97, 42]⟩], .agg #[.slice (some ⟨0, 0, none⟩) 2 4611686018427387913, .int .i64 0],
  [some (.cells [.int .u8 1, .int .i32 97, .bool false, .slice none 0 0, .slice none 0 0, .int .i64 0, .int .i64 0, .int .i64 0, .slice none 0 0, .int .u8 10, .int .i32 0, .bool false, .slice none 0 0, .slice none 0 0, .int .i64 0, .int .i64 0, .int .i64 (-1), .slice (some ⟨1, 0, none⟩) 1 1] 44 false),
   some (.cells [.int .i64 0] 3 false)])
theorem starFact_gives : Gives Tryz.prog starFact.1 starFact.2.1 starFact.2.2.1 (mkH starFact.2.2.2) :=
  .of_dcall (call_ok (base := memo facts0) facts0_ok 100000 60) (ids := [45, 36]) (by decide +kernel) (by decide +kernel)

def plusFact : Fact :=
(9, [.string ⟨#[97, 97, 42, 36]⟩], .agg #[.slice (some ⟨0, 0, none⟩) 5 4611686018427387913, .int .i64 0],
  [some (.cells [.int .u8 1, .int .i32 97, .bool false, .slice none 0 0, .slice none 0 0, .int .i64 0, .int .i64 0, .int .i64 0, .slice none 0 0, .int .u8 1, .int .i32 97, .bool false, .slice none 0 0, .slice none 0 0, .int .i64 0, .int .i64 0, .int .i64 0, .slice none 0 0, .int .u8 10, .int .i32 0, .bool false, .slice none 0 0, .slice none 0 0, .int .i64 0, .int .i64 0, .int .i64 (-1), .slice (some ⟨1, 0, none⟩) 1 1, .int .u8 5, .int .i32 0, .bool false, .slice none 0 0, .slice none 0 0, .int .i64 0, .int .i64 0, .int .i64 0, .slice none 0 0, .int .u8 8, .int .i32 0, .bool false, .slice none 0 0, .slice none 0 0, .int .i64 0, .int .i64 0, .int .i64 0, .slice (some ⟨2, 0, none⟩) 3 4611686018427387905] 44 false),
   some (.cells [.int .i64 1] 3 false),
   some (.cells [.int .i64 0, .int .i64 2, .int .i64 3] 3 false)])
theorem plusFact_gives : Gives Tryz.prog plusFact.1 plusFact.2.1 plusFact.2.2.1 (mkH plusFact.2.2.2) :=
  .of_dcall (call_ok (base := memo facts0) facts0_ok 100000 60) (ids := [100, 60, 94]) (by decide +kernel) (by decide +kernel)

def begFact : Fact :=
(9, [.string ⟨#[94]⟩], .agg #[.slice (some ⟨0, 0, none⟩) 1 4611686018427387913, .int .i64 0],
  [some (.cells [.int .u8 4, .int .i32 0, .bool false, .slice none 0 0, .slice none 0 0, .int .i64 0, .int .i64 0, .int .i64 0, .slice none 0 0] 44 false)])
theorem begFact_gives : Gives Tryz.prog begFact.1 begFact.2.1 begFact.2.2.1 (mkH begFact.2.2.2) :=
  .of_dcall (call_ok (base := memo facts0) facts0_ok 100000 60) (ids := [30]) (by decide +kernel) (by decide +kernel)

def endFact : Fact :=
(9, [.string ⟨#[36]⟩], .agg #[.slice (some ⟨0, 0, none⟩) 1 4611686018427387913, .int .i64 0],
  [some (.cells [.int .u8 5, .int .i32 0, .bool false, .slice none 0 0, .slice none 0 0, .int .i64 0, .int .i64 0, .int .i64 0, .slice none 0 0] 44 false)])
theorem endFact_gives : Gives Tryz.prog endFact.1 endFact.2.1 endFact.2.2.1 (mkH endFact.2.2.2) :=
  .of_dcall (call_ok (base := memo facts0) facts0_ok 100000 60) (ids := [30]) (by decide +kernel) (by decide +kernel)

def begEndFact : Fact :=
(9, [.string ⟨#[94, 36]⟩], .agg #[.slice (some ⟨0, 0, none⟩) 3 4611686018427387913, .int .i64 0],
  [some (.cells [.int .u8 4, .int .i32 0, .bool false, .slice none 0 0, .slice none 0 0, .int .i64 0, .int .i64 0, .int .i64 0, .slice none 0 0, .int .u8 5, .int .i32 0, .bool false, .slice none 0 0, .slice none 0 0, .int .i64 0, .int .i64 0, .int .i64 0, .slice none 0 0, .int .u8 8, .int .i32 0, .bool false, .slice none 0 0, .slice none 0 0, .int .i64 0, .int .i64 0, .int .i64 0, .slice (some ⟨1, 0, none⟩) 2 4611686018427387905] 44 false),
   some (.cells [.int .i64 0, .int .i64 1] 3 false)])
theorem begEndFact_gives : Gives Tryz.prog begEndFact.1 begEndFact.2.1 begEndFact.2.2.1 (mkH begEndFact.2.2.2) :=
  .of_dcall (call_ok (base := memo facts0) facts0_ok 100000 60) (ids := [64, 58]) (by decide +kernel) (by decide +kernel)
end Go.Proofs.YtihpfgnigpmihaaGreat
