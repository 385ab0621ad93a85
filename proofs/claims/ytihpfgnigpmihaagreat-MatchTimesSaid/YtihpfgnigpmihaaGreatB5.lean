/- Calls of arguments without addresses, carried out. -/
import Derived.Test.YtihpfgnigpmihaaGreatB0
set_option linter.unusedVariables false
set_option maxRecDepth 100000
namespace Go.Proofs.YtihpfgnigpmihaaGreat
open Go

def t22 : Fact :=
(9, [.string ⟨#[97, 123, 50, 44, 50, 125]⟩], .agg #[.slice (some ⟨0, 0, none⟩) 2 4611686018427387913, .int .i64 0],
  [some (.cells [.int .u8 1, .int .i32 97, .bool false, .slice none 0 0, .slice none 0 0, .int .i64 0, .int .i64 0, .int .i64 0, .slice none 0 0, .int .u8 10, .int .i32 0, .bool false, .slice none 0 0, .slice none 0 0, .int .i64 0, .int .i64 2, .int .i64 2, .slice (some ⟨1, 0, none⟩) 1 1] 44 false),
   some (.cells [.int .i64 0] 3 false)])
theorem t22_gives : Gives Tryz.prog t22.1 t22.2.1 t22.2.2.1 (mkH t22.2.2.2) :=
  .of_dcall (call_ok (base := memo facts0) facts0_ok 100000 60) (ids := [57, 48]) (by decide +kernel) (by decide +kernel)

def t23 : Fact :=
(9, [.string ⟨#[97, 123, 50, 44, 51, 125]⟩], .agg #[.slice (some ⟨0, 0, none⟩) 2 4611686018427387913, .int .i64 0],
  [some (.cells [.int .u8 1, .int .i32 97, .bool false, .slice none 0 0, .slice none 0 0, .int .i64 0, .int .i64 0, .int .i64 0, .slice none 0 0, .int .u8 10, .int .i32 0, .bool false, .slice none 0 0, .slice none 0 0, .int .i64 0, .int .i64 2, .int .i64 3, .slice (some ⟨1, 0, none⟩) 1 1] 44 false),
   some (.cells [.int .i64 0] 3 false)])
theorem t23_gives : Gives Tryz.prog t23.1 t23.2.1 t23.2.2.1 (mkH t23.2.2.2) :=
  .of_dcall (call_ok (base := memo facts0) facts0_ok 100000 60) (ids := [57, 48]) (by decide +kernel) (by decide +kernel)

def t24 : Fact :=
(9, [.string ⟨#[97, 123, 50, 44, 52, 125]⟩], .agg #[.slice (some ⟨0, 0, none⟩) 2 4611686018427387913, .int .i64 0],
  [some (.cells [.int .u8 1, .int .i32 97, .bool false, .slice none 0 0, .slice none 0 0, .int .i64 0, .int .i64 0, .int .i64 0, .slice none 0 0, .int .u8 10, .int .i32 0, .bool false, .slice none 0 0, .slice none 0 0, .int .i64 0, .int .i64 2, .int .i64 4, .slice (some ⟨1, 0, none⟩) 1 1] 44 false),
   some (.cells [.int .i64 0] 3 false)])
theorem t24_gives : Gives Tryz.prog t24.1 t24.2.1 t24.2.2.1 (mkH t24.2.2.2) :=
  .of_dcall (call_ok (base := memo facts0) facts0_ok 100000 60) (ids := [57, 48]) (by decide +kernel) (by decide +kernel)

def t33 : Fact :=
(9, [.string ⟨#[97, 123, 51, 44, 51, 125]⟩], .agg #[.slice (some ⟨0, 0, none⟩) 2 4611686018427387913, .int .i64 0],
  [some (.cells [.int .u8 1, .int .i32 97, .bool false, .slice none 0 0, .slice none 0 0, .int .i64 0, .int .i64 0, .int .i64 0, .slice none 0 0, .int .u8 10, .int .i32 0, .bool false, .slice none 0 0, .slice none 0 0, .int .i64 0, .int .i64 3, .int .i64 3, .slice (some ⟨1, 0, none⟩) 1 1] 44 false),
   some (.cells [.int .i64 0] 3 false)])
theorem t33_gives : Gives Tryz.prog t33.1 t33.2.1 t33.2.2.1 (mkH t33.2.2.2) :=
  .of_dcall (call_ok (base := memo facts0) facts0_ok 100000 60) (ids := [57, 48]) (by decide +kernel) (by decide +kernel)

def t34 : Fact :=
(9, [.string ⟨#[97, 123, 51, 44, 52, 125]⟩], .agg #[.slice (some ⟨0, 0, none⟩) 2 4611686018427387913, .int .i64 0],
  [some (.cells [.int .u8 1, .int .i32 97, .bool false, .slice none 0 0, .slice none 0 0, .int .i64 0, .int .i64 0, .int .i64 0, .slice none 0 0, .int .u8 10, .int .i32 0, .bool false, .slice none 0 0, .slice none 0 0, .int .i64 0, .int .i64 3, .int .i64 4, .slice (some ⟨1, 0, none⟩) 1 1] 44 false),
   some (.cells [.int .i64 0] 3 false)])
theorem t34_gives : Gives Tryz.prog t34.1 t34.2.1 t34.2.2.1 (mkH t34.2.2.2) :=
  .of_dcall (call_ok (base := memo facts0) facts0_ok 100000 60) (ids := [57, 48]) (by decide +kernel) (by decide +kernel)

def t35 : Fact :=
(9, [.string ⟨#[97, 123, 51, 44, 53, 125]⟩], .agg #[.slice (some ⟨0, 0, none⟩) 2 4611686018427387913, .int .i64 0],
  [some (.cells [.int .u8 1, .int .i32 97, .bool false, .slice none 0 0, .slice none 0 0, .int .i64 0, .int .i64 0, .int .i64 0, .slice none 0 0, .int .u8 10, .int .i32 0, .bool false, .slice none 0 0, .slice none 0 0, .int .i64 0, .int .i64 3, .int .i64 5, .slice (some ⟨1, 0, none⟩) 1 1] 44 false),
   some (.cells [.int .i64 0] 3 false)])
theorem t35_gives : Gives Tryz.prog t35.1 t35.2.1 t35.2.2.1 (mkH t35.2.2.2) :=
  .of_dcall (call_ok (base := memo facts0) facts0_ok 100000 60) (ids := [57, 48]) (by decide +kernel) (by decide +kernel)
end Go.Proofs.YtihpfgnigpmihaaGreat
