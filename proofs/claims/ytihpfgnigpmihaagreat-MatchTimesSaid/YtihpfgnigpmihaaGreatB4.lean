/- Calls of arguments without addresses, carried out. -/
import Derived.Test.YtihpfgnigpmihaaGreatB0
set_option linter.unusedVariables false
set_option maxRecDepth 100000
namespace Go.Proofs.YtihpfgnigpmihaaGreat
open Go

def t00 : Fact :=
(9, [.string ⟨#[97, 123, 48, 44, 48, 125]⟩], .agg #[.slice (some ⟨0, 0, none⟩) 2 4611686018427387913, .int .i64 0],
  [some (.cells [.int .u8 1, .int .i32 97, .bool false, .slice none 0 0, .slice none 0 0, .int .i64 0, .int .i64 0, .int .i64 0, .slice none 0 0, .int .u8 10, .int .i32 0, .bool false, .slice none 0 0, .slice none 0 0, .int .i64 0, .int .i64 0, .int .i64 0, .slice (some ⟨1, 0, none⟩) 1 1] 44 false),
   some (.cells [.int .i64 0] 3 false)])
theorem t00_gives : Gives Tryz.prog t00.1 t00.2.1 t00.2.2.1 (mkH t00.2.2.2) :=
  .of_dcall (call_ok (base := memo facts0) facts0_ok 100000 60) (ids := [57, 48]) (by decide +kernel) (by decide +kernel)

def t01 : Fact :=
(9, [.string ⟨#[97, 123, 48, 44, 49, 125]⟩], .agg #[.slice (some ⟨0, 0, none⟩) 2 4611686018427387913, .int .i64 0],
  [some (.cells [.int .u8 1, .int .i32 97, .bool false, .slice none 0 0, .slice none 0 0, .int .i64 0, .int .i64 0, .int .i64 0, .slice none 0 0, .int .u8 10, .int .i32 0, .bool false, .slice none 0 0, .slice none 0 0, .int .i64 0, .int .i64 0, .int .i64 1, .slice (some ⟨1, 0, none⟩) 1 1] 44 false),
   some (.cells [.int .i64 0] 3 false)])
theorem t01_gives : Gives Tryz.prog t01.1 t01.2.1 t01.2.2.1 (mkH t01.2.2.2) :=
  .of_dcall (call_ok (base := memo facts0) facts0_ok 100000 60) (ids := [57, 48]) (by decide +kernel) (by decide +kernel)

def t02 : Fact :=
(9, [.string ⟨#[97, 123, 48, 44, 50, 125]⟩], .agg #[.slice (some ⟨0, 0, none⟩) 2 4611686018427387913, .int .i64 0],
  [some (.cells [.int .u8 1, .int .i32 97, .bool false, .slice none 0 0, .slice none 0 0, .int .i64 0, .int .i64 0, .int .i64 0, .slice none 0 0, .int .u8 10, .int .i32 0, .bool false, .slice none 0 0, .slice none 0 0, .int .i64 0, .int .i64 0, .int .i64 2, .slice (some ⟨1, 0, none⟩) 1 1] 44 false),
   some (.cells [.int .i64 0] 3 false)])
theorem t02_gives : Gives Tryz.prog t02.1 t02.2.1 t02.2.2.1 (mkH t02.2.2.2) :=
  .of_dcall (call_ok (base := memo facts0) facts0_ok 100000 60) (ids := [57, 48]) (by decide +kernel) (by decide +kernel)

def t11 : Fact :=
(9, [.string ⟨#[97, 123, 49, 44, 49, 125]⟩], .agg #[.slice (some ⟨0, 0, none⟩) 2 4611686018427387913, .int .i64 0],
  [some (.cells [.int .u8 1, .int .i32 97, .bool false, .slice none 0 0, .slice none 0 0, .int .i64 0, .int .i64 0, .int .i64 0, .slice none 0 0, .int .u8 10, .int .i32 0, .bool false, .slice none 0 0, .slice none 0 0, .int .i64 0, .int .i64 1, .int .i64 1, .slice (some ⟨1, 0, none⟩) 1 1] 44 false),
   some (.cells [.int .i64 0] 3 false)])
theorem t11_gives : Gives Tryz.prog t11.1 t11.2.1 t11.2.2.1 (mkH t11.2.2.2) :=
  .of_dcall (call_ok (base := memo facts0) facts0_ok 100000 60) (ids := [57, 48]) (by decide +kernel) (by decide +kernel)

def t12 : Fact :=
(9, [.string ⟨#[97, 123, 49, 44, 50, 125]⟩], .agg #[.slice (some ⟨0, 0, none⟩) 2 4611686018427387913, .int .i64 0],
  [some (.cells [.int .u8 1, .int .i32 97, .bool false, .slice none 0 0, .slice none 0 0, .int .i64 0, .int .i64 0, .int .i64 0, .slice none 0 0, .int .u8 10, .int .i32 0, .bool false, .slice none 0 0, .slice none 0 0, .int .i64 0, .int .i64 1, .int .i64 2, .slice (some ⟨1, 0, none⟩) 1 1] 44 false),
   some (.cells [.int .i64 0] 3 false)])
theorem t12_gives : Gives Tryz.prog t12.1 t12.2.1 t12.2.2.1 (mkH t12.2.2.2) :=
  .of_dcall (call_ok (base := memo facts0) facts0_ok 100000 60) (ids := [57, 48]) (by decide +kernel) (by decide +kernel)

def t13 : Fact :=
(9, [.string ⟨#[97, 123, 49, 44, 51, 125]⟩], .agg #[.slice (some ⟨0, 0, none⟩) 2 4611686018427387913, .int .i64 0],
  [some (.cells [.int .u8 1, .int .i32 97, .bool false, .slice none 0 0, .slice none 0 0, .int .i64 0, .int .i64 0, .int .i64 0, .slice none 0 0, .int .u8 10, .int .i32 0, .bool false, .slice none 0 0, .slice none 0 0, .int .i64 0, .int .i64 1, .int .i64 3, .slice (some ⟨1, 0, none⟩) 1 1] 44 false),
   some (.cells [.int .i64 0] 3 false)])
theorem t13_gives : Gives Tryz.prog t13.1 t13.2.1 t13.2.2.1 (mkH t13.2.2.2) :=
  .of_dcall (call_ok (base := memo facts0) facts0_ok 100000 60) (ids := [57, 48]) (by decide +kernel) (by decide +kernel)
end Go.Proofs.YtihpfgnigpmihaaGreat
