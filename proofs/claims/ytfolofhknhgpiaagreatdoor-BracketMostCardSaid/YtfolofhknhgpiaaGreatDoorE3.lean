/- locale.scalar of the cells below 128. -/
import Derived.Test.YtfolofhknhgpiaaGreatDoorE2
set_option linter.unusedVariables false
set_option linter.unusedSimpArgs false
set_option maxRecDepth 100000
namespace Go.Proofs.YtfolofhknhgpiaaGreatDoor
open Go

def scalarOne (P : Program) (c : Nat) : Bool := match runCall P 48 [.int .i32 (c : Int)] with
  | some (.ret (.bool true), H) => Nat.ble H.next 0
  | _ => false
theorem scalar_all : ((List.range 128).all fun c => scalarOne Tryz.prog c) = true := by decide +kernel
theorem scalar_spec {c : Nat} (h : c < 128) (B : AHeap) : ACall Tryz.prog 48 [.int .i32 (c : Int)] B fun e B' => Ext B B' ∧ e = .ret (.bool true) := by
  have h1 := List.all_eq_true.1 scalar_all c (List.mem_range.2 h)
  unfold scalarOne runCall at h1
  have hc := call_ok noBase_ok 1000 4
  split at h1
  · rename_i H hr
    have hn : H.next = 0 := by simpa using h1
    refine (ACall.evald hc (f := 48) (args := [.int .i32 (c : Int)]) (by rw [hr]; rfl) rfl (by rw [hr]; unfold noRoH outH; rw [hn]; rfl) B).mono ?_
    rintro e B' ⟨rfl, hx, _⟩
    rw [hr]
    exact ⟨hx, rfl⟩
  · cases h1
end Go.Proofs.YtfolofhknhgpiaaGreatDoor
