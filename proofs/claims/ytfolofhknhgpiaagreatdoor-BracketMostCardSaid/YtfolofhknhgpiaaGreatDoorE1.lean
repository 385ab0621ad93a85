/- Where an element of one cell stands in an order. -/
import Derived.Test.YtfolofhknhgpiaaGreatDoorE0
set_option linter.unusedVariables false
set_option linter.unusedSimpArgs false
set_option maxRecDepth 100000
namespace Go.Proofs.YtfolofhknhgpiaaGreatDoor
open Go

theorem place1 {B : AHeap} {X Y C cx cy : Nat} {x y m : Int} {s : ByteArray} {e1 e2 e3 : TypeId} {r1 r2 r3 : Bool} (hX : B.get X = some (.cells [.int .i32 x] e1 r1)) (hY : B.get Y = some (.cells [.int .i32 y] e2 r2))
    (hC : B.get C = some (.cells [.slice (some ⟨Y, 0, none⟩) 1 cy] e3 r3)) :
    ACall Tryz.prog 110 [.agg #[.string s, .slice (some ⟨X, 0, none⟩) 1 cx, .int .i64 m], .pointer (some ⟨C, 0, none⟩)] B fun e B' => Ext B B' ∧ e = .ret (.bool (decide (x = y))) := by
  refine ACall.walk (fn := Tryz.f110) (c := bodyOf Tryz.prog 110) (by kernel_rfl) (by kernel_rfl) (by kernel_rfl) ?_
  refine AWp.seq' (by kernel_rfl) (AWp.region' (by kernel_rfl) ?_)
  refine AOps.write (n := 8) 0 [1] (.pointer (some ⟨B.next, 0, none⟩)) (B.push (.cells [.string s, .slice (some ⟨X, 0, none⟩) 1 cx, .int .i64 m] 73 false)) (by kernel_rfl) rfl (by kernel_rfl) (by kernel_rfl) (by kernel_rfl) (by kernel_rfl) ?_
  refine AOps.run (n := 8) [] [1] [] (cs := []) (by kernel_rfl) (by kernel_rfl) (by kernel_rfl) ?_ ?_
  · intro x hx; cases hx
  show AWp _ _ _ _ _
  have hS : (B.push (.cells [.string s, .slice (some ⟨X, 0, none⟩) 1 cx, .int .i64 m] 73 false)).get B.next = some (.cells [.string s, .slice (some ⟨X, 0, none⟩) 1 cx, .int .i64 m] 73 false) := AHeap.get_push_new _ _
  have hx0 : Ext B (B.push (.cells [.string s, .slice (some ⟨X, 0, none⟩) 1 cx, .int .i64 m] 73 false)) := Ext.push _ _
  generalize B.push (.cells [.string s, .slice (some ⟨X, 0, none⟩) 1 cx, .int .i64 m] 73 false) = B1 at hS hx0 ⊢
  refine AWp.view [(1, .pointer (some ⟨C, 0, none⟩)), (2, .pointer (some ⟨B.next, 0, none⟩))] (by kernel_rfl) ?_
  refine AWp.seq' (by kernel_rfl) (AWp.region' (by kernel_rfl) ?_)
  refine AOps.run (n := 8) [(1, .blk ([.string s, .slice (some ⟨X, 0, none⟩) 1 cx, .int .i64 m])), (2, .blk ([.slice (some ⟨Y, 0, none⟩) 1 cy]))] [0, 1, 2] [3, 4] (cs := [.blk (B.next) ([.string s, .slice (some ⟨X, 0, none⟩) 1 cx, .int .i64 m]), .blk (C) ([.slice (some ⟨Y, 0, none⟩) 1 cy])]) (by kernel_rfl) (by kernel_rfl) (by kernel_rfl) ?_ ?_
  · intro x hx
    simp only [List.mem_cons, List.not_mem_nil, or_false] at hx
    rcases hx with rfl | rfl
    · exact ⟨73, false, hS⟩
    · exact ⟨_, _, hx0.get hC⟩
  refine AOps.call (n := 8) 3 [4] 111 [.slice (some ⟨X, 0, none⟩) 1 cx, .slice (some ⟨Y, 0, none⟩) 1 cy] (by kernel_rfl) rfl (by kernel_rfl) (by kernel_rfl) (by kernel_rfl) (by kernel_rfl) (by kernel_rfl) (equal1 (hx0.get hX) (hx0.get hY)) ?_
  rintro e H ⟨rfl, rfl⟩
  refine ⟨_, rfl, ?_⟩
  refine AOps.run (n := 8) [] [4] [] (cs := []) (by kernel_rfl) (by kernel_rfl) (by kernel_rfl) ?_ ?_
  · intro x hx; cases hx
  show AWp _ _ _ _ _
  refine AWp.view [(3, .bool (decide (x = y)))] (by kernel_rfl) ?_
  exact AWp.ret' (by kernel_rfl) ⟨[.bool (decide (x = y))], by kernel_rfl, hx0, rfl⟩
end Go.Proofs.YtfolofhknhgpiaaGreatDoor
