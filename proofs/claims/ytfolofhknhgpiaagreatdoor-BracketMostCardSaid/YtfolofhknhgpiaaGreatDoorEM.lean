/- BracketMost. -/
import Derived.Test.YtfolofhknhgpiaaGreatDoorEL
set_option linter.unusedVariables false
set_option linter.unusedSimpArgs false
set_option maxRecDepth 100000
namespace Go.Proofs.YtfolofhknhgpiaaGreatDoor
open Go


theorem wrap_past {j n : Nat} (hj : j ≤ 4) (hn : n ≤ 9223372036854775807) : IntKind.i64.wrap (((j + 1 : Nat) : Int) + (n : Int)) < 0 ∨ (j : Int) < IntKind.i64.wrap (((j + 1 : Nat) : Int) + (n : Int)) := by
  unfold IntKind.wrap
  simp only [IntKind.bits, IntKind.signed, Bool.true_and]
  split <;> rename_i h
  · simp at h; omega
  · simp at h; omega

theorem lengths_neg {B : AHeap} {sv : Value} {la : Option Addr} {n lc : Nat} {at_ : Int} {t : Value} (h : at_ < 0) :
    ACall Tryz.prog 8 [sv, .slice la n lc, .int .i64 at_, t] B fun e B' => e = .ret (.slice none 0 0) ∧ Ext B B' := by
  refine ACall.walk (fn := Tryz.f8) (c := bodyOf Tryz.prog 8) (by kernel_rfl) (by kernel_rfl) (by kernel_rfl) ?_
  refine AWp.seq' (by kernel_rfl) (AWp.region' (by kernel_rfl) ?_)
  refine AOps.write (n := 86) 0 [1] (.pointer (some ⟨B.next, 0, none⟩)) (B.push (.cells (vcells sv) 34 false)) (by kernel_rfl) rfl (by kernel_rfl) (by kernel_rfl) (by kernel_rfl) (by kernel_rfl) ?_
  refine AOps.run (n := 86) [] [1] [] (cs := []) (by kernel_rfl) (by kernel_rfl) (by kernel_rfl) ?_ ?_
  · intro x hx; cases hx
  show AWp _ _ _ _ _
  refine AWp.view [(1, .slice la n lc), (2, .int .i64 at_), (8, .slice none 0 0)] (by kernel_rfl) ?_
  refine AWp.scope' (by kernel_rfl) ?_
  refine AWp.seq' (by kernel_rfl) ?_
  refine AWp.seq' (by kernel_rfl) (AWp.region' (by kernel_rfl) ?_)
  refine AOps.run (n := 86) [(1, .val (.bool true))] [0, 1, 2, 3, 4, 5, 6, 7] [] (cs := [.some (some (.bool (decide (at_ < 0)))) (.bool true)]) (by kernel_rfl) (by kernel_rfl) (by kernel_rfl) ?_ ?_
  · intro x hx
    simp only [List.mem_cons, List.not_mem_nil, or_false] at hx
    subst hx
    exact congrArg (fun b => some (Value.bool b)) (decide_eq_true h)
  show AWp _ _ _ _ _
  refine AWp.view [(22, .bool true)] (by kernel_rfl) ?_
  refine AWp.condT (c := .tmp 22) (by kernel_rfl) (by kernel_rfl) ?_
  refine AWp.seq' (by kernel_rfl) (AWp.region' (by kernel_rfl) ?_)
  refine AOps.run (n := 86) [] [0] [] (cs := []) (by kernel_rfl) (by kernel_rfl) (by kernel_rfl) ?_ ?_
  · intro x hx; cases hx
  show AWp _ _ _ _ _
  refine AWp.view [(8, .slice none 0 0)] (by kernel_rfl) ?_
  exact AWp.ret' (by kernel_rfl) ⟨[.slice none 0 0], by kernel_rfl, rfl, Ext.push _ _⟩
theorem lengths_past {B : AHeap} {sv : Value} {la : Option Addr} {n lc : Nat} {at_ : Int} {t : Value} (h : (n : Int) < at_) :
    ACall Tryz.prog 8 [sv, .slice la n lc, .int .i64 at_, t] B fun e B' => e = .ret (.slice none 0 0) ∧ Ext B B' := by
  refine ACall.walk (fn := Tryz.f8) (c := bodyOf Tryz.prog 8) (by kernel_rfl) (by kernel_rfl) (by kernel_rfl) ?_
  refine AWp.seq' (by kernel_rfl) (AWp.region' (by kernel_rfl) ?_)
  refine AOps.write (n := 86) 0 [1] (.pointer (some ⟨B.next, 0, none⟩)) (B.push (.cells (vcells sv) 34 false)) (by kernel_rfl) rfl (by kernel_rfl) (by kernel_rfl) (by kernel_rfl) (by kernel_rfl) ?_
  refine AOps.run (n := 86) [] [1] [] (cs := []) (by kernel_rfl) (by kernel_rfl) (by kernel_rfl) ?_ ?_
  · intro x hx; cases hx
  show AWp _ _ _ _ _
  refine AWp.view [(1, .slice la n lc), (2, .int .i64 at_), (8, .slice none 0 0)] (by kernel_rfl) ?_
  refine AWp.scope' (by kernel_rfl) ?_
  refine AWp.seq' (by kernel_rfl) ?_
  refine AWp.seq' (by kernel_rfl) (AWp.region' (by kernel_rfl) ?_)
  refine AOps.run (n := 86) [(1, .val (.bool false)), (6, .val (.bool true))] [0, 1, 2, 3, 4, 5, 6, 7] [] (cs := [.some (some (.bool (decide (at_ < 0)))) (.bool false), .some (some (.bool (decide (at_ > (n : Int))))) (.bool true)]) (by kernel_rfl) (by kernel_rfl) (by kernel_rfl) ?_ ?_
  · intro x hx
    simp only [List.mem_cons, List.not_mem_nil, or_false] at hx
    rcases hx with rfl | rfl
    · exact congrArg (fun b => some (Value.bool b)) (decide_eq_false (by omega))
    · exact congrArg (fun b => some (Value.bool b)) (decide_eq_true h)
  show AWp _ _ _ _ _
  refine AWp.view [(22, .bool true)] (by kernel_rfl) ?_
  refine AWp.condT (c := .tmp 22) (by kernel_rfl) (by kernel_rfl) ?_
  refine AWp.seq' (by kernel_rfl) (AWp.region' (by kernel_rfl) ?_)
  refine AOps.run (n := 86) [] [0] [] (cs := []) (by kernel_rfl) (by kernel_rfl) (by kernel_rfl) ?_ ?_
  · intro x hx; cases hx
  show AWp _ _ _ _ _
  refine AWp.view [(8, .slice none 0 0)] (by kernel_rfl) ?_
  exact AWp.ret' (by kernel_rfl) ⟨[.slice none 0 0], by kernel_rfl, rfl, Ext.push _ _⟩
theorem lengths_none {B : AHeap} {sv : Value} {la : Option Addr} {n lc : Nat} {at_ : Int} {t : Value} (h : at_ < 0 ∨ (n : Int) < at_) :
    ACall Tryz.prog 8 [sv, .slice la n lc, .int .i64 at_, t] B fun e B' => e = .ret (.slice none 0 0) ∧ Ext B B' := h.elim lengths_neg lengths_past
theorem hcK : CallOk Tryz.prog (dcall Tryz.prog tab tfns noBase 1000 60) := call_ok noBase_ok 1000 60
theorem most0 {k n dc : Nat} {da : Option Addr} {ob : Option ABlk} (hk : k % 5 = 0) (hn : n ≤ 9223372036854775807) : ACall Tryz.prog 4 [.slice da n dc, .int .u8 (k : Int)] (mkH [ob]) fun e _ => e = .ret (.bool true) := by
  refine ACall.walk (fn := Tryz.f4) (c := bodyOf Tryz.prog 4) (by kernel_rfl) (by kernel_rfl) (by kernel_rfl) ?_
  refine AWp.piece (tab := tab 4) (k := 1000) mixed hcK (by kernel_rfl) (by kernel_rfl) (by kernel_rfl) ?_
  refine AWp.view [(0, .slice da n dc), (1, .int .u8 (k : Int))] (by kernel_rfl) ?_
  refine AWp.piece (tab := tab 4) (k := 1000) mixed hcK (by kernel_rfl) (by kernel_rfl) (by kernel_rfl) ?_
  refine AWp.view [(0, .slice da n dc), (1, .int .u8 (k : Int)), (5, .pointer (some ⟨6, 0, none⟩))] (by kernel_rfl) ?_
  refine AWp.seq' (by kernel_rfl) (AWp.region' (by kernel_rfl) ?_)
  refine AOps.run (n := 64) [(1, .val (.int .u8 ((0 : Nat) : Int)))] [0, 1, 2] [3, 4] (cs := [.some (anum .rem .u8 .u8 (k : Int) ((5 : Nat) : Int)) (.int .u8 ((0 : Nat) : Int))]) (by kernel_rfl) (by kernel_rfl) (by kernel_rfl) ?_ ?_
  · intro x hx
    simp only [List.mem_cons, List.not_mem_nil, or_false] at hx
    subst hx
    exact (rem_ok .u8 k 5 (by decide)).trans (by rw [hk])
  refine AOps.piece hcK (by kernel_rfl) ?_
  show AWp _ _ _ _ _
  refine AWp.view [(0, .slice da n dc), (5, .pointer (some ⟨6, 0, none⟩)), (6, .slice none 0 0)] (by kernel_rfl) ?_
  refine AWp.piece (tab := tab 4) (k := 1000) mixed hcK (by kernel_rfl) (by kernel_rfl) (by kernel_rfl) ?_
  refine AWp.view [(0, .slice da n dc), (5, .pointer (some ⟨6, 0, none⟩)), (6, .slice none 0 0), (7, .slice none 0 0)] (by kernel_rfl) ?_
  refine AWp.piece (tab := tab 4) (k := 1000) mixed hcK (by kernel_rfl) (by kernel_rfl) (by kernel_rfl) ?_
  refine AWp.view [(0, .slice da n dc), (5, .pointer (some ⟨6, 0, none⟩)), (6, .slice none 0 0), (7, .slice none 0 0)] (by kernel_rfl) ?_
  refine AWp.piece (tab := tab 4) (k := 1000) mixed hcK (by kernel_rfl) (by kernel_rfl) (by kernel_rfl) ?_
  refine AWp.view [(0, .slice da n dc), (5, .pointer (some ⟨6, 0, none⟩)), (6, .slice none 0 0)] (by kernel_rfl) ?_
  refine AWp.seq' (by kernel_rfl) (AWp.region' (by kernel_rfl) ?_)
  refine AOps.call (n := 64) 0 [1, 2, 3, 4, 5, 6, 7, 8, 9, 10, 11, 12, 13, 14, 15, 16, 17, 18, 19, 20, 21] 9 [] (by kernel_rfl) rfl (by kernel_rfl) (by kernel_rfl) (by kernel_rfl) (by kernel_rfl) (by kernel_rfl) (known_at _) ?_
  rintro e B' ⟨rfl, rfl⟩
  refine ⟨_, rfl, ?_⟩
  refine AOps.run (n := 64) [(2, .blk ( [.bool false, .slice (some ⟨1, 0, none⟩) 1 1, .slice (some ⟨5, 0, none⟩) 3 3]))] [1, 2, 3, 4, 5, 6, 7, 8, 9] [10, 11, 12, 13, 14, 15, 16, 17, 18, 19, 20, 21] (cs := [.blk (6) ( [.bool false, .slice (some ⟨1, 0, none⟩) 1 1, .slice (some ⟨5, 0, none⟩) 3 3])]) (by kernel_rfl) (by kernel_rfl) (by kernel_rfl) ?_ ?_
  · intro x hx
    simp only [List.mem_cons, List.not_mem_nil, or_false] at hx
    subst hx
    exact ⟨34, false, by kernel_rfl⟩
  refine AOps.call (n := 64) 10 [11, 12, 13, 14, 15, 16, 17, 18, 19, 20, 21] 8 [.agg #[.bool false, .slice (some ⟨1, 0, none⟩) 1 1, .slice (some ⟨5, 0, none⟩) 3 3], .slice none 0 0, .int .i64 (IntKind.i64.wrap (((0 + 1 : Nat) : Int) + (n : Int))), .pointer none] (by kernel_rfl) rfl (by kernel_rfl) (by kernel_rfl) (by kernel_rfl) (by kernel_rfl) (by kernel_rfl) (lengths_none (n := 0) (wrap_past (by decide) hn)) ?_
  rintro e B' ⟨rfl, hx⟩
  refine ⟨_, rfl, ?_⟩
  refine AOps.run (n := 64) [(15, .blk ( [.bool false, .slice (some ⟨1, 0, none⟩) 1 1, .slice (some ⟨5, 0, none⟩) 3 3]))] [11, 12, 13, 14, 15, 16] [17, 18, 19, 20, 21] (cs := [.blk (6) ( [.bool false, .slice (some ⟨1, 0, none⟩) 1 1, .slice (some ⟨5, 0, none⟩) 3 3])]) (by kernel_rfl) (by kernel_rfl) (by kernel_rfl) ?_ ?_
  · intro x hx
    simp only [List.mem_cons, List.not_mem_nil, or_false] at hx
    subst hx
    exact ⟨34, false, hx.get (by kernel_rfl)⟩
  refine AOps.call (n := 64) 17 [18, 19, 20, 21] 8 [.agg #[.bool false, .slice (some ⟨1, 0, none⟩) 1 1, .slice (some ⟨5, 0, none⟩) 3 3], .slice none 0 0, .int .i64 (-1), .pointer none] (by kernel_rfl) rfl (by kernel_rfl) (by kernel_rfl) (by kernel_rfl) (by kernel_rfl) (by kernel_rfl) (lengths_none (n := 0) (.inl (by decide))) ?_
  rintro e B2 ⟨rfl, hx2⟩
  refine ⟨_, rfl, ?_⟩
  refine AOps.run (n := 64) [] [18, 19, 20, 21] [] (cs := []) (by kernel_rfl) (by kernel_rfl) (by kernel_rfl) ?_ ?_
  · intro x hx; cases hx
  show AWp _ _ _ _ _
  refine AWp.view [(4, .bool true)] (by kernel_rfl) ?_
  exact AWp.ret' (by kernel_rfl) ⟨[.bool true], by kernel_rfl, rfl⟩
theorem most1 {k n dc : Nat} {da : Option Addr} {ob : Option ABlk} (hk : k % 5 = 1) (hn : n ≤ 9223372036854775807) : ACall Tryz.prog 4 [.slice da n dc, .int .u8 (k : Int)] (mkH [ob]) fun e _ => e = .ret (.bool true) := by
  refine ACall.walk (fn := Tryz.f4) (c := bodyOf Tryz.prog 4) (by kernel_rfl) (by kernel_rfl) (by kernel_rfl) ?_
  refine AWp.piece (tab := tab 4) (k := 1000) mixed hcK (by kernel_rfl) (by kernel_rfl) (by kernel_rfl) ?_
  refine AWp.view [(0, .slice da n dc), (1, .int .u8 (k : Int))] (by kernel_rfl) ?_
  refine AWp.piece (tab := tab 4) (k := 1000) mixed hcK (by kernel_rfl) (by kernel_rfl) (by kernel_rfl) ?_
  refine AWp.view [(0, .slice da n dc), (1, .int .u8 (k : Int)), (5, .pointer (some ⟨6, 0, none⟩))] (by kernel_rfl) ?_
  refine AWp.seq' (by kernel_rfl) (AWp.region' (by kernel_rfl) ?_)
  refine AOps.run (n := 64) [(1, .val (.int .u8 ((1 : Nat) : Int)))] [0, 1, 2] [3, 4] (cs := [.some (anum .rem .u8 .u8 (k : Int) ((5 : Nat) : Int)) (.int .u8 ((1 : Nat) : Int))]) (by kernel_rfl) (by kernel_rfl) (by kernel_rfl) ?_ ?_
  · intro x hx
    simp only [List.mem_cons, List.not_mem_nil, or_false] at hx
    subst hx
    exact (rem_ok .u8 k 5 (by decide)).trans (by rw [hk])
  refine AOps.piece hcK (by kernel_rfl) ?_
  show AWp _ _ _ _ _
  refine AWp.view [(0, .slice da n dc), (5, .pointer (some ⟨6, 0, none⟩)), (6, .slice (some ⟨9, 0, none⟩) 1 4611686018427387905)] (by kernel_rfl) ?_
  refine AWp.piece (tab := tab 4) (k := 1000) mixed hcK (by kernel_rfl) (by kernel_rfl) (by kernel_rfl) ?_
  refine AWp.view [(0, .slice da n dc), (5, .pointer (some ⟨6, 0, none⟩)), (6, .slice (some ⟨9, 0, none⟩) 1 4611686018427387905), (7, .slice (some ⟨16, 0, none⟩) 1 4611686018427387905)] (by kernel_rfl) ?_
  refine AWp.piece (tab := tab 4) (k := 1000) mixed hcK (by kernel_rfl) (by kernel_rfl) (by kernel_rfl) ?_
  refine AWp.view [(0, .slice da n dc), (5, .pointer (some ⟨6, 0, none⟩)), (6, .slice (some ⟨9, 0, none⟩) 1 4611686018427387905), (7, .slice (some ⟨16, 0, none⟩) 1 4611686018427387905)] (by kernel_rfl) ?_
  refine AWp.piece (tab := tab 4) (k := 1000) mixed hcK (by kernel_rfl) (by kernel_rfl) (by kernel_rfl) ?_
  refine AWp.view [(0, .slice da n dc), (5, .pointer (some ⟨6, 0, none⟩)), (6, .slice (some ⟨9, 0, none⟩) 1 4611686018427387905)] (by kernel_rfl) ?_
  refine AWp.seq' (by kernel_rfl) (AWp.region' (by kernel_rfl) ?_)
  refine AOps.call (n := 64) 0 [1, 2, 3, 4, 5, 6, 7, 8, 9, 10, 11, 12, 13, 14, 15, 16, 17, 18, 19, 20, 21] 9 [] (by kernel_rfl) rfl (by kernel_rfl) (by kernel_rfl) (by kernel_rfl) (by kernel_rfl) (by kernel_rfl) (known_at _) ?_
  rintro e B' ⟨rfl, rfl⟩
  refine ⟨_, rfl, ?_⟩
  refine AOps.run (n := 64) [(2, .blk ( [.bool false, .slice (some ⟨1, 0, none⟩) 1 1, .slice (some ⟨5, 0, none⟩) 3 3]))] [1, 2, 3, 4, 5, 6, 7, 8, 9] [10, 11, 12, 13, 14, 15, 16, 17, 18, 19, 20, 21] (cs := [.blk (6) ( [.bool false, .slice (some ⟨1, 0, none⟩) 1 1, .slice (some ⟨5, 0, none⟩) 3 3])]) (by kernel_rfl) (by kernel_rfl) (by kernel_rfl) ?_ ?_
  · intro x hx
    simp only [List.mem_cons, List.not_mem_nil, or_false] at hx
    subst hx
    exact ⟨34, false, by kernel_rfl⟩
  refine AOps.call (n := 64) 10 [11, 12, 13, 14, 15, 16, 17, 18, 19, 20, 21] 8 [.agg #[.bool false, .slice (some ⟨1, 0, none⟩) 1 1, .slice (some ⟨5, 0, none⟩) 3 3], .slice (some ⟨9, 0, none⟩) 1 4611686018427387905, .int .i64 (IntKind.i64.wrap (((1 + 1 : Nat) : Int) + (n : Int))), .pointer none] (by kernel_rfl) rfl (by kernel_rfl) (by kernel_rfl) (by kernel_rfl) (by kernel_rfl) (by kernel_rfl) (lengths_none (n := 1) (wrap_past (by decide) hn)) ?_
  rintro e B' ⟨rfl, hx⟩
  refine ⟨_, rfl, ?_⟩
  refine AOps.run (n := 64) [(15, .blk ( [.bool false, .slice (some ⟨1, 0, none⟩) 1 1, .slice (some ⟨5, 0, none⟩) 3 3]))] [11, 12, 13, 14, 15, 16] [17, 18, 19, 20, 21] (cs := [.blk (6) ( [.bool false, .slice (some ⟨1, 0, none⟩) 1 1, .slice (some ⟨5, 0, none⟩) 3 3])]) (by kernel_rfl) (by kernel_rfl) (by kernel_rfl) ?_ ?_
  · intro x hx
    simp only [List.mem_cons, List.not_mem_nil, or_false] at hx
    subst hx
    exact ⟨34, false, hx.get (by kernel_rfl)⟩
  refine AOps.call (n := 64) 17 [18, 19, 20, 21] 8 [.agg #[.bool false, .slice (some ⟨1, 0, none⟩) 1 1, .slice (some ⟨5, 0, none⟩) 3 3], .slice (some ⟨9, 0, none⟩) 1 4611686018427387905, .int .i64 (-1), .pointer none] (by kernel_rfl) rfl (by kernel_rfl) (by kernel_rfl) (by kernel_rfl) (by kernel_rfl) (by kernel_rfl) (lengths_none (n := 1) (.inl (by decide))) ?_
  rintro e B2 ⟨rfl, hx2⟩
  refine ⟨_, rfl, ?_⟩
  refine AOps.run (n := 64) [] [18, 19, 20, 21] [] (cs := []) (by kernel_rfl) (by kernel_rfl) (by kernel_rfl) ?_ ?_
  · intro x hx; cases hx
  show AWp _ _ _ _ _
  refine AWp.view [(4, .bool true)] (by kernel_rfl) ?_
  exact AWp.ret' (by kernel_rfl) ⟨[.bool true], by kernel_rfl, rfl⟩
theorem most2 {k n dc : Nat} {da : Option Addr} {ob : Option ABlk} (hk : k % 5 = 2) (hn : n ≤ 9223372036854775807) : ACall Tryz.prog 4 [.slice da n dc, .int .u8 (k : Int)] (mkH [ob]) fun e _ => e = .ret (.bool true) := by
  refine ACall.walk (fn := Tryz.f4) (c := bodyOf Tryz.prog 4) (by kernel_rfl) (by kernel_rfl) (by kernel_rfl) ?_
  refine AWp.piece (tab := tab 4) (k := 1000) mixed hcK (by kernel_rfl) (by kernel_rfl) (by kernel_rfl) ?_
  refine AWp.view [(0, .slice da n dc), (1, .int .u8 (k : Int))] (by kernel_rfl) ?_
  refine AWp.piece (tab := tab 4) (k := 1000) mixed hcK (by kernel_rfl) (by kernel_rfl) (by kernel_rfl) ?_
  refine AWp.view [(0, .slice da n dc), (1, .int .u8 (k : Int)), (5, .pointer (some ⟨6, 0, none⟩))] (by kernel_rfl) ?_
  refine AWp.seq' (by kernel_rfl) (AWp.region' (by kernel_rfl) ?_)
  refine AOps.run (n := 64) [(1, .val (.int .u8 ((2 : Nat) : Int)))] [0, 1, 2] [3, 4] (cs := [.some (anum .rem .u8 .u8 (k : Int) ((5 : Nat) : Int)) (.int .u8 ((2 : Nat) : Int))]) (by kernel_rfl) (by kernel_rfl) (by kernel_rfl) ?_ ?_
  · intro x hx
    simp only [List.mem_cons, List.not_mem_nil, or_false] at hx
    subst hx
    exact (rem_ok .u8 k 5 (by decide)).trans (by rw [hk])
  refine AOps.piece hcK (by kernel_rfl) ?_
  show AWp _ _ _ _ _
  refine AWp.view [(0, .slice da n dc), (5, .pointer (some ⟨6, 0, none⟩)), (6, .slice (some ⟨12, 0, none⟩) 2 4611686018427387905)] (by kernel_rfl) ?_
  refine AWp.piece (tab := tab 4) (k := 1000) mixed hcK (by kernel_rfl) (by kernel_rfl) (by kernel_rfl) ?_
  refine AWp.view [(0, .slice da n dc), (5, .pointer (some ⟨6, 0, none⟩)), (6, .slice (some ⟨12, 0, none⟩) 2 4611686018427387905), (7, .slice (some ⟨21, 0, none⟩) 2 4611686018427387905)] (by kernel_rfl) ?_
  refine AWp.piece (tab := tab 4) (k := 1000) mixed hcK (by kernel_rfl) (by kernel_rfl) (by kernel_rfl) ?_
  refine AWp.view [(0, .slice da n dc), (5, .pointer (some ⟨6, 0, none⟩)), (6, .slice (some ⟨12, 0, none⟩) 2 4611686018427387905), (7, .slice (some ⟨21, 0, none⟩) 2 4611686018427387905)] (by kernel_rfl) ?_
  refine AWp.piece (tab := tab 4) (k := 1000) mixed hcK (by kernel_rfl) (by kernel_rfl) (by kernel_rfl) ?_
  refine AWp.view [(0, .slice da n dc), (5, .pointer (some ⟨6, 0, none⟩)), (6, .slice (some ⟨12, 0, none⟩) 2 4611686018427387905)] (by kernel_rfl) ?_
  refine AWp.seq' (by kernel_rfl) (AWp.region' (by kernel_rfl) ?_)
  refine AOps.call (n := 64) 0 [1, 2, 3, 4, 5, 6, 7, 8, 9, 10, 11, 12, 13, 14, 15, 16, 17, 18, 19, 20, 21] 9 [] (by kernel_rfl) rfl (by kernel_rfl) (by kernel_rfl) (by kernel_rfl) (by kernel_rfl) (by kernel_rfl) (known_at _) ?_
  rintro e B' ⟨rfl, rfl⟩
  refine ⟨_, rfl, ?_⟩
  refine AOps.run (n := 64) [(2, .blk ( [.bool false, .slice (some ⟨1, 0, none⟩) 1 1, .slice (some ⟨5, 0, none⟩) 3 3]))] [1, 2, 3, 4, 5, 6, 7, 8, 9] [10, 11, 12, 13, 14, 15, 16, 17, 18, 19, 20, 21] (cs := [.blk (6) ( [.bool false, .slice (some ⟨1, 0, none⟩) 1 1, .slice (some ⟨5, 0, none⟩) 3 3])]) (by kernel_rfl) (by kernel_rfl) (by kernel_rfl) ?_ ?_
  · intro x hx
    simp only [List.mem_cons, List.not_mem_nil, or_false] at hx
    subst hx
    exact ⟨34, false, by kernel_rfl⟩
  refine AOps.call (n := 64) 10 [11, 12, 13, 14, 15, 16, 17, 18, 19, 20, 21] 8 [.agg #[.bool false, .slice (some ⟨1, 0, none⟩) 1 1, .slice (some ⟨5, 0, none⟩) 3 3], .slice (some ⟨12, 0, none⟩) 2 4611686018427387905, .int .i64 (IntKind.i64.wrap (((2 + 1 : Nat) : Int) + (n : Int))), .pointer none] (by kernel_rfl) rfl (by kernel_rfl) (by kernel_rfl) (by kernel_rfl) (by kernel_rfl) (by kernel_rfl) (lengths_none (n := 2) (wrap_past (by decide) hn)) ?_
  rintro e B' ⟨rfl, hx⟩
  refine ⟨_, rfl, ?_⟩
  refine AOps.run (n := 64) [(15, .blk ( [.bool false, .slice (some ⟨1, 0, none⟩) 1 1, .slice (some ⟨5, 0, none⟩) 3 3]))] [11, 12, 13, 14, 15, 16] [17, 18, 19, 20, 21] (cs := [.blk (6) ( [.bool false, .slice (some ⟨1, 0, none⟩) 1 1, .slice (some ⟨5, 0, none⟩) 3 3])]) (by kernel_rfl) (by kernel_rfl) (by kernel_rfl) ?_ ?_
  · intro x hx
    simp only [List.mem_cons, List.not_mem_nil, or_false] at hx
    subst hx
    exact ⟨34, false, hx.get (by kernel_rfl)⟩
  refine AOps.call (n := 64) 17 [18, 19, 20, 21] 8 [.agg #[.bool false, .slice (some ⟨1, 0, none⟩) 1 1, .slice (some ⟨5, 0, none⟩) 3 3], .slice (some ⟨12, 0, none⟩) 2 4611686018427387905, .int .i64 (-1), .pointer none] (by kernel_rfl) rfl (by kernel_rfl) (by kernel_rfl) (by kernel_rfl) (by kernel_rfl) (by kernel_rfl) (lengths_none (n := 2) (.inl (by decide))) ?_
  rintro e B2 ⟨rfl, hx2⟩
  refine ⟨_, rfl, ?_⟩
  refine AOps.run (n := 64) [] [18, 19, 20, 21] [] (cs := []) (by kernel_rfl) (by kernel_rfl) (by kernel_rfl) ?_ ?_
  · intro x hx; cases hx
  show AWp _ _ _ _ _
  refine AWp.view [(4, .bool true)] (by kernel_rfl) ?_
  exact AWp.ret' (by kernel_rfl) ⟨[.bool true], by kernel_rfl, rfl⟩
theorem most3 {k n dc : Nat} {da : Option Addr} {ob : Option ABlk} (hk : k % 5 = 3) (hn : n ≤ 9223372036854775807) : ACall Tryz.prog 4 [.slice da n dc, .int .u8 (k : Int)] (mkH [ob]) fun e _ => e = .ret (.bool true) := by
  refine ACall.walk (fn := Tryz.f4) (c := bodyOf Tryz.prog 4) (by kernel_rfl) (by kernel_rfl) (by kernel_rfl) ?_
  refine AWp.piece (tab := tab 4) (k := 1000) mixed hcK (by kernel_rfl) (by kernel_rfl) (by kernel_rfl) ?_
  refine AWp.view [(0, .slice da n dc), (1, .int .u8 (k : Int))] (by kernel_rfl) ?_
  refine AWp.piece (tab := tab 4) (k := 1000) mixed hcK (by kernel_rfl) (by kernel_rfl) (by kernel_rfl) ?_
  refine AWp.view [(0, .slice da n dc), (1, .int .u8 (k : Int)), (5, .pointer (some ⟨6, 0, none⟩))] (by kernel_rfl) ?_
  refine AWp.seq' (by kernel_rfl) (AWp.region' (by kernel_rfl) ?_)
  refine AOps.run (n := 64) [(1, .val (.int .u8 ((3 : Nat) : Int)))] [0, 1, 2] [3, 4] (cs := [.some (anum .rem .u8 .u8 (k : Int) ((5 : Nat) : Int)) (.int .u8 ((3 : Nat) : Int))]) (by kernel_rfl) (by kernel_rfl) (by kernel_rfl) ?_ ?_
  · intro x hx
    simp only [List.mem_cons, List.not_mem_nil, or_false] at hx
    subst hx
    exact (rem_ok .u8 k 5 (by decide)).trans (by rw [hk])
  refine AOps.piece hcK (by kernel_rfl) ?_
  show AWp _ _ _ _ _
  refine AWp.view [(0, .slice da n dc), (5, .pointer (some ⟨6, 0, none⟩)), (6, .slice (some ⟨15, 0, none⟩) 3 4611686018427387905)] (by kernel_rfl) ?_
  refine AWp.piece (tab := tab 4) (k := 1000) mixed hcK (by kernel_rfl) (by kernel_rfl) (by kernel_rfl) ?_
  refine AWp.view [(0, .slice da n dc), (5, .pointer (some ⟨6, 0, none⟩)), (6, .slice (some ⟨15, 0, none⟩) 3 4611686018427387905), (7, .slice (some ⟨26, 0, none⟩) 3 4611686018427387905)] (by kernel_rfl) ?_
  refine AWp.piece (tab := tab 4) (k := 1000) mixed hcK (by kernel_rfl) (by kernel_rfl) (by kernel_rfl) ?_
  refine AWp.view [(0, .slice da n dc), (5, .pointer (some ⟨6, 0, none⟩)), (6, .slice (some ⟨15, 0, none⟩) 3 4611686018427387905), (7, .slice (some ⟨26, 0, none⟩) 3 4611686018427387905)] (by kernel_rfl) ?_
  refine AWp.piece (tab := tab 4) (k := 1000) mixed hcK (by kernel_rfl) (by kernel_rfl) (by kernel_rfl) ?_
  refine AWp.view [(0, .slice da n dc), (5, .pointer (some ⟨6, 0, none⟩)), (6, .slice (some ⟨15, 0, none⟩) 3 4611686018427387905)] (by kernel_rfl) ?_
  refine AWp.seq' (by kernel_rfl) (AWp.region' (by kernel_rfl) ?_)
  refine AOps.call (n := 64) 0 [1, 2, 3, 4, 5, 6, 7, 8, 9, 10, 11, 12, 13, 14, 15, 16, 17, 18, 19, 20, 21] 9 [] (by kernel_rfl) rfl (by kernel_rfl) (by kernel_rfl) (by kernel_rfl) (by kernel_rfl) (by kernel_rfl) (known_at _) ?_
  rintro e B' ⟨rfl, rfl⟩
  refine ⟨_, rfl, ?_⟩
  refine AOps.run (n := 64) [(2, .blk ( [.bool false, .slice (some ⟨1, 0, none⟩) 1 1, .slice (some ⟨5, 0, none⟩) 3 3]))] [1, 2, 3, 4, 5, 6, 7, 8, 9] [10, 11, 12, 13, 14, 15, 16, 17, 18, 19, 20, 21] (cs := [.blk (6) ( [.bool false, .slice (some ⟨1, 0, none⟩) 1 1, .slice (some ⟨5, 0, none⟩) 3 3])]) (by kernel_rfl) (by kernel_rfl) (by kernel_rfl) ?_ ?_
  · intro x hx
    simp only [List.mem_cons, List.not_mem_nil, or_false] at hx
    subst hx
    exact ⟨34, false, by kernel_rfl⟩
  refine AOps.call (n := 64) 10 [11, 12, 13, 14, 15, 16, 17, 18, 19, 20, 21] 8 [.agg #[.bool false, .slice (some ⟨1, 0, none⟩) 1 1, .slice (some ⟨5, 0, none⟩) 3 3], .slice (some ⟨15, 0, none⟩) 3 4611686018427387905, .int .i64 (IntKind.i64.wrap (((3 + 1 : Nat) : Int) + (n : Int))), .pointer none] (by kernel_rfl) rfl (by kernel_rfl) (by kernel_rfl) (by kernel_rfl) (by kernel_rfl) (by kernel_rfl) (lengths_none (n := 3) (wrap_past (by decide) hn)) ?_
  rintro e B' ⟨rfl, hx⟩
  refine ⟨_, rfl, ?_⟩
  refine AOps.run (n := 64) [(15, .blk ( [.bool false, .slice (some ⟨1, 0, none⟩) 1 1, .slice (some ⟨5, 0, none⟩) 3 3]))] [11, 12, 13, 14, 15, 16] [17, 18, 19, 20, 21] (cs := [.blk (6) ( [.bool false, .slice (some ⟨1, 0, none⟩) 1 1, .slice (some ⟨5, 0, none⟩) 3 3])]) (by kernel_rfl) (by kernel_rfl) (by kernel_rfl) ?_ ?_
  · intro x hx
    simp only [List.mem_cons, List.not_mem_nil, or_false] at hx
    subst hx
    exact ⟨34, false, hx.get (by kernel_rfl)⟩
  refine AOps.call (n := 64) 17 [18, 19, 20, 21] 8 [.agg #[.bool false, .slice (some ⟨1, 0, none⟩) 1 1, .slice (some ⟨5, 0, none⟩) 3 3], .slice (some ⟨15, 0, none⟩) 3 4611686018427387905, .int .i64 (-1), .pointer none] (by kernel_rfl) rfl (by kernel_rfl) (by kernel_rfl) (by kernel_rfl) (by kernel_rfl) (by kernel_rfl) (lengths_none (n := 3) (.inl (by decide))) ?_
  rintro e B2 ⟨rfl, hx2⟩
  refine ⟨_, rfl, ?_⟩
  refine AOps.run (n := 64) [] [18, 19, 20, 21] [] (cs := []) (by kernel_rfl) (by kernel_rfl) (by kernel_rfl) ?_ ?_
  · intro x hx; cases hx
  show AWp _ _ _ _ _
  refine AWp.view [(4, .bool true)] (by kernel_rfl) ?_
  exact AWp.ret' (by kernel_rfl) ⟨[.bool true], by kernel_rfl, rfl⟩
theorem most4 {k n dc : Nat} {da : Option Addr} {ob : Option ABlk} (hk : k % 5 = 4) (hn : n ≤ 9223372036854775807) : ACall Tryz.prog 4 [.slice da n dc, .int .u8 (k : Int)] (mkH [ob]) fun e _ => e = .ret (.bool true) := by
  refine ACall.walk (fn := Tryz.f4) (c := bodyOf Tryz.prog 4) (by kernel_rfl) (by kernel_rfl) (by kernel_rfl) ?_
  refine AWp.piece (tab := tab 4) (k := 1000) mixed hcK (by kernel_rfl) (by kernel_rfl) (by kernel_rfl) ?_
  refine AWp.view [(0, .slice da n dc), (1, .int .u8 (k : Int))] (by kernel_rfl) ?_
  refine AWp.piece (tab := tab 4) (k := 1000) mixed hcK (by kernel_rfl) (by kernel_rfl) (by kernel_rfl) ?_
  refine AWp.view [(0, .slice da n dc), (1, .int .u8 (k : Int)), (5, .pointer (some ⟨6, 0, none⟩))] (by kernel_rfl) ?_
  refine AWp.seq' (by kernel_rfl) (AWp.region' (by kernel_rfl) ?_)
  refine AOps.run (n := 64) [(1, .val (.int .u8 ((4 : Nat) : Int)))] [0, 1, 2] [3, 4] (cs := [.some (anum .rem .u8 .u8 (k : Int) ((5 : Nat) : Int)) (.int .u8 ((4 : Nat) : Int))]) (by kernel_rfl) (by kernel_rfl) (by kernel_rfl) ?_ ?_
  · intro x hx
    simp only [List.mem_cons, List.not_mem_nil, or_false] at hx
    subst hx
    exact (rem_ok .u8 k 5 (by decide)).trans (by rw [hk])
  refine AOps.piece hcK (by kernel_rfl) ?_
  show AWp _ _ _ _ _
  refine AWp.view [(0, .slice da n dc), (5, .pointer (some ⟨6, 0, none⟩)), (6, .slice (some ⟨18, 0, none⟩) 4 4611686018427387905)] (by kernel_rfl) ?_
  refine AWp.piece (tab := tab 4) (k := 1000) mixed hcK (by kernel_rfl) (by kernel_rfl) (by kernel_rfl) ?_
  refine AWp.view [(0, .slice da n dc), (5, .pointer (some ⟨6, 0, none⟩)), (6, .slice (some ⟨18, 0, none⟩) 4 4611686018427387905), (7, .slice (some ⟨31, 0, none⟩) 4 4611686018427387905)] (by kernel_rfl) ?_
  refine AWp.piece (tab := tab 4) (k := 1000) mixed hcK (by kernel_rfl) (by kernel_rfl) (by kernel_rfl) ?_
  refine AWp.view [(0, .slice da n dc), (5, .pointer (some ⟨6, 0, none⟩)), (6, .slice (some ⟨18, 0, none⟩) 4 4611686018427387905), (7, .slice (some ⟨31, 0, none⟩) 4 4611686018427387905)] (by kernel_rfl) ?_
  refine AWp.piece (tab := tab 4) (k := 1000) mixed hcK (by kernel_rfl) (by kernel_rfl) (by kernel_rfl) ?_
  refine AWp.view [(0, .slice da n dc), (5, .pointer (some ⟨6, 0, none⟩)), (6, .slice (some ⟨18, 0, none⟩) 4 4611686018427387905)] (by kernel_rfl) ?_
  refine AWp.seq' (by kernel_rfl) (AWp.region' (by kernel_rfl) ?_)
  refine AOps.call (n := 64) 0 [1, 2, 3, 4, 5, 6, 7, 8, 9, 10, 11, 12, 13, 14, 15, 16, 17, 18, 19, 20, 21] 9 [] (by kernel_rfl) rfl (by kernel_rfl) (by kernel_rfl) (by kernel_rfl) (by kernel_rfl) (by kernel_rfl) (known_at _) ?_
  rintro e B' ⟨rfl, rfl⟩
  refine ⟨_, rfl, ?_⟩
  refine AOps.run (n := 64) [(2, .blk ( [.bool false, .slice (some ⟨1, 0, none⟩) 1 1, .slice (some ⟨5, 0, none⟩) 3 3]))] [1, 2, 3, 4, 5, 6, 7, 8, 9] [10, 11, 12, 13, 14, 15, 16, 17, 18, 19, 20, 21] (cs := [.blk (6) ( [.bool false, .slice (some ⟨1, 0, none⟩) 1 1, .slice (some ⟨5, 0, none⟩) 3 3])]) (by kernel_rfl) (by kernel_rfl) (by kernel_rfl) ?_ ?_
  · intro x hx
    simp only [List.mem_cons, List.not_mem_nil, or_false] at hx
    subst hx
    exact ⟨34, false, by kernel_rfl⟩
  refine AOps.call (n := 64) 10 [11, 12, 13, 14, 15, 16, 17, 18, 19, 20, 21] 8 [.agg #[.bool false, .slice (some ⟨1, 0, none⟩) 1 1, .slice (some ⟨5, 0, none⟩) 3 3], .slice (some ⟨18, 0, none⟩) 4 4611686018427387905, .int .i64 (IntKind.i64.wrap (((4 + 1 : Nat) : Int) + (n : Int))), .pointer none] (by kernel_rfl) rfl (by kernel_rfl) (by kernel_rfl) (by kernel_rfl) (by kernel_rfl) (by kernel_rfl) (lengths_none (n := 4) (wrap_past (by decide) hn)) ?_
  rintro e B' ⟨rfl, hx⟩
  refine ⟨_, rfl, ?_⟩
  refine AOps.run (n := 64) [(15, .blk ( [.bool false, .slice (some ⟨1, 0, none⟩) 1 1, .slice (some ⟨5, 0, none⟩) 3 3]))] [11, 12, 13, 14, 15, 16] [17, 18, 19, 20, 21] (cs := [.blk (6) ( [.bool false, .slice (some ⟨1, 0, none⟩) 1 1, .slice (some ⟨5, 0, none⟩) 3 3])]) (by kernel_rfl) (by kernel_rfl) (by kernel_rfl) ?_ ?_
  · intro x hx
    simp only [List.mem_cons, List.not_mem_nil, or_false] at hx
    subst hx
    exact ⟨34, false, hx.get (by kernel_rfl)⟩
  refine AOps.call (n := 64) 17 [18, 19, 20, 21] 8 [.agg #[.bool false, .slice (some ⟨1, 0, none⟩) 1 1, .slice (some ⟨5, 0, none⟩) 3 3], .slice (some ⟨18, 0, none⟩) 4 4611686018427387905, .int .i64 (-1), .pointer none] (by kernel_rfl) rfl (by kernel_rfl) (by kernel_rfl) (by kernel_rfl) (by kernel_rfl) (by kernel_rfl) (lengths_none (n := 4) (.inl (by decide))) ?_
  rintro e B2 ⟨rfl, hx2⟩
  refine ⟨_, rfl, ?_⟩
  refine AOps.run (n := 64) [] [18, 19, 20, 21] [] (cs := []) (by kernel_rfl) (by kernel_rfl) (by kernel_rfl) ?_ ?_
  · intro x hx; cases hx
  show AWp _ _ _ _ _
  refine AWp.view [(4, .bool true)] (by kernel_rfl) ?_
  exact AWp.ret' (by kernel_rfl) ⟨[.bool true], by kernel_rfl, rfl⟩
theorem most_spec {k n dc : Nat} {da : Option Addr} {ob : Option ABlk} (hn : n ≤ 9223372036854775807) : ACall Tryz.prog 4 [.slice da n dc, .int .u8 (k : Int)] (mkH [ob]) fun e _ => e = .ret (.bool true) := by
  rcases (by omega : k % 5 = 0 ∨ k % 5 = 1 ∨ k % 5 = 2 ∨ k % 5 = 3 ∨ k % 5 = 4) with h | h | h | h | h
  · exact most0 h hn
  · exact most1 h hn
  · exact most2 h hn
  · exact most3 h hn
  · exact most4 h hn
end Go.Proofs.YtfolofhknhgpiaaGreatDoor
