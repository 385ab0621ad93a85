/- What is walked serves the kernel's reckoning: locale.ordered over any heap that holds an order of single cells. -/
import Derived.Test.YtfolofhknhgpiaaGreatDoorE4
import Derived.Test.YtfolofhknhgpiaaGreatDoorE5
set_option linter.unusedVariables false
set_option linter.unusedSimpArgs false
set_option maxRecDepth 100000
namespace Go.Proofs.YtfolofhknhgpiaaGreatDoor
open Go

def elemB (H : AHeap) (vs : List Value) (j : Nat) : Bool := match (vs.drop (0 + j * 3)).take 3 with
  | [.string s, .slice (some a) 1 cx, .int .i64 m] => s.data.toList.isEmpty && Nat.beq a.off 0 && a.spot.isNone && decide (m = (j : Int)) && (match H.get a.block with
    | some (.cells [.int .i32 x] _ _) => decide (x = (j : Int))
    | _ => false)
  | _ => false
def orderB (H : AHeap) (OB n : Nat) : Bool := match H.get OB with
  | some (.cells vs e _) => Nat.beq e 73 && Nat.ble (n * 3) vs.length && (List.range n).all fun j => elemB H vs j
  | _ => false
theorem orderB_ok {H : AHeap} {OB n : Nat} (h : orderB H OB n = true) : OrderAt H OB n := by
  unfold orderB at h
  split at h
  · rename_i vs e ro hH
    simp only [Bool.and_eq_true] at h
    obtain ⟨⟨h1, h2⟩, h3⟩ := h
    have h1 := Nat.eq_of_beq_eq_true h1
    subst h1
    have h2 := Nat.le_of_ble_eq_true h2
    refine ⟨vs, ro, hH, fun j hj => ?_⟩
    have h4 := List.all_eq_true.1 h3 j (List.mem_range.2 hj)
    unfold elemB at h4
    split at h4
    · rename_i s a cx m hl
      simp only [Bool.and_eq_true, decide_eq_true_eq] at h4
      obtain ⟨⟨⟨⟨q1, q2⟩, q3⟩, q4⟩, q5⟩ := h4
      split at q5
      · rename_i x e2 r2 hX
        obtain ⟨b, o, sp⟩ := a
        have p2 : o = 0 := Nat.eq_of_beq_eq_true q2
        have p3 : sp = none := Option.isNone_iff_eq_none.1 q3
        subst p2 p3 q4
        have q5 := of_decide_eq_true q5
        subst q5
        have q1 : s = ⟨#[]⟩ := bytes_ext (by simpa using q1)
        subst q1
        refine ⟨b, cx, e2, r2, ?_, hX⟩
        unfold apart'
        simp only [if_true]
        rw [if_pos (by omega), hl]
      · cases q5
    · cases h4
  · cases h

def baseO : Caller := fun g args H => if g = 53 then match args with
  | [.slice (some a) n c] => if Nat.beq a.off 0 && a.spot.isNone && Nat.ble n 128 && orderB H a.block n then some (.ret (.bool true), H) else none
  | _ => none
  else none
theorem baseO_ok : CallOk Tryz.prog baseO := by
  intro g args H v H' h
  unfold baseO at h
  split at h
  · rename_i hg
    subst hg
    split at h
    · rename_i a n c
      split at h
      · rename_i hb
        simp only [Bool.and_eq_true] at hb
        obtain ⟨⟨⟨q1, q2⟩, q3⟩, q4⟩ := hb
        obtain ⟨b, o, sp⟩ := a
        have p1 : o = 0 := Nat.eq_of_beq_eq_true q1
        have p2 : sp = none := Option.isNone_iff_eq_none.1 q2
        subst p1 p2
        cases h
        refine ((ordered_spec (orderB_ok q4) (Nat.le_of_ble_eq_true q3)).shrink (fun φ c r ψ => by cases r; exact .bool _)).mono ?_
        rintro e B' ⟨rfl, rfl⟩
        exact ⟨rfl, rfl⟩
      · cases h
    · cases h
  · cases h
end Go.Proofs.YtfolofhknhgpiaaGreatDoor
