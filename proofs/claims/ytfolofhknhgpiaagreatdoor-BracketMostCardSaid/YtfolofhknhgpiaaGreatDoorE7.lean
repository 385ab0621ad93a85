/- The table's lookups are made: ask's closure, with its first statement (whose order is open) in one order. -/
import Derived.Test.YtfolofhknhgpiaaGreatDoorA22
import Derived.Test.YtfolofhknhgpiaaGreatDoorE6
set_option linter.unusedVariables false
set_option linter.unusedSimpArgs false
set_option maxRecDepth 100000
namespace Go.Proofs.YtfolofhknhgpiaaGreatDoor
open Go

def flatE (es : List MapEntry) : Bool := es.all fun e => scalar e.key && scalar e.val
def addrOk (a : Addr) : Bool := Nat.beq a.off 0 && a.spot.isNone
def newRw (H : AHeap) : Bool := (List.range H.next).all fun i => Nat.beq i 0 || (match H.get i with
  | some (.cells _ _ true) => false
  | _ => true)
/-- The map that pairs makes of a slice. -/
def pairsOf (P : Program) (H : AHeap) (v : Value) : Option (List MapEntry × Nat) := match v with
  | .slice (some a) n c => match H.get a.block with
    | some (.cells us e ro) => match dcall P tab tfns noBase 1000 3 97 [.slice (some ⟨0, 0, none⟩) n c] (mkH [some (.cells us e ro)]) with
      | some (.ret (.map (some m)), Hs) => match Hs.get m with
        | some (.map es ck) => if addrOk a && Nat.ble 1 m && Nat.ble 1 Hs.next && flatE es && newRw Hs && us.all scalar && beqO beqB (Hs.get 0) (some (.cells us e ro)) then some (es, ck) else none
        | _ => none
      | _ => none
    | _ => none
  | _ => none
def maps6 (N : Nat) : List Value := [.map (some N), .map (some (N + 1)), .map (some (N + 2)), .map (some (N + 3)), .map (some (N + 4)), .map (some (N + 5))]
def heap6 (H : AHeap) (t : Nat) (tc : List Value) (et : TypeId) (u l : List MapEntry × Nat) : AHeap :=
  ((((((H.push (.map [] 0)).push (.map u.1 u.2)).push (.map l.1 l.2)).push (.map [] 0)).push (.map [] 0)).push (.map [] 0)).set t (.cells (putCells tc 8 (maps6 H.next)) et false)
mutual
def boundV (n : Nat) : Value → Bool
  | .pointer (some a) => Nat.blt a.block n
  | .slice (some a) _ _ => Nat.blt a.block n
  | .map (some m) => Nat.blt m n
  | .func _ ⟨x⟩ ⟨y⟩ => boundL n x && boundL n y
  | .iface _ v => boundV n v
  | .agg ⟨x⟩ => boundL n x
  | .tuple ⟨x⟩ => boundL n x
  | _ => true
def boundL (n : Nat) : List Value → Bool
  | [] => true
  | v :: l => boundV n v && boundL n l
end
def boundB (n : Nat) : ABlk → Bool
  | .cells vs _ _ => boundL n vs
  | .map es _ => es.all fun e => boundV n e.val
  | .iter _ _ => true
/-- No block names one that is not there. -/
def boundH (H : AHeap) : Bool := (List.range H.next).all fun i => match H.get i with
  | some b => boundB H.next b
  | none => true
def fn96 (P : Program) : Func := match P.funcs[96]? with
  | some fn => fn
  | none => default
def base96 (P : Program) (call : Caller) (fuel : Nat) : Caller := fun g args H => if g = 96 then
  match args with
  | [.pointer (some c)] => match H.get c.block with
    | some (.cells [.pointer (some t)] _ _) => match H.get t.block with
      | some (.cells tc et false) => match tc[1]?, tc[2]? with
        | some u, some l => match pairsOf P H u, pairsOf P H l with
          | some pu, some pl => if addrOk c && addrOk t && Nat.beq tc.length 14 && H.rs.isEmpty && !(Nat.beq c.block t.block) && boundH H then
              match endsA P (fn96 P) (dcode P (tab 96) call 95 fuel (snd (bodyOf P 96)) (mkE [(0, .pointer (some c))]) (heap6 H t.block tc et pu pl)) with
              | some H2 => some (.ret (.tuple #[]), H2)
              | none => none
            else none
          | _, _ => none
        | _, _ => none
      | _ => none
    | _ => none
  | _ => none
  else none
def either (a b : Caller) : Caller := fun g args H => match a g args H with
  | some r => some r
  | none => b g args H
end Go.Proofs.YtfolofhknhgpiaaGreatDoor
