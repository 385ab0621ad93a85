/-
  DERIVED. GIVEN WITH THE SEED: THE CARDS: each row of YtfolofhknhgpiaaGreatDoorRows.lean that lists a variable, with what it lists TIED to the program's text (the seventh form; the later family's looks); each row that meets fmt, with fmt's text TOLD by the authors' own Lean function (tested against real Go, not proved from fmt's source: count such statements apart). THE CARD IS WHAT COUNTS. Prove the row's statement (the work); the ties are given (YtfolofhknhgpiaaGreatDoorTie.lean); close each card by the builder's one call (the guide's Derived/Test/ToyasCard.lean, 'card_holds'). Laid BY PROGRAM, IN A SANDBOX (cutbox-door.mjs). By AI agents, Wed Nov 11 2026. No macro, syntax, notation, axiom, sorry.
-/
import Derived.Test.YtfolofhknhgpiaaGreatDoorRows
import GoSem.ClaimSeven
namespace Go.Proofs.YtfolofhknhgpiaaGreatDoor
namespace Rows

/-- THE TIED CARD OF 'redactorlaw10.BracketRow'. -/
def bracketRowCard : Claim7 := { stood := { row := bracketRowRow, standIns := [], harness := (true, "d224721200ed3961537527f1a13df429e4016e0230b13c4e1be9b84f17568628"), looks := true }, kinds := [], alts := [], laidByText := true, laidKinds := [.data, .data, .data, .data, .pinned], laidTests := true, laidLooks := .later }
def BracketRowCardSaid : Prop := Claim7.holds Tryz.pinned (.plain (OpenSpec.ofChange bracketRowSpec)) bracketRowCard

/-- THE TIED CARD OF 'redactorlaw10.BracketMost'. -/
def bracketMostCard : Claim7 := { stood := { row := bracketMostRow, standIns := [], harness := (true, "d224721200ed3961537527f1a13df429e4016e0230b13c4e1be9b84f17568628"), looks := true }, kinds := [], alts := [], laidByText := true, laidKinds := [.data, .data, .data, .data, .pinned], laidTests := true, laidLooks := .later }
def BracketMostCardSaid : Prop := Claim7.holds Tryz.pinned (.plain (OpenSpec.ofChange bracketMostSpec)) bracketMostCard

/-- THE TIED CARD OF 'redactorlaw10.BracketEach'. -/
def bracketEachCard : Claim7 := { stood := { row := bracketEachRow, standIns := [], harness := (true, "d224721200ed3961537527f1a13df429e4016e0230b13c4e1be9b84f17568628"), looks := true }, kinds := [], alts := [], laidByText := true, laidKinds := [.data, .data, .data, .data, .pinned], laidTests := true, laidLooks := .later }
def BracketEachCardSaid : Prop := Claim7.holds Tryz.pinned (.plain (OpenSpec.ofChange bracketEachSpec)) bracketEachCard

/-- THE SECOND FORM's CARD OF 'redactorlaw10.BracketRow'. -/
def bracketRowUptoCard : Claim7 := { stood := { row := bracketRowUptoRow, standIns := [], harness := (true, "d224721200ed3961537527f1a13df429e4016e0230b13c4e1be9b84f17568628"), looks := true }, kinds := [], alts := [], laidByText := true, laidKinds := [.data, .data, .data, .data, .pinned], laidTests := true, laidLooks := .later }
def BracketRowUptoCardSaid : Prop := Claim7.holds Tryz.pinned (.plain (OpenSpec.upto bracketRowSpec)) bracketRowUptoCard

/-- THE SECOND FORM's CARD OF 'redactorlaw10.BracketMost'. -/
def bracketMostUptoCard : Claim7 := { stood := { row := bracketMostUptoRow, standIns := [], harness := (true, "d224721200ed3961537527f1a13df429e4016e0230b13c4e1be9b84f17568628"), looks := true }, kinds := [], alts := [], laidByText := true, laidKinds := [.data, .data, .data, .data, .pinned], laidTests := true, laidLooks := .later }
def BracketMostUptoCardSaid : Prop := Claim7.holds Tryz.pinned (.plain (OpenSpec.upto bracketMostSpec)) bracketMostUptoCard

/-- THE SECOND FORM's CARD OF 'redactorlaw10.BracketEach'. -/
def bracketEachUptoCard : Claim7 := { stood := { row := bracketEachUptoRow, standIns := [], harness := (true, "d224721200ed3961537527f1a13df429e4016e0230b13c4e1be9b84f17568628"), looks := true }, kinds := [], alts := [], laidByText := true, laidKinds := [.data, .data, .data, .data, .pinned], laidTests := true, laidLooks := .later }
def BracketEachUptoCardSaid : Prop := Claim7.holds Tryz.pinned (.plain (OpenSpec.upto bracketEachSpec)) bracketEachUptoCard
end Rows
end Go.Proofs.YtfolofhknhgpiaaGreatDoor
