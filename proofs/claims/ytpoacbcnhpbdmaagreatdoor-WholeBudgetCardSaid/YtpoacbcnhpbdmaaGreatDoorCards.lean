/-
  DERIVED. GIVEN WITH THE SEED: THE CARDS: each row of YtpoacbcnhpbdmaaGreatDoorRows.lean that lists a variable, with what it lists TIED to the program's text (the seventh form; the later family's looks); each row that meets fmt, with fmt's text TOLD by the authors' own Lean function (tested against real Go, not proved from fmt's source: count such statements apart). THE CARD IS WHAT COUNTS. Prove the row's statement (the work); the ties are given (YtpoacbcnhpbdmaaGreatDoorTie.lean); close each card by the builder's one call (the guide's Derived/Test/ToyasCard.lean, 'card_holds'). Laid BY PROGRAM, IN A SANDBOX (cutbox-door.mjs). By AI agents, Wed Nov 11 2026. No macro, syntax, notation, axiom, sorry.
-/
import Derived.Test.YtpoacbcnhpbdmaaGreatDoorRows
import GoSem.ClaimSeven
namespace Go.Proofs.YtpoacbcnhpbdmaaGreatDoor
namespace Rows

/-- THE TIED CARD OF 'umpiretop.WholeBudget'. -/
def wholeBudgetCard : Claim7 := { stood := { row := wholeBudgetRow, standIns := [], harness := (true, "023dbf289a7c3d150589387c05fe71a0be17ff140f78b21d20b6dfe7d05c73b0"), looks := true }, kinds := [], alts := [], laidByText := true, laidKinds := [.sentinel, .sentinel, .sentinel, .sentinel, .sentinel, .sentinel, .data, .data, .data, .data, .data, .data, .sentinel, .sentinel, .sentinel, .sentinel, .sentinel, .sentinel, .sentinel, .sentinel, .sentinel, .data, .data, .data, .sentinel, .sentinel, .sentinel, .sentinel, .sentinel, .pinned, .data, .sentinel, .sentinel, .sentinel, .sentinel, .sentinel, .sentinel, .data], laidTests := true, laidLooks := .later }
def WholeBudgetCardSaid : Prop := Claim7.holds Tryz.pinned (.plain (OpenSpec.ofChange wholeBudgetSpec)) wholeBudgetCard

/-- THE SECOND FORM's CARD OF 'umpiretop.WholeBudget'. -/
def wholeBudgetUptoCard : Claim7 := { stood := { row := wholeBudgetUptoRow, standIns := [], harness := (true, "023dbf289a7c3d150589387c05fe71a0be17ff140f78b21d20b6dfe7d05c73b0"), looks := true }, kinds := [], alts := [], laidByText := true, laidKinds := [.sentinel, .sentinel, .sentinel, .sentinel, .sentinel, .sentinel, .data, .data, .data, .data, .data, .data, .sentinel, .sentinel, .sentinel, .sentinel, .sentinel, .sentinel, .sentinel, .sentinel, .sentinel, .data, .data, .data, .sentinel, .sentinel, .sentinel, .sentinel, .sentinel, .pinned, .data, .sentinel, .sentinel, .sentinel, .sentinel, .sentinel, .sentinel, .data], laidTests := true, laidLooks := .later }
def WholeBudgetUptoCardSaid : Prop := Claim7.holds Tryz.pinned (.plain (OpenSpec.upto wholeBudgetSpec)) wholeBudgetUptoCard
end Rows
end Go.Proofs.YtpoacbcnhpbdmaaGreatDoor
