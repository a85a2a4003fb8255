/-
  DERIVED. GIVEN WITH THE SEED: THE CARDS: each row of YtgfmlaflochffaaGreatDoorRows.lean that lists a variable, with what it lists TIED to the program's text (the seventh form; the later family's looks); each row that meets fmt, with fmt's text TOLD by the authors' own Lean function (tested against real Go, not proved from fmt's source: count such statements apart). THE CARD IS WHAT COUNTS. Prove the row's statement (the work); the ties are given (YtgfmlaflochffaaGreatDoorTie.lean); close each card by the builder's one call (the guide's Derived/Test/ToyasCard.lean, 'card_holds'). Laid BY PROGRAM, IN A SANDBOX (cutbox-door.mjs). By AI agents, Wed Nov 11 2026. No macro, syntax, notation, axiom, sorry.
-/
import Derived.Test.YtgfmlaflochffaaGreatDoorRows
import GoSem.ClaimSeven
namespace Go.Proofs.YtgfmlaflochffaaGreatDoor
namespace Rows

/-- THE TIED CARD OF 'umpirelaw18.ProgFormed'. -/
def progFormedCard : Claim7 := { stood := { row := progFormedRow, standIns := [], harness := (true, "37cdc8e46d91dd5e05dea16452392983885916bc2747601e7a54933d3828f176"), looks := false }, kinds := [], alts := [], laidByText := true, laidKinds := [.data, .data, .data, .sentinel, .sentinel, .sentinel, .sentinel, .sentinel, .sentinel, .sentinel, .sentinel, .sentinel, .sentinel, .sentinel, .data, .data, .data, .data, .data, .data, .data], laidTests := true, laidLooks := .later }
def ProgFormedCardSaid : Prop := Claim7.holds Tryz.pinned (.plain (OpenSpec.ofChange progFormedSpec)) progFormedCard

/-- THE SECOND FORM's CARD OF 'umpirelaw18.ProgFormed'. -/
def progFormedUptoCard : Claim7 := { stood := { row := progFormedUptoRow, standIns := [], harness := (true, "37cdc8e46d91dd5e05dea16452392983885916bc2747601e7a54933d3828f176"), looks := false }, kinds := [], alts := [], laidByText := true, laidKinds := [.data, .data, .data, .sentinel, .sentinel, .sentinel, .sentinel, .sentinel, .sentinel, .sentinel, .sentinel, .sentinel, .sentinel, .sentinel, .data, .data, .data, .data, .data, .data, .data], laidTests := true, laidLooks := .later }
def ProgFormedUptoCardSaid : Prop := Claim7.holds Tryz.pinned (.plain (OpenSpec.upto progFormedSpec)) progFormedUptoCard
end Rows
end Go.Proofs.YtgfmlaflochffaaGreatDoor
