/-
  DERIVED. GIVEN WITH THE SEED: THE CARDS: each row of YtdfkegflnebckaaDoorRows.lean that lists a variable, with what it lists TIED to the program's text (the seventh form; the later family's looks); each row that meets fmt, with fmt's text TOLD by the authors' own Lean function (tested against real Go, not proved from fmt's source: count such statements apart). THE CARD IS WHAT COUNTS. Prove the row's statement (the work); the ties are given (YtdfkegflnebckaaDoorTie.lean); close each card by the builder's one call (the guide's Derived/Test/ToyasCard.lean, 'card_holds'). Laid BY PROGRAM, IN A SANDBOX (cutbox-door.mjs). By AI agents, Wed Nov 11 2026. No macro, syntax, notation, axiom, sorry.
-/
import Derived.Test.YtdfkegflnebckaaDoorRows
import GoSem.ClaimSeven
namespace Go.Proofs.YtdfkegflnebckaaDoor
namespace Rows

/-- THE TIED CARD OF 'umpirelaw18.ProgBack'. -/
def progBackCard : Claim7 := { stood := { row := progBackRow, standIns := [], harness := (true, "3588e7e534e4cfdb3fdf3c895baae29e543738b5223103108086cb5722e47cfb"), looks := true }, kinds := [], alts := [], laidByText := true, laidKinds := [.data, .data, .data, .data, .sentinel, .sentinel, .sentinel, .sentinel, .sentinel, .sentinel, .sentinel, .sentinel, .data, .pinned], laidTests := true, laidLooks := .later }
def ProgBackCardSaid : Prop := Claim7.holds Tryd.pinned (.plain (OpenSpec.ofChange progBackSpec)) progBackCard

/-- THE SECOND FORM's CARD OF 'umpirelaw18.ProgBack'. -/
def progBackUptoCard : Claim7 := { stood := { row := progBackUptoRow, standIns := [], harness := (true, "3588e7e534e4cfdb3fdf3c895baae29e543738b5223103108086cb5722e47cfb"), looks := true }, kinds := [], alts := [], laidByText := true, laidKinds := [.data, .data, .data, .data, .sentinel, .sentinel, .sentinel, .sentinel, .sentinel, .sentinel, .sentinel, .sentinel, .data, .pinned], laidTests := true, laidLooks := .later }
def ProgBackUptoCardSaid : Prop := Claim7.holds Tryd.pinned (.plain (OpenSpec.upto progBackSpec)) progBackUptoCard
end Rows
end Go.Proofs.YtdfkegflnebckaaDoor
