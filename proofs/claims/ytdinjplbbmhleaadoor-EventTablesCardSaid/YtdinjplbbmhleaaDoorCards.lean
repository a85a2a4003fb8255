/-
  DERIVED. GIVEN WITH THE SEED: THE CARDS: each row of YtdinjplbbmhleaaDoorRows.lean that lists a variable, with what it lists TIED to the program's text (the seventh form; the later family's looks); each row that meets fmt, with fmt's text TOLD by the authors' own Lean function (tested against real Go, not proved from fmt's source: count such statements apart). THE CARD IS WHAT COUNTS. Prove the row's statement (the work); the ties are given (YtdinjplbbmhleaaDoorTie.lean); close each card by the builder's one call (the guide's Derived/Test/ToyasCard.lean, 'card_holds'). Laid BY PROGRAM, IN A SANDBOX (cutbox-door.mjs). By AI agents, Wed Nov 11 2026. No macro, syntax, notation, axiom, sorry.
-/
import Derived.Test.YtdinjplbbmhleaaDoorRows
import GoSem.ClaimSeven
namespace Go.Proofs.YtdinjplbbmhleaaDoor
namespace Rows

/-- THE TIED CARD OF 'umpirelaw1.WordWords'. -/
def wordWordsCard : Claim7 := { stood := { row := wordWordsRow, standIns := [], harness := (true, "eb3526b15ccb0a531c2cdc7fd1e3f5381bb68974b53b19f88f1838e789fcbf36"), looks := true }, kinds := [], alts := [], laidByText := true, laidKinds := [.data, .data, .data, .data, .sentinel, .sentinel, .sentinel, .sentinel, .sentinel, .pinned], laidTests := true, laidLooks := .later }
def WordWordsCardSaid : Prop := Claim7.holds Tryd.pinned (.plain (OpenSpec.ofChange wordWordsSpec)) wordWordsCard

/-- THE TIED CARD OF 'umpirelaw1.WordBack'. -/
def wordBackCard : Claim7 := { stood := { row := wordBackRow, standIns := [], harness := (true, "eb3526b15ccb0a531c2cdc7fd1e3f5381bb68974b53b19f88f1838e789fcbf36"), looks := true }, kinds := [], alts := [], laidByText := true, laidKinds := [.data, .data, .data, .data, .sentinel, .sentinel, .sentinel, .sentinel, .sentinel, .pinned], laidTests := true, laidLooks := .later }
def WordBackCardSaid : Prop := Claim7.holds Tryd.pinned (.plain (OpenSpec.ofChange wordBackSpec)) wordBackCard

/-- THE TIED CARD OF 'umpirelaw1.WordOne'. -/
def wordOneCard : Claim7 := { stood := { row := wordOneRow, standIns := [], harness := (true, "eb3526b15ccb0a531c2cdc7fd1e3f5381bb68974b53b19f88f1838e789fcbf36"), looks := true }, kinds := [], alts := [], laidByText := true, laidKinds := [.data, .data, .data, .data, .sentinel, .sentinel, .sentinel, .sentinel, .sentinel, .pinned], laidTests := true, laidLooks := .later }
def WordOneCardSaid : Prop := Claim7.holds Tryd.pinned (.plain (OpenSpec.ofChange wordOneSpec)) wordOneCard

/-- THE TIED CARD OF 'umpirelaw1.WordOwn'. -/
def wordOwnCard : Claim7 := { stood := { row := wordOwnRow, standIns := [], harness := (true, "eb3526b15ccb0a531c2cdc7fd1e3f5381bb68974b53b19f88f1838e789fcbf36"), looks := true }, kinds := [], alts := [], laidByText := true, laidKinds := [.data, .data, .data, .data, .sentinel, .sentinel, .sentinel, .sentinel, .sentinel, .pinned], laidTests := true, laidLooks := .later }
def WordOwnCardSaid : Prop := Claim7.holds Tryd.pinned (.plain (OpenSpec.ofChange wordOwnSpec)) wordOwnCard

/-- THE TIED CARD OF 'umpirelaw2.EventWords'. -/
def eventWordsCard : Claim7 := { stood := { row := eventWordsRow, standIns := [], harness := (true, "eb3526b15ccb0a531c2cdc7fd1e3f5381bb68974b53b19f88f1838e789fcbf36"), looks := true }, kinds := [], alts := [], laidByText := true, laidKinds := [.data, .data, .data, .sentinel, .sentinel, .sentinel, .sentinel, .sentinel, .sentinel, .sentinel, .sentinel, .data, .data, .data, .data, .data, .data], laidTests := true, laidLooks := .later }
def EventWordsCardSaid : Prop := Claim7.holds Tryd.pinned (.plain (OpenSpec.ofChange eventWordsSpec)) eventWordsCard

/-- THE TIED CARD OF 'umpirelaw2.EventTables'. -/
def eventTablesCard : Claim7 := { stood := { row := eventTablesRow, standIns := [], harness := (true, "eb3526b15ccb0a531c2cdc7fd1e3f5381bb68974b53b19f88f1838e789fcbf36"), looks := true }, kinds := [], alts := [], laidByText := true, laidKinds := [.data, .data, .data, .sentinel, .sentinel, .sentinel, .sentinel, .sentinel, .sentinel, .sentinel, .sentinel, .data, .data, .data, .data, .data, .data], laidTests := true, laidLooks := .later }
def EventTablesCardSaid : Prop := Claim7.holds Tryd.pinned (.plain (OpenSpec.ofChange eventTablesSpec)) eventTablesCard

/-- THE TIED CARD OF 'umpirelaw1.WordLines'. -/
def wordLinesCard : Claim7 := { stood := { row := wordLinesRow, standIns := [], harness := (true, "eb3526b15ccb0a531c2cdc7fd1e3f5381bb68974b53b19f88f1838e789fcbf36"), looks := true }, kinds := [], alts := [], laidByText := true, laidKinds := [.data, .data, .data, .data, .sentinel, .sentinel, .sentinel, .sentinel, .sentinel, .pinned], laidTests := true, laidLooks := .later }
def WordLinesCardSaid : Prop := Claim7.holds Tryd.pinned (.plain (OpenSpec.ofChange wordLinesSpec)) wordLinesCard

/-- THE TIED CARD OF 'umpirelaw1.WordJoins'. -/
def wordJoinsCard : Claim7 := { stood := { row := wordJoinsRow, standIns := [], harness := (true, "eb3526b15ccb0a531c2cdc7fd1e3f5381bb68974b53b19f88f1838e789fcbf36"), looks := true }, kinds := [], alts := [], laidByText := true, laidKinds := [.data, .data, .data, .data, .sentinel, .sentinel, .sentinel, .sentinel, .sentinel, .pinned], laidTests := true, laidLooks := .later }
def WordJoinsCardSaid : Prop := Claim7.holds Tryd.pinned (.plain (OpenSpec.ofChange wordJoinsSpec)) wordJoinsCard

/-- THE TIED CARD OF 'umpirelaw2.EventOne'. -/
def eventOneCard : Claim7 := { stood := { row := eventOneRow, standIns := [], harness := (true, "eb3526b15ccb0a531c2cdc7fd1e3f5381bb68974b53b19f88f1838e789fcbf36"), looks := true }, kinds := [], alts := [], laidByText := true, laidKinds := [.data, .data, .data, .sentinel, .sentinel, .sentinel, .sentinel, .sentinel, .sentinel, .sentinel, .sentinel, .sentinel, .sentinel, .data, .data, .data, .data, .data, .data], laidTests := true, laidLooks := .later }
def EventOneCardSaid : Prop := Claim7.holds Tryd.pinned (.plain (OpenSpec.ofChange eventOneSpec)) eventOneCard

/-- THE TIED CARD OF 'umpirelaw18.ProgBack'. -/
def progBackCard : Claim7 := { stood := { row := progBackRow, standIns := [], harness := (true, "eb3526b15ccb0a531c2cdc7fd1e3f5381bb68974b53b19f88f1838e789fcbf36"), looks := true }, kinds := [], alts := [], laidByText := true, laidKinds := [.data, .data, .data, .data, .sentinel, .sentinel, .sentinel, .sentinel, .sentinel, .sentinel, .sentinel, .sentinel, .data, .pinned], laidTests := true, laidLooks := .later }
def ProgBackCardSaid : Prop := Claim7.holds Tryd.pinned (.plain (OpenSpec.ofChange progBackSpec)) progBackCard

/-- THE SECOND FORM's CARD OF 'umpirelaw1.WordWords'. -/
def wordWordsUptoCard : Claim7 := { stood := { row := wordWordsUptoRow, standIns := [], harness := (true, "eb3526b15ccb0a531c2cdc7fd1e3f5381bb68974b53b19f88f1838e789fcbf36"), looks := true }, kinds := [], alts := [], laidByText := true, laidKinds := [.data, .data, .data, .data, .sentinel, .sentinel, .sentinel, .sentinel, .sentinel, .pinned], laidTests := true, laidLooks := .later }
def WordWordsUptoCardSaid : Prop := Claim7.holds Tryd.pinned (.plain (OpenSpec.upto wordWordsSpec)) wordWordsUptoCard

/-- THE SECOND FORM's CARD OF 'umpirelaw1.WordBack'. -/
def wordBackUptoCard : Claim7 := { stood := { row := wordBackUptoRow, standIns := [], harness := (true, "eb3526b15ccb0a531c2cdc7fd1e3f5381bb68974b53b19f88f1838e789fcbf36"), looks := true }, kinds := [], alts := [], laidByText := true, laidKinds := [.data, .data, .data, .data, .sentinel, .sentinel, .sentinel, .sentinel, .sentinel, .pinned], laidTests := true, laidLooks := .later }
def WordBackUptoCardSaid : Prop := Claim7.holds Tryd.pinned (.plain (OpenSpec.upto wordBackSpec)) wordBackUptoCard

/-- THE SECOND FORM's CARD OF 'umpirelaw1.WordOne'. -/
def wordOneUptoCard : Claim7 := { stood := { row := wordOneUptoRow, standIns := [], harness := (true, "eb3526b15ccb0a531c2cdc7fd1e3f5381bb68974b53b19f88f1838e789fcbf36"), looks := true }, kinds := [], alts := [], laidByText := true, laidKinds := [.data, .data, .data, .data, .sentinel, .sentinel, .sentinel, .sentinel, .sentinel, .pinned], laidTests := true, laidLooks := .later }
def WordOneUptoCardSaid : Prop := Claim7.holds Tryd.pinned (.plain (OpenSpec.upto wordOneSpec)) wordOneUptoCard

/-- THE SECOND FORM's CARD OF 'umpirelaw1.WordOwn'. -/
def wordOwnUptoCard : Claim7 := { stood := { row := wordOwnUptoRow, standIns := [], harness := (true, "eb3526b15ccb0a531c2cdc7fd1e3f5381bb68974b53b19f88f1838e789fcbf36"), looks := true }, kinds := [], alts := [], laidByText := true, laidKinds := [.data, .data, .data, .data, .sentinel, .sentinel, .sentinel, .sentinel, .sentinel, .pinned], laidTests := true, laidLooks := .later }
def WordOwnUptoCardSaid : Prop := Claim7.holds Tryd.pinned (.plain (OpenSpec.upto wordOwnSpec)) wordOwnUptoCard

/-- THE SECOND FORM's CARD OF 'umpirelaw2.EventWords'. -/
def eventWordsUptoCard : Claim7 := { stood := { row := eventWordsUptoRow, standIns := [], harness := (true, "eb3526b15ccb0a531c2cdc7fd1e3f5381bb68974b53b19f88f1838e789fcbf36"), looks := true }, kinds := [], alts := [], laidByText := true, laidKinds := [.data, .data, .data, .sentinel, .sentinel, .sentinel, .sentinel, .sentinel, .sentinel, .sentinel, .sentinel, .data, .data, .data, .data, .data, .data], laidTests := true, laidLooks := .later }
def EventWordsUptoCardSaid : Prop := Claim7.holds Tryd.pinned (.plain (OpenSpec.upto eventWordsSpec)) eventWordsUptoCard

/-- THE SECOND FORM's CARD OF 'umpirelaw2.EventTables'. -/
def eventTablesUptoCard : Claim7 := { stood := { row := eventTablesUptoRow, standIns := [], harness := (true, "eb3526b15ccb0a531c2cdc7fd1e3f5381bb68974b53b19f88f1838e789fcbf36"), looks := true }, kinds := [], alts := [], laidByText := true, laidKinds := [.data, .data, .data, .sentinel, .sentinel, .sentinel, .sentinel, .sentinel, .sentinel, .sentinel, .sentinel, .data, .data, .data, .data, .data, .data], laidTests := true, laidLooks := .later }
def EventTablesUptoCardSaid : Prop := Claim7.holds Tryd.pinned (.plain (OpenSpec.upto eventTablesSpec)) eventTablesUptoCard

/-- THE SECOND FORM's CARD OF 'umpirelaw1.WordLines'. -/
def wordLinesUptoCard : Claim7 := { stood := { row := wordLinesUptoRow, standIns := [], harness := (true, "eb3526b15ccb0a531c2cdc7fd1e3f5381bb68974b53b19f88f1838e789fcbf36"), looks := true }, kinds := [], alts := [], laidByText := true, laidKinds := [.data, .data, .data, .data, .sentinel, .sentinel, .sentinel, .sentinel, .sentinel, .pinned], laidTests := true, laidLooks := .later }
def WordLinesUptoCardSaid : Prop := Claim7.holds Tryd.pinned (.plain (OpenSpec.upto wordLinesSpec)) wordLinesUptoCard

/-- THE SECOND FORM's CARD OF 'umpirelaw1.WordJoins'. -/
def wordJoinsUptoCard : Claim7 := { stood := { row := wordJoinsUptoRow, standIns := [], harness := (true, "eb3526b15ccb0a531c2cdc7fd1e3f5381bb68974b53b19f88f1838e789fcbf36"), looks := true }, kinds := [], alts := [], laidByText := true, laidKinds := [.data, .data, .data, .data, .sentinel, .sentinel, .sentinel, .sentinel, .sentinel, .pinned], laidTests := true, laidLooks := .later }
def WordJoinsUptoCardSaid : Prop := Claim7.holds Tryd.pinned (.plain (OpenSpec.upto wordJoinsSpec)) wordJoinsUptoCard

/-- THE SECOND FORM's CARD OF 'umpirelaw2.EventOne'. -/
def eventOneUptoCard : Claim7 := { stood := { row := eventOneUptoRow, standIns := [], harness := (true, "eb3526b15ccb0a531c2cdc7fd1e3f5381bb68974b53b19f88f1838e789fcbf36"), looks := true }, kinds := [], alts := [], laidByText := true, laidKinds := [.data, .data, .data, .sentinel, .sentinel, .sentinel, .sentinel, .sentinel, .sentinel, .sentinel, .sentinel, .sentinel, .sentinel, .data, .data, .data, .data, .data, .data], laidTests := true, laidLooks := .later }
def EventOneUptoCardSaid : Prop := Claim7.holds Tryd.pinned (.plain (OpenSpec.upto eventOneSpec)) eventOneUptoCard

/-- THE SECOND FORM's CARD OF 'umpirelaw18.ProgBack'. -/
def progBackUptoCard : Claim7 := { stood := { row := progBackUptoRow, standIns := [], harness := (true, "eb3526b15ccb0a531c2cdc7fd1e3f5381bb68974b53b19f88f1838e789fcbf36"), looks := true }, kinds := [], alts := [], laidByText := true, laidKinds := [.data, .data, .data, .data, .sentinel, .sentinel, .sentinel, .sentinel, .sentinel, .sentinel, .sentinel, .sentinel, .data, .pinned], laidTests := true, laidLooks := .later }
def ProgBackUptoCardSaid : Prop := Claim7.holds Tryd.pinned (.plain (OpenSpec.upto progBackSpec)) progBackUptoCard
end Rows
end Go.Proofs.YtdinjplbbmhleaaDoor
