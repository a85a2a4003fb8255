/-
  NARROWER THAN 'FOR EVERY INPUT', by the rows' own cells (each row's printed sentence says how): MemoQueues: laid · MemoLogs: laid · MemoSets: laid · MemoEach: laid · MemoStays: laid.
  DERIVED. THE GIVEN ROWS OF THIS SEAT. 5 by the template 'for every input the law returns true; each argument reads behind the call as it read before'; 0 by the template 'total and deterministic' (their statements: YthdapdmpbbabcaaDoorTotals.lean).
  GIVEN WITH THE SEED: the statements are not yours to turn. If you find one false, say at which input.
  Laid BY PROGRAM, IN A SANDBOX (cutbox-rows.mjs): the forced cells as the released guide's own fill.sh prints them over the translation 8245a13de83a1800… (all of the seat's roots in one cut). By AI agents, Wed Nov 11 2026. No macro, syntax, notation, axiom, sorry.
-/
import Derived.Test.YthdapdmpbbabcaaDoorChecked
import GoSem.Claim
import GoSem.ClaimJoined
import GoSem.ClaimMapViews
import Derived.JoinedTies
import Derived.KernelRfl
namespace Go.Proofs.YthdapdmpbbabcaaDoor
/- THE CELL 'sum', in the pinned program and in every row, IS THE sha256 OF THE DUMP (.gsa) THAT YthdapdmpbbabcaaDoorProg.lean LOADS. Nothing in Lean hashes anything: it is a label: what it is worth is what the hold of that sum in a sandbox is worth. -/
noncomputable def Tryd.pinned : Pinned := { name := "ythdapdmpbbabcaadoor", sum := "8245a13de83a180062026348dfea260422e597451dc245f53aaf816800298603", checked := Tryd.checked }
namespace Rows
def none {H : Type} : Left H := { results := [], args := [] }

/- WHAT THE LISTED PACKAGE-LEVEL VARIABLES READ AS WHEN THE CALL BEGINS. Each datum BY PROGRAM (the guide's laid-datum.mjs) off the statement by which the dump's own 'gosem.cut.vars' lays the variable. In a bare row this is a premise. The card (YthdapdmpbbabcaaDoorCards.lean) ties it to the program's text. -/
def laid_umpire_api_ErrBudget {H : Type} : DataW H := .iface "*errors.errorString" (.ptr (.agg [.lit (.string [116, 104, 101, 32, 115, 101, 97, 114, 99, 104, 32, 104, 97, 115, 32, 115, 101, 101, 110, 32, 116, 111, 111, 32, 109, 117, 99, 104])]))

/-- 'umpirelaw11.MemoQueues': WHATEVER THE INPUT: true; the input reads as it did. -/
def memoQueuesSpec : ChangeSpec := { name := "memoQueues", fn := fun _ => fun
  | [d] => { results := [.lit (.bool true)], args := [d] }
  | _ => none }
def memoQueuesRow : OpenClaim := { program := "ythdapdmpbbabcaadoor", sum := "8245a13de83a180062026348dfea260422e597451dc245f53aaf816800298603", func := "umpire/umpirelaw11.MemoQueues", spec := "memoQueues", unfollowed := true, recurses := true, named := ["umpire/api.ErrBudget"], apart := false, laid := [("umpire/api.ErrBudget", laid_umpire_api_ErrBudget)] }
def MemoQueuesSaid : Prop := memoQueuesRow.holds Tryd.pinned (OpenSpec.ofChange memoQueuesSpec)

/-- ITS FALSE NEIGHBOUR: 'it returns false'. Refute it at one input. -/
def memoQueuesWrong : ChangeSpec := { name := "memoQueues", fn := fun _ => fun
  | [d] => { results := [.lit (.bool false)], args := [d] }
  | _ => none }
def MemoQueuesWrongFalsely : Prop := memoQueuesRow.holds Tryd.pinned (OpenSpec.ofChange memoQueuesWrong)

/-- 'umpirelaw11.MemoLogs': WHATEVER THE INPUT: true; the input reads as it did. -/
def memoLogsSpec : ChangeSpec := { name := "memoLogs", fn := fun _ => fun
  | [d] => { results := [.lit (.bool true)], args := [d] }
  | _ => none }
def memoLogsRow : OpenClaim := { program := "ythdapdmpbbabcaadoor", sum := "8245a13de83a180062026348dfea260422e597451dc245f53aaf816800298603", func := "umpire/umpirelaw11.MemoLogs", spec := "memoLogs", unfollowed := true, recurses := true, named := ["umpire/api.ErrBudget"], apart := false, laid := [("umpire/api.ErrBudget", laid_umpire_api_ErrBudget)] }
def MemoLogsSaid : Prop := memoLogsRow.holds Tryd.pinned (OpenSpec.ofChange memoLogsSpec)

/-- ITS FALSE NEIGHBOUR: 'it returns false'. Refute it at one input. -/
def memoLogsWrong : ChangeSpec := { name := "memoLogs", fn := fun _ => fun
  | [d] => { results := [.lit (.bool false)], args := [d] }
  | _ => none }
def MemoLogsWrongFalsely : Prop := memoLogsRow.holds Tryd.pinned (OpenSpec.ofChange memoLogsWrong)

/-- 'umpirelaw11.MemoSets': WHATEVER THE INPUT: true; the input reads as it did. -/
def memoSetsSpec : ChangeSpec := { name := "memoSets", fn := fun _ => fun
  | [d1, d2, d3] => { results := [.lit (.bool true)], args := [d1, d2, d3] }
  | _ => none }
def memoSetsRow : OpenClaim := { program := "ythdapdmpbbabcaadoor", sum := "8245a13de83a180062026348dfea260422e597451dc245f53aaf816800298603", func := "umpire/umpirelaw11.MemoSets", spec := "memoSets", unfollowed := true, recurses := true, named := ["umpire/api.ErrBudget"], apart := false, laid := [("umpire/api.ErrBudget", laid_umpire_api_ErrBudget)] }
def MemoSetsSaid : Prop := memoSetsRow.holds Tryd.pinned (OpenSpec.ofChange memoSetsSpec)

/-- ITS FALSE NEIGHBOUR: 'it returns false'. Refute it at one input. -/
def memoSetsWrong : ChangeSpec := { name := "memoSets", fn := fun _ => fun
  | [d1, d2, d3] => { results := [.lit (.bool false)], args := [d1, d2, d3] }
  | _ => none }
def MemoSetsWrongFalsely : Prop := memoSetsRow.holds Tryd.pinned (OpenSpec.ofChange memoSetsWrong)

/-- 'umpirelaw11.MemoEach': WHATEVER THE INPUT: true; the input reads as it did. -/
def memoEachSpec : ChangeSpec := { name := "memoEach", fn := fun _ => fun
  | [d1, d2, d3, d4] => { results := [.lit (.bool true)], args := [d1, d2, d3, d4] }
  | _ => none }
def memoEachRow : OpenClaim := { program := "ythdapdmpbbabcaadoor", sum := "8245a13de83a180062026348dfea260422e597451dc245f53aaf816800298603", func := "umpire/umpirelaw11.MemoEach", spec := "memoEach", unfollowed := true, recurses := true, named := ["umpire/api.ErrBudget"], apart := false, laid := [("umpire/api.ErrBudget", laid_umpire_api_ErrBudget)] }
def MemoEachSaid : Prop := memoEachRow.holds Tryd.pinned (OpenSpec.ofChange memoEachSpec)

/-- ITS FALSE NEIGHBOUR: 'it returns false'. Refute it at one input. -/
def memoEachWrong : ChangeSpec := { name := "memoEach", fn := fun _ => fun
  | [d1, d2, d3, d4] => { results := [.lit (.bool false)], args := [d1, d2, d3, d4] }
  | _ => none }
def MemoEachWrongFalsely : Prop := memoEachRow.holds Tryd.pinned (OpenSpec.ofChange memoEachWrong)

/-- 'umpirelaw11.MemoStays': WHATEVER THE INPUT: true; the input reads as it did. -/
def memoStaysSpec : ChangeSpec := { name := "memoStays", fn := fun _ => fun
  | [d1, d2] => { results := [.lit (.bool true)], args := [d1, d2] }
  | _ => none }
def memoStaysRow : OpenClaim := { program := "ythdapdmpbbabcaadoor", sum := "8245a13de83a180062026348dfea260422e597451dc245f53aaf816800298603", func := "umpire/umpirelaw11.MemoStays", spec := "memoStays", unfollowed := true, recurses := true, named := ["umpire/api.ErrBudget"], apart := false, laid := [("umpire/api.ErrBudget", laid_umpire_api_ErrBudget)] }
def MemoStaysSaid : Prop := memoStaysRow.holds Tryd.pinned (OpenSpec.ofChange memoStaysSpec)

/-- ITS FALSE NEIGHBOUR: 'it returns false'. Refute it at one input. -/
def memoStaysWrong : ChangeSpec := { name := "memoStays", fn := fun _ => fun
  | [d1, d2] => { results := [.lit (.bool false)], args := [d1, d2] }
  | _ => none }
def MemoStaysWrongFalsely : Prop := memoStaysRow.holds Tryd.pinned (OpenSpec.ofChange memoStaysWrong)

/- THE SECOND FORM. 'bulk': how many values and letters a reading holds, each counted each time it is reached (what is shared counts as often as it is met; a slice's spare places count too). A statement '..UptoSaid' is the law's where the arguments, and the package variables that the reading takes, are together of bulk at most 1048576: NARROWER than '..Said'. Prove '..Said' where nothing that the law and all that it calls make is longer than what came in: it says more and counts as full. Else prove '..UptoSaid'. A law counts once. -/
mutual
def uptoBulk {H : Type} : DataW H → Nat
  | .lit (.string bytes) => bytes.length + 1
  | .lit _ => 1
  | .nil => 1
  | .ptr d => uptoBulk d + 1
  | .slice elems spare => uptoBulkAll elems + uptoBulkAll spare + 1
  | .agg parts => uptoBulkAll parts + 1
  | .iface _ d => uptoBulk d + 1
  | .map entries => uptoBulkEntries entries + 1
  | .held _ => 1
def uptoBulkAll {H : Type} : List (DataW H) → Nat
  | [] => 0
  | d :: r => uptoBulk d + uptoBulkAll r
def uptoBulkEntries {H : Type} : List (Lit × DataW H) → Nat
  | [] => 0
  | x :: r => uptoBulkEntry x + uptoBulkEntries r
def uptoBulkEntry {H : Type} : Lit × DataW H → Nat
  | (.string bytes, d) => bytes.length + uptoBulk d + 1
  | (_, d) => uptoBulk d + 1
 end
def uptoSmall : (H : Type) → List (DataW H) → Bool := fun _ ds => decide (uptoBulkAll ds ≤ 1048576)
def OpenSpec.upto (s : _root_.Go.ChangeSpec) : _root_.Go.OpenSpec := { _root_.Go.OpenSpec.ofChange s with cond := some uptoSmall }

/-- 'umpirelaw11.MemoQueues', WHERE WHAT IT READS IS OF BULK AT MOST 1048576: true; the input reads as it did. -/
def memoQueuesUptoRow : OpenClaim := { program := "ythdapdmpbbabcaadoor", sum := "8245a13de83a180062026348dfea260422e597451dc245f53aaf816800298603", func := "umpire/umpirelaw11.MemoQueues", spec := "memoQueues", unfollowed := true, recurses := true, named := ["umpire/api.ErrBudget"], apart := false, laid := [("umpire/api.ErrBudget", laid_umpire_api_ErrBudget)], narrowed := true }
def MemoQueuesUptoSaid : Prop := memoQueuesUptoRow.holds Tryd.pinned (OpenSpec.upto memoQueuesSpec)

/-- 'umpirelaw11.MemoLogs', WHERE WHAT IT READS IS OF BULK AT MOST 1048576: true; the input reads as it did. -/
def memoLogsUptoRow : OpenClaim := { program := "ythdapdmpbbabcaadoor", sum := "8245a13de83a180062026348dfea260422e597451dc245f53aaf816800298603", func := "umpire/umpirelaw11.MemoLogs", spec := "memoLogs", unfollowed := true, recurses := true, named := ["umpire/api.ErrBudget"], apart := false, laid := [("umpire/api.ErrBudget", laid_umpire_api_ErrBudget)], narrowed := true }
def MemoLogsUptoSaid : Prop := memoLogsUptoRow.holds Tryd.pinned (OpenSpec.upto memoLogsSpec)

/-- 'umpirelaw11.MemoSets', WHERE WHAT IT READS IS OF BULK AT MOST 1048576: true; the input reads as it did. -/
def memoSetsUptoRow : OpenClaim := { program := "ythdapdmpbbabcaadoor", sum := "8245a13de83a180062026348dfea260422e597451dc245f53aaf816800298603", func := "umpire/umpirelaw11.MemoSets", spec := "memoSets", unfollowed := true, recurses := true, named := ["umpire/api.ErrBudget"], apart := false, laid := [("umpire/api.ErrBudget", laid_umpire_api_ErrBudget)], narrowed := true }
def MemoSetsUptoSaid : Prop := memoSetsUptoRow.holds Tryd.pinned (OpenSpec.upto memoSetsSpec)

/-- 'umpirelaw11.MemoEach', WHERE WHAT IT READS IS OF BULK AT MOST 1048576: true; the input reads as it did. -/
def memoEachUptoRow : OpenClaim := { program := "ythdapdmpbbabcaadoor", sum := "8245a13de83a180062026348dfea260422e597451dc245f53aaf816800298603", func := "umpire/umpirelaw11.MemoEach", spec := "memoEach", unfollowed := true, recurses := true, named := ["umpire/api.ErrBudget"], apart := false, laid := [("umpire/api.ErrBudget", laid_umpire_api_ErrBudget)], narrowed := true }
def MemoEachUptoSaid : Prop := memoEachUptoRow.holds Tryd.pinned (OpenSpec.upto memoEachSpec)

/-- 'umpirelaw11.MemoStays', WHERE WHAT IT READS IS OF BULK AT MOST 1048576: true; the input reads as it did. -/
def memoStaysUptoRow : OpenClaim := { program := "ythdapdmpbbabcaadoor", sum := "8245a13de83a180062026348dfea260422e597451dc245f53aaf816800298603", func := "umpire/umpirelaw11.MemoStays", spec := "memoStays", unfollowed := true, recurses := true, named := ["umpire/api.ErrBudget"], apart := false, laid := [("umpire/api.ErrBudget", laid_umpire_api_ErrBudget)], narrowed := true }
def MemoStaysUptoSaid : Prop := memoStaysUptoRow.holds Tryd.pinned (OpenSpec.upto memoStaysSpec)

end Rows
end Go.Proofs.YthdapdmpbbabcaaDoor
