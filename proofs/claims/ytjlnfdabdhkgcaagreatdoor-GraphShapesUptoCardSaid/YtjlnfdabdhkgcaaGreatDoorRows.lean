/-
  NARROWER THAN 'FOR EVERY INPUT', by the rows' own cells (each row's printed sentence says how): GuardForms: laid · GuardConds: laid · GuardPures: laid · GraphAgain: laid · GraphRows: laid · MachineSplits: laid · MachineMore: laid · MachineFuel: laid · MachineSteps: laid · MachinePure: laid · MachineOn: laid · GraphShapes: laid.
  DERIVED. THE GIVEN ROWS OF THIS SEAT. 12 by the template 'for every input the law returns true; each argument reads behind the call as it read before'; 0 by the template 'total and deterministic' (their statements: YtjlnfdabdhkgcaaGreatDoorTotals.lean).
  GIVEN WITH THE SEED: the statements are not yours to turn. If you find one false, say at which input.
  Laid BY PROGRAM, IN A SANDBOX (cutbox-rows.mjs): the forced cells as the released guide's own fill.sh prints them over the translation cd7a04fa06622d4b… (all of the seat's roots in one cut). By AI agents, Wed Nov 11 2026. No macro, syntax, notation, axiom, sorry.
-/
import Derived.Test.YtjlnfdabdhkgcaaGreatDoorChecked
import GoSem.PinnedTables
import GoSem.Claim
import GoSem.ClaimJoined
import GoSem.ClaimMapViews
import Derived.JoinedTies
import Derived.KernelRfl
namespace Go.Proofs.YtjlnfdabdhkgcaaGreatDoor
/- THE CELL 'sum', in the pinned program and in every row, IS THE sha256 OF THE DUMP (.gsa) THAT YtjlnfdabdhkgcaaGreatDoorProg.lean LOADS. Nothing in Lean hashes anything: it is a label: what it is worth is what the hold of that sum in a sandbox is worth. -/
noncomputable def Tryz.pinned : Pinned := { name := "ytjlnfdabdhkgcaagreatdoor", sum := "cd7a04fa06622d4b8658f5d4c57f2a117a08ede06e6d251ae46149db8875050a", checked := Tryz.checked }
namespace Rows
def none {H : Type} : Left H := { results := [], args := [] }

/- WHAT THE LISTED PACKAGE-LEVEL VARIABLES READ AS WHEN THE CALL BEGINS. Each datum BY PROGRAM (the guide's laid-datum.mjs) off the statement by which the dump's own 'gosem.cut.vars' lays the variable. In a bare row this is a premise. The card (YtjlnfdabdhkgcaaGreatDoorCards.lean) ties it to the program's text. -/
def laid_unicode_utf8_acceptRanges {H : Type} : DataW H := .agg [.agg [.lit (.int .u8 128), .lit (.int .u8 191)], .agg [.lit (.int .u8 160), .lit (.int .u8 191)], .agg [.lit (.int .u8 128), .lit (.int .u8 159)], .agg [.lit (.int .u8 144), .lit (.int .u8 191)], .agg [.lit (.int .u8 128), .lit (.int .u8 143)], .agg [.lit (.int .u8 0), .lit (.int .u8 0)], .agg [.lit (.int .u8 0), .lit (.int .u8 0)], .agg [.lit (.int .u8 0), .lit (.int .u8 0)], .agg [.lit (.int .u8 0), .lit (.int .u8 0)], .agg [.lit (.int .u8 0), .lit (.int .u8 0)], .agg [.lit (.int .u8 0), .lit (.int .u8 0)], .agg [.lit (.int .u8 0), .lit (.int .u8 0)], .agg [.lit (.int .u8 0), .lit (.int .u8 0)], .agg [.lit (.int .u8 0), .lit (.int .u8 0)], .agg [.lit (.int .u8 0), .lit (.int .u8 0)], .agg [.lit (.int .u8 0), .lit (.int .u8 0)]]
/-- One of Go's own tables, pinned by name: the form's constant. -/
def laid_unicode_utf8_first : DataW Unit := Go.Pinned.utf8First

/-- 'rafterlaw09.GuardForms': WHATEVER THE INPUT: true; the input reads as it did. -/
def guardFormsSpec : ChangeSpec := { name := "guardForms", fn := fun _ => fun
  | [d1, d2] => { results := [.lit (.bool true)], args := [d1, d2] }
  | _ => none }
def guardFormsRow : OpenClaim := { program := "ytjlnfdabdhkgcaagreatdoor", sum := "cd7a04fa06622d4b8658f5d4c57f2a117a08ede06e6d251ae46149db8875050a", func := "rafter/rafterlaw09.GuardForms", spec := "guardForms", unfollowed := true, recurses := true, named := ["unicode/utf8.first", "unicode/utf8.acceptRanges"], apart := false, laid := [("unicode/utf8.acceptRanges", laid_unicode_utf8_acceptRanges), ("unicode/utf8.first", laid_unicode_utf8_first)] }
def GuardFormsSaid : Prop := guardFormsRow.holds Tryz.pinned (OpenSpec.ofChange guardFormsSpec)

/-- ITS FALSE NEIGHBOUR: 'it returns false'. Refute it at one input. -/
def guardFormsWrong : ChangeSpec := { name := "guardForms", fn := fun _ => fun
  | [d1, d2] => { results := [.lit (.bool false)], args := [d1, d2] }
  | _ => none }
def GuardFormsWrongFalsely : Prop := guardFormsRow.holds Tryz.pinned (OpenSpec.ofChange guardFormsWrong)

/-- 'rafterlaw09.GuardConds': WHATEVER THE INPUT: true; the input reads as it did. -/
def guardCondsSpec : ChangeSpec := { name := "guardConds", fn := fun _ => fun
  | [d1, d2] => { results := [.lit (.bool true)], args := [d1, d2] }
  | _ => none }
def guardCondsRow : OpenClaim := { program := "ytjlnfdabdhkgcaagreatdoor", sum := "cd7a04fa06622d4b8658f5d4c57f2a117a08ede06e6d251ae46149db8875050a", func := "rafter/rafterlaw09.GuardConds", spec := "guardConds", unfollowed := true, recurses := true, named := ["unicode/utf8.first", "unicode/utf8.acceptRanges"], apart := false, laid := [("unicode/utf8.acceptRanges", laid_unicode_utf8_acceptRanges), ("unicode/utf8.first", laid_unicode_utf8_first)] }
def GuardCondsSaid : Prop := guardCondsRow.holds Tryz.pinned (OpenSpec.ofChange guardCondsSpec)

/-- ITS FALSE NEIGHBOUR: 'it returns false'. Refute it at one input. -/
def guardCondsWrong : ChangeSpec := { name := "guardConds", fn := fun _ => fun
  | [d1, d2] => { results := [.lit (.bool false)], args := [d1, d2] }
  | _ => none }
def GuardCondsWrongFalsely : Prop := guardCondsRow.holds Tryz.pinned (OpenSpec.ofChange guardCondsWrong)

/-- 'rafterlaw09.GuardPures': WHATEVER THE INPUT: true; the input reads as it did. -/
def guardPuresSpec : ChangeSpec := { name := "guardPures", fn := fun _ => fun
  | [d] => { results := [.lit (.bool true)], args := [d] }
  | _ => none }
def guardPuresRow : OpenClaim := { program := "ytjlnfdabdhkgcaagreatdoor", sum := "cd7a04fa06622d4b8658f5d4c57f2a117a08ede06e6d251ae46149db8875050a", func := "rafter/rafterlaw09.GuardPures", spec := "guardPures", unfollowed := true, recurses := true, named := ["unicode/utf8.first", "unicode/utf8.acceptRanges"], apart := false, laid := [("unicode/utf8.acceptRanges", laid_unicode_utf8_acceptRanges), ("unicode/utf8.first", laid_unicode_utf8_first)] }
def GuardPuresSaid : Prop := guardPuresRow.holds Tryz.pinned (OpenSpec.ofChange guardPuresSpec)

/-- ITS FALSE NEIGHBOUR: 'it returns false'. Refute it at one input. -/
def guardPuresWrong : ChangeSpec := { name := "guardPures", fn := fun _ => fun
  | [d] => { results := [.lit (.bool false)], args := [d] }
  | _ => none }
def GuardPuresWrongFalsely : Prop := guardPuresRow.holds Tryz.pinned (OpenSpec.ofChange guardPuresWrong)

/-- 'rafterlaw10.GraphAgain': WHATEVER THE INPUT: true; the input reads as it did. -/
def graphAgainSpec : ChangeSpec := { name := "graphAgain", fn := fun _ => fun
  | [d] => { results := [.lit (.bool true)], args := [d] }
  | _ => none }
def graphAgainRow : OpenClaim := { program := "ytjlnfdabdhkgcaagreatdoor", sum := "cd7a04fa06622d4b8658f5d4c57f2a117a08ede06e6d251ae46149db8875050a", func := "rafter/rafterlaw10.GraphAgain", spec := "graphAgain", inPlace := ["internal/abi.NoEscape"], unfollowed := true, recurses := true, named := ["unicode/utf8.first", "unicode/utf8.acceptRanges"], apart := false, laid := [("unicode/utf8.acceptRanges", laid_unicode_utf8_acceptRanges), ("unicode/utf8.first", laid_unicode_utf8_first)] }
def GraphAgainSaid : Prop := graphAgainRow.holds Tryz.pinned (OpenSpec.ofChange graphAgainSpec)

/-- ITS FALSE NEIGHBOUR: 'it returns false'. Refute it at one input. -/
def graphAgainWrong : ChangeSpec := { name := "graphAgain", fn := fun _ => fun
  | [d] => { results := [.lit (.bool false)], args := [d] }
  | _ => none }
def GraphAgainWrongFalsely : Prop := graphAgainRow.holds Tryz.pinned (OpenSpec.ofChange graphAgainWrong)

/-- 'rafterlaw10.GraphRows': WHATEVER THE INPUT: true; the input reads as it did. -/
def graphRowsSpec : ChangeSpec := { name := "graphRows", fn := fun _ => fun
  | [d1, d2] => { results := [.lit (.bool true)], args := [d1, d2] }
  | _ => none }
def graphRowsRow : OpenClaim := { program := "ytjlnfdabdhkgcaagreatdoor", sum := "cd7a04fa06622d4b8658f5d4c57f2a117a08ede06e6d251ae46149db8875050a", func := "rafter/rafterlaw10.GraphRows", spec := "graphRows", inPlace := ["internal/abi.NoEscape"], unfollowed := true, recurses := true, named := ["unicode/utf8.first", "unicode/utf8.acceptRanges"], apart := false, laid := [("unicode/utf8.acceptRanges", laid_unicode_utf8_acceptRanges), ("unicode/utf8.first", laid_unicode_utf8_first)] }
def GraphRowsSaid : Prop := graphRowsRow.holds Tryz.pinned (OpenSpec.ofChange graphRowsSpec)

/-- ITS FALSE NEIGHBOUR: 'it returns false'. Refute it at one input. -/
def graphRowsWrong : ChangeSpec := { name := "graphRows", fn := fun _ => fun
  | [d1, d2] => { results := [.lit (.bool false)], args := [d1, d2] }
  | _ => none }
def GraphRowsWrongFalsely : Prop := graphRowsRow.holds Tryz.pinned (OpenSpec.ofChange graphRowsWrong)

/-- 'rafterlaw11.MachineSplits': WHATEVER THE INPUT: true; the input reads as it did. -/
def machineSplitsSpec : ChangeSpec := { name := "machineSplits", fn := fun _ => fun
  | [d1, d2, d3, d4] => { results := [.lit (.bool true)], args := [d1, d2, d3, d4] }
  | _ => none }
def machineSplitsRow : OpenClaim := { program := "ytjlnfdabdhkgcaagreatdoor", sum := "cd7a04fa06622d4b8658f5d4c57f2a117a08ede06e6d251ae46149db8875050a", func := "rafter/rafterlaw11.MachineSplits", spec := "machineSplits", unfollowed := true, recurses := true, named := ["unicode/utf8.first", "unicode/utf8.acceptRanges"], apart := false, laid := [("unicode/utf8.acceptRanges", laid_unicode_utf8_acceptRanges), ("unicode/utf8.first", laid_unicode_utf8_first)] }
def MachineSplitsSaid : Prop := machineSplitsRow.holds Tryz.pinned (OpenSpec.ofChange machineSplitsSpec)

/-- ITS FALSE NEIGHBOUR: 'it returns false'. Refute it at one input. -/
def machineSplitsWrong : ChangeSpec := { name := "machineSplits", fn := fun _ => fun
  | [d1, d2, d3, d4] => { results := [.lit (.bool false)], args := [d1, d2, d3, d4] }
  | _ => none }
def MachineSplitsWrongFalsely : Prop := machineSplitsRow.holds Tryz.pinned (OpenSpec.ofChange machineSplitsWrong)

/-- 'rafterlaw11.MachineMore': WHATEVER THE INPUT: true; the input reads as it did. -/
def machineMoreSpec : ChangeSpec := { name := "machineMore", fn := fun _ => fun
  | [d1, d2, d3, d4] => { results := [.lit (.bool true)], args := [d1, d2, d3, d4] }
  | _ => none }
def machineMoreRow : OpenClaim := { program := "ytjlnfdabdhkgcaagreatdoor", sum := "cd7a04fa06622d4b8658f5d4c57f2a117a08ede06e6d251ae46149db8875050a", func := "rafter/rafterlaw11.MachineMore", spec := "machineMore", unfollowed := true, recurses := true, named := ["unicode/utf8.first", "unicode/utf8.acceptRanges"], apart := false, laid := [("unicode/utf8.acceptRanges", laid_unicode_utf8_acceptRanges), ("unicode/utf8.first", laid_unicode_utf8_first)] }
def MachineMoreSaid : Prop := machineMoreRow.holds Tryz.pinned (OpenSpec.ofChange machineMoreSpec)

/-- ITS FALSE NEIGHBOUR: 'it returns false'. Refute it at one input. -/
def machineMoreWrong : ChangeSpec := { name := "machineMore", fn := fun _ => fun
  | [d1, d2, d3, d4] => { results := [.lit (.bool false)], args := [d1, d2, d3, d4] }
  | _ => none }
def MachineMoreWrongFalsely : Prop := machineMoreRow.holds Tryz.pinned (OpenSpec.ofChange machineMoreWrong)

/-- 'rafterlaw11.MachineFuel': WHATEVER THE INPUT: true; the input reads as it did. -/
def machineFuelSpec : ChangeSpec := { name := "machineFuel", fn := fun _ => fun
  | [d] => { results := [.lit (.bool true)], args := [d] }
  | _ => none }
def machineFuelRow : OpenClaim := { program := "ytjlnfdabdhkgcaagreatdoor", sum := "cd7a04fa06622d4b8658f5d4c57f2a117a08ede06e6d251ae46149db8875050a", func := "rafter/rafterlaw11.MachineFuel", spec := "machineFuel", unfollowed := true, recurses := true, named := ["unicode/utf8.first", "unicode/utf8.acceptRanges"], apart := false, laid := [("unicode/utf8.acceptRanges", laid_unicode_utf8_acceptRanges), ("unicode/utf8.first", laid_unicode_utf8_first)] }
def MachineFuelSaid : Prop := machineFuelRow.holds Tryz.pinned (OpenSpec.ofChange machineFuelSpec)

/-- ITS FALSE NEIGHBOUR: 'it returns false'. Refute it at one input. -/
def machineFuelWrong : ChangeSpec := { name := "machineFuel", fn := fun _ => fun
  | [d] => { results := [.lit (.bool false)], args := [d] }
  | _ => none }
def MachineFuelWrongFalsely : Prop := machineFuelRow.holds Tryz.pinned (OpenSpec.ofChange machineFuelWrong)

/-- 'rafterlaw11.MachineSteps': WHATEVER THE INPUT: true; the input reads as it did. -/
def machineStepsSpec : ChangeSpec := { name := "machineSteps", fn := fun _ => fun
  | [d1, d2] => { results := [.lit (.bool true)], args := [d1, d2] }
  | _ => none }
def machineStepsRow : OpenClaim := { program := "ytjlnfdabdhkgcaagreatdoor", sum := "cd7a04fa06622d4b8658f5d4c57f2a117a08ede06e6d251ae46149db8875050a", func := "rafter/rafterlaw11.MachineSteps", spec := "machineSteps", unfollowed := true, recurses := true, named := ["unicode/utf8.first", "unicode/utf8.acceptRanges"], apart := false, laid := [("unicode/utf8.acceptRanges", laid_unicode_utf8_acceptRanges), ("unicode/utf8.first", laid_unicode_utf8_first)] }
def MachineStepsSaid : Prop := machineStepsRow.holds Tryz.pinned (OpenSpec.ofChange machineStepsSpec)

/-- ITS FALSE NEIGHBOUR: 'it returns false'. Refute it at one input. -/
def machineStepsWrong : ChangeSpec := { name := "machineSteps", fn := fun _ => fun
  | [d1, d2] => { results := [.lit (.bool false)], args := [d1, d2] }
  | _ => none }
def MachineStepsWrongFalsely : Prop := machineStepsRow.holds Tryz.pinned (OpenSpec.ofChange machineStepsWrong)

/-- 'rafterlaw11.MachinePure': WHATEVER THE INPUT: true; the input reads as it did. -/
def machinePureSpec : ChangeSpec := { name := "machinePure", fn := fun _ => fun
  | [d1, d2, d3] => { results := [.lit (.bool true)], args := [d1, d2, d3] }
  | _ => none }
def machinePureRow : OpenClaim := { program := "ytjlnfdabdhkgcaagreatdoor", sum := "cd7a04fa06622d4b8658f5d4c57f2a117a08ede06e6d251ae46149db8875050a", func := "rafter/rafterlaw11.MachinePure", spec := "machinePure", unfollowed := true, recurses := true, named := ["unicode/utf8.first", "unicode/utf8.acceptRanges"], apart := false, laid := [("unicode/utf8.acceptRanges", laid_unicode_utf8_acceptRanges), ("unicode/utf8.first", laid_unicode_utf8_first)] }
def MachinePureSaid : Prop := machinePureRow.holds Tryz.pinned (OpenSpec.ofChange machinePureSpec)

/-- ITS FALSE NEIGHBOUR: 'it returns false'. Refute it at one input. -/
def machinePureWrong : ChangeSpec := { name := "machinePure", fn := fun _ => fun
  | [d1, d2, d3] => { results := [.lit (.bool false)], args := [d1, d2, d3] }
  | _ => none }
def MachinePureWrongFalsely : Prop := machinePureRow.holds Tryz.pinned (OpenSpec.ofChange machinePureWrong)

/-- 'rafterlaw11.MachineOn': WHATEVER THE INPUT: true; the input reads as it did. -/
def machineOnSpec : ChangeSpec := { name := "machineOn", fn := fun _ => fun
  | [d1, d2, d3, d4] => { results := [.lit (.bool true)], args := [d1, d2, d3, d4] }
  | _ => none }
def machineOnRow : OpenClaim := { program := "ytjlnfdabdhkgcaagreatdoor", sum := "cd7a04fa06622d4b8658f5d4c57f2a117a08ede06e6d251ae46149db8875050a", func := "rafter/rafterlaw11.MachineOn", spec := "machineOn", unfollowed := true, recurses := true, named := ["unicode/utf8.first", "unicode/utf8.acceptRanges"], apart := false, laid := [("unicode/utf8.acceptRanges", laid_unicode_utf8_acceptRanges), ("unicode/utf8.first", laid_unicode_utf8_first)] }
def MachineOnSaid : Prop := machineOnRow.holds Tryz.pinned (OpenSpec.ofChange machineOnSpec)

/-- ITS FALSE NEIGHBOUR: 'it returns false'. Refute it at one input. -/
def machineOnWrong : ChangeSpec := { name := "machineOn", fn := fun _ => fun
  | [d1, d2, d3, d4] => { results := [.lit (.bool false)], args := [d1, d2, d3, d4] }
  | _ => none }
def MachineOnWrongFalsely : Prop := machineOnRow.holds Tryz.pinned (OpenSpec.ofChange machineOnWrong)

/-- 'rafterlaw10.GraphShapes': WHATEVER THE INPUT: true; the input reads as it did. -/
def graphShapesSpec : ChangeSpec := { name := "graphShapes", fn := fun _ => fun
  | [d] => { results := [.lit (.bool true)], args := [d] }
  | _ => none }
def graphShapesRow : OpenClaim := { program := "ytjlnfdabdhkgcaagreatdoor", sum := "cd7a04fa06622d4b8658f5d4c57f2a117a08ede06e6d251ae46149db8875050a", func := "rafter/rafterlaw10.GraphShapes", spec := "graphShapes", inPlace := ["internal/abi.NoEscape"], unfollowed := true, recurses := true, named := ["unicode/utf8.first", "unicode/utf8.acceptRanges"], apart := false, laid := [("unicode/utf8.acceptRanges", laid_unicode_utf8_acceptRanges), ("unicode/utf8.first", laid_unicode_utf8_first)] }
def GraphShapesSaid : Prop := graphShapesRow.holds Tryz.pinned (OpenSpec.ofChange graphShapesSpec)

/-- ITS FALSE NEIGHBOUR: 'it returns false'. Refute it at one input. -/
def graphShapesWrong : ChangeSpec := { name := "graphShapes", fn := fun _ => fun
  | [d] => { results := [.lit (.bool false)], args := [d] }
  | _ => none }
def GraphShapesWrongFalsely : Prop := graphShapesRow.holds Tryz.pinned (OpenSpec.ofChange graphShapesWrong)

/- THE SECOND FORM. 'bulk': how many values and letters a reading holds, each counted each time it is reached (what is shared counts as often as it is met; a slice's spare places count too). A statement '..UptoSaid' is the law's where the arguments, and the package variables that the reading takes, are together of bulk at most 1048576: NARROWER than '..Said'. Prove '..Said' where nothing that the law and all that it calls make is longer than what came in: it says more and counts as full. Else prove '..UptoSaid'. A law counts once. -/
mutual
def uptoBulk {H : Type} : DataW H → Nat
  | .lit (.string bytes) => bytes.length + 1
  | .lit _ => 1
  | .nil => 1
  | .ptr d => uptoBulk d + 1
  | .slice elems spare => uptoBulkAll elems + uptoBulkAll spare + 1
  | .agg parts => uptoBulkAll parts + 1
  | .iface _ d => uptoBulk d + 1
  | .map entries => uptoBulkEntries entries + 1
  | .held _ => 1
def uptoBulkAll {H : Type} : List (DataW H) → Nat
  | [] => 0
  | d :: r => uptoBulk d + uptoBulkAll r
def uptoBulkEntries {H : Type} : List (Lit × DataW H) → Nat
  | [] => 0
  | x :: r => uptoBulkEntry x + uptoBulkEntries r
def uptoBulkEntry {H : Type} : Lit × DataW H → Nat
  | (.string bytes, d) => bytes.length + uptoBulk d + 1
  | (_, d) => uptoBulk d + 1
 end
def uptoSmall : (H : Type) → List (DataW H) → Bool := fun _ ds => decide (uptoBulkAll ds ≤ 1048576)
def OpenSpec.upto (s : _root_.Go.ChangeSpec) : _root_.Go.OpenSpec := { _root_.Go.OpenSpec.ofChange s with cond := some uptoSmall }

/-- 'rafterlaw09.GuardForms', WHERE WHAT IT READS IS OF BULK AT MOST 1048576: true; the input reads as it did. -/
def guardFormsUptoRow : OpenClaim := { program := "ytjlnfdabdhkgcaagreatdoor", sum := "cd7a04fa06622d4b8658f5d4c57f2a117a08ede06e6d251ae46149db8875050a", func := "rafter/rafterlaw09.GuardForms", spec := "guardForms", unfollowed := true, recurses := true, named := ["unicode/utf8.first", "unicode/utf8.acceptRanges"], apart := false, laid := [("unicode/utf8.acceptRanges", laid_unicode_utf8_acceptRanges), ("unicode/utf8.first", laid_unicode_utf8_first)], narrowed := true }
def GuardFormsUptoSaid : Prop := guardFormsUptoRow.holds Tryz.pinned (OpenSpec.upto guardFormsSpec)

/-- 'rafterlaw09.GuardConds', WHERE WHAT IT READS IS OF BULK AT MOST 1048576: true; the input reads as it did. -/
def guardCondsUptoRow : OpenClaim := { program := "ytjlnfdabdhkgcaagreatdoor", sum := "cd7a04fa06622d4b8658f5d4c57f2a117a08ede06e6d251ae46149db8875050a", func := "rafter/rafterlaw09.GuardConds", spec := "guardConds", unfollowed := true, recurses := true, named := ["unicode/utf8.first", "unicode/utf8.acceptRanges"], apart := false, laid := [("unicode/utf8.acceptRanges", laid_unicode_utf8_acceptRanges), ("unicode/utf8.first", laid_unicode_utf8_first)], narrowed := true }
def GuardCondsUptoSaid : Prop := guardCondsUptoRow.holds Tryz.pinned (OpenSpec.upto guardCondsSpec)

/-- 'rafterlaw09.GuardPures', WHERE WHAT IT READS IS OF BULK AT MOST 1048576: true; the input reads as it did. -/
def guardPuresUptoRow : OpenClaim := { program := "ytjlnfdabdhkgcaagreatdoor", sum := "cd7a04fa06622d4b8658f5d4c57f2a117a08ede06e6d251ae46149db8875050a", func := "rafter/rafterlaw09.GuardPures", spec := "guardPures", unfollowed := true, recurses := true, named := ["unicode/utf8.first", "unicode/utf8.acceptRanges"], apart := false, laid := [("unicode/utf8.acceptRanges", laid_unicode_utf8_acceptRanges), ("unicode/utf8.first", laid_unicode_utf8_first)], narrowed := true }
def GuardPuresUptoSaid : Prop := guardPuresUptoRow.holds Tryz.pinned (OpenSpec.upto guardPuresSpec)

/-- 'rafterlaw10.GraphAgain', WHERE WHAT IT READS IS OF BULK AT MOST 1048576: true; the input reads as it did. -/
def graphAgainUptoRow : OpenClaim := { program := "ytjlnfdabdhkgcaagreatdoor", sum := "cd7a04fa06622d4b8658f5d4c57f2a117a08ede06e6d251ae46149db8875050a", func := "rafter/rafterlaw10.GraphAgain", spec := "graphAgain", inPlace := ["internal/abi.NoEscape"], unfollowed := true, recurses := true, named := ["unicode/utf8.first", "unicode/utf8.acceptRanges"], apart := false, laid := [("unicode/utf8.acceptRanges", laid_unicode_utf8_acceptRanges), ("unicode/utf8.first", laid_unicode_utf8_first)], narrowed := true }
def GraphAgainUptoSaid : Prop := graphAgainUptoRow.holds Tryz.pinned (OpenSpec.upto graphAgainSpec)

/-- 'rafterlaw10.GraphRows', WHERE WHAT IT READS IS OF BULK AT MOST 1048576: true; the input reads as it did. -/
def graphRowsUptoRow : OpenClaim := { program := "ytjlnfdabdhkgcaagreatdoor", sum := "cd7a04fa06622d4b8658f5d4c57f2a117a08ede06e6d251ae46149db8875050a", func := "rafter/rafterlaw10.GraphRows", spec := "graphRows", inPlace := ["internal/abi.NoEscape"], unfollowed := true, recurses := true, named := ["unicode/utf8.first", "unicode/utf8.acceptRanges"], apart := false, laid := [("unicode/utf8.acceptRanges", laid_unicode_utf8_acceptRanges), ("unicode/utf8.first", laid_unicode_utf8_first)], narrowed := true }
def GraphRowsUptoSaid : Prop := graphRowsUptoRow.holds Tryz.pinned (OpenSpec.upto graphRowsSpec)

/-- 'rafterlaw11.MachineSplits', WHERE WHAT IT READS IS OF BULK AT MOST 1048576: true; the input reads as it did. -/
def machineSplitsUptoRow : OpenClaim := { program := "ytjlnfdabdhkgcaagreatdoor", sum := "cd7a04fa06622d4b8658f5d4c57f2a117a08ede06e6d251ae46149db8875050a", func := "rafter/rafterlaw11.MachineSplits", spec := "machineSplits", unfollowed := true, recurses := true, named := ["unicode/utf8.first", "unicode/utf8.acceptRanges"], apart := false, laid := [("unicode/utf8.acceptRanges", laid_unicode_utf8_acceptRanges), ("unicode/utf8.first", laid_unicode_utf8_first)], narrowed := true }
def MachineSplitsUptoSaid : Prop := machineSplitsUptoRow.holds Tryz.pinned (OpenSpec.upto machineSplitsSpec)

/-- 'rafterlaw11.MachineMore', WHERE WHAT IT READS IS OF BULK AT MOST 1048576: true; the input reads as it did. -/
def machineMoreUptoRow : OpenClaim := { program := "ytjlnfdabdhkgcaagreatdoor", sum := "cd7a04fa06622d4b8658f5d4c57f2a117a08ede06e6d251ae46149db8875050a", func := "rafter/rafterlaw11.MachineMore", spec := "machineMore", unfollowed := true, recurses := true, named := ["unicode/utf8.first", "unicode/utf8.acceptRanges"], apart := false, laid := [("unicode/utf8.acceptRanges", laid_unicode_utf8_acceptRanges), ("unicode/utf8.first", laid_unicode_utf8_first)], narrowed := true }
def MachineMoreUptoSaid : Prop := machineMoreUptoRow.holds Tryz.pinned (OpenSpec.upto machineMoreSpec)

/-- 'rafterlaw11.MachineFuel', WHERE WHAT IT READS IS OF BULK AT MOST 1048576: true; the input reads as it did. -/
def machineFuelUptoRow : OpenClaim := { program := "ytjlnfdabdhkgcaagreatdoor", sum := "cd7a04fa06622d4b8658f5d4c57f2a117a08ede06e6d251ae46149db8875050a", func := "rafter/rafterlaw11.MachineFuel", spec := "machineFuel", unfollowed := true, recurses := true, named := ["unicode/utf8.first", "unicode/utf8.acceptRanges"], apart := false, laid := [("unicode/utf8.acceptRanges", laid_unicode_utf8_acceptRanges), ("unicode/utf8.first", laid_unicode_utf8_first)], narrowed := true }
def MachineFuelUptoSaid : Prop := machineFuelUptoRow.holds Tryz.pinned (OpenSpec.upto machineFuelSpec)

/-- 'rafterlaw11.MachineSteps', WHERE WHAT IT READS IS OF BULK AT MOST 1048576: true; the input reads as it did. -/
def machineStepsUptoRow : OpenClaim := { program := "ytjlnfdabdhkgcaagreatdoor", sum := "cd7a04fa06622d4b8658f5d4c57f2a117a08ede06e6d251ae46149db8875050a", func := "rafter/rafterlaw11.MachineSteps", spec := "machineSteps", unfollowed := true, recurses := true, named := ["unicode/utf8.first", "unicode/utf8.acceptRanges"], apart := false, laid := [("unicode/utf8.acceptRanges", laid_unicode_utf8_acceptRanges), ("unicode/utf8.first", laid_unicode_utf8_first)], narrowed := true }
def MachineStepsUptoSaid : Prop := machineStepsUptoRow.holds Tryz.pinned (OpenSpec.upto machineStepsSpec)

/-- 'rafterlaw11.MachinePure', WHERE WHAT IT READS IS OF BULK AT MOST 1048576: true; the input reads as it did. -/
def machinePureUptoRow : OpenClaim := { program := "ytjlnfdabdhkgcaagreatdoor", sum := "cd7a04fa06622d4b8658f5d4c57f2a117a08ede06e6d251ae46149db8875050a", func := "rafter/rafterlaw11.MachinePure", spec := "machinePure", unfollowed := true, recurses := true, named := ["unicode/utf8.first", "unicode/utf8.acceptRanges"], apart := false, laid := [("unicode/utf8.acceptRanges", laid_unicode_utf8_acceptRanges), ("unicode/utf8.first", laid_unicode_utf8_first)], narrowed := true }
def MachinePureUptoSaid : Prop := machinePureUptoRow.holds Tryz.pinned (OpenSpec.upto machinePureSpec)

/-- 'rafterlaw11.MachineOn', WHERE WHAT IT READS IS OF BULK AT MOST 1048576: true; the input reads as it did. -/
def machineOnUptoRow : OpenClaim := { program := "ytjlnfdabdhkgcaagreatdoor", sum := "cd7a04fa06622d4b8658f5d4c57f2a117a08ede06e6d251ae46149db8875050a", func := "rafter/rafterlaw11.MachineOn", spec := "machineOn", unfollowed := true, recurses := true, named := ["unicode/utf8.first", "unicode/utf8.acceptRanges"], apart := false, laid := [("unicode/utf8.acceptRanges", laid_unicode_utf8_acceptRanges), ("unicode/utf8.first", laid_unicode_utf8_first)], narrowed := true }
def MachineOnUptoSaid : Prop := machineOnUptoRow.holds Tryz.pinned (OpenSpec.upto machineOnSpec)

/-- 'rafterlaw10.GraphShapes', WHERE WHAT IT READS IS OF BULK AT MOST 1048576: true; the input reads as it did. -/
def graphShapesUptoRow : OpenClaim := { program := "ytjlnfdabdhkgcaagreatdoor", sum := "cd7a04fa06622d4b8658f5d4c57f2a117a08ede06e6d251ae46149db8875050a", func := "rafter/rafterlaw10.GraphShapes", spec := "graphShapes", inPlace := ["internal/abi.NoEscape"], unfollowed := true, recurses := true, named := ["unicode/utf8.first", "unicode/utf8.acceptRanges"], apart := false, laid := [("unicode/utf8.acceptRanges", laid_unicode_utf8_acceptRanges), ("unicode/utf8.first", laid_unicode_utf8_first)], narrowed := true }
def GraphShapesUptoSaid : Prop := graphShapesUptoRow.holds Tryz.pinned (OpenSpec.upto graphShapesSpec)

end Rows
end Go.Proofs.YtjlnfdabdhkgcaaGreatDoor
