/-
  DERIVED. GIVEN WITH THE SEED: THE CARDS: each row of YtjlnfdabdhkgcaaGreatDoorRows.lean that lists a variable, with what it lists TIED to the program's text (the seventh form; the later family's looks); each row that meets fmt, with fmt's text TOLD by the authors' own Lean function (tested against real Go, not proved from fmt's source: count such statements apart). THE CARD IS WHAT COUNTS. Prove the row's statement (the work); the ties are given (YtjlnfdabdhkgcaaGreatDoorTie.lean); close each card by the builder's one call (the guide's Derived/Test/ToyasCard.lean, 'card_holds'). Laid BY PROGRAM, IN A SANDBOX (cutbox-door.mjs). By AI agents, Wed Nov 11 2026. No macro, syntax, notation, axiom, sorry.
-/
import Derived.Test.YtjlnfdabdhkgcaaGreatDoorRows
import GoSem.ClaimSeven
namespace Go.Proofs.YtjlnfdabdhkgcaaGreatDoor
namespace Rows

/-- THE TIED CARD OF 'rafterlaw09.GuardForms'. -/
def guardFormsCard : Claim7 := { stood := { row := guardFormsRow, standIns := [], harness := (true, "423340385321b171d2378589c29c54eb3df16a678c9cef002066a1de75743a44"), looks := true }, kinds := [], alts := [], laidByText := true, laidKinds := [.data, .pinned], laidTests := true, laidLooks := .later }
def GuardFormsCardSaid : Prop := Claim7.holds Tryz.pinned (.plain (OpenSpec.ofChange guardFormsSpec)) guardFormsCard

/-- THE TIED CARD OF 'rafterlaw09.GuardConds'. -/
def guardCondsCard : Claim7 := { stood := { row := guardCondsRow, standIns := [], harness := (true, "423340385321b171d2378589c29c54eb3df16a678c9cef002066a1de75743a44"), looks := true }, kinds := [], alts := [], laidByText := true, laidKinds := [.data, .pinned], laidTests := true, laidLooks := .later }
def GuardCondsCardSaid : Prop := Claim7.holds Tryz.pinned (.plain (OpenSpec.ofChange guardCondsSpec)) guardCondsCard

/-- THE TIED CARD OF 'rafterlaw09.GuardPures'. -/
def guardPuresCard : Claim7 := { stood := { row := guardPuresRow, standIns := [], harness := (true, "423340385321b171d2378589c29c54eb3df16a678c9cef002066a1de75743a44"), looks := true }, kinds := [], alts := [], laidByText := true, laidKinds := [.data, .pinned], laidTests := true, laidLooks := .later }
def GuardPuresCardSaid : Prop := Claim7.holds Tryz.pinned (.plain (OpenSpec.ofChange guardPuresSpec)) guardPuresCard

/-- THE TIED CARD OF 'rafterlaw10.GraphAgain'. -/
def graphAgainCard : Claim7 := { stood := { row := graphAgainRow, standIns := [], harness := (true, "423340385321b171d2378589c29c54eb3df16a678c9cef002066a1de75743a44"), looks := true }, kinds := [], alts := [], laidByText := true, laidKinds := [.data, .pinned], laidTests := true, laidLooks := .later }
def GraphAgainCardSaid : Prop := Claim7.holds Tryz.pinned (.plain (OpenSpec.ofChange graphAgainSpec)) graphAgainCard

/-- THE TIED CARD OF 'rafterlaw10.GraphRows'. -/
def graphRowsCard : Claim7 := { stood := { row := graphRowsRow, standIns := [], harness := (true, "423340385321b171d2378589c29c54eb3df16a678c9cef002066a1de75743a44"), looks := true }, kinds := [], alts := [], laidByText := true, laidKinds := [.data, .pinned], laidTests := true, laidLooks := .later }
def GraphRowsCardSaid : Prop := Claim7.holds Tryz.pinned (.plain (OpenSpec.ofChange graphRowsSpec)) graphRowsCard

/-- THE TIED CARD OF 'rafterlaw11.MachineSplits'. -/
def machineSplitsCard : Claim7 := { stood := { row := machineSplitsRow, standIns := [], harness := (true, "423340385321b171d2378589c29c54eb3df16a678c9cef002066a1de75743a44"), looks := true }, kinds := [], alts := [], laidByText := true, laidKinds := [.data, .pinned], laidTests := true, laidLooks := .later }
def MachineSplitsCardSaid : Prop := Claim7.holds Tryz.pinned (.plain (OpenSpec.ofChange machineSplitsSpec)) machineSplitsCard

/-- THE TIED CARD OF 'rafterlaw11.MachineMore'. -/
def machineMoreCard : Claim7 := { stood := { row := machineMoreRow, standIns := [], harness := (true, "423340385321b171d2378589c29c54eb3df16a678c9cef002066a1de75743a44"), looks := true }, kinds := [], alts := [], laidByText := true, laidKinds := [.data, .pinned], laidTests := true, laidLooks := .later }
def MachineMoreCardSaid : Prop := Claim7.holds Tryz.pinned (.plain (OpenSpec.ofChange machineMoreSpec)) machineMoreCard

/-- THE TIED CARD OF 'rafterlaw11.MachineFuel'. -/
def machineFuelCard : Claim7 := { stood := { row := machineFuelRow, standIns := [], harness := (true, "423340385321b171d2378589c29c54eb3df16a678c9cef002066a1de75743a44"), looks := true }, kinds := [], alts := [], laidByText := true, laidKinds := [.data, .pinned], laidTests := true, laidLooks := .later }
def MachineFuelCardSaid : Prop := Claim7.holds Tryz.pinned (.plain (OpenSpec.ofChange machineFuelSpec)) machineFuelCard

/-- THE TIED CARD OF 'rafterlaw11.MachineSteps'. -/
def machineStepsCard : Claim7 := { stood := { row := machineStepsRow, standIns := [], harness := (true, "423340385321b171d2378589c29c54eb3df16a678c9cef002066a1de75743a44"), looks := true }, kinds := [], alts := [], laidByText := true, laidKinds := [.data, .pinned], laidTests := true, laidLooks := .later }
def MachineStepsCardSaid : Prop := Claim7.holds Tryz.pinned (.plain (OpenSpec.ofChange machineStepsSpec)) machineStepsCard

/-- THE TIED CARD OF 'rafterlaw11.MachinePure'. -/
def machinePureCard : Claim7 := { stood := { row := machinePureRow, standIns := [], harness := (true, "423340385321b171d2378589c29c54eb3df16a678c9cef002066a1de75743a44"), looks := true }, kinds := [], alts := [], laidByText := true, laidKinds := [.data, .pinned], laidTests := true, laidLooks := .later }
def MachinePureCardSaid : Prop := Claim7.holds Tryz.pinned (.plain (OpenSpec.ofChange machinePureSpec)) machinePureCard

/-- THE TIED CARD OF 'rafterlaw11.MachineOn'. -/
def machineOnCard : Claim7 := { stood := { row := machineOnRow, standIns := [], harness := (true, "423340385321b171d2378589c29c54eb3df16a678c9cef002066a1de75743a44"), looks := true }, kinds := [], alts := [], laidByText := true, laidKinds := [.data, .pinned], laidTests := true, laidLooks := .later }
def MachineOnCardSaid : Prop := Claim7.holds Tryz.pinned (.plain (OpenSpec.ofChange machineOnSpec)) machineOnCard

/-- THE TIED CARD OF 'rafterlaw10.GraphShapes'. -/
def graphShapesCard : Claim7 := { stood := { row := graphShapesRow, standIns := [], harness := (true, "423340385321b171d2378589c29c54eb3df16a678c9cef002066a1de75743a44"), looks := true }, kinds := [], alts := [], laidByText := true, laidKinds := [.data, .pinned], laidTests := true, laidLooks := .later }
def GraphShapesCardSaid : Prop := Claim7.holds Tryz.pinned (.plain (OpenSpec.ofChange graphShapesSpec)) graphShapesCard

/-- THE SECOND FORM's CARD OF 'rafterlaw09.GuardForms'. -/
def guardFormsUptoCard : Claim7 := { stood := { row := guardFormsUptoRow, standIns := [], harness := (true, "423340385321b171d2378589c29c54eb3df16a678c9cef002066a1de75743a44"), looks := true }, kinds := [], alts := [], laidByText := true, laidKinds := [.data, .pinned], laidTests := true, laidLooks := .later }
def GuardFormsUptoCardSaid : Prop := Claim7.holds Tryz.pinned (.plain (OpenSpec.upto guardFormsSpec)) guardFormsUptoCard

/-- THE SECOND FORM's CARD OF 'rafterlaw09.GuardConds'. -/
def guardCondsUptoCard : Claim7 := { stood := { row := guardCondsUptoRow, standIns := [], harness := (true, "423340385321b171d2378589c29c54eb3df16a678c9cef002066a1de75743a44"), looks := true }, kinds := [], alts := [], laidByText := true, laidKinds := [.data, .pinned], laidTests := true, laidLooks := .later }
def GuardCondsUptoCardSaid : Prop := Claim7.holds Tryz.pinned (.plain (OpenSpec.upto guardCondsSpec)) guardCondsUptoCard

/-- THE SECOND FORM's CARD OF 'rafterlaw09.GuardPures'. -/
def guardPuresUptoCard : Claim7 := { stood := { row := guardPuresUptoRow, standIns := [], harness := (true, "423340385321b171d2378589c29c54eb3df16a678c9cef002066a1de75743a44"), looks := true }, kinds := [], alts := [], laidByText := true, laidKinds := [.data, .pinned], laidTests := true, laidLooks := .later }
def GuardPuresUptoCardSaid : Prop := Claim7.holds Tryz.pinned (.plain (OpenSpec.upto guardPuresSpec)) guardPuresUptoCard

/-- THE SECOND FORM's CARD OF 'rafterlaw10.GraphAgain'. -/
def graphAgainUptoCard : Claim7 := { stood := { row := graphAgainUptoRow, standIns := [], harness := (true, "423340385321b171d2378589c29c54eb3df16a678c9cef002066a1de75743a44"), looks := true }, kinds := [], alts := [], laidByText := true, laidKinds := [.data, .pinned], laidTests := true, laidLooks := .later }
def GraphAgainUptoCardSaid : Prop := Claim7.holds Tryz.pinned (.plain (OpenSpec.upto graphAgainSpec)) graphAgainUptoCard

/-- THE SECOND FORM's CARD OF 'rafterlaw10.GraphRows'. -/
def graphRowsUptoCard : Claim7 := { stood := { row := graphRowsUptoRow, standIns := [], harness := (true, "423340385321b171d2378589c29c54eb3df16a678c9cef002066a1de75743a44"), looks := true }, kinds := [], alts := [], laidByText := true, laidKinds := [.data, .pinned], laidTests := true, laidLooks := .later }
def GraphRowsUptoCardSaid : Prop := Claim7.holds Tryz.pinned (.plain (OpenSpec.upto graphRowsSpec)) graphRowsUptoCard

/-- THE SECOND FORM's CARD OF 'rafterlaw11.MachineSplits'. -/
def machineSplitsUptoCard : Claim7 := { stood := { row := machineSplitsUptoRow, standIns := [], harness := (true, "423340385321b171d2378589c29c54eb3df16a678c9cef002066a1de75743a44"), looks := true }, kinds := [], alts := [], laidByText := true, laidKinds := [.data, .pinned], laidTests := true, laidLooks := .later }
def MachineSplitsUptoCardSaid : Prop := Claim7.holds Tryz.pinned (.plain (OpenSpec.upto machineSplitsSpec)) machineSplitsUptoCard

/-- THE SECOND FORM's CARD OF 'rafterlaw11.MachineMore'. -/
def machineMoreUptoCard : Claim7 := { stood := { row := machineMoreUptoRow, standIns := [], harness := (true, "423340385321b171d2378589c29c54eb3df16a678c9cef002066a1de75743a44"), looks := true }, kinds := [], alts := [], laidByText := true, laidKinds := [.data, .pinned], laidTests := true, laidLooks := .later }
def MachineMoreUptoCardSaid : Prop := Claim7.holds Tryz.pinned (.plain (OpenSpec.upto machineMoreSpec)) machineMoreUptoCard

/-- THE SECOND FORM's CARD OF 'rafterlaw11.MachineFuel'. -/
def machineFuelUptoCard : Claim7 := { stood := { row := machineFuelUptoRow, standIns := [], harness := (true, "423340385321b171d2378589c29c54eb3df16a678c9cef002066a1de75743a44"), looks := true }, kinds := [], alts := [], laidByText := true, laidKinds := [.data, .pinned], laidTests := true, laidLooks := .later }
def MachineFuelUptoCardSaid : Prop := Claim7.holds Tryz.pinned (.plain (OpenSpec.upto machineFuelSpec)) machineFuelUptoCard

/-- THE SECOND FORM's CARD OF 'rafterlaw11.MachineSteps'. -/
def machineStepsUptoCard : Claim7 := { stood := { row := machineStepsUptoRow, standIns := [], harness := (true, "423340385321b171d2378589c29c54eb3df16a678c9cef002066a1de75743a44"), looks := true }, kinds := [], alts := [], laidByText := true, laidKinds := [.data, .pinned], laidTests := true, laidLooks := .later }
def MachineStepsUptoCardSaid : Prop := Claim7.holds Tryz.pinned (.plain (OpenSpec.upto machineStepsSpec)) machineStepsUptoCard

/-- THE SECOND FORM's CARD OF 'rafterlaw11.MachinePure'. -/
def machinePureUptoCard : Claim7 := { stood := { row := machinePureUptoRow, standIns := [], harness := (true, "423340385321b171d2378589c29c54eb3df16a678c9cef002066a1de75743a44"), looks := true }, kinds := [], alts := [], laidByText := true, laidKinds := [.data, .pinned], laidTests := true, laidLooks := .later }
def MachinePureUptoCardSaid : Prop := Claim7.holds Tryz.pinned (.plain (OpenSpec.upto machinePureSpec)) machinePureUptoCard

/-- THE SECOND FORM's CARD OF 'rafterlaw11.MachineOn'. -/
def machineOnUptoCard : Claim7 := { stood := { row := machineOnUptoRow, standIns := [], harness := (true, "423340385321b171d2378589c29c54eb3df16a678c9cef002066a1de75743a44"), looks := true }, kinds := [], alts := [], laidByText := true, laidKinds := [.data, .pinned], laidTests := true, laidLooks := .later }
def MachineOnUptoCardSaid : Prop := Claim7.holds Tryz.pinned (.plain (OpenSpec.upto machineOnSpec)) machineOnUptoCard

/-- THE SECOND FORM's CARD OF 'rafterlaw10.GraphShapes'. -/
def graphShapesUptoCard : Claim7 := { stood := { row := graphShapesUptoRow, standIns := [], harness := (true, "423340385321b171d2378589c29c54eb3df16a678c9cef002066a1de75743a44"), looks := true }, kinds := [], alts := [], laidByText := true, laidKinds := [.data, .pinned], laidTests := true, laidLooks := .later }
def GraphShapesUptoCardSaid : Prop := Claim7.holds Tryz.pinned (.plain (OpenSpec.upto graphShapesSpec)) graphShapesUptoCard
end Rows
end Go.Proofs.YtjlnfdabdhkgcaaGreatDoor
