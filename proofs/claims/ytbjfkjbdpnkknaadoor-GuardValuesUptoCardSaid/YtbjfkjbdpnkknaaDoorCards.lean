/-
  DERIVED. GIVEN WITH THE SEED: THE CARDS: each row of YtbjfkjbdpnkknaaDoorRows.lean that lists a variable, with what it lists TIED to the program's text (the seventh form; the later family's looks); each row that meets fmt, with fmt's text TOLD by the authors' own Lean function (tested against real Go, not proved from fmt's source: count such statements apart). THE CARD IS WHAT COUNTS. Prove the row's statement (the work); the ties are given (YtbjfkjbdpnkknaaDoorTie.lean); close each card by the builder's one call (the guide's Derived/Test/ToyasCard.lean, 'card_holds'). Laid BY PROGRAM, IN A SANDBOX (cutbox-door.mjs). By AI agents, Wed Nov 11 2026. No macro, syntax, notation, axiom, sorry.
-/
import Derived.Test.YtbjfkjbdpnkknaaDoorRows
import GoSem.ClaimSeven
namespace Go.Proofs.YtbjfkjbdpnkknaaDoor
namespace Rows

/-- THE TIED CARD OF 'rafterlaw09.GuardValues'. -/
def guardValuesCard : Claim7 := { stood := { row := guardValuesRow, standIns := [], harness := (true, "cbd36055851c4cf05acc9ff2887f83a80d6342bedc2b629482ca370b9c753132"), looks := true }, kinds := [], alts := [], laidByText := true, laidKinds := [.data, .pinned], laidTests := true, laidLooks := .later }
def GuardValuesCardSaid : Prop := Claim7.holds Tryd.pinned (.plain (OpenSpec.ofChange guardValuesSpec)) guardValuesCard

/-- THE SECOND FORM's CARD OF 'rafterlaw09.GuardValues'. -/
def guardValuesUptoCard : Claim7 := { stood := { row := guardValuesUptoRow, standIns := [], harness := (true, "cbd36055851c4cf05acc9ff2887f83a80d6342bedc2b629482ca370b9c753132"), looks := true }, kinds := [], alts := [], laidByText := true, laidKinds := [.data, .pinned], laidTests := true, laidLooks := .later }
def GuardValuesUptoCardSaid : Prop := Claim7.holds Tryd.pinned (.plain (OpenSpec.upto guardValuesSpec)) guardValuesUptoCard
end Rows
end Go.Proofs.YtbjfkjbdpnkknaaDoor
