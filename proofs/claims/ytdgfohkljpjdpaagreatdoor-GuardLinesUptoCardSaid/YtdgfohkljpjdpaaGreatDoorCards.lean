/-
  DERIVED. GIVEN WITH THE SEED: THE CARDS: each row of YtdgfohkljpjdpaaGreatDoorRows.lean that lists a variable, with what it lists TIED to the program's text (the seventh form; the later family's looks); each row that meets fmt, with fmt's text TOLD by the authors' own Lean function (tested against real Go, not proved from fmt's source: count such statements apart). THE CARD IS WHAT COUNTS. Prove the row's statement (the work); the ties are given (YtdgfohkljpjdpaaGreatDoorTie.lean); close each card by the builder's one call (the guide's Derived/Test/ToyasCard.lean, 'card_holds'). Laid BY PROGRAM, IN A SANDBOX (cutbox-door.mjs). By AI agents, Wed Nov 11 2026. No macro, syntax, notation, axiom, sorry.
-/
import Derived.Test.YtdgfohkljpjdpaaGreatDoorRows
import GoSem.ClaimSeven
namespace Go.Proofs.YtdgfohkljpjdpaaGreatDoor
namespace Rows

/-- THE TIED CARD OF 'rafterlaw09.GuardSums'. -/
def guardSumsCard : Claim7 := { stood := { row := guardSumsRow, standIns := [], harness := (true, "5499b5cd342bacf131590e36f11dd0cedaa7ce61acf6a792b950703ee4c755f2"), looks := true }, kinds := [], alts := [], laidByText := true, laidKinds := [.data, .pinned], laidTests := true, laidLooks := .later }
def GuardSumsCardSaid : Prop := Claim7.holds Tryz.pinned (.plain (OpenSpec.ofChange guardSumsSpec)) guardSumsCard

/-- THE TIED CARD OF 'rafterlaw09.GuardEquals'. -/
def guardEqualsCard : Claim7 := { stood := { row := guardEqualsRow, standIns := [], harness := (true, "5499b5cd342bacf131590e36f11dd0cedaa7ce61acf6a792b950703ee4c755f2"), looks := true }, kinds := [], alts := [], laidByText := true, laidKinds := [.data, .pinned], laidTests := true, laidLooks := .later }
def GuardEqualsCardSaid : Prop := Claim7.holds Tryz.pinned (.plain (OpenSpec.ofChange guardEqualsSpec)) guardEqualsCard

/-- THE TIED CARD OF 'rafterlaw09.GuardLines'. -/
def guardLinesCard : Claim7 := { stood := { row := guardLinesRow, standIns := [], harness := (true, "5499b5cd342bacf131590e36f11dd0cedaa7ce61acf6a792b950703ee4c755f2"), looks := true }, kinds := [], alts := [], laidByText := true, laidKinds := [.data, .pinned], laidTests := true, laidLooks := .later }
def GuardLinesCardSaid : Prop := Claim7.holds Tryz.pinned (.plain (OpenSpec.ofChange guardLinesSpec)) guardLinesCard

/-- THE SECOND FORM's CARD OF 'rafterlaw09.GuardSums'. -/
def guardSumsUptoCard : Claim7 := { stood := { row := guardSumsUptoRow, standIns := [], harness := (true, "5499b5cd342bacf131590e36f11dd0cedaa7ce61acf6a792b950703ee4c755f2"), looks := true }, kinds := [], alts := [], laidByText := true, laidKinds := [.data, .pinned], laidTests := true, laidLooks := .later }
def GuardSumsUptoCardSaid : Prop := Claim7.holds Tryz.pinned (.plain (OpenSpec.upto guardSumsSpec)) guardSumsUptoCard

/-- THE SECOND FORM's CARD OF 'rafterlaw09.GuardEquals'. -/
def guardEqualsUptoCard : Claim7 := { stood := { row := guardEqualsUptoRow, standIns := [], harness := (true, "5499b5cd342bacf131590e36f11dd0cedaa7ce61acf6a792b950703ee4c755f2"), looks := true }, kinds := [], alts := [], laidByText := true, laidKinds := [.data, .pinned], laidTests := true, laidLooks := .later }
def GuardEqualsUptoCardSaid : Prop := Claim7.holds Tryz.pinned (.plain (OpenSpec.upto guardEqualsSpec)) guardEqualsUptoCard

/-- THE SECOND FORM's CARD OF 'rafterlaw09.GuardLines'. -/
def guardLinesUptoCard : Claim7 := { stood := { row := guardLinesUptoRow, standIns := [], harness := (true, "5499b5cd342bacf131590e36f11dd0cedaa7ce61acf6a792b950703ee4c755f2"), looks := true }, kinds := [], alts := [], laidByText := true, laidKinds := [.data, .pinned], laidTests := true, laidLooks := .later }
def GuardLinesUptoCardSaid : Prop := Claim7.holds Tryz.pinned (.plain (OpenSpec.upto guardLinesSpec)) guardLinesUptoCard
end Rows
end Go.Proofs.YtdgfohkljpjdpaaGreatDoor
