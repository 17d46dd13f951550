/-
  DERIVED. GIVEN WITH THE SEED: THE CARDS: each row of YtpaeaccmddffjaaGreatDoorRows.lean that lists a variable, with what it lists TIED to the program's text (the seventh form; the later family's looks); each row that meets fmt, with fmt's text TOLD by the authors' own Lean function (tested against real Go, not proved from fmt's source: count such statements apart). THE CARD IS WHAT COUNTS. Prove the row's statement (the work); the ties are given (YtpaeaccmddffjaaGreatDoorTie.lean); close each card by the builder's one call (the guide's Derived/Test/ToyasCard.lean, 'card_holds'). Laid BY PROGRAM, IN A SANDBOX (cutbox-door.mjs). By AI agents, Wed Nov 11 2026. No macro, syntax, notation, axiom, sorry.
-/
import Derived.Test.YtpaeaccmddffjaaGreatDoorRows
import GoSem.ClaimSeven
namespace Go.Proofs.YtpaeaccmddffjaaGreatDoor
namespace Rows

/-- THE TIED CARD OF 'rafterlaw10.GraphAgain'. -/
def graphAgainCard : Claim7 := { stood := { row := graphAgainRow, standIns := [], harness := (true, "8b2297d6a8df5db6d7f6a97ab4721d1b9a53e8612e47cdde56ede8e548fb3ac1"), looks := true }, kinds := [], alts := [], laidByText := true, laidKinds := [.data, .pinned], laidTests := true, laidLooks := .later }
def GraphAgainCardSaid : Prop := Claim7.holds Tryz.pinned (.plain (OpenSpec.ofChange graphAgainSpec)) graphAgainCard

/-- THE TIED CARD OF 'rafterlaw10.GraphRows'. -/
def graphRowsCard : Claim7 := { stood := { row := graphRowsRow, standIns := [], harness := (true, "8b2297d6a8df5db6d7f6a97ab4721d1b9a53e8612e47cdde56ede8e548fb3ac1"), looks := true }, kinds := [], alts := [], laidByText := true, laidKinds := [.data, .pinned], laidTests := true, laidLooks := .later }
def GraphRowsCardSaid : Prop := Claim7.holds Tryz.pinned (.plain (OpenSpec.ofChange graphRowsSpec)) graphRowsCard

/-- THE SECOND FORM's CARD OF 'rafterlaw10.GraphAgain'. -/
def graphAgainUptoCard : Claim7 := { stood := { row := graphAgainUptoRow, standIns := [], harness := (true, "8b2297d6a8df5db6d7f6a97ab4721d1b9a53e8612e47cdde56ede8e548fb3ac1"), looks := true }, kinds := [], alts := [], laidByText := true, laidKinds := [.data, .pinned], laidTests := true, laidLooks := .later }
def GraphAgainUptoCardSaid : Prop := Claim7.holds Tryz.pinned (.plain (OpenSpec.upto graphAgainSpec)) graphAgainUptoCard

/-- THE SECOND FORM's CARD OF 'rafterlaw10.GraphRows'. -/
def graphRowsUptoCard : Claim7 := { stood := { row := graphRowsUptoRow, standIns := [], harness := (true, "8b2297d6a8df5db6d7f6a97ab4721d1b9a53e8612e47cdde56ede8e548fb3ac1"), looks := true }, kinds := [], alts := [], laidByText := true, laidKinds := [.data, .pinned], laidTests := true, laidLooks := .later }
def GraphRowsUptoCardSaid : Prop := Claim7.holds Tryz.pinned (.plain (OpenSpec.upto graphRowsSpec)) graphRowsUptoCard
end Rows
end Go.Proofs.YtpaeaccmddffjaaGreatDoor
