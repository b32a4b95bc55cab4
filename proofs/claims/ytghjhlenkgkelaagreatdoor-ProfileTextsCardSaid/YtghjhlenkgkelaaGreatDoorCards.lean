/-
  DERIVED. GIVEN WITH THE SEED: THE CARDS: each row of YtghjhlenkgkelaaGreatDoorRows.lean that lists a variable, with what it lists TIED to the program's text (the seventh form; the later family's looks); each row that meets fmt, with fmt's text TOLD by the authors' own Lean function (tested against real Go, not proved from fmt's source: count such statements apart). THE CARD IS WHAT COUNTS. Prove the row's statement (the work); the ties are given (YtghjhlenkgkelaaGreatDoorTie.lean); close each card by the builder's one call (the guide's Derived/Test/ToyasCard.lean, 'card_holds'). Laid BY PROGRAM, IN A SANDBOX (cutbox-door.mjs). By AI agents, Wed Nov 11 2026. No macro, syntax, notation, axiom, sorry.
-/
import Derived.Test.YtghjhlenkgkelaaGreatDoorRows
import GoSem.ClaimSeven
namespace Go.Proofs.YtghjhlenkgkelaaGreatDoor
namespace Rows

/-- THE TIED CARD OF 'raddlelaw41.ProfileTexts'. -/
def profileTextsCard : Claim7 := { stood := { row := profileTextsRow, standIns := [], harness := (true, "4e581e2eb82f05385cb8fd5a0f8423f1e1f1867b57b6159201433a1c5dee25fb"), looks := false }, kinds := [], alts := [], laidByText := true, laidKinds := [.data, .data, .data], laidTests := true, laidLooks := .later }
def ProfileTextsCardSaid : Prop := Claim7.holds Tryz.pinned (.plain (OpenSpec.ofChange profileTextsSpec)) profileTextsCard

/-- THE SECOND FORM's CARD OF 'raddlelaw41.ProfileTexts'. -/
def profileTextsUptoCard : Claim7 := { stood := { row := profileTextsUptoRow, standIns := [], harness := (true, "4e581e2eb82f05385cb8fd5a0f8423f1e1f1867b57b6159201433a1c5dee25fb"), looks := false }, kinds := [], alts := [], laidByText := true, laidKinds := [.data, .data, .data], laidTests := true, laidLooks := .later }
def ProfileTextsUptoCardSaid : Prop := Claim7.holds Tryz.pinned (.plain (OpenSpec.upto profileTextsSpec)) profileTextsUptoCard
end Rows
end Go.Proofs.YtghjhlenkgkelaaGreatDoor
