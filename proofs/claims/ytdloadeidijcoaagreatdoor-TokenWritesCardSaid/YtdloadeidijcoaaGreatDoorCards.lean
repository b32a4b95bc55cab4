/-
  DERIVED. GIVEN WITH THE SEED: THE CARDS: each row of YtdloadeidijcoaaGreatDoorRows.lean that lists a variable, with what it lists TIED to the program's text (the seventh form; the later family's looks); each row that meets fmt, with fmt's text TOLD by the authors' own Lean function (tested against real Go, not proved from fmt's source: count such statements apart). THE CARD IS WHAT COUNTS. Prove the row's statement (the work); the ties are given (YtdloadeidijcoaaGreatDoorTie.lean); close each card by the builder's one call (the guide's Derived/Test/ToyasCard.lean, 'card_holds'). Laid BY PROGRAM, IN A SANDBOX (cutbox-door.mjs). By AI agents, Wed Nov 11 2026. No macro, syntax, notation, axiom, sorry.
-/
import Derived.Test.YtdloadeidijcoaaGreatDoorRows
import GoSem.ClaimSeven
namespace Go.Proofs.YtdloadeidijcoaaGreatDoor
namespace Rows

/-- THE TIED CARD OF 'raddlelaw09.TokenWrites'. -/
def tokenWritesCard : Claim7 := { stood := { row := tokenWritesRow, standIns := [], harness := (true, "c2a03a5c80f103732f5bce2592fb9212646104b3a438c36e5f052ffc4e7e7cde"), looks := true }, kinds := [], alts := [], laidByText := true, laidKinds := [.data, .data, .data, .sentinel, .sentinel, .listed, .data], laidTests := true, laidLooks := .later }
def TokenWritesCardSaid : Prop := Claim7.holds Tryz.pinned (.plain (OpenSpec.ofChange tokenWritesSpec)) tokenWritesCard

/-- THE SECOND FORM's CARD OF 'raddlelaw09.TokenWrites'. -/
def tokenWritesUptoCard : Claim7 := { stood := { row := tokenWritesUptoRow, standIns := [], harness := (true, "c2a03a5c80f103732f5bce2592fb9212646104b3a438c36e5f052ffc4e7e7cde"), looks := true }, kinds := [], alts := [], laidByText := true, laidKinds := [.data, .data, .data, .sentinel, .sentinel, .listed, .data], laidTests := true, laidLooks := .later }
def TokenWritesUptoCardSaid : Prop := Claim7.holds Tryz.pinned (.plain (OpenSpec.upto tokenWritesSpec)) tokenWritesUptoCard
end Rows
end Go.Proofs.YtdloadeidijcoaaGreatDoor
