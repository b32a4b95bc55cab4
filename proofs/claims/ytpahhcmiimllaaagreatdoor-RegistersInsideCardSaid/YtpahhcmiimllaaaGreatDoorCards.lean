/-
  DERIVED. GIVEN WITH THE SEED: THE CARDS: each row of YtpahhcmiimllaaaGreatDoorRows.lean that lists a variable, with what it lists TIED to the program's text (the seventh form; the later family's looks); each row that meets fmt, with fmt's text TOLD by the authors' own Lean function (tested against real Go, not proved from fmt's source: count such statements apart). THE CARD IS WHAT COUNTS. Prove the row's statement (the work); the ties are given (YtpahhcmiimllaaaGreatDoorTie.lean); close each card by the builder's one call (the guide's Derived/Test/ToyasCard.lean, 'card_holds'). Laid BY PROGRAM, IN A SANDBOX (cutbox-door.mjs). By AI agents, Wed Nov 11 2026. No macro, syntax, notation, axiom, sorry.
-/
import Derived.Test.YtpahhcmiimllaaaGreatDoorRows
import GoSem.ClaimSeven
namespace Go.Proofs.YtpahhcmiimllaaaGreatDoor
namespace Rows

/-- THE TIED CARD OF 'raddlelaw28.RegistersPlans'. -/
def registersPlansCard : Claim7 := { stood := { row := registersPlansRow, standIns := [], harness := (true, "a896363e46a3f026986447666b68db76670c0bc2903f5fb3ccf7c8412802c8ed"), looks := false }, kinds := [], alts := [], laidByText := true, laidKinds := [.data, .listed, .data], laidTests := true, laidLooks := .later }
def RegistersPlansCardSaid : Prop := Claim7.holds Tryz.pinned (.plain (OpenSpec.ofChange registersPlansSpec)) registersPlansCard

/-- THE TIED CARD OF 'raddlelaw28.RegistersEnough'. -/
def registersEnoughCard : Claim7 := { stood := { row := registersEnoughRow, standIns := [], harness := (true, "a896363e46a3f026986447666b68db76670c0bc2903f5fb3ccf7c8412802c8ed"), looks := false }, kinds := [], alts := [], laidByText := true, laidKinds := [.data, .listed, .data], laidTests := true, laidLooks := .later }
def RegistersEnoughCardSaid : Prop := Claim7.holds Tryz.pinned (.plain (OpenSpec.ofChange registersEnoughSpec)) registersEnoughCard

/-- THE TIED CARD OF 'raddlelaw28.RegistersInside'. -/
def registersInsideCard : Claim7 := { stood := { row := registersInsideRow, standIns := [], harness := (true, "a896363e46a3f026986447666b68db76670c0bc2903f5fb3ccf7c8412802c8ed"), looks := false }, kinds := [], alts := [], laidByText := true, laidKinds := [.data, .listed, .data], laidTests := true, laidLooks := .later }
def RegistersInsideCardSaid : Prop := Claim7.holds Tryz.pinned (.plain (OpenSpec.ofChange registersInsideSpec)) registersInsideCard

/-- THE TIED CARD OF 'raddlelaw28.RegistersRight'. -/
def registersRightCard : Claim7 := { stood := { row := registersRightRow, standIns := [], harness := (true, "a896363e46a3f026986447666b68db76670c0bc2903f5fb3ccf7c8412802c8ed"), looks := false }, kinds := [], alts := [], laidByText := true, laidKinds := [.data, .listed, .data], laidTests := true, laidLooks := .later }
def RegistersRightCardSaid : Prop := Claim7.holds Tryz.pinned (.plain (OpenSpec.ofChange registersRightSpec)) registersRightCard

/-- THE TIED CARD OF 'raddlelaw28.RegistersChecks'. -/
def registersChecksCard : Claim7 := { stood := { row := registersChecksRow, standIns := [], harness := (true, "a896363e46a3f026986447666b68db76670c0bc2903f5fb3ccf7c8412802c8ed"), looks := false }, kinds := [], alts := [], laidByText := true, laidKinds := [.data, .listed, .data], laidTests := true, laidLooks := .later }
def RegistersChecksCardSaid : Prop := Claim7.holds Tryz.pinned (.plain (OpenSpec.ofChange registersChecksSpec)) registersChecksCard

/-- THE TIED CARD OF 'raddlelaw28.RegistersLive'. -/
def registersLiveCard : Claim7 := { stood := { row := registersLiveRow, standIns := [], harness := (true, "a896363e46a3f026986447666b68db76670c0bc2903f5fb3ccf7c8412802c8ed"), looks := false }, kinds := [], alts := [], laidByText := true, laidKinds := [.data, .listed, .data], laidTests := true, laidLooks := .later }
def RegistersLiveCardSaid : Prop := Claim7.holds Tryz.pinned (.plain (OpenSpec.ofChange registersLiveSpec)) registersLiveCard

/-- THE SECOND FORM's CARD OF 'raddlelaw28.RegistersPlans'. -/
def registersPlansUptoCard : Claim7 := { stood := { row := registersPlansUptoRow, standIns := [], harness := (true, "a896363e46a3f026986447666b68db76670c0bc2903f5fb3ccf7c8412802c8ed"), looks := false }, kinds := [], alts := [], laidByText := true, laidKinds := [.data, .listed, .data], laidTests := true, laidLooks := .later }
def RegistersPlansUptoCardSaid : Prop := Claim7.holds Tryz.pinned (.plain (OpenSpec.upto registersPlansSpec)) registersPlansUptoCard

/-- THE SECOND FORM's CARD OF 'raddlelaw28.RegistersEnough'. -/
def registersEnoughUptoCard : Claim7 := { stood := { row := registersEnoughUptoRow, standIns := [], harness := (true, "a896363e46a3f026986447666b68db76670c0bc2903f5fb3ccf7c8412802c8ed"), looks := false }, kinds := [], alts := [], laidByText := true, laidKinds := [.data, .listed, .data], laidTests := true, laidLooks := .later }
def RegistersEnoughUptoCardSaid : Prop := Claim7.holds Tryz.pinned (.plain (OpenSpec.upto registersEnoughSpec)) registersEnoughUptoCard

/-- THE SECOND FORM's CARD OF 'raddlelaw28.RegistersInside'. -/
def registersInsideUptoCard : Claim7 := { stood := { row := registersInsideUptoRow, standIns := [], harness := (true, "a896363e46a3f026986447666b68db76670c0bc2903f5fb3ccf7c8412802c8ed"), looks := false }, kinds := [], alts := [], laidByText := true, laidKinds := [.data, .listed, .data], laidTests := true, laidLooks := .later }
def RegistersInsideUptoCardSaid : Prop := Claim7.holds Tryz.pinned (.plain (OpenSpec.upto registersInsideSpec)) registersInsideUptoCard

/-- THE SECOND FORM's CARD OF 'raddlelaw28.RegistersRight'. -/
def registersRightUptoCard : Claim7 := { stood := { row := registersRightUptoRow, standIns := [], harness := (true, "a896363e46a3f026986447666b68db76670c0bc2903f5fb3ccf7c8412802c8ed"), looks := false }, kinds := [], alts := [], laidByText := true, laidKinds := [.data, .listed, .data], laidTests := true, laidLooks := .later }
def RegistersRightUptoCardSaid : Prop := Claim7.holds Tryz.pinned (.plain (OpenSpec.upto registersRightSpec)) registersRightUptoCard

/-- THE SECOND FORM's CARD OF 'raddlelaw28.RegistersChecks'. -/
def registersChecksUptoCard : Claim7 := { stood := { row := registersChecksUptoRow, standIns := [], harness := (true, "a896363e46a3f026986447666b68db76670c0bc2903f5fb3ccf7c8412802c8ed"), looks := false }, kinds := [], alts := [], laidByText := true, laidKinds := [.data, .listed, .data], laidTests := true, laidLooks := .later }
def RegistersChecksUptoCardSaid : Prop := Claim7.holds Tryz.pinned (.plain (OpenSpec.upto registersChecksSpec)) registersChecksUptoCard

/-- THE SECOND FORM's CARD OF 'raddlelaw28.RegistersLive'. -/
def registersLiveUptoCard : Claim7 := { stood := { row := registersLiveUptoRow, standIns := [], harness := (true, "a896363e46a3f026986447666b68db76670c0bc2903f5fb3ccf7c8412802c8ed"), looks := false }, kinds := [], alts := [], laidByText := true, laidKinds := [.data, .listed, .data], laidTests := true, laidLooks := .later }
def RegistersLiveUptoCardSaid : Prop := Claim7.holds Tryz.pinned (.plain (OpenSpec.upto registersLiveSpec)) registersLiveUptoCard
end Rows
end Go.Proofs.YtpahhcmiimllaaaGreatDoor
