/-
  DERIVED. GIVEN WITH THE SEED: THE CARDS: each row of YtoociceebodfeaaGreatDoorRows.lean that lists a variable, with what it lists TIED to the program's text (the seventh form; the later family's looks); each row that meets fmt, with fmt's text TOLD by the authors' own Lean function (tested against real Go, not proved from fmt's source: count such statements apart). THE CARD IS WHAT COUNTS. Prove the row's statement (the work); the ties are given (YtoociceebodfeaaGreatDoorTie.lean); close each card by the builder's one call (the guide's Derived/Test/ToyasCard.lean, 'card_holds'). Laid BY PROGRAM, IN A SANDBOX (cutbox-door.mjs). By AI agents, Wed Nov 11 2026. No macro, syntax, notation, axiom, sorry.
-/
import Derived.Test.YtoociceebodfeaaGreatDoorRows
import GoSem.ClaimSeven
namespace Go.Proofs.YtoociceebodfeaaGreatDoor
namespace Rows

/-- THE TIED CARD OF 'escritoirelaw13.CallsOwn'. -/
def callsOwnCard : Claim7 := { stood := { row := callsOwnRow, standIns := [], harness := (true, "feab378841848e67917a67e200bdadccc435c4e1d6289dd90f18bce4044d226d"), looks := false }, kinds := [], alts := [], laidByText := true, laidKinds := [.data, .pinned], laidTests := true, laidLooks := .later }
def CallsOwnCardSaid : Prop := Claim7.holds Tryz.pinned (.plain (OpenSpec.ofChange callsOwnSpec)) callsOwnCard

/-- THE TIED CARD OF 'escritoirelaw13.CallsPlay'. -/
def callsPlayCard : Claim7 := { stood := { row := callsPlayRow, standIns := [], harness := (true, "feab378841848e67917a67e200bdadccc435c4e1d6289dd90f18bce4044d226d"), looks := false }, kinds := [], alts := [], laidByText := true, laidKinds := [.data, .pinned], laidTests := true, laidLooks := .later }
def CallsPlayCardSaid : Prop := Claim7.holds Tryz.pinned (.plain (OpenSpec.ofChange callsPlaySpec)) callsPlayCard

/-- THE TIED CARD OF 'escritoirelaw13.CallsRename'. -/
def callsRenameCard : Claim7 := { stood := { row := callsRenameRow, standIns := [], harness := (true, "feab378841848e67917a67e200bdadccc435c4e1d6289dd90f18bce4044d226d"), looks := false }, kinds := [], alts := [], laidByText := true, laidKinds := [.data, .pinned], laidTests := true, laidLooks := .later }
def CallsRenameCardSaid : Prop := Claim7.holds Tryz.pinned (.plain (OpenSpec.ofChange callsRenameSpec)) callsRenameCard

/-- THE TIED CARD OF 'escritoirelaw13.CallsSyms'. -/
def callsSymsCard : Claim7 := { stood := { row := callsSymsRow, standIns := [], harness := (true, "feab378841848e67917a67e200bdadccc435c4e1d6289dd90f18bce4044d226d"), looks := false }, kinds := [], alts := [], laidByText := true, laidKinds := [.data, .pinned], laidTests := true, laidLooks := .later }
def CallsSymsCardSaid : Prop := Claim7.holds Tryz.pinned (.plain (OpenSpec.ofChange callsSymsSpec)) callsSymsCard

/-- THE TIED CARD OF 'escritoirelaw13.CallsTwice'. -/
def callsTwiceCard : Claim7 := { stood := { row := callsTwiceRow, standIns := [], harness := (true, "feab378841848e67917a67e200bdadccc435c4e1d6289dd90f18bce4044d226d"), looks := false }, kinds := [], alts := [], laidByText := true, laidKinds := [.data, .pinned], laidTests := true, laidLooks := .later }
def CallsTwiceCardSaid : Prop := Claim7.holds Tryz.pinned (.plain (OpenSpec.ofChange callsTwiceSpec)) callsTwiceCard

/-- THE TIED CARD OF 'escritoirelaw13.CallsNoted'. -/
def callsNotedCard : Claim7 := { stood := { row := callsNotedRow, standIns := [], harness := (true, "feab378841848e67917a67e200bdadccc435c4e1d6289dd90f18bce4044d226d"), looks := false }, kinds := [], alts := [], laidByText := true, laidKinds := [.data, .pinned], laidTests := true, laidLooks := .later }
def CallsNotedCardSaid : Prop := Claim7.holds Tryz.pinned (.plain (OpenSpec.ofChange callsNotedSpec)) callsNotedCard

/-- THE TIED CARD OF 'escritoirelaw13.CallsRoom'. -/
def callsRoomCard : Claim7 := { stood := { row := callsRoomRow, standIns := [], harness := (true, "feab378841848e67917a67e200bdadccc435c4e1d6289dd90f18bce4044d226d"), looks := false }, kinds := [], alts := [], laidByText := true, laidKinds := [.data, .pinned], laidTests := true, laidLooks := .later }
def CallsRoomCardSaid : Prop := Claim7.holds Tryz.pinned (.plain (OpenSpec.ofChange callsRoomSpec)) callsRoomCard

/-- THE SECOND FORM's CARD OF 'escritoirelaw13.CallsOwn'. -/
def callsOwnUptoCard : Claim7 := { stood := { row := callsOwnUptoRow, standIns := [], harness := (true, "feab378841848e67917a67e200bdadccc435c4e1d6289dd90f18bce4044d226d"), looks := false }, kinds := [], alts := [], laidByText := true, laidKinds := [.data, .pinned], laidTests := true, laidLooks := .later }
def CallsOwnUptoCardSaid : Prop := Claim7.holds Tryz.pinned (.plain (OpenSpec.upto callsOwnSpec)) callsOwnUptoCard

/-- THE SECOND FORM's CARD OF 'escritoirelaw13.CallsPlay'. -/
def callsPlayUptoCard : Claim7 := { stood := { row := callsPlayUptoRow, standIns := [], harness := (true, "feab378841848e67917a67e200bdadccc435c4e1d6289dd90f18bce4044d226d"), looks := false }, kinds := [], alts := [], laidByText := true, laidKinds := [.data, .pinned], laidTests := true, laidLooks := .later }
def CallsPlayUptoCardSaid : Prop := Claim7.holds Tryz.pinned (.plain (OpenSpec.upto callsPlaySpec)) callsPlayUptoCard

/-- THE SECOND FORM's CARD OF 'escritoirelaw13.CallsRename'. -/
def callsRenameUptoCard : Claim7 := { stood := { row := callsRenameUptoRow, standIns := [], harness := (true, "feab378841848e67917a67e200bdadccc435c4e1d6289dd90f18bce4044d226d"), looks := false }, kinds := [], alts := [], laidByText := true, laidKinds := [.data, .pinned], laidTests := true, laidLooks := .later }
def CallsRenameUptoCardSaid : Prop := Claim7.holds Tryz.pinned (.plain (OpenSpec.upto callsRenameSpec)) callsRenameUptoCard

/-- THE SECOND FORM's CARD OF 'escritoirelaw13.CallsSyms'. -/
def callsSymsUptoCard : Claim7 := { stood := { row := callsSymsUptoRow, standIns := [], harness := (true, "feab378841848e67917a67e200bdadccc435c4e1d6289dd90f18bce4044d226d"), looks := false }, kinds := [], alts := [], laidByText := true, laidKinds := [.data, .pinned], laidTests := true, laidLooks := .later }
def CallsSymsUptoCardSaid : Prop := Claim7.holds Tryz.pinned (.plain (OpenSpec.upto callsSymsSpec)) callsSymsUptoCard

/-- THE SECOND FORM's CARD OF 'escritoirelaw13.CallsTwice'. -/
def callsTwiceUptoCard : Claim7 := { stood := { row := callsTwiceUptoRow, standIns := [], harness := (true, "feab378841848e67917a67e200bdadccc435c4e1d6289dd90f18bce4044d226d"), looks := false }, kinds := [], alts := [], laidByText := true, laidKinds := [.data, .pinned], laidTests := true, laidLooks := .later }
def CallsTwiceUptoCardSaid : Prop := Claim7.holds Tryz.pinned (.plain (OpenSpec.upto callsTwiceSpec)) callsTwiceUptoCard

/-- THE SECOND FORM's CARD OF 'escritoirelaw13.CallsNoted'. -/
def callsNotedUptoCard : Claim7 := { stood := { row := callsNotedUptoRow, standIns := [], harness := (true, "feab378841848e67917a67e200bdadccc435c4e1d6289dd90f18bce4044d226d"), looks := false }, kinds := [], alts := [], laidByText := true, laidKinds := [.data, .pinned], laidTests := true, laidLooks := .later }
def CallsNotedUptoCardSaid : Prop := Claim7.holds Tryz.pinned (.plain (OpenSpec.upto callsNotedSpec)) callsNotedUptoCard

/-- THE SECOND FORM's CARD OF 'escritoirelaw13.CallsRoom'. -/
def callsRoomUptoCard : Claim7 := { stood := { row := callsRoomUptoRow, standIns := [], harness := (true, "feab378841848e67917a67e200bdadccc435c4e1d6289dd90f18bce4044d226d"), looks := false }, kinds := [], alts := [], laidByText := true, laidKinds := [.data, .pinned], laidTests := true, laidLooks := .later }
def CallsRoomUptoCardSaid : Prop := Claim7.holds Tryz.pinned (.plain (OpenSpec.upto callsRoomSpec)) callsRoomUptoCard
end Rows
end Go.Proofs.YtoociceebodfeaaGreatDoor
