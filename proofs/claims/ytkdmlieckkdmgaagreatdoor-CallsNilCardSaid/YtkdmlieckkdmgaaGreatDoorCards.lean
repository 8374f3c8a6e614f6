/-
  DERIVED. GIVEN WITH THE SEED: THE CARDS: each row of YtkdmlieckkdmgaaGreatDoorRows.lean that lists a variable, with what it lists TIED to the program's text (the seventh form; the later family's looks); each row that meets fmt, with fmt's text TOLD by the authors' own Lean function (tested against real Go, not proved from fmt's source: count such statements apart). THE CARD IS WHAT COUNTS. Prove the row's statement (the work); the ties are given (YtkdmlieckkdmgaaGreatDoorTie.lean); close each card by the builder's one call (the guide's Derived/Test/ToyasCard.lean, 'card_holds'). Laid BY PROGRAM, IN A SANDBOX (cutbox-door.mjs). By AI agents, Wed Nov 11 2026. No macro, syntax, notation, axiom, sorry.
-/
import Derived.Test.YtkdmlieckkdmgaaGreatDoorRows
import GoSem.ClaimSeven
namespace Go.Proofs.YtkdmlieckkdmgaaGreatDoor
namespace Rows

/-- THE TIED CARD OF 'escritoirelaw12.WalkSeen'. -/
def walkSeenCard : Claim7 := { stood := { row := walkSeenRow, standIns := [], harness := (true, "ac747fa276965b48bd805f418d96011cf43d91bf1bea804a635cbd700cc7e8a7"), looks := false }, kinds := [], alts := [], laidByText := true, laidKinds := [.data, .pinned], laidTests := true, laidLooks := .later }
def WalkSeenCardSaid : Prop := Claim7.holds Tryz.pinned (.plain (OpenSpec.ofChange walkSeenSpec)) walkSeenCard

/-- THE TIED CARD OF 'escritoirelaw12.WalkLaid'. -/
def walkLaidCard : Claim7 := { stood := { row := walkLaidRow, standIns := [], harness := (true, "ac747fa276965b48bd805f418d96011cf43d91bf1bea804a635cbd700cc7e8a7"), looks := false }, kinds := [], alts := [], laidByText := true, laidKinds := [.data, .pinned], laidTests := true, laidLooks := .later }
def WalkLaidCardSaid : Prop := Claim7.holds Tryz.pinned (.plain (OpenSpec.ofChange walkLaidSpec)) walkLaidCard

/-- THE TIED CARD OF 'escritoirelaw13.CallsNil'. -/
def callsNilCard : Claim7 := { stood := { row := callsNilRow, standIns := [], harness := (true, "ac747fa276965b48bd805f418d96011cf43d91bf1bea804a635cbd700cc7e8a7"), looks := false }, kinds := [], alts := [], laidByText := true, laidKinds := [.data, .pinned], laidTests := true, laidLooks := .later }
def CallsNilCardSaid : Prop := Claim7.holds Tryz.pinned (.plain (OpenSpec.ofChange callsNilSpec)) callsNilCard

/-- THE SECOND FORM's CARD OF 'escritoirelaw12.WalkSeen'. -/
def walkSeenUptoCard : Claim7 := { stood := { row := walkSeenUptoRow, standIns := [], harness := (true, "ac747fa276965b48bd805f418d96011cf43d91bf1bea804a635cbd700cc7e8a7"), looks := false }, kinds := [], alts := [], laidByText := true, laidKinds := [.data, .pinned], laidTests := true, laidLooks := .later }
def WalkSeenUptoCardSaid : Prop := Claim7.holds Tryz.pinned (.plain (OpenSpec.upto walkSeenSpec)) walkSeenUptoCard

/-- THE SECOND FORM's CARD OF 'escritoirelaw12.WalkLaid'. -/
def walkLaidUptoCard : Claim7 := { stood := { row := walkLaidUptoRow, standIns := [], harness := (true, "ac747fa276965b48bd805f418d96011cf43d91bf1bea804a635cbd700cc7e8a7"), looks := false }, kinds := [], alts := [], laidByText := true, laidKinds := [.data, .pinned], laidTests := true, laidLooks := .later }
def WalkLaidUptoCardSaid : Prop := Claim7.holds Tryz.pinned (.plain (OpenSpec.upto walkLaidSpec)) walkLaidUptoCard

/-- THE SECOND FORM's CARD OF 'escritoirelaw13.CallsNil'. -/
def callsNilUptoCard : Claim7 := { stood := { row := callsNilUptoRow, standIns := [], harness := (true, "ac747fa276965b48bd805f418d96011cf43d91bf1bea804a635cbd700cc7e8a7"), looks := false }, kinds := [], alts := [], laidByText := true, laidKinds := [.data, .pinned], laidTests := true, laidLooks := .later }
def CallsNilUptoCardSaid : Prop := Claim7.holds Tryz.pinned (.plain (OpenSpec.upto callsNilSpec)) callsNilUptoCard
end Rows
end Go.Proofs.YtkdmlieckkdmgaaGreatDoor
