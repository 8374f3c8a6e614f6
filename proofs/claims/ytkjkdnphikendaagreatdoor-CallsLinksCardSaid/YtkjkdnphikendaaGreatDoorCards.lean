/-
  DERIVED. GIVEN WITH THE SEED: THE CARDS: each row of YtkjkdnphikendaaGreatDoorRows.lean that lists a variable, with what it lists TIED to the program's text (the seventh form; the later family's looks); each row that meets fmt, with fmt's text TOLD by the authors' own Lean function (tested against real Go, not proved from fmt's source: count such statements apart). THE CARD IS WHAT COUNTS. Prove the row's statement (the work); the ties are given (YtkjkdnphikendaaGreatDoorTie.lean); close each card by the builder's one call (the guide's Derived/Test/ToyasCard.lean, 'card_holds'). Laid BY PROGRAM, IN A SANDBOX (cutbox-door.mjs). By AI agents, Wed Nov 11 2026. No macro, syntax, notation, axiom, sorry.
-/
import Derived.Test.YtkjkdnphikendaaGreatDoorRows
import GoSem.ClaimSeven
namespace Go.Proofs.YtkjkdnphikendaaGreatDoor
namespace Rows

/-- THE TIED CARD OF 'escritoirelaw13.CallsLinks'. -/
def callsLinksCard : Claim7 := { stood := { row := callsLinksRow, standIns := [], harness := (true, "9b4d9f6bcc6f092e0f8066ea7aadd4564d55f6979a1b2999d0a55dbebe846451"), looks := false }, kinds := [], alts := [], laidByText := true, laidKinds := [.data, .pinned], laidTests := true, laidLooks := .later }
def CallsLinksCardSaid : Prop := Claim7.holds Tryz.pinned (.plain (OpenSpec.ofChange callsLinksSpec)) callsLinksCard

/-- THE TIED CARD OF 'escritoirelaw13.CallsOwn'. -/
def callsOwnCard : Claim7 := { stood := { row := callsOwnRow, standIns := [], harness := (true, "9b4d9f6bcc6f092e0f8066ea7aadd4564d55f6979a1b2999d0a55dbebe846451"), looks := false }, kinds := [], alts := [], laidByText := true, laidKinds := [.data, .pinned], laidTests := true, laidLooks := .later }
def CallsOwnCardSaid : Prop := Claim7.holds Tryz.pinned (.plain (OpenSpec.ofChange callsOwnSpec)) callsOwnCard

/-- THE TIED CARD OF 'escritoirelaw13.CallsPlay'. -/
def callsPlayCard : Claim7 := { stood := { row := callsPlayRow, standIns := [], harness := (true, "9b4d9f6bcc6f092e0f8066ea7aadd4564d55f6979a1b2999d0a55dbebe846451"), looks := false }, kinds := [], alts := [], laidByText := true, laidKinds := [.data, .pinned], laidTests := true, laidLooks := .later }
def CallsPlayCardSaid : Prop := Claim7.holds Tryz.pinned (.plain (OpenSpec.ofChange callsPlaySpec)) callsPlayCard

/-- THE SECOND FORM's CARD OF 'escritoirelaw13.CallsLinks'. -/
def callsLinksUptoCard : Claim7 := { stood := { row := callsLinksUptoRow, standIns := [], harness := (true, "9b4d9f6bcc6f092e0f8066ea7aadd4564d55f6979a1b2999d0a55dbebe846451"), looks := false }, kinds := [], alts := [], laidByText := true, laidKinds := [.data, .pinned], laidTests := true, laidLooks := .later }
def CallsLinksUptoCardSaid : Prop := Claim7.holds Tryz.pinned (.plain (OpenSpec.upto callsLinksSpec)) callsLinksUptoCard

/-- THE SECOND FORM's CARD OF 'escritoirelaw13.CallsOwn'. -/
def callsOwnUptoCard : Claim7 := { stood := { row := callsOwnUptoRow, standIns := [], harness := (true, "9b4d9f6bcc6f092e0f8066ea7aadd4564d55f6979a1b2999d0a55dbebe846451"), looks := false }, kinds := [], alts := [], laidByText := true, laidKinds := [.data, .pinned], laidTests := true, laidLooks := .later }
def CallsOwnUptoCardSaid : Prop := Claim7.holds Tryz.pinned (.plain (OpenSpec.upto callsOwnSpec)) callsOwnUptoCard

/-- THE SECOND FORM's CARD OF 'escritoirelaw13.CallsPlay'. -/
def callsPlayUptoCard : Claim7 := { stood := { row := callsPlayUptoRow, standIns := [], harness := (true, "9b4d9f6bcc6f092e0f8066ea7aadd4564d55f6979a1b2999d0a55dbebe846451"), looks := false }, kinds := [], alts := [], laidByText := true, laidKinds := [.data, .pinned], laidTests := true, laidLooks := .later }
def CallsPlayUptoCardSaid : Prop := Claim7.holds Tryz.pinned (.plain (OpenSpec.upto callsPlaySpec)) callsPlayUptoCard
end Rows
end Go.Proofs.YtkjkdnphikendaaGreatDoor
