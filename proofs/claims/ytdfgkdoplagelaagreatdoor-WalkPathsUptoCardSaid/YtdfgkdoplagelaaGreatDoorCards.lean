/-
  DERIVED. GIVEN WITH THE SEED: THE CARDS: each row of YtdfgkdoplagelaaGreatDoorRows.lean that lists a variable, with what it lists TIED to the program's text (the seventh form; the later family's looks); each row that meets fmt, with fmt's text TOLD by the authors' own Lean function (tested against real Go, not proved from fmt's source: count such statements apart). THE CARD IS WHAT COUNTS. Prove the row's statement (the work); the ties are given (YtdfgkdoplagelaaGreatDoorTie.lean); close each card by the builder's one call (the guide's Derived/Test/ToyasCard.lean, 'card_holds'). Laid BY PROGRAM, IN A SANDBOX (cutbox-door.mjs). By AI agents, Wed Nov 11 2026. No macro, syntax, notation, axiom, sorry.
-/
import Derived.Test.YtdfgkdoplagelaaGreatDoorRows
import GoSem.ClaimSeven
namespace Go.Proofs.YtdfgkdoplagelaaGreatDoor
namespace Rows

/-- THE TIED CARD OF 'escritoirelaw12.WalkPaths'. -/
def walkPathsCard : Claim7 := { stood := { row := walkPathsRow, standIns := [], harness := (true, "3d2945c1d4854d32a72f6142de53d151bcbb25719da489a2033293d40217c708"), looks := false }, kinds := [], alts := [], laidByText := true, laidKinds := [.data, .pinned], laidTests := true, laidLooks := .later }
def WalkPathsCardSaid : Prop := Claim7.holds Tryz.pinned (.plain (OpenSpec.ofChange walkPathsSpec)) walkPathsCard

/-- THE TIED CARD OF 'escritoirelaw12.WalkNil'. -/
def walkNilCard : Claim7 := { stood := { row := walkNilRow, standIns := [], harness := (true, "3d2945c1d4854d32a72f6142de53d151bcbb25719da489a2033293d40217c708"), looks := false }, kinds := [], alts := [], laidByText := true, laidKinds := [.data, .pinned], laidTests := true, laidLooks := .later }
def WalkNilCardSaid : Prop := Claim7.holds Tryz.pinned (.plain (OpenSpec.ofChange walkNilSpec)) walkNilCard

/-- THE TIED CARD OF 'escritoirelaw12.WalkPlaces'. -/
def walkPlacesCard : Claim7 := { stood := { row := walkPlacesRow, standIns := [], harness := (true, "3d2945c1d4854d32a72f6142de53d151bcbb25719da489a2033293d40217c708"), looks := false }, kinds := [], alts := [], laidByText := true, laidKinds := [.data, .pinned], laidTests := true, laidLooks := .later }
def WalkPlacesCardSaid : Prop := Claim7.holds Tryz.pinned (.plain (OpenSpec.ofChange walkPlacesSpec)) walkPlacesCard

/-- THE SECOND FORM's CARD OF 'escritoirelaw12.WalkPaths'. -/
def walkPathsUptoCard : Claim7 := { stood := { row := walkPathsUptoRow, standIns := [], harness := (true, "3d2945c1d4854d32a72f6142de53d151bcbb25719da489a2033293d40217c708"), looks := false }, kinds := [], alts := [], laidByText := true, laidKinds := [.data, .pinned], laidTests := true, laidLooks := .later }
def WalkPathsUptoCardSaid : Prop := Claim7.holds Tryz.pinned (.plain (OpenSpec.upto walkPathsSpec)) walkPathsUptoCard

/-- THE SECOND FORM's CARD OF 'escritoirelaw12.WalkNil'. -/
def walkNilUptoCard : Claim7 := { stood := { row := walkNilUptoRow, standIns := [], harness := (true, "3d2945c1d4854d32a72f6142de53d151bcbb25719da489a2033293d40217c708"), looks := false }, kinds := [], alts := [], laidByText := true, laidKinds := [.data, .pinned], laidTests := true, laidLooks := .later }
def WalkNilUptoCardSaid : Prop := Claim7.holds Tryz.pinned (.plain (OpenSpec.upto walkNilSpec)) walkNilUptoCard

/-- THE SECOND FORM's CARD OF 'escritoirelaw12.WalkPlaces'. -/
def walkPlacesUptoCard : Claim7 := { stood := { row := walkPlacesUptoRow, standIns := [], harness := (true, "3d2945c1d4854d32a72f6142de53d151bcbb25719da489a2033293d40217c708"), looks := false }, kinds := [], alts := [], laidByText := true, laidKinds := [.data, .pinned], laidTests := true, laidLooks := .later }
def WalkPlacesUptoCardSaid : Prop := Claim7.holds Tryz.pinned (.plain (OpenSpec.upto walkPlacesSpec)) walkPlacesUptoCard
end Rows
end Go.Proofs.YtdfgkdoplagelaaGreatDoor
