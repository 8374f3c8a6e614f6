/-
  DERIVED. GIVEN WITH THE SEED: THE CARDS: each row of YteambknhlbiajaaGreatDoorRows.lean that lists a variable, with what it lists TIED to the program's text (the seventh form; the later family's looks); each row that meets fmt, with fmt's text TOLD by the authors' own Lean function (tested against real Go, not proved from fmt's source: count such statements apart). THE CARD IS WHAT COUNTS. Prove the row's statement (the work); the ties are given (YteambknhlbiajaaGreatDoorTie.lean); close each card by the builder's one call (the guide's Derived/Test/ToyasCard.lean, 'card_holds'). Laid BY PROGRAM, IN A SANDBOX (cutbox-door.mjs). By AI agents, Wed Nov 11 2026. No macro, syntax, notation, axiom, sorry.
-/
import Derived.Test.YteambknhlbiajaaGreatDoorRows
import GoSem.ClaimSeven
namespace Go.Proofs.YteambknhlbiajaaGreatDoor
namespace Rows

/-- THE TIED CARD OF 'escritoirelaw11.FolderOdd'. -/
def folderOddCard : Claim7 := { stood := { row := folderOddRow, standIns := [], harness := (true, "50ca520ecfbed84dc598e2b8c4aa288c1b3fecaa44642494d59e6936ecac0b04"), looks := false }, kinds := [], alts := [], laidByText := true, laidKinds := [.data, .pinned], laidTests := true, laidLooks := .later }
def FolderOddCardSaid : Prop := Claim7.holds Tryz.pinned (.plain (OpenSpec.ofChange folderOddSpec)) folderOddCard

/-- THE TIED CARD OF 'escritoirelaw11.FolderNil'. -/
def folderNilCard : Claim7 := { stood := { row := folderNilRow, standIns := [], harness := (true, "50ca520ecfbed84dc598e2b8c4aa288c1b3fecaa44642494d59e6936ecac0b04"), looks := false }, kinds := [], alts := [], laidByText := true, laidKinds := [.data, .pinned], laidTests := true, laidLooks := .later }
def FolderNilCardSaid : Prop := Claim7.holds Tryz.pinned (.plain (OpenSpec.ofChange folderNilSpec)) folderNilCard

/-- THE TIED CARD OF 'escritoirelaw11.FolderPlays'. -/
def folderPlaysCard : Claim7 := { stood := { row := folderPlaysRow, standIns := [], harness := (true, "50ca520ecfbed84dc598e2b8c4aa288c1b3fecaa44642494d59e6936ecac0b04"), looks := false }, kinds := [], alts := [], laidByText := true, laidKinds := [.data, .pinned], laidTests := true, laidLooks := .later }
def FolderPlaysCardSaid : Prop := Claim7.holds Tryz.pinned (.plain (OpenSpec.ofChange folderPlaysSpec)) folderPlaysCard

/-- THE TIED CARD OF 'escritoirelaw11.FolderOrder'. -/
def folderOrderCard : Claim7 := { stood := { row := folderOrderRow, standIns := [], harness := (true, "50ca520ecfbed84dc598e2b8c4aa288c1b3fecaa44642494d59e6936ecac0b04"), looks := false }, kinds := [], alts := [], laidByText := true, laidKinds := [.data, .pinned], laidTests := true, laidLooks := .later }
def FolderOrderCardSaid : Prop := Claim7.holds Tryz.pinned (.plain (OpenSpec.ofChange folderOrderSpec)) folderOrderCard

/-- THE TIED CARD OF 'escritoirelaw11.FolderApart'. -/
def folderApartCard : Claim7 := { stood := { row := folderApartRow, standIns := [], harness := (true, "50ca520ecfbed84dc598e2b8c4aa288c1b3fecaa44642494d59e6936ecac0b04"), looks := false }, kinds := [], alts := [], laidByText := true, laidKinds := [.data, .pinned], laidTests := true, laidLooks := .later }
def FolderApartCardSaid : Prop := Claim7.holds Tryz.pinned (.plain (OpenSpec.ofChange folderApartSpec)) folderApartCard

/-- THE SECOND FORM's CARD OF 'escritoirelaw11.FolderOdd'. -/
def folderOddUptoCard : Claim7 := { stood := { row := folderOddUptoRow, standIns := [], harness := (true, "50ca520ecfbed84dc598e2b8c4aa288c1b3fecaa44642494d59e6936ecac0b04"), looks := false }, kinds := [], alts := [], laidByText := true, laidKinds := [.data, .pinned], laidTests := true, laidLooks := .later }
def FolderOddUptoCardSaid : Prop := Claim7.holds Tryz.pinned (.plain (OpenSpec.upto folderOddSpec)) folderOddUptoCard

/-- THE SECOND FORM's CARD OF 'escritoirelaw11.FolderNil'. -/
def folderNilUptoCard : Claim7 := { stood := { row := folderNilUptoRow, standIns := [], harness := (true, "50ca520ecfbed84dc598e2b8c4aa288c1b3fecaa44642494d59e6936ecac0b04"), looks := false }, kinds := [], alts := [], laidByText := true, laidKinds := [.data, .pinned], laidTests := true, laidLooks := .later }
def FolderNilUptoCardSaid : Prop := Claim7.holds Tryz.pinned (.plain (OpenSpec.upto folderNilSpec)) folderNilUptoCard

/-- THE SECOND FORM's CARD OF 'escritoirelaw11.FolderPlays'. -/
def folderPlaysUptoCard : Claim7 := { stood := { row := folderPlaysUptoRow, standIns := [], harness := (true, "50ca520ecfbed84dc598e2b8c4aa288c1b3fecaa44642494d59e6936ecac0b04"), looks := false }, kinds := [], alts := [], laidByText := true, laidKinds := [.data, .pinned], laidTests := true, laidLooks := .later }
def FolderPlaysUptoCardSaid : Prop := Claim7.holds Tryz.pinned (.plain (OpenSpec.upto folderPlaysSpec)) folderPlaysUptoCard

/-- THE SECOND FORM's CARD OF 'escritoirelaw11.FolderOrder'. -/
def folderOrderUptoCard : Claim7 := { stood := { row := folderOrderUptoRow, standIns := [], harness := (true, "50ca520ecfbed84dc598e2b8c4aa288c1b3fecaa44642494d59e6936ecac0b04"), looks := false }, kinds := [], alts := [], laidByText := true, laidKinds := [.data, .pinned], laidTests := true, laidLooks := .later }
def FolderOrderUptoCardSaid : Prop := Claim7.holds Tryz.pinned (.plain (OpenSpec.upto folderOrderSpec)) folderOrderUptoCard

/-- THE SECOND FORM's CARD OF 'escritoirelaw11.FolderApart'. -/
def folderApartUptoCard : Claim7 := { stood := { row := folderApartUptoRow, standIns := [], harness := (true, "50ca520ecfbed84dc598e2b8c4aa288c1b3fecaa44642494d59e6936ecac0b04"), looks := false }, kinds := [], alts := [], laidByText := true, laidKinds := [.data, .pinned], laidTests := true, laidLooks := .later }
def FolderApartUptoCardSaid : Prop := Claim7.holds Tryz.pinned (.plain (OpenSpec.upto folderApartSpec)) folderApartUptoCard
end Rows
end Go.Proofs.YteambknhlbiajaaGreatDoor
