/-
  NARROWER THAN 'FOR EVERY INPUT', by the rows' own cells (each row's printed sentence says how): CallsOwn: laid · CallsPlay: laid · CallsRename: laid · CallsSyms: laid · CallsTwice: laid · CallsNoted: laid · CallsRoom: laid.
  DERIVED. THE GIVEN ROWS OF THIS SEAT. 7 by the template 'for every input the law returns true; each argument reads behind the call as it read before'; 0 by the template 'total and deterministic' (their statements: YtoociceebodfeaaGreatDoorTotals.lean).
  GIVEN WITH THE SEED: the statements are not yours to turn. If you find one false, say at which input.
  Laid BY PROGRAM, IN A SANDBOX (cutbox-rows.mjs): the forced cells as the released guide's own fill.sh prints them over the translation 396fa822c05472c0… (all of the seat's roots in one cut). By AI agents, Wed Nov 11 2026. No macro, syntax, notation, axiom, sorry.
-/
import Derived.Test.YtoociceebodfeaaGreatDoorChecked
import GoSem.PinnedTables
import GoSem.Claim
import GoSem.ClaimJoined
import GoSem.ClaimMapViews
import Derived.JoinedTies
import Derived.KernelRfl
namespace Go.Proofs.YtoociceebodfeaaGreatDoor
/- THE CELL 'sum', in the pinned program and in every row, IS THE sha256 OF THE DUMP (.gsa) THAT YtoociceebodfeaaGreatDoorProg.lean LOADS. Nothing in Lean hashes anything: it is a label: what it is worth is what the hold of that sum in a sandbox is worth. -/
noncomputable def Tryz.pinned : Pinned := { name := "ytoociceebodfeaagreatdoor", sum := "396fa822c05472c09a1cb19d3d8ddd3421ae1565466a51424663f8dda4178953", checked := Tryz.checked }
namespace Rows
def none {H : Type} : Left H := { results := [], args := [] }

/- WHAT THE LISTED PACKAGE-LEVEL VARIABLES READ AS WHEN THE CALL BEGINS. Each datum BY PROGRAM (the guide's laid-datum.mjs) off the statement by which the dump's own 'gosem.cut.vars' lays the variable. In a bare row this is a premise. The card (YtoociceebodfeaaGreatDoorCards.lean) ties it to the program's text. -/
def laid_unicode_utf8_acceptRanges {H : Type} : DataW H := .agg [.agg [.lit (.int .u8 128), .lit (.int .u8 191)], .agg [.lit (.int .u8 160), .lit (.int .u8 191)], .agg [.lit (.int .u8 128), .lit (.int .u8 159)], .agg [.lit (.int .u8 144), .lit (.int .u8 191)], .agg [.lit (.int .u8 128), .lit (.int .u8 143)], .agg [.lit (.int .u8 0), .lit (.int .u8 0)], .agg [.lit (.int .u8 0), .lit (.int .u8 0)], .agg [.lit (.int .u8 0), .lit (.int .u8 0)], .agg [.lit (.int .u8 0), .lit (.int .u8 0)], .agg [.lit (.int .u8 0), .lit (.int .u8 0)], .agg [.lit (.int .u8 0), .lit (.int .u8 0)], .agg [.lit (.int .u8 0), .lit (.int .u8 0)], .agg [.lit (.int .u8 0), .lit (.int .u8 0)], .agg [.lit (.int .u8 0), .lit (.int .u8 0)], .agg [.lit (.int .u8 0), .lit (.int .u8 0)], .agg [.lit (.int .u8 0), .lit (.int .u8 0)]]
/-- One of Go's own tables, pinned by name: the form's constant. -/
def laid_unicode_utf8_first : DataW Unit := Go.Pinned.utf8First

/-- 'escritoirelaw13.CallsOwn': WHATEVER THE INPUT: true; the input reads as it did. -/
def callsOwnSpec : ChangeSpec := { name := "callsOwn", fn := fun _ => fun
  | [d] => { results := [.lit (.bool true)], args := [d] }
  | _ => none }
def callsOwnRow : OpenClaim := { program := "ytoociceebodfeaagreatdoor", sum := "396fa822c05472c09a1cb19d3d8ddd3421ae1565466a51424663f8dda4178953", func := "escritoire/escritoirelaw13.CallsOwn", spec := "callsOwn", inPlace := ["internal/bytealg.CountString", "internal/bytealg.IndexByteString", "internal/bytealg.IndexString", "internal/abi.NoEscape", "internal/bytealg.MakeNoZero"], unfollowed := true, recurses := true, named := ["unicode/utf8.first", "unicode/utf8.acceptRanges", "internal/bytealg.MaxLen"], apart := false, laid := [("unicode/utf8.acceptRanges", laid_unicode_utf8_acceptRanges), ("unicode/utf8.first", laid_unicode_utf8_first)] }
def CallsOwnSaid : Prop := callsOwnRow.holds Tryz.pinned (OpenSpec.ofChange callsOwnSpec)

/-- ITS FALSE NEIGHBOUR: 'it returns false'. Refute it at one input. -/
def callsOwnWrong : ChangeSpec := { name := "callsOwn", fn := fun _ => fun
  | [d] => { results := [.lit (.bool false)], args := [d] }
  | _ => none }
def CallsOwnWrongFalsely : Prop := callsOwnRow.holds Tryz.pinned (OpenSpec.ofChange callsOwnWrong)

/-- 'escritoirelaw13.CallsPlay': WHATEVER THE INPUT: true; the input reads as it did. -/
def callsPlaySpec : ChangeSpec := { name := "callsPlay", fn := fun _ => fun
  | [d] => { results := [.lit (.bool true)], args := [d] }
  | _ => none }
def callsPlayRow : OpenClaim := { program := "ytoociceebodfeaagreatdoor", sum := "396fa822c05472c09a1cb19d3d8ddd3421ae1565466a51424663f8dda4178953", func := "escritoire/escritoirelaw13.CallsPlay", spec := "callsPlay", inPlace := ["internal/bytealg.CountString", "internal/bytealg.IndexByteString", "internal/bytealg.IndexString", "internal/abi.NoEscape", "internal/bytealg.MakeNoZero"], unfollowed := true, recurses := true, named := ["unicode/utf8.first", "unicode/utf8.acceptRanges", "internal/bytealg.MaxLen"], apart := false, laid := [("unicode/utf8.acceptRanges", laid_unicode_utf8_acceptRanges), ("unicode/utf8.first", laid_unicode_utf8_first)] }
def CallsPlaySaid : Prop := callsPlayRow.holds Tryz.pinned (OpenSpec.ofChange callsPlaySpec)

/-- ITS FALSE NEIGHBOUR: 'it returns false'. Refute it at one input. -/
def callsPlayWrong : ChangeSpec := { name := "callsPlay", fn := fun _ => fun
  | [d] => { results := [.lit (.bool false)], args := [d] }
  | _ => none }
def CallsPlayWrongFalsely : Prop := callsPlayRow.holds Tryz.pinned (OpenSpec.ofChange callsPlayWrong)

/-- 'escritoirelaw13.CallsRename': WHATEVER THE INPUT: true; the input reads as it did. -/
def callsRenameSpec : ChangeSpec := { name := "callsRename", fn := fun _ => fun
  | [d1, d2] => { results := [.lit (.bool true)], args := [d1, d2] }
  | _ => none }
def callsRenameRow : OpenClaim := { program := "ytoociceebodfeaagreatdoor", sum := "396fa822c05472c09a1cb19d3d8ddd3421ae1565466a51424663f8dda4178953", func := "escritoire/escritoirelaw13.CallsRename", spec := "callsRename", inPlace := ["internal/bytealg.CountString", "internal/bytealg.IndexByteString", "internal/bytealg.IndexString", "internal/abi.NoEscape", "internal/bytealg.MakeNoZero"], unfollowed := true, recurses := true, named := ["unicode/utf8.first", "unicode/utf8.acceptRanges", "internal/bytealg.MaxLen"], apart := false, laid := [("unicode/utf8.acceptRanges", laid_unicode_utf8_acceptRanges), ("unicode/utf8.first", laid_unicode_utf8_first)] }
def CallsRenameSaid : Prop := callsRenameRow.holds Tryz.pinned (OpenSpec.ofChange callsRenameSpec)

/-- ITS FALSE NEIGHBOUR: 'it returns false'. Refute it at one input. -/
def callsRenameWrong : ChangeSpec := { name := "callsRename", fn := fun _ => fun
  | [d1, d2] => { results := [.lit (.bool false)], args := [d1, d2] }
  | _ => none }
def CallsRenameWrongFalsely : Prop := callsRenameRow.holds Tryz.pinned (OpenSpec.ofChange callsRenameWrong)

/-- 'escritoirelaw13.CallsSyms': WHATEVER THE INPUT: true; the input reads as it did. -/
def callsSymsSpec : ChangeSpec := { name := "callsSyms", fn := fun _ => fun
  | [d1, d2] => { results := [.lit (.bool true)], args := [d1, d2] }
  | _ => none }
def callsSymsRow : OpenClaim := { program := "ytoociceebodfeaagreatdoor", sum := "396fa822c05472c09a1cb19d3d8ddd3421ae1565466a51424663f8dda4178953", func := "escritoire/escritoirelaw13.CallsSyms", spec := "callsSyms", inPlace := ["internal/bytealg.CountString", "internal/bytealg.IndexByteString", "internal/bytealg.IndexString", "internal/abi.NoEscape", "internal/bytealg.MakeNoZero"], unfollowed := true, recurses := true, named := ["unicode/utf8.first", "unicode/utf8.acceptRanges", "internal/bytealg.MaxLen"], apart := false, laid := [("unicode/utf8.acceptRanges", laid_unicode_utf8_acceptRanges), ("unicode/utf8.first", laid_unicode_utf8_first)] }
def CallsSymsSaid : Prop := callsSymsRow.holds Tryz.pinned (OpenSpec.ofChange callsSymsSpec)

/-- ITS FALSE NEIGHBOUR: 'it returns false'. Refute it at one input. -/
def callsSymsWrong : ChangeSpec := { name := "callsSyms", fn := fun _ => fun
  | [d1, d2] => { results := [.lit (.bool false)], args := [d1, d2] }
  | _ => none }
def CallsSymsWrongFalsely : Prop := callsSymsRow.holds Tryz.pinned (OpenSpec.ofChange callsSymsWrong)

/-- 'escritoirelaw13.CallsTwice': WHATEVER THE INPUT: true; the input reads as it did. -/
def callsTwiceSpec : ChangeSpec := { name := "callsTwice", fn := fun _ => fun
  | [d1, d2] => { results := [.lit (.bool true)], args := [d1, d2] }
  | _ => none }
def callsTwiceRow : OpenClaim := { program := "ytoociceebodfeaagreatdoor", sum := "396fa822c05472c09a1cb19d3d8ddd3421ae1565466a51424663f8dda4178953", func := "escritoire/escritoirelaw13.CallsTwice", spec := "callsTwice", inPlace := ["internal/bytealg.CountString", "internal/bytealg.IndexByteString", "internal/bytealg.IndexString", "internal/abi.NoEscape", "internal/bytealg.MakeNoZero"], unfollowed := true, recurses := true, named := ["unicode/utf8.first", "unicode/utf8.acceptRanges", "internal/bytealg.MaxLen"], apart := false, laid := [("unicode/utf8.acceptRanges", laid_unicode_utf8_acceptRanges), ("unicode/utf8.first", laid_unicode_utf8_first)] }
def CallsTwiceSaid : Prop := callsTwiceRow.holds Tryz.pinned (OpenSpec.ofChange callsTwiceSpec)

/-- ITS FALSE NEIGHBOUR: 'it returns false'. Refute it at one input. -/
def callsTwiceWrong : ChangeSpec := { name := "callsTwice", fn := fun _ => fun
  | [d1, d2] => { results := [.lit (.bool false)], args := [d1, d2] }
  | _ => none }
def CallsTwiceWrongFalsely : Prop := callsTwiceRow.holds Tryz.pinned (OpenSpec.ofChange callsTwiceWrong)

/-- 'escritoirelaw13.CallsNoted': WHATEVER THE INPUT: true; the input reads as it did. -/
def callsNotedSpec : ChangeSpec := { name := "callsNoted", fn := fun _ => fun
  | [d1, d2] => { results := [.lit (.bool true)], args := [d1, d2] }
  | _ => none }
def callsNotedRow : OpenClaim := { program := "ytoociceebodfeaagreatdoor", sum := "396fa822c05472c09a1cb19d3d8ddd3421ae1565466a51424663f8dda4178953", func := "escritoire/escritoirelaw13.CallsNoted", spec := "callsNoted", inPlace := ["internal/bytealg.CountString", "internal/bytealg.IndexByteString", "internal/bytealg.IndexString", "internal/abi.NoEscape", "internal/bytealg.MakeNoZero"], unfollowed := true, recurses := true, named := ["unicode/utf8.first", "unicode/utf8.acceptRanges", "internal/bytealg.MaxLen"], apart := false, laid := [("unicode/utf8.acceptRanges", laid_unicode_utf8_acceptRanges), ("unicode/utf8.first", laid_unicode_utf8_first)] }
def CallsNotedSaid : Prop := callsNotedRow.holds Tryz.pinned (OpenSpec.ofChange callsNotedSpec)

/-- ITS FALSE NEIGHBOUR: 'it returns false'. Refute it at one input. -/
def callsNotedWrong : ChangeSpec := { name := "callsNoted", fn := fun _ => fun
  | [d1, d2] => { results := [.lit (.bool false)], args := [d1, d2] }
  | _ => none }
def CallsNotedWrongFalsely : Prop := callsNotedRow.holds Tryz.pinned (OpenSpec.ofChange callsNotedWrong)

/-- 'escritoirelaw13.CallsRoom': WHATEVER THE INPUT: true; the input reads as it did. -/
def callsRoomSpec : ChangeSpec := { name := "callsRoom", fn := fun _ => fun
  | [d] => { results := [.lit (.bool true)], args := [d] }
  | _ => none }
def callsRoomRow : OpenClaim := { program := "ytoociceebodfeaagreatdoor", sum := "396fa822c05472c09a1cb19d3d8ddd3421ae1565466a51424663f8dda4178953", func := "escritoire/escritoirelaw13.CallsRoom", spec := "callsRoom", inPlace := ["internal/bytealg.CountString", "internal/bytealg.IndexByteString", "internal/bytealg.IndexString", "internal/abi.NoEscape", "internal/bytealg.MakeNoZero"], unfollowed := true, recurses := true, named := ["unicode/utf8.first", "unicode/utf8.acceptRanges", "internal/bytealg.MaxLen"], apart := false, laid := [("unicode/utf8.acceptRanges", laid_unicode_utf8_acceptRanges), ("unicode/utf8.first", laid_unicode_utf8_first)] }
def CallsRoomSaid : Prop := callsRoomRow.holds Tryz.pinned (OpenSpec.ofChange callsRoomSpec)

/-- ITS FALSE NEIGHBOUR: 'it returns false'. Refute it at one input. -/
def callsRoomWrong : ChangeSpec := { name := "callsRoom", fn := fun _ => fun
  | [d] => { results := [.lit (.bool false)], args := [d] }
  | _ => none }
def CallsRoomWrongFalsely : Prop := callsRoomRow.holds Tryz.pinned (OpenSpec.ofChange callsRoomWrong)

/- THE SECOND FORM. 'bulk': how many values and letters a reading holds, each counted each time it is reached (what is shared counts as often as it is met; a slice's spare places count too). A statement '..UptoSaid' is the law's where the arguments, and the package variables that the reading takes, are together of bulk at most 1048576: NARROWER than '..Said'. Prove '..Said' where nothing that the law and all that it calls make is longer than what came in: it says more and counts as full. Else prove '..UptoSaid'. A law counts once. -/
mutual
def uptoBulk {H : Type} : DataW H → Nat
  | .lit (.string bytes) => bytes.length + 1
  | .lit _ => 1
  | .nil => 1
  | .ptr d => uptoBulk d + 1
  | .slice elems spare => uptoBulkAll elems + uptoBulkAll spare + 1
  | .agg parts => uptoBulkAll parts + 1
  | .iface _ d => uptoBulk d + 1
  | .map entries => uptoBulkEntries entries + 1
  | .held _ => 1
def uptoBulkAll {H : Type} : List (DataW H) → Nat
  | [] => 0
  | d :: r => uptoBulk d + uptoBulkAll r
def uptoBulkEntries {H : Type} : List (Lit × DataW H) → Nat
  | [] => 0
  | x :: r => uptoBulkEntry x + uptoBulkEntries r
def uptoBulkEntry {H : Type} : Lit × DataW H → Nat
  | (.string bytes, d) => bytes.length + uptoBulk d + 1
  | (_, d) => uptoBulk d + 1
 end
def uptoSmall : (H : Type) → List (DataW H) → Bool := fun _ ds => decide (uptoBulkAll ds ≤ 1048576)
def OpenSpec.upto (s : _root_.Go.ChangeSpec) : _root_.Go.OpenSpec := { _root_.Go.OpenSpec.ofChange s with cond := some uptoSmall }

/-- 'escritoirelaw13.CallsOwn', WHERE WHAT IT READS IS OF BULK AT MOST 1048576: true; the input reads as it did. -/
def callsOwnUptoRow : OpenClaim := { program := "ytoociceebodfeaagreatdoor", sum := "396fa822c05472c09a1cb19d3d8ddd3421ae1565466a51424663f8dda4178953", func := "escritoire/escritoirelaw13.CallsOwn", spec := "callsOwn", inPlace := ["internal/bytealg.CountString", "internal/bytealg.IndexByteString", "internal/bytealg.IndexString", "internal/abi.NoEscape", "internal/bytealg.MakeNoZero"], unfollowed := true, recurses := true, named := ["unicode/utf8.first", "unicode/utf8.acceptRanges", "internal/bytealg.MaxLen"], apart := false, laid := [("unicode/utf8.acceptRanges", laid_unicode_utf8_acceptRanges), ("unicode/utf8.first", laid_unicode_utf8_first)], narrowed := true }
def CallsOwnUptoSaid : Prop := callsOwnUptoRow.holds Tryz.pinned (OpenSpec.upto callsOwnSpec)

/-- 'escritoirelaw13.CallsPlay', WHERE WHAT IT READS IS OF BULK AT MOST 1048576: true; the input reads as it did. -/
def callsPlayUptoRow : OpenClaim := { program := "ytoociceebodfeaagreatdoor", sum := "396fa822c05472c09a1cb19d3d8ddd3421ae1565466a51424663f8dda4178953", func := "escritoire/escritoirelaw13.CallsPlay", spec := "callsPlay", inPlace := ["internal/bytealg.CountString", "internal/bytealg.IndexByteString", "internal/bytealg.IndexString", "internal/abi.NoEscape", "internal/bytealg.MakeNoZero"], unfollowed := true, recurses := true, named := ["unicode/utf8.first", "unicode/utf8.acceptRanges", "internal/bytealg.MaxLen"], apart := false, laid := [("unicode/utf8.acceptRanges", laid_unicode_utf8_acceptRanges), ("unicode/utf8.first", laid_unicode_utf8_first)], narrowed := true }
def CallsPlayUptoSaid : Prop := callsPlayUptoRow.holds Tryz.pinned (OpenSpec.upto callsPlaySpec)

/-- 'escritoirelaw13.CallsRename', WHERE WHAT IT READS IS OF BULK AT MOST 1048576: true; the input reads as it did. -/
def callsRenameUptoRow : OpenClaim := { program := "ytoociceebodfeaagreatdoor", sum := "396fa822c05472c09a1cb19d3d8ddd3421ae1565466a51424663f8dda4178953", func := "escritoire/escritoirelaw13.CallsRename", spec := "callsRename", inPlace := ["internal/bytealg.CountString", "internal/bytealg.IndexByteString", "internal/bytealg.IndexString", "internal/abi.NoEscape", "internal/bytealg.MakeNoZero"], unfollowed := true, recurses := true, named := ["unicode/utf8.first", "unicode/utf8.acceptRanges", "internal/bytealg.MaxLen"], apart := false, laid := [("unicode/utf8.acceptRanges", laid_unicode_utf8_acceptRanges), ("unicode/utf8.first", laid_unicode_utf8_first)], narrowed := true }
def CallsRenameUptoSaid : Prop := callsRenameUptoRow.holds Tryz.pinned (OpenSpec.upto callsRenameSpec)

/-- 'escritoirelaw13.CallsSyms', WHERE WHAT IT READS IS OF BULK AT MOST 1048576: true; the input reads as it did. -/
def callsSymsUptoRow : OpenClaim := { program := "ytoociceebodfeaagreatdoor", sum := "396fa822c05472c09a1cb19d3d8ddd3421ae1565466a51424663f8dda4178953", func := "escritoire/escritoirelaw13.CallsSyms", spec := "callsSyms", inPlace := ["internal/bytealg.CountString", "internal/bytealg.IndexByteString", "internal/bytealg.IndexString", "internal/abi.NoEscape", "internal/bytealg.MakeNoZero"], unfollowed := true, recurses := true, named := ["unicode/utf8.first", "unicode/utf8.acceptRanges", "internal/bytealg.MaxLen"], apart := false, laid := [("unicode/utf8.acceptRanges", laid_unicode_utf8_acceptRanges), ("unicode/utf8.first", laid_unicode_utf8_first)], narrowed := true }
def CallsSymsUptoSaid : Prop := callsSymsUptoRow.holds Tryz.pinned (OpenSpec.upto callsSymsSpec)

/-- 'escritoirelaw13.CallsTwice', WHERE WHAT IT READS IS OF BULK AT MOST 1048576: true; the input reads as it did. -/
def callsTwiceUptoRow : OpenClaim := { program := "ytoociceebodfeaagreatdoor", sum := "396fa822c05472c09a1cb19d3d8ddd3421ae1565466a51424663f8dda4178953", func := "escritoire/escritoirelaw13.CallsTwice", spec := "callsTwice", inPlace := ["internal/bytealg.CountString", "internal/bytealg.IndexByteString", "internal/bytealg.IndexString", "internal/abi.NoEscape", "internal/bytealg.MakeNoZero"], unfollowed := true, recurses := true, named := ["unicode/utf8.first", "unicode/utf8.acceptRanges", "internal/bytealg.MaxLen"], apart := false, laid := [("unicode/utf8.acceptRanges", laid_unicode_utf8_acceptRanges), ("unicode/utf8.first", laid_unicode_utf8_first)], narrowed := true }
def CallsTwiceUptoSaid : Prop := callsTwiceUptoRow.holds Tryz.pinned (OpenSpec.upto callsTwiceSpec)

/-- 'escritoirelaw13.CallsNoted', WHERE WHAT IT READS IS OF BULK AT MOST 1048576: true; the input reads as it did. -/
def callsNotedUptoRow : OpenClaim := { program := "ytoociceebodfeaagreatdoor", sum := "396fa822c05472c09a1cb19d3d8ddd3421ae1565466a51424663f8dda4178953", func := "escritoire/escritoirelaw13.CallsNoted", spec := "callsNoted", inPlace := ["internal/bytealg.CountString", "internal/bytealg.IndexByteString", "internal/bytealg.IndexString", "internal/abi.NoEscape", "internal/bytealg.MakeNoZero"], unfollowed := true, recurses := true, named := ["unicode/utf8.first", "unicode/utf8.acceptRanges", "internal/bytealg.MaxLen"], apart := false, laid := [("unicode/utf8.acceptRanges", laid_unicode_utf8_acceptRanges), ("unicode/utf8.first", laid_unicode_utf8_first)], narrowed := true }
def CallsNotedUptoSaid : Prop := callsNotedUptoRow.holds Tryz.pinned (OpenSpec.upto callsNotedSpec)

/-- 'escritoirelaw13.CallsRoom', WHERE WHAT IT READS IS OF BULK AT MOST 1048576: true; the input reads as it did. -/
def callsRoomUptoRow : OpenClaim := { program := "ytoociceebodfeaagreatdoor", sum := "396fa822c05472c09a1cb19d3d8ddd3421ae1565466a51424663f8dda4178953", func := "escritoire/escritoirelaw13.CallsRoom", spec := "callsRoom", inPlace := ["internal/bytealg.CountString", "internal/bytealg.IndexByteString", "internal/bytealg.IndexString", "internal/abi.NoEscape", "internal/bytealg.MakeNoZero"], unfollowed := true, recurses := true, named := ["unicode/utf8.first", "unicode/utf8.acceptRanges", "internal/bytealg.MaxLen"], apart := false, laid := [("unicode/utf8.acceptRanges", laid_unicode_utf8_acceptRanges), ("unicode/utf8.first", laid_unicode_utf8_first)], narrowed := true }
def CallsRoomUptoSaid : Prop := callsRoomUptoRow.holds Tryz.pinned (OpenSpec.upto callsRoomSpec)

end Rows
end Go.Proofs.YtoociceebodfeaaGreatDoor
