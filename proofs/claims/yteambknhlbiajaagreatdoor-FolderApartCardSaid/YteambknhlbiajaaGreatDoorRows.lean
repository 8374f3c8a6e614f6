/-
  NARROWER THAN 'FOR EVERY INPUT', by the rows' own cells (each row's printed sentence says how): FolderOdd: laid · FolderNil: laid · FolderPlays: laid · FolderOrder: laid · FolderApart: laid.
  DERIVED. THE GIVEN ROWS OF THIS SEAT. 5 by the template 'for every input the law returns true; each argument reads behind the call as it read before'; 0 by the template 'total and deterministic' (their statements: YteambknhlbiajaaGreatDoorTotals.lean).
  GIVEN WITH THE SEED: the statements are not yours to turn. If you find one false, say at which input.
  Laid BY PROGRAM, IN A SANDBOX (cutbox-rows.mjs): the forced cells as the released guide's own fill.sh prints them over the translation 776bef031621bac9… (all of the seat's roots in one cut). By AI agents, Wed Nov 11 2026. No macro, syntax, notation, axiom, sorry.
-/
import Derived.Test.YteambknhlbiajaaGreatDoorChecked
import GoSem.PinnedTables
import GoSem.Claim
import GoSem.ClaimJoined
import GoSem.ClaimMapViews
import Derived.JoinedTies
import Derived.KernelRfl
namespace Go.Proofs.YteambknhlbiajaaGreatDoor
/- THE CELL 'sum', in the pinned program and in every row, IS THE sha256 OF THE DUMP (.gsa) THAT YteambknhlbiajaaGreatDoorProg.lean LOADS. Nothing in Lean hashes anything: it is a label: what it is worth is what the hold of that sum in a sandbox is worth. -/
noncomputable def Tryz.pinned : Pinned := { name := "yteambknhlbiajaagreatdoor", sum := "776bef031621bac9acfb4f41d5c4019d91214b0bc156d7fc69d75abac97c26cf", checked := Tryz.checked }
namespace Rows
def none {H : Type} : Left H := { results := [], args := [] }

/- WHAT THE LISTED PACKAGE-LEVEL VARIABLES READ AS WHEN THE CALL BEGINS. Each datum BY PROGRAM (the guide's laid-datum.mjs) off the statement by which the dump's own 'gosem.cut.vars' lays the variable. In a bare row this is a premise. The card (YteambknhlbiajaaGreatDoorCards.lean) ties it to the program's text. -/
def laid_unicode_utf8_acceptRanges {H : Type} : DataW H := .agg [.agg [.lit (.int .u8 128), .lit (.int .u8 191)], .agg [.lit (.int .u8 160), .lit (.int .u8 191)], .agg [.lit (.int .u8 128), .lit (.int .u8 159)], .agg [.lit (.int .u8 144), .lit (.int .u8 191)], .agg [.lit (.int .u8 128), .lit (.int .u8 143)], .agg [.lit (.int .u8 0), .lit (.int .u8 0)], .agg [.lit (.int .u8 0), .lit (.int .u8 0)], .agg [.lit (.int .u8 0), .lit (.int .u8 0)], .agg [.lit (.int .u8 0), .lit (.int .u8 0)], .agg [.lit (.int .u8 0), .lit (.int .u8 0)], .agg [.lit (.int .u8 0), .lit (.int .u8 0)], .agg [.lit (.int .u8 0), .lit (.int .u8 0)], .agg [.lit (.int .u8 0), .lit (.int .u8 0)], .agg [.lit (.int .u8 0), .lit (.int .u8 0)], .agg [.lit (.int .u8 0), .lit (.int .u8 0)], .agg [.lit (.int .u8 0), .lit (.int .u8 0)]]
/-- One of Go's own tables, pinned by name: the form's constant. -/
def laid_unicode_utf8_first : DataW Unit := Go.Pinned.utf8First

/-- 'escritoirelaw11.FolderOdd': WHATEVER THE INPUT: true; the input reads as it did. -/
def folderOddSpec : ChangeSpec := { name := "folderOdd", fn := fun _ => fun
  | [d1, d2, d3] => { results := [.lit (.bool true)], args := [d1, d2, d3] }
  | _ => none }
def folderOddRow : OpenClaim := { program := "yteambknhlbiajaagreatdoor", sum := "776bef031621bac9acfb4f41d5c4019d91214b0bc156d7fc69d75abac97c26cf", func := "escritoire/escritoirelaw11.FolderOdd", spec := "folderOdd", inPlace := ["internal/bytealg.IndexByteString", "internal/bytealg.IndexString"], unfollowed := true, recurses := true, named := ["internal/bytealg.MaxLen", "unicode/utf8.first", "unicode/utf8.acceptRanges"], apart := false, laid := [("unicode/utf8.acceptRanges", laid_unicode_utf8_acceptRanges), ("unicode/utf8.first", laid_unicode_utf8_first)] }
def FolderOddSaid : Prop := folderOddRow.holds Tryz.pinned (OpenSpec.ofChange folderOddSpec)

/-- ITS FALSE NEIGHBOUR: 'it returns false'. Refute it at one input. -/
def folderOddWrong : ChangeSpec := { name := "folderOdd", fn := fun _ => fun
  | [d1, d2, d3] => { results := [.lit (.bool false)], args := [d1, d2, d3] }
  | _ => none }
def FolderOddWrongFalsely : Prop := folderOddRow.holds Tryz.pinned (OpenSpec.ofChange folderOddWrong)

/-- 'escritoirelaw11.FolderNil': WHATEVER THE INPUT: true; the input reads as it did. -/
def folderNilSpec : ChangeSpec := { name := "folderNil", fn := fun _ => fun
  | [d1, d2, d3] => { results := [.lit (.bool true)], args := [d1, d2, d3] }
  | _ => none }
def folderNilRow : OpenClaim := { program := "yteambknhlbiajaagreatdoor", sum := "776bef031621bac9acfb4f41d5c4019d91214b0bc156d7fc69d75abac97c26cf", func := "escritoire/escritoirelaw11.FolderNil", spec := "folderNil", inPlace := ["internal/bytealg.IndexByteString", "internal/bytealg.IndexString"], unfollowed := true, recurses := true, named := ["internal/bytealg.MaxLen", "unicode/utf8.first", "unicode/utf8.acceptRanges"], apart := false, laid := [("unicode/utf8.acceptRanges", laid_unicode_utf8_acceptRanges), ("unicode/utf8.first", laid_unicode_utf8_first)] }
def FolderNilSaid : Prop := folderNilRow.holds Tryz.pinned (OpenSpec.ofChange folderNilSpec)

/-- ITS FALSE NEIGHBOUR: 'it returns false'. Refute it at one input. -/
def folderNilWrong : ChangeSpec := { name := "folderNil", fn := fun _ => fun
  | [d1, d2, d3] => { results := [.lit (.bool false)], args := [d1, d2, d3] }
  | _ => none }
def FolderNilWrongFalsely : Prop := folderNilRow.holds Tryz.pinned (OpenSpec.ofChange folderNilWrong)

/-- 'escritoirelaw11.FolderPlays': WHATEVER THE INPUT: true; the input reads as it did. -/
def folderPlaysSpec : ChangeSpec := { name := "folderPlays", fn := fun _ => fun
  | [d] => { results := [.lit (.bool true)], args := [d] }
  | _ => none }
def folderPlaysRow : OpenClaim := { program := "yteambknhlbiajaagreatdoor", sum := "776bef031621bac9acfb4f41d5c4019d91214b0bc156d7fc69d75abac97c26cf", func := "escritoire/escritoirelaw11.FolderPlays", spec := "folderPlays", inPlace := ["internal/bytealg.IndexByteString", "internal/bytealg.IndexString"], unfollowed := true, recurses := true, named := ["internal/bytealg.MaxLen", "unicode/utf8.first", "unicode/utf8.acceptRanges"], apart := false, laid := [("unicode/utf8.acceptRanges", laid_unicode_utf8_acceptRanges), ("unicode/utf8.first", laid_unicode_utf8_first)] }
def FolderPlaysSaid : Prop := folderPlaysRow.holds Tryz.pinned (OpenSpec.ofChange folderPlaysSpec)

/-- ITS FALSE NEIGHBOUR: 'it returns false'. Refute it at one input. -/
def folderPlaysWrong : ChangeSpec := { name := "folderPlays", fn := fun _ => fun
  | [d] => { results := [.lit (.bool false)], args := [d] }
  | _ => none }
def FolderPlaysWrongFalsely : Prop := folderPlaysRow.holds Tryz.pinned (OpenSpec.ofChange folderPlaysWrong)

/-- 'escritoirelaw11.FolderOrder': WHATEVER THE INPUT: true; the input reads as it did. -/
def folderOrderSpec : ChangeSpec := { name := "folderOrder", fn := fun _ => fun
  | [d] => { results := [.lit (.bool true)], args := [d] }
  | _ => none }
def folderOrderRow : OpenClaim := { program := "yteambknhlbiajaagreatdoor", sum := "776bef031621bac9acfb4f41d5c4019d91214b0bc156d7fc69d75abac97c26cf", func := "escritoire/escritoirelaw11.FolderOrder", spec := "folderOrder", inPlace := ["internal/bytealg.IndexByteString", "internal/bytealg.IndexString"], unfollowed := true, recurses := true, named := ["internal/bytealg.MaxLen", "unicode/utf8.first", "unicode/utf8.acceptRanges"], apart := false, laid := [("unicode/utf8.acceptRanges", laid_unicode_utf8_acceptRanges), ("unicode/utf8.first", laid_unicode_utf8_first)] }
def FolderOrderSaid : Prop := folderOrderRow.holds Tryz.pinned (OpenSpec.ofChange folderOrderSpec)

/-- ITS FALSE NEIGHBOUR: 'it returns false'. Refute it at one input. -/
def folderOrderWrong : ChangeSpec := { name := "folderOrder", fn := fun _ => fun
  | [d] => { results := [.lit (.bool false)], args := [d] }
  | _ => none }
def FolderOrderWrongFalsely : Prop := folderOrderRow.holds Tryz.pinned (OpenSpec.ofChange folderOrderWrong)

/-- 'escritoirelaw11.FolderApart': WHATEVER THE INPUT: true; the input reads as it did. -/
def folderApartSpec : ChangeSpec := { name := "folderApart", fn := fun _ => fun
  | [d1, d2] => { results := [.lit (.bool true)], args := [d1, d2] }
  | _ => none }
def folderApartRow : OpenClaim := { program := "yteambknhlbiajaagreatdoor", sum := "776bef031621bac9acfb4f41d5c4019d91214b0bc156d7fc69d75abac97c26cf", func := "escritoire/escritoirelaw11.FolderApart", spec := "folderApart", inPlace := ["internal/bytealg.IndexByteString", "internal/bytealg.IndexString"], unfollowed := true, recurses := true, named := ["internal/bytealg.MaxLen", "unicode/utf8.first", "unicode/utf8.acceptRanges"], apart := false, laid := [("unicode/utf8.acceptRanges", laid_unicode_utf8_acceptRanges), ("unicode/utf8.first", laid_unicode_utf8_first)] }
def FolderApartSaid : Prop := folderApartRow.holds Tryz.pinned (OpenSpec.ofChange folderApartSpec)

/-- ITS FALSE NEIGHBOUR: 'it returns false'. Refute it at one input. -/
def folderApartWrong : ChangeSpec := { name := "folderApart", fn := fun _ => fun
  | [d1, d2] => { results := [.lit (.bool false)], args := [d1, d2] }
  | _ => none }
def FolderApartWrongFalsely : Prop := folderApartRow.holds Tryz.pinned (OpenSpec.ofChange folderApartWrong)

/- THE SECOND FORM. 'bulk': how many values and letters a reading holds, each counted each time it is reached (what is shared counts as often as it is met; a slice's spare places count too). A statement '..UptoSaid' is the law's where the arguments, and the package variables that the reading takes, are together of bulk at most 1048576: NARROWER than '..Said'. Prove '..Said' where nothing that the law and all that it calls make is longer than what came in: it says more and counts as full. Else prove '..UptoSaid'. A law counts once. -/
mutual
def uptoBulk {H : Type} : DataW H → Nat
  | .lit (.string bytes) => bytes.length + 1
  | .lit _ => 1
  | .nil => 1
  | .ptr d => uptoBulk d + 1
  | .slice elems spare => uptoBulkAll elems + uptoBulkAll spare + 1
  | .agg parts => uptoBulkAll parts + 1
  | .iface _ d => uptoBulk d + 1
  | .map entries => uptoBulkEntries entries + 1
  | .held _ => 1
def uptoBulkAll {H : Type} : List (DataW H) → Nat
  | [] => 0
  | d :: r => uptoBulk d + uptoBulkAll r
def uptoBulkEntries {H : Type} : List (Lit × DataW H) → Nat
  | [] => 0
  | x :: r => uptoBulkEntry x + uptoBulkEntries r
def uptoBulkEntry {H : Type} : Lit × DataW H → Nat
  | (.string bytes, d) => bytes.length + uptoBulk d + 1
  | (_, d) => uptoBulk d + 1
 end
def uptoSmall : (H : Type) → List (DataW H) → Bool := fun _ ds => decide (uptoBulkAll ds ≤ 1048576)
def OpenSpec.upto (s : _root_.Go.ChangeSpec) : _root_.Go.OpenSpec := { _root_.Go.OpenSpec.ofChange s with cond := some uptoSmall }

/-- 'escritoirelaw11.FolderOdd', WHERE WHAT IT READS IS OF BULK AT MOST 1048576: true; the input reads as it did. -/
def folderOddUptoRow : OpenClaim := { program := "yteambknhlbiajaagreatdoor", sum := "776bef031621bac9acfb4f41d5c4019d91214b0bc156d7fc69d75abac97c26cf", func := "escritoire/escritoirelaw11.FolderOdd", spec := "folderOdd", inPlace := ["internal/bytealg.IndexByteString", "internal/bytealg.IndexString"], unfollowed := true, recurses := true, named := ["internal/bytealg.MaxLen", "unicode/utf8.first", "unicode/utf8.acceptRanges"], apart := false, laid := [("unicode/utf8.acceptRanges", laid_unicode_utf8_acceptRanges), ("unicode/utf8.first", laid_unicode_utf8_first)], narrowed := true }
def FolderOddUptoSaid : Prop := folderOddUptoRow.holds Tryz.pinned (OpenSpec.upto folderOddSpec)

/-- 'escritoirelaw11.FolderNil', WHERE WHAT IT READS IS OF BULK AT MOST 1048576: true; the input reads as it did. -/
def folderNilUptoRow : OpenClaim := { program := "yteambknhlbiajaagreatdoor", sum := "776bef031621bac9acfb4f41d5c4019d91214b0bc156d7fc69d75abac97c26cf", func := "escritoire/escritoirelaw11.FolderNil", spec := "folderNil", inPlace := ["internal/bytealg.IndexByteString", "internal/bytealg.IndexString"], unfollowed := true, recurses := true, named := ["internal/bytealg.MaxLen", "unicode/utf8.first", "unicode/utf8.acceptRanges"], apart := false, laid := [("unicode/utf8.acceptRanges", laid_unicode_utf8_acceptRanges), ("unicode/utf8.first", laid_unicode_utf8_first)], narrowed := true }
def FolderNilUptoSaid : Prop := folderNilUptoRow.holds Tryz.pinned (OpenSpec.upto folderNilSpec)

/-- 'escritoirelaw11.FolderPlays', WHERE WHAT IT READS IS OF BULK AT MOST 1048576: true; the input reads as it did. -/
def folderPlaysUptoRow : OpenClaim := { program := "yteambknhlbiajaagreatdoor", sum := "776bef031621bac9acfb4f41d5c4019d91214b0bc156d7fc69d75abac97c26cf", func := "escritoire/escritoirelaw11.FolderPlays", spec := "folderPlays", inPlace := ["internal/bytealg.IndexByteString", "internal/bytealg.IndexString"], unfollowed := true, recurses := true, named := ["internal/bytealg.MaxLen", "unicode/utf8.first", "unicode/utf8.acceptRanges"], apart := false, laid := [("unicode/utf8.acceptRanges", laid_unicode_utf8_acceptRanges), ("unicode/utf8.first", laid_unicode_utf8_first)], narrowed := true }
def FolderPlaysUptoSaid : Prop := folderPlaysUptoRow.holds Tryz.pinned (OpenSpec.upto folderPlaysSpec)

/-- 'escritoirelaw11.FolderOrder', WHERE WHAT IT READS IS OF BULK AT MOST 1048576: true; the input reads as it did. -/
def folderOrderUptoRow : OpenClaim := { program := "yteambknhlbiajaagreatdoor", sum := "776bef031621bac9acfb4f41d5c4019d91214b0bc156d7fc69d75abac97c26cf", func := "escritoire/escritoirelaw11.FolderOrder", spec := "folderOrder", inPlace := ["internal/bytealg.IndexByteString", "internal/bytealg.IndexString"], unfollowed := true, recurses := true, named := ["internal/bytealg.MaxLen", "unicode/utf8.first", "unicode/utf8.acceptRanges"], apart := false, laid := [("unicode/utf8.acceptRanges", laid_unicode_utf8_acceptRanges), ("unicode/utf8.first", laid_unicode_utf8_first)], narrowed := true }
def FolderOrderUptoSaid : Prop := folderOrderUptoRow.holds Tryz.pinned (OpenSpec.upto folderOrderSpec)

/-- 'escritoirelaw11.FolderApart', WHERE WHAT IT READS IS OF BULK AT MOST 1048576: true; the input reads as it did. -/
def folderApartUptoRow : OpenClaim := { program := "yteambknhlbiajaagreatdoor", sum := "776bef031621bac9acfb4f41d5c4019d91214b0bc156d7fc69d75abac97c26cf", func := "escritoire/escritoirelaw11.FolderApart", spec := "folderApart", inPlace := ["internal/bytealg.IndexByteString", "internal/bytealg.IndexString"], unfollowed := true, recurses := true, named := ["internal/bytealg.MaxLen", "unicode/utf8.first", "unicode/utf8.acceptRanges"], apart := false, laid := [("unicode/utf8.acceptRanges", laid_unicode_utf8_acceptRanges), ("unicode/utf8.first", laid_unicode_utf8_first)], narrowed := true }
def FolderApartUptoSaid : Prop := folderApartUptoRow.holds Tryz.pinned (OpenSpec.upto folderApartSpec)

end Rows
end Go.Proofs.YteambknhlbiajaaGreatDoor
