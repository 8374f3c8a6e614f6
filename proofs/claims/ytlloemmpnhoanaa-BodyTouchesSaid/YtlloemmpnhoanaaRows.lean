/-
  No cell of these rows narrows 'for every input' (looked for: loops, veiled, ifaces, maps, wideKeys, modest, calm, conditions, laid).
  DERIVED. THE GIVEN ROWS OF THIS SEAT. 3 by the template 'for every input the law returns true; each argument reads behind the call as it read before'; 0 by the template 'total and deterministic' (their statements: YtlloemmpnhoanaaTotals.lean).
  GIVEN WITH THE SEED: the statements are not yours to turn. If you find one false, say at which input.
  Laid BY PROGRAM, IN A SANDBOX (cutbox-rows.mjs): the forced cells as the released guide's own fill.sh prints them over the translation 9d419265a89d31b2… (all of the seat's roots in one cut). By AI agents, Wed Nov 11 2026. No macro, syntax, notation, axiom, sorry.
-/
import Derived.Test.YtlloemmpnhoanaaChecked
import GoSem.Claim
import GoSem.ClaimJoined
import GoSem.ClaimMapViews
import Derived.JoinedTies
import Derived.KernelRfl
namespace Go.Proofs.Ytlloemmpnhoanaa
/- THE CELL 'sum', in the pinned program and in every row, IS THE sha256 OF THE DUMP (.gsa) THAT YtlloemmpnhoanaaProg.lean LOADS. Nothing in Lean hashes anything: it is a label: what it is worth is what the hold of that sum in a sandbox is worth. -/
noncomputable def Try.pinned : Pinned := { name := "ytlloemmpnhoanaa", sum := "9d419265a89d31b2d6c65479b6db68b781d62365d020ae7cbced175cfa08d63e", checked := Try.checked }
namespace Rows
def none {H : Type} : Left H := { results := [], args := [] }

/-- 'escritoirelaw10.BodyMaps': WHATEVER THE INPUT: true; the input reads as it did. -/
def bodyMapsSpec : ChangeSpec := { name := "bodyMaps", fn := fun _ => fun
  | [d1, d2, d3] => { results := [.lit (.bool true)], args := [d1, d2, d3] }
  | _ => none }
def bodyMapsRow : OpenClaim := { program := "ytlloemmpnhoanaa", sum := "9d419265a89d31b2d6c65479b6db68b781d62365d020ae7cbced175cfa08d63e", func := "escritoire/escritoirelaw10.BodyMaps", spec := "bodyMaps", inPlace := ["internal/abi.NoEscape", "internal/bytealg.MakeNoZero"], unfollowed := true, recurses := true, apart := false }
def BodyMapsSaid : Prop := bodyMapsRow.holds Try.pinned (OpenSpec.ofChange bodyMapsSpec)

/-- ITS FALSE NEIGHBOUR: 'it returns false'. Refute it at one input. -/
def bodyMapsWrong : ChangeSpec := { name := "bodyMaps", fn := fun _ => fun
  | [d1, d2, d3] => { results := [.lit (.bool false)], args := [d1, d2, d3] }
  | _ => none }
def BodyMapsWrongFalsely : Prop := bodyMapsRow.holds Try.pinned (OpenSpec.ofChange bodyMapsWrong)

/-- 'escritoirelaw10.BodyNil': WHATEVER THE INPUT: true; the input reads as it did. -/
def bodyNilSpec : ChangeSpec := { name := "bodyNil", fn := fun _ => fun
  | [d1, d2] => { results := [.lit (.bool true)], args := [d1, d2] }
  | _ => none }
def bodyNilRow : OpenClaim := { program := "ytlloemmpnhoanaa", sum := "9d419265a89d31b2d6c65479b6db68b781d62365d020ae7cbced175cfa08d63e", func := "escritoire/escritoirelaw10.BodyNil", spec := "bodyNil", inPlace := ["internal/abi.NoEscape", "internal/bytealg.MakeNoZero"], unfollowed := true, recurses := true, apart := false }
def BodyNilSaid : Prop := bodyNilRow.holds Try.pinned (OpenSpec.ofChange bodyNilSpec)

/-- ITS FALSE NEIGHBOUR: 'it returns false'. Refute it at one input. -/
def bodyNilWrong : ChangeSpec := { name := "bodyNil", fn := fun _ => fun
  | [d1, d2] => { results := [.lit (.bool false)], args := [d1, d2] }
  | _ => none }
def BodyNilWrongFalsely : Prop := bodyNilRow.holds Try.pinned (OpenSpec.ofChange bodyNilWrong)

/-- 'escritoirelaw10.BodyTouches': WHATEVER THE INPUT: true; the input reads as it did. -/
def bodyTouchesSpec : ChangeSpec := { name := "bodyTouches", fn := fun _ => fun
  | [d1, d2] => { results := [.lit (.bool true)], args := [d1, d2] }
  | _ => none }
def bodyTouchesRow : OpenClaim := { program := "ytlloemmpnhoanaa", sum := "9d419265a89d31b2d6c65479b6db68b781d62365d020ae7cbced175cfa08d63e", func := "escritoire/escritoirelaw10.BodyTouches", spec := "bodyTouches", inPlace := ["internal/abi.NoEscape", "internal/bytealg.MakeNoZero"], unfollowed := true, recurses := true, apart := false }
def BodyTouchesSaid : Prop := bodyTouchesRow.holds Try.pinned (OpenSpec.ofChange bodyTouchesSpec)

/-- ITS FALSE NEIGHBOUR: 'it returns false'. Refute it at one input. -/
def bodyTouchesWrong : ChangeSpec := { name := "bodyTouches", fn := fun _ => fun
  | [d1, d2] => { results := [.lit (.bool false)], args := [d1, d2] }
  | _ => none }
def BodyTouchesWrongFalsely : Prop := bodyTouchesRow.holds Try.pinned (OpenSpec.ofChange bodyTouchesWrong)

/- THE SECOND FORM. 'bulk': how many values and letters a reading holds, each counted each time it is reached (what is shared counts as often as it is met; a slice's spare places count too). A statement '..UptoSaid' is the law's where the arguments, and the package variables that the reading takes, are together of bulk at most 1048576: NARROWER than '..Said'. Prove '..Said' where nothing that the law and all that it calls make is longer than what came in: it says more and counts as full. Else prove '..UptoSaid'. A law counts once. -/
mutual
def uptoBulk {H : Type} : DataW H → Nat
  | .lit (.string bytes) => bytes.length + 1
  | .lit _ => 1
  | .nil => 1
  | .ptr d => uptoBulk d + 1
  | .slice elems spare => uptoBulkAll elems + uptoBulkAll spare + 1
  | .agg parts => uptoBulkAll parts + 1
  | .iface _ d => uptoBulk d + 1
  | .map entries => uptoBulkEntries entries + 1
  | .held _ => 1
def uptoBulkAll {H : Type} : List (DataW H) → Nat
  | [] => 0
  | d :: r => uptoBulk d + uptoBulkAll r
def uptoBulkEntries {H : Type} : List (Lit × DataW H) → Nat
  | [] => 0
  | x :: r => uptoBulkEntry x + uptoBulkEntries r
def uptoBulkEntry {H : Type} : Lit × DataW H → Nat
  | (.string bytes, d) => bytes.length + uptoBulk d + 1
  | (_, d) => uptoBulk d + 1
 end
def uptoSmall : (H : Type) → List (DataW H) → Bool := fun _ ds => decide (uptoBulkAll ds ≤ 1048576)
def OpenSpec.upto (s : _root_.Go.ChangeSpec) : _root_.Go.OpenSpec := { _root_.Go.OpenSpec.ofChange s with cond := some uptoSmall }

/-- 'escritoirelaw10.BodyMaps', WHERE WHAT IT READS IS OF BULK AT MOST 1048576: true; the input reads as it did. -/
def bodyMapsUptoRow : OpenClaim := { program := "ytlloemmpnhoanaa", sum := "9d419265a89d31b2d6c65479b6db68b781d62365d020ae7cbced175cfa08d63e", func := "escritoire/escritoirelaw10.BodyMaps", spec := "bodyMaps", inPlace := ["internal/abi.NoEscape", "internal/bytealg.MakeNoZero"], unfollowed := true, recurses := true, apart := false, narrowed := true }
def BodyMapsUptoSaid : Prop := bodyMapsUptoRow.holds Try.pinned (OpenSpec.upto bodyMapsSpec)

/-- 'escritoirelaw10.BodyNil', WHERE WHAT IT READS IS OF BULK AT MOST 1048576: true; the input reads as it did. -/
def bodyNilUptoRow : OpenClaim := { program := "ytlloemmpnhoanaa", sum := "9d419265a89d31b2d6c65479b6db68b781d62365d020ae7cbced175cfa08d63e", func := "escritoire/escritoirelaw10.BodyNil", spec := "bodyNil", inPlace := ["internal/abi.NoEscape", "internal/bytealg.MakeNoZero"], unfollowed := true, recurses := true, apart := false, narrowed := true }
def BodyNilUptoSaid : Prop := bodyNilUptoRow.holds Try.pinned (OpenSpec.upto bodyNilSpec)

/-- 'escritoirelaw10.BodyTouches', WHERE WHAT IT READS IS OF BULK AT MOST 1048576: true; the input reads as it did. -/
def bodyTouchesUptoRow : OpenClaim := { program := "ytlloemmpnhoanaa", sum := "9d419265a89d31b2d6c65479b6db68b781d62365d020ae7cbced175cfa08d63e", func := "escritoire/escritoirelaw10.BodyTouches", spec := "bodyTouches", inPlace := ["internal/abi.NoEscape", "internal/bytealg.MakeNoZero"], unfollowed := true, recurses := true, apart := false, narrowed := true }
def BodyTouchesUptoSaid : Prop := bodyTouchesUptoRow.holds Try.pinned (OpenSpec.upto bodyTouchesSpec)

end Rows
end Go.Proofs.Ytlloemmpnhoanaa
