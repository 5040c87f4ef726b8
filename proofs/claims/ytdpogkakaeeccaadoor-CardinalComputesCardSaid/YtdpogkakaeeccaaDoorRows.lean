/-
  NARROWER THAN 'FOR EVERY INPUT', by the rows' own cells (each row's printed sentence says how): CardinalLaws: laid · CardinalComputes: laid · CardinalTexts: laid · CardinalInverse: laid · CardinalMonotone: laid.
  DERIVED. THE GIVEN ROWS OF THIS SEAT. 5 by the template 'for every input the law returns true; each argument reads behind the call as it read before'; 0 by the template 'total and deterministic' (their statements: YtdpogkakaeeccaaDoorTotals.lean).
  GIVEN WITH THE SEED: the statements are not yours to turn. If you find one false, say at which input.
  Laid BY PROGRAM, IN A SANDBOX (cutbox-rows.mjs): the forced cells as the released guide's own fill.sh prints them over the translation ec34705d21702ab6… (all of the seat's roots in one cut). By AI agents, Wed Nov 11 2026. No macro, syntax, notation, axiom, sorry.
-/
import Derived.Test.YtdpogkakaeeccaaDoorChecked
import GoSem.Claim
import GoSem.ClaimJoined
import GoSem.ClaimMapViews
import Derived.JoinedTies
import Derived.KernelRfl
namespace Go.Proofs.YtdpogkakaeeccaaDoor
/- THE CELL 'sum', in the pinned program and in every row, IS THE sha256 OF THE DUMP (.gsa) THAT YtdpogkakaeeccaaDoorProg.lean LOADS. Nothing in Lean hashes anything: it is a label: what it is worth is what the hold of that sum in a sandbox is worth. -/
noncomputable def Tryd.pinned : Pinned := { name := "ytdpogkakaeeccaadoor", sum := "ec34705d21702ab6ff93fbbd3d04df3636cd19452e1e7e061da259eb93a13ea5", checked := Tryd.checked }
namespace Rows
def none {H : Type} : Left H := { results := [], args := [] }

/- WHAT THE LISTED PACKAGE-LEVEL VARIABLES READ AS WHEN THE CALL BEGINS. Each datum BY PROGRAM (the guide's laid-datum.mjs) off the statement by which the dump's own 'gosem.cut.vars' lays the variable. In a bare row this is a premise. The card (YtdpogkakaeeccaaDoorCards.lean) ties it to the program's text. -/
def laid_netsegment_box_tops {H : Type} : DataW H := .agg [.lit (.int .u32 4294967295), .lit (.int .u32 4294967295), .lit (.int .u32 255), .lit (.int .u32 65535), .lit (.int .u32 65535)]

/-- 'nsglaw5.CardinalLaws': WHATEVER THE INPUT: true; the input reads as it did. -/
def cardinalLawsSpec : ChangeSpec := { name := "cardinalLaws", fn := fun _ => fun
  | [d1, d2, d3] => { results := [.lit (.bool true)], args := [d1, d2, d3] }
  | _ => none }
def cardinalLawsRow : OpenClaim := { program := "ytdpogkakaeeccaadoor", sum := "ec34705d21702ab6ff93fbbd3d04df3636cd19452e1e7e061da259eb93a13ea5", func := "netsegment/nsglaw5.CardinalLaws", spec := "cardinalLaws", inPlace := ["math/bits.Add64", "math/bits.Sub64"], unfollowed := true, recurses := true, named := ["netsegment/box.tops", "math/bits.divideError", "math/bits.overflowError"], apart := false, laid := [("netsegment/box.tops", laid_netsegment_box_tops)] }
def CardinalLawsSaid : Prop := cardinalLawsRow.holds Tryd.pinned (OpenSpec.ofChange cardinalLawsSpec)

/-- ITS FALSE NEIGHBOUR: 'it returns false'. Refute it at one input. -/
def cardinalLawsWrong : ChangeSpec := { name := "cardinalLaws", fn := fun _ => fun
  | [d1, d2, d3] => { results := [.lit (.bool false)], args := [d1, d2, d3] }
  | _ => none }
def CardinalLawsWrongFalsely : Prop := cardinalLawsRow.holds Tryd.pinned (OpenSpec.ofChange cardinalLawsWrong)

/-- 'nsglaw5.CardinalComputes': WHATEVER THE INPUT: true; the input reads as it did. -/
def cardinalComputesSpec : ChangeSpec := { name := "cardinalComputes", fn := fun _ => fun
  | [d1, d2, d3, d4, d5] => { results := [.lit (.bool true)], args := [d1, d2, d3, d4, d5] }
  | _ => none }
def cardinalComputesRow : OpenClaim := { program := "ytdpogkakaeeccaadoor", sum := "ec34705d21702ab6ff93fbbd3d04df3636cd19452e1e7e061da259eb93a13ea5", func := "netsegment/nsglaw5.CardinalComputes", spec := "cardinalComputes", inPlace := ["math/bits.Add64", "math/bits.Sub64"], unfollowed := true, recurses := true, named := ["math/bits.divideError", "math/bits.overflowError", "netsegment/box.tops"], apart := false, laid := [("netsegment/box.tops", laid_netsegment_box_tops)] }
def CardinalComputesSaid : Prop := cardinalComputesRow.holds Tryd.pinned (OpenSpec.ofChange cardinalComputesSpec)

/-- ITS FALSE NEIGHBOUR: 'it returns false'. Refute it at one input. -/
def cardinalComputesWrong : ChangeSpec := { name := "cardinalComputes", fn := fun _ => fun
  | [d1, d2, d3, d4, d5] => { results := [.lit (.bool false)], args := [d1, d2, d3, d4, d5] }
  | _ => none }
def CardinalComputesWrongFalsely : Prop := cardinalComputesRow.holds Tryd.pinned (OpenSpec.ofChange cardinalComputesWrong)

/-- 'nsglaw5.CardinalTexts': WHATEVER THE INPUT: true; the input reads as it did. -/
def cardinalTextsSpec : ChangeSpec := { name := "cardinalTexts", fn := fun _ => fun
  | [d1, d2] => { results := [.lit (.bool true)], args := [d1, d2] }
  | _ => none }
def cardinalTextsRow : OpenClaim := { program := "ytdpogkakaeeccaadoor", sum := "ec34705d21702ab6ff93fbbd3d04df3636cd19452e1e7e061da259eb93a13ea5", func := "netsegment/nsglaw5.CardinalTexts", spec := "cardinalTexts", inPlace := ["math/bits.Add64", "math/bits.Sub64"], unfollowed := true, recurses := true, named := ["math/bits.divideError", "math/bits.overflowError", "netsegment/box.tops"], apart := false, laid := [("netsegment/box.tops", laid_netsegment_box_tops)] }
def CardinalTextsSaid : Prop := cardinalTextsRow.holds Tryd.pinned (OpenSpec.ofChange cardinalTextsSpec)

/-- ITS FALSE NEIGHBOUR: 'it returns false'. Refute it at one input. -/
def cardinalTextsWrong : ChangeSpec := { name := "cardinalTexts", fn := fun _ => fun
  | [d1, d2] => { results := [.lit (.bool false)], args := [d1, d2] }
  | _ => none }
def CardinalTextsWrongFalsely : Prop := cardinalTextsRow.holds Tryd.pinned (OpenSpec.ofChange cardinalTextsWrong)

/-- 'nsglaw5.CardinalInverse': WHATEVER THE INPUT: true; the input reads as it did. -/
def cardinalInverseSpec : ChangeSpec := { name := "cardinalInverse", fn := fun _ => fun
  | [d1, d2] => { results := [.lit (.bool true)], args := [d1, d2] }
  | _ => none }
def cardinalInverseRow : OpenClaim := { program := "ytdpogkakaeeccaadoor", sum := "ec34705d21702ab6ff93fbbd3d04df3636cd19452e1e7e061da259eb93a13ea5", func := "netsegment/nsglaw5.CardinalInverse", spec := "cardinalInverse", inPlace := ["math/bits.Add64", "math/bits.Sub64"], unfollowed := true, recurses := true, named := ["netsegment/box.tops", "math/bits.divideError", "math/bits.overflowError"], apart := false, laid := [("netsegment/box.tops", laid_netsegment_box_tops)] }
def CardinalInverseSaid : Prop := cardinalInverseRow.holds Tryd.pinned (OpenSpec.ofChange cardinalInverseSpec)

/-- ITS FALSE NEIGHBOUR: 'it returns false'. Refute it at one input. -/
def cardinalInverseWrong : ChangeSpec := { name := "cardinalInverse", fn := fun _ => fun
  | [d1, d2] => { results := [.lit (.bool false)], args := [d1, d2] }
  | _ => none }
def CardinalInverseWrongFalsely : Prop := cardinalInverseRow.holds Tryd.pinned (OpenSpec.ofChange cardinalInverseWrong)

/-- 'nsglaw5.CardinalMonotone': WHATEVER THE INPUT: true; the input reads as it did. -/
def cardinalMonotoneSpec : ChangeSpec := { name := "cardinalMonotone", fn := fun _ => fun
  | [d1, d2, d3] => { results := [.lit (.bool true)], args := [d1, d2, d3] }
  | _ => none }
def cardinalMonotoneRow : OpenClaim := { program := "ytdpogkakaeeccaadoor", sum := "ec34705d21702ab6ff93fbbd3d04df3636cd19452e1e7e061da259eb93a13ea5", func := "netsegment/nsglaw5.CardinalMonotone", spec := "cardinalMonotone", inPlace := ["math/bits.Add64", "math/bits.Sub64"], unfollowed := true, recurses := true, named := ["netsegment/box.tops", "math/bits.divideError", "math/bits.overflowError"], apart := false, laid := [("netsegment/box.tops", laid_netsegment_box_tops)] }
def CardinalMonotoneSaid : Prop := cardinalMonotoneRow.holds Tryd.pinned (OpenSpec.ofChange cardinalMonotoneSpec)

/-- ITS FALSE NEIGHBOUR: 'it returns false'. Refute it at one input. -/
def cardinalMonotoneWrong : ChangeSpec := { name := "cardinalMonotone", fn := fun _ => fun
  | [d1, d2, d3] => { results := [.lit (.bool false)], args := [d1, d2, d3] }
  | _ => none }
def CardinalMonotoneWrongFalsely : Prop := cardinalMonotoneRow.holds Tryd.pinned (OpenSpec.ofChange cardinalMonotoneWrong)

/- THE SECOND FORM. 'bulk': how many values and letters a reading holds, each counted each time it is reached (what is shared counts as often as it is met; a slice's spare places count too). A statement '..UptoSaid' is the law's where the arguments, and the package variables that the reading takes, are together of bulk at most 1048576: NARROWER than '..Said'. Prove '..Said' where nothing that the law and all that it calls make is longer than what came in: it says more and counts as full. Else prove '..UptoSaid'. A law counts once. -/
mutual
def uptoBulk {H : Type} : DataW H → Nat
  | .lit (.string bytes) => bytes.length + 1
  | .lit _ => 1
  | .nil => 1
  | .ptr d => uptoBulk d + 1
  | .slice elems spare => uptoBulkAll elems + uptoBulkAll spare + 1
  | .agg parts => uptoBulkAll parts + 1
  | .iface _ d => uptoBulk d + 1
  | .map entries => uptoBulkEntries entries + 1
  | .held _ => 1
def uptoBulkAll {H : Type} : List (DataW H) → Nat
  | [] => 0
  | d :: r => uptoBulk d + uptoBulkAll r
def uptoBulkEntries {H : Type} : List (Lit × DataW H) → Nat
  | [] => 0
  | x :: r => uptoBulkEntry x + uptoBulkEntries r
def uptoBulkEntry {H : Type} : Lit × DataW H → Nat
  | (.string bytes, d) => bytes.length + uptoBulk d + 1
  | (_, d) => uptoBulk d + 1
 end
def uptoSmall : (H : Type) → List (DataW H) → Bool := fun _ ds => decide (uptoBulkAll ds ≤ 1048576)
def OpenSpec.upto (s : _root_.Go.ChangeSpec) : _root_.Go.OpenSpec := { _root_.Go.OpenSpec.ofChange s with cond := some uptoSmall }

/-- 'nsglaw5.CardinalLaws', WHERE WHAT IT READS IS OF BULK AT MOST 1048576: true; the input reads as it did. -/
def cardinalLawsUptoRow : OpenClaim := { program := "ytdpogkakaeeccaadoor", sum := "ec34705d21702ab6ff93fbbd3d04df3636cd19452e1e7e061da259eb93a13ea5", func := "netsegment/nsglaw5.CardinalLaws", spec := "cardinalLaws", inPlace := ["math/bits.Add64", "math/bits.Sub64"], unfollowed := true, recurses := true, named := ["netsegment/box.tops", "math/bits.divideError", "math/bits.overflowError"], apart := false, laid := [("netsegment/box.tops", laid_netsegment_box_tops)], narrowed := true }
def CardinalLawsUptoSaid : Prop := cardinalLawsUptoRow.holds Tryd.pinned (OpenSpec.upto cardinalLawsSpec)

/-- 'nsglaw5.CardinalComputes', WHERE WHAT IT READS IS OF BULK AT MOST 1048576: true; the input reads as it did. -/
def cardinalComputesUptoRow : OpenClaim := { program := "ytdpogkakaeeccaadoor", sum := "ec34705d21702ab6ff93fbbd3d04df3636cd19452e1e7e061da259eb93a13ea5", func := "netsegment/nsglaw5.CardinalComputes", spec := "cardinalComputes", inPlace := ["math/bits.Add64", "math/bits.Sub64"], unfollowed := true, recurses := true, named := ["math/bits.divideError", "math/bits.overflowError", "netsegment/box.tops"], apart := false, laid := [("netsegment/box.tops", laid_netsegment_box_tops)], narrowed := true }
def CardinalComputesUptoSaid : Prop := cardinalComputesUptoRow.holds Tryd.pinned (OpenSpec.upto cardinalComputesSpec)

/-- 'nsglaw5.CardinalTexts', WHERE WHAT IT READS IS OF BULK AT MOST 1048576: true; the input reads as it did. -/
def cardinalTextsUptoRow : OpenClaim := { program := "ytdpogkakaeeccaadoor", sum := "ec34705d21702ab6ff93fbbd3d04df3636cd19452e1e7e061da259eb93a13ea5", func := "netsegment/nsglaw5.CardinalTexts", spec := "cardinalTexts", inPlace := ["math/bits.Add64", "math/bits.Sub64"], unfollowed := true, recurses := true, named := ["math/bits.divideError", "math/bits.overflowError", "netsegment/box.tops"], apart := false, laid := [("netsegment/box.tops", laid_netsegment_box_tops)], narrowed := true }
def CardinalTextsUptoSaid : Prop := cardinalTextsUptoRow.holds Tryd.pinned (OpenSpec.upto cardinalTextsSpec)

/-- 'nsglaw5.CardinalInverse', WHERE WHAT IT READS IS OF BULK AT MOST 1048576: true; the input reads as it did. -/
def cardinalInverseUptoRow : OpenClaim := { program := "ytdpogkakaeeccaadoor", sum := "ec34705d21702ab6ff93fbbd3d04df3636cd19452e1e7e061da259eb93a13ea5", func := "netsegment/nsglaw5.CardinalInverse", spec := "cardinalInverse", inPlace := ["math/bits.Add64", "math/bits.Sub64"], unfollowed := true, recurses := true, named := ["netsegment/box.tops", "math/bits.divideError", "math/bits.overflowError"], apart := false, laid := [("netsegment/box.tops", laid_netsegment_box_tops)], narrowed := true }
def CardinalInverseUptoSaid : Prop := cardinalInverseUptoRow.holds Tryd.pinned (OpenSpec.upto cardinalInverseSpec)

/-- 'nsglaw5.CardinalMonotone', WHERE WHAT IT READS IS OF BULK AT MOST 1048576: true; the input reads as it did. -/
def cardinalMonotoneUptoRow : OpenClaim := { program := "ytdpogkakaeeccaadoor", sum := "ec34705d21702ab6ff93fbbd3d04df3636cd19452e1e7e061da259eb93a13ea5", func := "netsegment/nsglaw5.CardinalMonotone", spec := "cardinalMonotone", inPlace := ["math/bits.Add64", "math/bits.Sub64"], unfollowed := true, recurses := true, named := ["netsegment/box.tops", "math/bits.divideError", "math/bits.overflowError"], apart := false, laid := [("netsegment/box.tops", laid_netsegment_box_tops)], narrowed := true }
def CardinalMonotoneUptoSaid : Prop := cardinalMonotoneUptoRow.holds Tryd.pinned (OpenSpec.upto cardinalMonotoneSpec)

end Rows
end Go.Proofs.YtdpogkakaeeccaaDoor
