/-
  NARROWER THAN 'FOR EVERY INPUT', by the rows' own cells (each row's printed sentence says how): RewriteMoves: laid · RewriteGalois: laid · RewriteImages: laid · RewriteHidePoints: laid · RewriteHides: laid.
  DERIVED. THE GIVEN ROWS OF THIS SEAT. 5 by the template 'for every input the law returns true; each argument reads behind the call as it read before'; 0 by the template 'total and deterministic' (their statements: YtkeeaccnnljimaaGreatDoorTotals.lean).
  GIVEN WITH THE SEED: the statements are not yours to turn. If you find one false, say at which input.
  Laid BY PROGRAM, IN A SANDBOX (cutbox-rows.mjs): the forced cells as the released guide's own fill.sh prints them over the translation 39cc8a9a64e3e6de… (all of the seat's roots in one cut). By AI agents, Wed Nov 11 2026. No macro, syntax, notation, axiom, sorry.
-/
import Derived.Test.YtkeeaccnnljimaaGreatDoorChecked
import GoSem.Claim
import GoSem.ClaimJoined
import GoSem.ClaimMapViews
import Derived.JoinedTies
import Derived.KernelRfl
namespace Go.Proofs.YtkeeaccnnljimaaGreatDoor
/- THE CELL 'sum', in the pinned program and in every row, IS THE sha256 OF THE DUMP (.gsa) THAT YtkeeaccnnljimaaGreatDoorProg.lean LOADS. Nothing in Lean hashes anything: it is a label: what it is worth is what the hold of that sum in a sandbox is worth. -/
noncomputable def Tryz.pinned : Pinned := { name := "ytkeeaccnnljimaagreatdoor", sum := "39cc8a9a64e3e6de709fd295df761c318a08ee730608416ff6f6c72be94db639", checked := Tryz.checked }
namespace Rows
def none {H : Type} : Left H := { results := [], args := [] }

/- WHAT THE LISTED PACKAGE-LEVEL VARIABLES READ AS WHEN THE CALL BEGINS. Each datum BY PROGRAM (the guide's laid-datum.mjs) off the statement by which the dump's own 'gosem.cut.vars' lays the variable. In a bare row this is a premise. The card (YtkeeaccnnljimaaGreatDoorCards.lean) ties it to the program's text. -/
def laid_netsegment_box_tops {H : Type} : DataW H := .agg [.lit (.int .u32 4294967295), .lit (.int .u32 4294967295), .lit (.int .u32 255), .lit (.int .u32 65535), .lit (.int .u32 65535)]

/-- 'nsglaw6.RewriteMoves': WHATEVER THE INPUT: true; the input reads as it did. -/
def rewriteMovesSpec : ChangeSpec := { name := "rewriteMoves", fn := fun _ => fun
  | [d1, d2, d3] => { results := [.lit (.bool true)], args := [d1, d2, d3] }
  | _ => none }
def rewriteMovesRow : OpenClaim := { program := "ytkeeaccnnljimaagreatdoor", sum := "39cc8a9a64e3e6de709fd295df761c318a08ee730608416ff6f6c72be94db639", func := "netsegment/nsglaw6.RewriteMoves", spec := "rewriteMoves", unfollowed := true, recurses := true, named := ["netsegment/box.tops"], apart := false, laid := [("netsegment/box.tops", laid_netsegment_box_tops)] }
def RewriteMovesSaid : Prop := rewriteMovesRow.holds Tryz.pinned (OpenSpec.ofChange rewriteMovesSpec)

/-- ITS FALSE NEIGHBOUR: 'it returns false'. Refute it at one input. -/
def rewriteMovesWrong : ChangeSpec := { name := "rewriteMoves", fn := fun _ => fun
  | [d1, d2, d3] => { results := [.lit (.bool false)], args := [d1, d2, d3] }
  | _ => none }
def RewriteMovesWrongFalsely : Prop := rewriteMovesRow.holds Tryz.pinned (OpenSpec.ofChange rewriteMovesWrong)

/-- 'nsglaw6.RewriteGalois': WHATEVER THE INPUT: true; the input reads as it did. -/
def rewriteGaloisSpec : ChangeSpec := { name := "rewriteGalois", fn := fun _ => fun
  | [d] => { results := [.lit (.bool true)], args := [d] }
  | _ => none }
def rewriteGaloisRow : OpenClaim := { program := "ytkeeaccnnljimaagreatdoor", sum := "39cc8a9a64e3e6de709fd295df761c318a08ee730608416ff6f6c72be94db639", func := "netsegment/nsglaw6.RewriteGalois", spec := "rewriteGalois", unfollowed := true, recurses := true, named := ["netsegment/box.tops"], apart := false, laid := [("netsegment/box.tops", laid_netsegment_box_tops)] }
def RewriteGaloisSaid : Prop := rewriteGaloisRow.holds Tryz.pinned (OpenSpec.ofChange rewriteGaloisSpec)

/-- ITS FALSE NEIGHBOUR: 'it returns false'. Refute it at one input. -/
def rewriteGaloisWrong : ChangeSpec := { name := "rewriteGalois", fn := fun _ => fun
  | [d] => { results := [.lit (.bool false)], args := [d] }
  | _ => none }
def RewriteGaloisWrongFalsely : Prop := rewriteGaloisRow.holds Tryz.pinned (OpenSpec.ofChange rewriteGaloisWrong)

/-- 'nsglaw6.RewriteImages': WHATEVER THE INPUT: true; the input reads as it did. -/
def rewriteImagesSpec : ChangeSpec := { name := "rewriteImages", fn := fun _ => fun
  | [d1, d2, d3] => { results := [.lit (.bool true)], args := [d1, d2, d3] }
  | _ => none }
def rewriteImagesRow : OpenClaim := { program := "ytkeeaccnnljimaagreatdoor", sum := "39cc8a9a64e3e6de709fd295df761c318a08ee730608416ff6f6c72be94db639", func := "netsegment/nsglaw6.RewriteImages", spec := "rewriteImages", unfollowed := true, recurses := true, named := ["netsegment/box.tops"], apart := false, laid := [("netsegment/box.tops", laid_netsegment_box_tops)] }
def RewriteImagesSaid : Prop := rewriteImagesRow.holds Tryz.pinned (OpenSpec.ofChange rewriteImagesSpec)

/-- ITS FALSE NEIGHBOUR: 'it returns false'. Refute it at one input. -/
def rewriteImagesWrong : ChangeSpec := { name := "rewriteImages", fn := fun _ => fun
  | [d1, d2, d3] => { results := [.lit (.bool false)], args := [d1, d2, d3] }
  | _ => none }
def RewriteImagesWrongFalsely : Prop := rewriteImagesRow.holds Tryz.pinned (OpenSpec.ofChange rewriteImagesWrong)

/-- 'nsglaw6.RewriteHidePoints': WHATEVER THE INPUT: true; the input reads as it did. -/
def rewriteHidePointsSpec : ChangeSpec := { name := "rewriteHidePoints", fn := fun _ => fun
  | [d1, d2] => { results := [.lit (.bool true)], args := [d1, d2] }
  | _ => none }
def rewriteHidePointsRow : OpenClaim := { program := "ytkeeaccnnljimaagreatdoor", sum := "39cc8a9a64e3e6de709fd295df761c318a08ee730608416ff6f6c72be94db639", func := "netsegment/nsglaw6.RewriteHidePoints", spec := "rewriteHidePoints", unfollowed := true, recurses := true, named := ["netsegment/box.tops"], apart := false, laid := [("netsegment/box.tops", laid_netsegment_box_tops)] }
def RewriteHidePointsSaid : Prop := rewriteHidePointsRow.holds Tryz.pinned (OpenSpec.ofChange rewriteHidePointsSpec)

/-- ITS FALSE NEIGHBOUR: 'it returns false'. Refute it at one input. -/
def rewriteHidePointsWrong : ChangeSpec := { name := "rewriteHidePoints", fn := fun _ => fun
  | [d1, d2] => { results := [.lit (.bool false)], args := [d1, d2] }
  | _ => none }
def RewriteHidePointsWrongFalsely : Prop := rewriteHidePointsRow.holds Tryz.pinned (OpenSpec.ofChange rewriteHidePointsWrong)

/-- 'nsglaw6.RewriteHides': WHATEVER THE INPUT: true; the input reads as it did. -/
def rewriteHidesSpec : ChangeSpec := { name := "rewriteHides", fn := fun _ => fun
  | [d1, d2, d3, d4] => { results := [.lit (.bool true)], args := [d1, d2, d3, d4] }
  | _ => none }
def rewriteHidesRow : OpenClaim := { program := "ytkeeaccnnljimaagreatdoor", sum := "39cc8a9a64e3e6de709fd295df761c318a08ee730608416ff6f6c72be94db639", func := "netsegment/nsglaw6.RewriteHides", spec := "rewriteHides", unfollowed := true, recurses := true, named := ["netsegment/box.tops"], apart := false, laid := [("netsegment/box.tops", laid_netsegment_box_tops)] }
def RewriteHidesSaid : Prop := rewriteHidesRow.holds Tryz.pinned (OpenSpec.ofChange rewriteHidesSpec)

/-- ITS FALSE NEIGHBOUR: 'it returns false'. Refute it at one input. -/
def rewriteHidesWrong : ChangeSpec := { name := "rewriteHides", fn := fun _ => fun
  | [d1, d2, d3, d4] => { results := [.lit (.bool false)], args := [d1, d2, d3, d4] }
  | _ => none }
def RewriteHidesWrongFalsely : Prop := rewriteHidesRow.holds Tryz.pinned (OpenSpec.ofChange rewriteHidesWrong)

/- THE SECOND FORM. 'bulk': how many values and letters a reading holds, each counted each time it is reached (what is shared counts as often as it is met; a slice's spare places count too). A statement '..UptoSaid' is the law's where the arguments, and the package variables that the reading takes, are together of bulk at most 1048576: NARROWER than '..Said'. Prove '..Said' where nothing that the law and all that it calls make is longer than what came in: it says more and counts as full. Else prove '..UptoSaid'. A law counts once. -/
mutual
def uptoBulk {H : Type} : DataW H → Nat
  | .lit (.string bytes) => bytes.length + 1
  | .lit _ => 1
  | .nil => 1
  | .ptr d => uptoBulk d + 1
  | .slice elems spare => uptoBulkAll elems + uptoBulkAll spare + 1
  | .agg parts => uptoBulkAll parts + 1
  | .iface _ d => uptoBulk d + 1
  | .map entries => uptoBulkEntries entries + 1
  | .held _ => 1
def uptoBulkAll {H : Type} : List (DataW H) → Nat
  | [] => 0
  | d :: r => uptoBulk d + uptoBulkAll r
def uptoBulkEntries {H : Type} : List (Lit × DataW H) → Nat
  | [] => 0
  | x :: r => uptoBulkEntry x + uptoBulkEntries r
def uptoBulkEntry {H : Type} : Lit × DataW H → Nat
  | (.string bytes, d) => bytes.length + uptoBulk d + 1
  | (_, d) => uptoBulk d + 1
 end
def uptoSmall : (H : Type) → List (DataW H) → Bool := fun _ ds => decide (uptoBulkAll ds ≤ 1048576)
def OpenSpec.upto (s : _root_.Go.ChangeSpec) : _root_.Go.OpenSpec := { _root_.Go.OpenSpec.ofChange s with cond := some uptoSmall }

/-- 'nsglaw6.RewriteMoves', WHERE WHAT IT READS IS OF BULK AT MOST 1048576: true; the input reads as it did. -/
def rewriteMovesUptoRow : OpenClaim := { program := "ytkeeaccnnljimaagreatdoor", sum := "39cc8a9a64e3e6de709fd295df761c318a08ee730608416ff6f6c72be94db639", func := "netsegment/nsglaw6.RewriteMoves", spec := "rewriteMoves", unfollowed := true, recurses := true, named := ["netsegment/box.tops"], apart := false, laid := [("netsegment/box.tops", laid_netsegment_box_tops)], narrowed := true }
def RewriteMovesUptoSaid : Prop := rewriteMovesUptoRow.holds Tryz.pinned (OpenSpec.upto rewriteMovesSpec)

/-- 'nsglaw6.RewriteGalois', WHERE WHAT IT READS IS OF BULK AT MOST 1048576: true; the input reads as it did. -/
def rewriteGaloisUptoRow : OpenClaim := { program := "ytkeeaccnnljimaagreatdoor", sum := "39cc8a9a64e3e6de709fd295df761c318a08ee730608416ff6f6c72be94db639", func := "netsegment/nsglaw6.RewriteGalois", spec := "rewriteGalois", unfollowed := true, recurses := true, named := ["netsegment/box.tops"], apart := false, laid := [("netsegment/box.tops", laid_netsegment_box_tops)], narrowed := true }
def RewriteGaloisUptoSaid : Prop := rewriteGaloisUptoRow.holds Tryz.pinned (OpenSpec.upto rewriteGaloisSpec)

/-- 'nsglaw6.RewriteImages', WHERE WHAT IT READS IS OF BULK AT MOST 1048576: true; the input reads as it did. -/
def rewriteImagesUptoRow : OpenClaim := { program := "ytkeeaccnnljimaagreatdoor", sum := "39cc8a9a64e3e6de709fd295df761c318a08ee730608416ff6f6c72be94db639", func := "netsegment/nsglaw6.RewriteImages", spec := "rewriteImages", unfollowed := true, recurses := true, named := ["netsegment/box.tops"], apart := false, laid := [("netsegment/box.tops", laid_netsegment_box_tops)], narrowed := true }
def RewriteImagesUptoSaid : Prop := rewriteImagesUptoRow.holds Tryz.pinned (OpenSpec.upto rewriteImagesSpec)

/-- 'nsglaw6.RewriteHidePoints', WHERE WHAT IT READS IS OF BULK AT MOST 1048576: true; the input reads as it did. -/
def rewriteHidePointsUptoRow : OpenClaim := { program := "ytkeeaccnnljimaagreatdoor", sum := "39cc8a9a64e3e6de709fd295df761c318a08ee730608416ff6f6c72be94db639", func := "netsegment/nsglaw6.RewriteHidePoints", spec := "rewriteHidePoints", unfollowed := true, recurses := true, named := ["netsegment/box.tops"], apart := false, laid := [("netsegment/box.tops", laid_netsegment_box_tops)], narrowed := true }
def RewriteHidePointsUptoSaid : Prop := rewriteHidePointsUptoRow.holds Tryz.pinned (OpenSpec.upto rewriteHidePointsSpec)

/-- 'nsglaw6.RewriteHides', WHERE WHAT IT READS IS OF BULK AT MOST 1048576: true; the input reads as it did. -/
def rewriteHidesUptoRow : OpenClaim := { program := "ytkeeaccnnljimaagreatdoor", sum := "39cc8a9a64e3e6de709fd295df761c318a08ee730608416ff6f6c72be94db639", func := "netsegment/nsglaw6.RewriteHides", spec := "rewriteHides", unfollowed := true, recurses := true, named := ["netsegment/box.tops"], apart := false, laid := [("netsegment/box.tops", laid_netsegment_box_tops)], narrowed := true }
def RewriteHidesUptoSaid : Prop := rewriteHidesUptoRow.holds Tryz.pinned (OpenSpec.upto rewriteHidesSpec)

end Rows
end Go.Proofs.YtkeeaccnnljimaaGreatDoor
