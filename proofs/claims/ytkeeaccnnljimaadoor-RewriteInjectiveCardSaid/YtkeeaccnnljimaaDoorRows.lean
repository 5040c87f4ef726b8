/-
  NARROWER THAN 'FOR EVERY INPUT', by the rows' own cells (each row's printed sentence says how): RewriteInverse: laid · RewriteInjective: laid · RewritePoints: laid.
  DERIVED. THE GIVEN ROWS OF THIS SEAT. 3 by the template 'for every input the law returns true; each argument reads behind the call as it read before'; 0 by the template 'total and deterministic' (their statements: YtkeeaccnnljimaaDoorTotals.lean).
  GIVEN WITH THE SEED: the statements are not yours to turn. If you find one false, say at which input.
  Laid BY PROGRAM, IN A SANDBOX (cutbox-rows.mjs): the forced cells as the released guide's own fill.sh prints them over the translation cd0c88ac734ef17f… (all of the seat's roots in one cut). By AI agents, Wed Nov 11 2026. No macro, syntax, notation, axiom, sorry.
-/
import Derived.Test.YtkeeaccnnljimaaDoorChecked
import GoSem.Claim
import GoSem.ClaimJoined
import GoSem.ClaimMapViews
import Derived.JoinedTies
import Derived.KernelRfl
namespace Go.Proofs.YtkeeaccnnljimaaDoor
/- THE CELL 'sum', in the pinned program and in every row, IS THE sha256 OF THE DUMP (.gsa) THAT YtkeeaccnnljimaaDoorProg.lean LOADS. Nothing in Lean hashes anything: it is a label: what it is worth is what the hold of that sum in a sandbox is worth. -/
noncomputable def Tryd.pinned : Pinned := { name := "ytkeeaccnnljimaadoor", sum := "cd0c88ac734ef17f1d28d90fdea2d38404366af44a76400ae7c4e311eb66998f", checked := Tryd.checked }
namespace Rows
def none {H : Type} : Left H := { results := [], args := [] }

/- WHAT THE LISTED PACKAGE-LEVEL VARIABLES READ AS WHEN THE CALL BEGINS. Each datum BY PROGRAM (the guide's laid-datum.mjs) off the statement by which the dump's own 'gosem.cut.vars' lays the variable. In a bare row this is a premise. The card (YtkeeaccnnljimaaDoorCards.lean) ties it to the program's text. -/
def laid_netsegment_box_tops {H : Type} : DataW H := .agg [.lit (.int .u32 4294967295), .lit (.int .u32 4294967295), .lit (.int .u32 255), .lit (.int .u32 65535), .lit (.int .u32 65535)]

/-- 'nsglaw6.RewriteInverse': WHATEVER THE INPUT: true; the input reads as it did. -/
def rewriteInverseSpec : ChangeSpec := { name := "rewriteInverse", fn := fun _ => fun
  | [d1, d2] => { results := [.lit (.bool true)], args := [d1, d2] }
  | _ => none }
def rewriteInverseRow : OpenClaim := { program := "ytkeeaccnnljimaadoor", sum := "cd0c88ac734ef17f1d28d90fdea2d38404366af44a76400ae7c4e311eb66998f", func := "netsegment/nsglaw6.RewriteInverse", spec := "rewriteInverse", unfollowed := true, recurses := true, named := ["netsegment/box.tops"], apart := false, laid := [("netsegment/box.tops", laid_netsegment_box_tops)] }
def RewriteInverseSaid : Prop := rewriteInverseRow.holds Tryd.pinned (OpenSpec.ofChange rewriteInverseSpec)

/-- ITS FALSE NEIGHBOUR: 'it returns false'. Refute it at one input. -/
def rewriteInverseWrong : ChangeSpec := { name := "rewriteInverse", fn := fun _ => fun
  | [d1, d2] => { results := [.lit (.bool false)], args := [d1, d2] }
  | _ => none }
def RewriteInverseWrongFalsely : Prop := rewriteInverseRow.holds Tryd.pinned (OpenSpec.ofChange rewriteInverseWrong)

/-- 'nsglaw6.RewriteInjective': WHATEVER THE INPUT: true; the input reads as it did. -/
def rewriteInjectiveSpec : ChangeSpec := { name := "rewriteInjective", fn := fun _ => fun
  | [d1, d2, d3] => { results := [.lit (.bool true)], args := [d1, d2, d3] }
  | _ => none }
def rewriteInjectiveRow : OpenClaim := { program := "ytkeeaccnnljimaadoor", sum := "cd0c88ac734ef17f1d28d90fdea2d38404366af44a76400ae7c4e311eb66998f", func := "netsegment/nsglaw6.RewriteInjective", spec := "rewriteInjective", unfollowed := true, recurses := true, named := ["netsegment/box.tops"], apart := false, laid := [("netsegment/box.tops", laid_netsegment_box_tops)] }
def RewriteInjectiveSaid : Prop := rewriteInjectiveRow.holds Tryd.pinned (OpenSpec.ofChange rewriteInjectiveSpec)

/-- ITS FALSE NEIGHBOUR: 'it returns false'. Refute it at one input. -/
def rewriteInjectiveWrong : ChangeSpec := { name := "rewriteInjective", fn := fun _ => fun
  | [d1, d2, d3] => { results := [.lit (.bool false)], args := [d1, d2, d3] }
  | _ => none }
def RewriteInjectiveWrongFalsely : Prop := rewriteInjectiveRow.holds Tryd.pinned (OpenSpec.ofChange rewriteInjectiveWrong)

/-- 'nsglaw6.RewritePoints': WHATEVER THE INPUT: true; the input reads as it did. -/
def rewritePointsSpec : ChangeSpec := { name := "rewritePoints", fn := fun _ => fun
  | [d1, d2] => { results := [.lit (.bool true)], args := [d1, d2] }
  | _ => none }
def rewritePointsRow : OpenClaim := { program := "ytkeeaccnnljimaadoor", sum := "cd0c88ac734ef17f1d28d90fdea2d38404366af44a76400ae7c4e311eb66998f", func := "netsegment/nsglaw6.RewritePoints", spec := "rewritePoints", unfollowed := true, recurses := true, named := ["netsegment/box.tops"], apart := false, laid := [("netsegment/box.tops", laid_netsegment_box_tops)] }
def RewritePointsSaid : Prop := rewritePointsRow.holds Tryd.pinned (OpenSpec.ofChange rewritePointsSpec)

/-- ITS FALSE NEIGHBOUR: 'it returns false'. Refute it at one input. -/
def rewritePointsWrong : ChangeSpec := { name := "rewritePoints", fn := fun _ => fun
  | [d1, d2] => { results := [.lit (.bool false)], args := [d1, d2] }
  | _ => none }
def RewritePointsWrongFalsely : Prop := rewritePointsRow.holds Tryd.pinned (OpenSpec.ofChange rewritePointsWrong)

/- THE SECOND FORM. 'bulk': how many values and letters a reading holds, each counted each time it is reached (what is shared counts as often as it is met; a slice's spare places count too). A statement '..UptoSaid' is the law's where the arguments, and the package variables that the reading takes, are together of bulk at most 1048576: NARROWER than '..Said'. Prove '..Said' where nothing that the law and all that it calls make is longer than what came in: it says more and counts as full. Else prove '..UptoSaid'. A law counts once. -/
mutual
def uptoBulk {H : Type} : DataW H → Nat
  | .lit (.string bytes) => bytes.length + 1
  | .lit _ => 1
  | .nil => 1
  | .ptr d => uptoBulk d + 1
  | .slice elems spare => uptoBulkAll elems + uptoBulkAll spare + 1
  | .agg parts => uptoBulkAll parts + 1
  | .iface _ d => uptoBulk d + 1
  | .map entries => uptoBulkEntries entries + 1
  | .held _ => 1
def uptoBulkAll {H : Type} : List (DataW H) → Nat
  | [] => 0
  | d :: r => uptoBulk d + uptoBulkAll r
def uptoBulkEntries {H : Type} : List (Lit × DataW H) → Nat
  | [] => 0
  | x :: r => uptoBulkEntry x + uptoBulkEntries r
def uptoBulkEntry {H : Type} : Lit × DataW H → Nat
  | (.string bytes, d) => bytes.length + uptoBulk d + 1
  | (_, d) => uptoBulk d + 1
 end
def uptoSmall : (H : Type) → List (DataW H) → Bool := fun _ ds => decide (uptoBulkAll ds ≤ 1048576)
def OpenSpec.upto (s : _root_.Go.ChangeSpec) : _root_.Go.OpenSpec := { _root_.Go.OpenSpec.ofChange s with cond := some uptoSmall }

/-- 'nsglaw6.RewriteInverse', WHERE WHAT IT READS IS OF BULK AT MOST 1048576: true; the input reads as it did. -/
def rewriteInverseUptoRow : OpenClaim := { program := "ytkeeaccnnljimaadoor", sum := "cd0c88ac734ef17f1d28d90fdea2d38404366af44a76400ae7c4e311eb66998f", func := "netsegment/nsglaw6.RewriteInverse", spec := "rewriteInverse", unfollowed := true, recurses := true, named := ["netsegment/box.tops"], apart := false, laid := [("netsegment/box.tops", laid_netsegment_box_tops)], narrowed := true }
def RewriteInverseUptoSaid : Prop := rewriteInverseUptoRow.holds Tryd.pinned (OpenSpec.upto rewriteInverseSpec)

/-- 'nsglaw6.RewriteInjective', WHERE WHAT IT READS IS OF BULK AT MOST 1048576: true; the input reads as it did. -/
def rewriteInjectiveUptoRow : OpenClaim := { program := "ytkeeaccnnljimaadoor", sum := "cd0c88ac734ef17f1d28d90fdea2d38404366af44a76400ae7c4e311eb66998f", func := "netsegment/nsglaw6.RewriteInjective", spec := "rewriteInjective", unfollowed := true, recurses := true, named := ["netsegment/box.tops"], apart := false, laid := [("netsegment/box.tops", laid_netsegment_box_tops)], narrowed := true }
def RewriteInjectiveUptoSaid : Prop := rewriteInjectiveUptoRow.holds Tryd.pinned (OpenSpec.upto rewriteInjectiveSpec)

/-- 'nsglaw6.RewritePoints', WHERE WHAT IT READS IS OF BULK AT MOST 1048576: true; the input reads as it did. -/
def rewritePointsUptoRow : OpenClaim := { program := "ytkeeaccnnljimaadoor", sum := "cd0c88ac734ef17f1d28d90fdea2d38404366af44a76400ae7c4e311eb66998f", func := "netsegment/nsglaw6.RewritePoints", spec := "rewritePoints", unfollowed := true, recurses := true, named := ["netsegment/box.tops"], apart := false, laid := [("netsegment/box.tops", laid_netsegment_box_tops)], narrowed := true }
def RewritePointsUptoSaid : Prop := rewritePointsUptoRow.holds Tryd.pinned (OpenSpec.upto rewritePointsSpec)

end Rows
end Go.Proofs.YtkeeaccnnljimaaDoor
