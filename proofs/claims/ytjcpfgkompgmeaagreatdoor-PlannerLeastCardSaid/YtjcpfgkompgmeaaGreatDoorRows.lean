/-
  NARROWER THAN 'FOR EVERY INPUT', by the rows' own cells (each row's printed sentence says how): PlannerLeast: laid · PlannerStates: laid.
  DERIVED. THE GIVEN ROWS OF THIS SEAT. 2 by the template 'for every input the law returns true; each argument reads behind the call as it read before'; 0 by the template 'total and deterministic' (their statements: YtjcpfgkompgmeaaGreatDoorTotals.lean).
  GIVEN WITH THE SEED: the statements are not yours to turn. If you find one false, say at which input.
  Laid BY PROGRAM, IN A SANDBOX (cutbox-rows.mjs): the forced cells as the released guide's own fill.sh prints them over the translation 1a08fbd08c6b641c… (all of the seat's roots in one cut). By AI agents, Wed Nov 11 2026. No macro, syntax, notation, axiom, sorry.
-/
import Derived.Test.YtjcpfgkompgmeaaGreatDoorChecked
import GoSem.Claim
import GoSem.ClaimJoined
import GoSem.ClaimMapViews
import Derived.JoinedTies
import Derived.KernelRfl
namespace Go.Proofs.YtjcpfgkompgmeaaGreatDoor
/- THE CELL 'sum', in the pinned program and in every row, IS THE sha256 OF THE DUMP (.gsa) THAT YtjcpfgkompgmeaaGreatDoorProg.lean LOADS. Nothing in Lean hashes anything: it is a label: what it is worth is what the hold of that sum in a sandbox is worth. -/
noncomputable def Tryz.pinned : Pinned := { name := "ytjcpfgkompgmeaagreatdoor", sum := "1a08fbd08c6b641c88b4ad9c48d1c951d6637387d11c0df20ef6666b9a758b41", checked := Tryz.checked }
namespace Rows
def none {H : Type} : Left H := { results := [], args := [] }

/- WHAT THE LISTED PACKAGE-LEVEL VARIABLES READ AS WHEN THE CALL BEGINS. Each datum BY PROGRAM (the guide's laid-datum.mjs) off the statement by which the dump's own 'gosem.cut.vars' lays the variable. In a bare row this is a premise. The card (YtjcpfgkompgmeaaGreatDoorCards.lean) ties it to the program's text. -/
def laid_netsegment_box_tops {H : Type} : DataW H := .agg [.lit (.int .u32 4294967295), .lit (.int .u32 4294967295), .lit (.int .u32 255), .lit (.int .u32 65535), .lit (.int .u32 65535)]
def laid_netsegment_expand_widths {H : Type} : DataW H := .agg [.lit (.int .i64 32), .lit (.int .i64 32), .lit (.int .i64 8), .lit (.int .i64 16), .lit (.int .i64 16)]

/-- 'nsglaw39.PlannerLeast': WHATEVER THE INPUT: true; the input reads as it did. -/
def plannerLeastSpec : ChangeSpec := { name := "plannerLeast", fn := fun _ => fun
  | [d] => { results := [.lit (.bool true)], args := [d] }
  | _ => none }
def plannerLeastRow : OpenClaim := { program := "ytjcpfgkompgmeaagreatdoor", sum := "1a08fbd08c6b641c88b4ad9c48d1c951d6637387d11c0df20ef6666b9a758b41", func := "netsegment/nsglaw39.PlannerLeast", spec := "plannerLeast", unfollowed := true, recurses := true, named := ["netsegment/box.tops", "netsegment/expand.widths"], apart := false, laid := [("netsegment/box.tops", laid_netsegment_box_tops), ("netsegment/expand.widths", laid_netsegment_expand_widths)] }
def PlannerLeastSaid : Prop := plannerLeastRow.holds Tryz.pinned (OpenSpec.ofChange plannerLeastSpec)

/-- ITS FALSE NEIGHBOUR: 'it returns false'. Refute it at one input. -/
def plannerLeastWrong : ChangeSpec := { name := "plannerLeast", fn := fun _ => fun
  | [d] => { results := [.lit (.bool false)], args := [d] }
  | _ => none }
def PlannerLeastWrongFalsely : Prop := plannerLeastRow.holds Tryz.pinned (OpenSpec.ofChange plannerLeastWrong)

/-- 'nsglaw39.PlannerStates': WHATEVER THE INPUT: true; the input reads as it did. -/
def plannerStatesSpec : ChangeSpec := { name := "plannerStates", fn := fun _ => fun
  | [d1, d2, d3] => { results := [.lit (.bool true)], args := [d1, d2, d3] }
  | _ => none }
def plannerStatesRow : OpenClaim := { program := "ytjcpfgkompgmeaagreatdoor", sum := "1a08fbd08c6b641c88b4ad9c48d1c951d6637387d11c0df20ef6666b9a758b41", func := "netsegment/nsglaw39.PlannerStates", spec := "plannerStates", unfollowed := true, recurses := true, named := ["netsegment/box.tops", "netsegment/expand.widths"], apart := false, laid := [("netsegment/box.tops", laid_netsegment_box_tops), ("netsegment/expand.widths", laid_netsegment_expand_widths)] }
def PlannerStatesSaid : Prop := plannerStatesRow.holds Tryz.pinned (OpenSpec.ofChange plannerStatesSpec)

/-- ITS FALSE NEIGHBOUR: 'it returns false'. Refute it at one input. -/
def plannerStatesWrong : ChangeSpec := { name := "plannerStates", fn := fun _ => fun
  | [d1, d2, d3] => { results := [.lit (.bool false)], args := [d1, d2, d3] }
  | _ => none }
def PlannerStatesWrongFalsely : Prop := plannerStatesRow.holds Tryz.pinned (OpenSpec.ofChange plannerStatesWrong)

/- THE SECOND FORM. 'bulk': how many values and letters a reading holds, each counted each time it is reached (what is shared counts as often as it is met; a slice's spare places count too). A statement '..UptoSaid' is the law's where the arguments, and the package variables that the reading takes, are together of bulk at most 1048576: NARROWER than '..Said'. Prove '..Said' where nothing that the law and all that it calls make is longer than what came in: it says more and counts as full. Else prove '..UptoSaid'. A law counts once. -/
mutual
def uptoBulk {H : Type} : DataW H → Nat
  | .lit (.string bytes) => bytes.length + 1
  | .lit _ => 1
  | .nil => 1
  | .ptr d => uptoBulk d + 1
  | .slice elems spare => uptoBulkAll elems + uptoBulkAll spare + 1
  | .agg parts => uptoBulkAll parts + 1
  | .iface _ d => uptoBulk d + 1
  | .map entries => uptoBulkEntries entries + 1
  | .held _ => 1
def uptoBulkAll {H : Type} : List (DataW H) → Nat
  | [] => 0
  | d :: r => uptoBulk d + uptoBulkAll r
def uptoBulkEntries {H : Type} : List (Lit × DataW H) → Nat
  | [] => 0
  | x :: r => uptoBulkEntry x + uptoBulkEntries r
def uptoBulkEntry {H : Type} : Lit × DataW H → Nat
  | (.string bytes, d) => bytes.length + uptoBulk d + 1
  | (_, d) => uptoBulk d + 1
 end
def uptoSmall : (H : Type) → List (DataW H) → Bool := fun _ ds => decide (uptoBulkAll ds ≤ 1048576)
def OpenSpec.upto (s : _root_.Go.ChangeSpec) : _root_.Go.OpenSpec := { _root_.Go.OpenSpec.ofChange s with cond := some uptoSmall }

/-- 'nsglaw39.PlannerLeast', WHERE WHAT IT READS IS OF BULK AT MOST 1048576: true; the input reads as it did. -/
def plannerLeastUptoRow : OpenClaim := { program := "ytjcpfgkompgmeaagreatdoor", sum := "1a08fbd08c6b641c88b4ad9c48d1c951d6637387d11c0df20ef6666b9a758b41", func := "netsegment/nsglaw39.PlannerLeast", spec := "plannerLeast", unfollowed := true, recurses := true, named := ["netsegment/box.tops", "netsegment/expand.widths"], apart := false, laid := [("netsegment/box.tops", laid_netsegment_box_tops), ("netsegment/expand.widths", laid_netsegment_expand_widths)], narrowed := true }
def PlannerLeastUptoSaid : Prop := plannerLeastUptoRow.holds Tryz.pinned (OpenSpec.upto plannerLeastSpec)

/-- 'nsglaw39.PlannerStates', WHERE WHAT IT READS IS OF BULK AT MOST 1048576: true; the input reads as it did. -/
def plannerStatesUptoRow : OpenClaim := { program := "ytjcpfgkompgmeaagreatdoor", sum := "1a08fbd08c6b641c88b4ad9c48d1c951d6637387d11c0df20ef6666b9a758b41", func := "netsegment/nsglaw39.PlannerStates", spec := "plannerStates", unfollowed := true, recurses := true, named := ["netsegment/box.tops", "netsegment/expand.widths"], apart := false, laid := [("netsegment/box.tops", laid_netsegment_box_tops), ("netsegment/expand.widths", laid_netsegment_expand_widths)], narrowed := true }
def PlannerStatesUptoSaid : Prop := plannerStatesUptoRow.holds Tryz.pinned (OpenSpec.upto plannerStatesSpec)

end Rows
end Go.Proofs.YtjcpfgkompgmeaaGreatDoor
