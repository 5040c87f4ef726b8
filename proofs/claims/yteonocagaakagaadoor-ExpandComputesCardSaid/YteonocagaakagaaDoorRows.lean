/-
  NARROWER THAN 'FOR EVERY INPUT', by the rows' own cells (each row's printed sentence says how): ExpandComputes: laid · ExpandDivides: laid · ExpandProducts: laid · ExpandCuts: laid · ExpandSums: laid.
  DERIVED. THE GIVEN ROWS OF THIS SEAT. 5 by the template 'for every input the law returns true; each argument reads behind the call as it read before'; 0 by the template 'total and deterministic' (their statements: YteonocagaakagaaDoorTotals.lean).
  GIVEN WITH THE SEED: the statements are not yours to turn. If you find one false, say at which input.
  Laid BY PROGRAM, IN A SANDBOX (cutbox-rows.mjs): the forced cells as the released guide's own fill.sh prints them over the translation 8916b57c4fa7de1c… (all of the seat's roots in one cut). By AI agents, Wed Nov 11 2026. No macro, syntax, notation, axiom, sorry.
-/
import Derived.Test.YteonocagaakagaaDoorChecked
import GoSem.Claim
import GoSem.ClaimJoined
import GoSem.ClaimMapViews
import Derived.JoinedTies
import Derived.KernelRfl
namespace Go.Proofs.YteonocagaakagaaDoor
/- THE CELL 'sum', in the pinned program and in every row, IS THE sha256 OF THE DUMP (.gsa) THAT YteonocagaakagaaDoorProg.lean LOADS. Nothing in Lean hashes anything: it is a label: what it is worth is what the hold of that sum in a sandbox is worth. -/
noncomputable def Tryd.pinned : Pinned := { name := "yteonocagaakagaadoor", sum := "8916b57c4fa7de1c59e5143c2e253e0e98d901ca77051d7b0778330622fae463", checked := Tryd.checked }
namespace Rows
def none {H : Type} : Left H := { results := [], args := [] }

/- WHAT THE LISTED PACKAGE-LEVEL VARIABLES READ AS WHEN THE CALL BEGINS. Each datum BY PROGRAM (the guide's laid-datum.mjs) off the statement by which the dump's own 'gosem.cut.vars' lays the variable. In a bare row this is a premise. The card (YteonocagaakagaaDoorCards.lean) ties it to the program's text. -/
def laid_netsegment_box_tops {H : Type} : DataW H := .agg [.lit (.int .u32 4294967295), .lit (.int .u32 4294967295), .lit (.int .u32 255), .lit (.int .u32 65535), .lit (.int .u32 65535)]
def laid_netsegment_expand_widths {H : Type} : DataW H := .agg [.lit (.int .i64 32), .lit (.int .i64 32), .lit (.int .i64 8), .lit (.int .i64 16), .lit (.int .i64 16)]

/-- 'nsglaw7.ExpandComputes': WHATEVER THE INPUT: true; the input reads as it did. -/
def expandComputesSpec : ChangeSpec := { name := "expandComputes", fn := fun _ => fun
  | [d1, d2] => { results := [.lit (.bool true)], args := [d1, d2] }
  | _ => none }
def expandComputesRow : OpenClaim := { program := "yteonocagaakagaadoor", sum := "8916b57c4fa7de1c59e5143c2e253e0e98d901ca77051d7b0778330622fae463", func := "netsegment/nsglaw7.ExpandComputes", spec := "expandComputes", named := ["netsegment/box.tops", "netsegment/expand.widths"], apart := false, laid := [("netsegment/box.tops", laid_netsegment_box_tops), ("netsegment/expand.widths", laid_netsegment_expand_widths)] }
def ExpandComputesSaid : Prop := expandComputesRow.holds Tryd.pinned (OpenSpec.ofChange expandComputesSpec)

/-- ITS FALSE NEIGHBOUR: 'it returns false'. Refute it at one input. -/
def expandComputesWrong : ChangeSpec := { name := "expandComputes", fn := fun _ => fun
  | [d1, d2] => { results := [.lit (.bool false)], args := [d1, d2] }
  | _ => none }
def ExpandComputesWrongFalsely : Prop := expandComputesRow.holds Tryd.pinned (OpenSpec.ofChange expandComputesWrong)

/-- 'nsglaw7.ExpandDivides': WHATEVER THE INPUT: true; the input reads as it did. -/
def expandDividesSpec : ChangeSpec := { name := "expandDivides", fn := fun _ => fun
  | [d1, d2] => { results := [.lit (.bool true)], args := [d1, d2] }
  | _ => none }
def expandDividesRow : OpenClaim := { program := "yteonocagaakagaadoor", sum := "8916b57c4fa7de1c59e5143c2e253e0e98d901ca77051d7b0778330622fae463", func := "netsegment/nsglaw7.ExpandDivides", spec := "expandDivides", named := ["netsegment/box.tops", "netsegment/expand.widths"], apart := false, laid := [("netsegment/box.tops", laid_netsegment_box_tops), ("netsegment/expand.widths", laid_netsegment_expand_widths)] }
def ExpandDividesSaid : Prop := expandDividesRow.holds Tryd.pinned (OpenSpec.ofChange expandDividesSpec)

/-- ITS FALSE NEIGHBOUR: 'it returns false'. Refute it at one input. -/
def expandDividesWrong : ChangeSpec := { name := "expandDivides", fn := fun _ => fun
  | [d1, d2] => { results := [.lit (.bool false)], args := [d1, d2] }
  | _ => none }
def ExpandDividesWrongFalsely : Prop := expandDividesRow.holds Tryd.pinned (OpenSpec.ofChange expandDividesWrong)

/-- 'nsglaw7.ExpandProducts': WHATEVER THE INPUT: true; the input reads as it did. -/
def expandProductsSpec : ChangeSpec := { name := "expandProducts", fn := fun _ => fun
  | [d1, d2] => { results := [.lit (.bool true)], args := [d1, d2] }
  | _ => none }
def expandProductsRow : OpenClaim := { program := "yteonocagaakagaadoor", sum := "8916b57c4fa7de1c59e5143c2e253e0e98d901ca77051d7b0778330622fae463", func := "netsegment/nsglaw7.ExpandProducts", spec := "expandProducts", named := ["netsegment/box.tops", "netsegment/expand.widths"], apart := false, laid := [("netsegment/box.tops", laid_netsegment_box_tops), ("netsegment/expand.widths", laid_netsegment_expand_widths)] }
def ExpandProductsSaid : Prop := expandProductsRow.holds Tryd.pinned (OpenSpec.ofChange expandProductsSpec)

/-- ITS FALSE NEIGHBOUR: 'it returns false'. Refute it at one input. -/
def expandProductsWrong : ChangeSpec := { name := "expandProducts", fn := fun _ => fun
  | [d1, d2] => { results := [.lit (.bool false)], args := [d1, d2] }
  | _ => none }
def ExpandProductsWrongFalsely : Prop := expandProductsRow.holds Tryd.pinned (OpenSpec.ofChange expandProductsWrong)

/-- 'nsglaw7.ExpandCuts': WHATEVER THE INPUT: true; the input reads as it did. -/
def expandCutsSpec : ChangeSpec := { name := "expandCuts", fn := fun _ => fun
  | [d1, d2, d3] => { results := [.lit (.bool true)], args := [d1, d2, d3] }
  | _ => none }
def expandCutsRow : OpenClaim := { program := "yteonocagaakagaadoor", sum := "8916b57c4fa7de1c59e5143c2e253e0e98d901ca77051d7b0778330622fae463", func := "netsegment/nsglaw7.ExpandCuts", spec := "expandCuts", named := ["netsegment/box.tops", "netsegment/expand.widths"], apart := false, laid := [("netsegment/box.tops", laid_netsegment_box_tops), ("netsegment/expand.widths", laid_netsegment_expand_widths)] }
def ExpandCutsSaid : Prop := expandCutsRow.holds Tryd.pinned (OpenSpec.ofChange expandCutsSpec)

/-- ITS FALSE NEIGHBOUR: 'it returns false'. Refute it at one input. -/
def expandCutsWrong : ChangeSpec := { name := "expandCuts", fn := fun _ => fun
  | [d1, d2, d3] => { results := [.lit (.bool false)], args := [d1, d2, d3] }
  | _ => none }
def ExpandCutsWrongFalsely : Prop := expandCutsRow.holds Tryd.pinned (OpenSpec.ofChange expandCutsWrong)

/-- 'nsglaw7.ExpandSums': WHATEVER THE INPUT: true; the input reads as it did. -/
def expandSumsSpec : ChangeSpec := { name := "expandSums", fn := fun _ => fun
  | [d1, d2, d3, d4] => { results := [.lit (.bool true)], args := [d1, d2, d3, d4] }
  | _ => none }
def expandSumsRow : OpenClaim := { program := "yteonocagaakagaadoor", sum := "8916b57c4fa7de1c59e5143c2e253e0e98d901ca77051d7b0778330622fae463", func := "netsegment/nsglaw7.ExpandSums", spec := "expandSums", named := ["netsegment/box.tops", "netsegment/expand.widths"], apart := false, laid := [("netsegment/box.tops", laid_netsegment_box_tops), ("netsegment/expand.widths", laid_netsegment_expand_widths)] }
def ExpandSumsSaid : Prop := expandSumsRow.holds Tryd.pinned (OpenSpec.ofChange expandSumsSpec)

/-- ITS FALSE NEIGHBOUR: 'it returns false'. Refute it at one input. -/
def expandSumsWrong : ChangeSpec := { name := "expandSums", fn := fun _ => fun
  | [d1, d2, d3, d4] => { results := [.lit (.bool false)], args := [d1, d2, d3, d4] }
  | _ => none }
def ExpandSumsWrongFalsely : Prop := expandSumsRow.holds Tryd.pinned (OpenSpec.ofChange expandSumsWrong)

/- THE SECOND FORM. 'bulk': how many values and letters a reading holds, each counted each time it is reached (what is shared counts as often as it is met; a slice's spare places count too). A statement '..UptoSaid' is the law's where the arguments, and the package variables that the reading takes, are together of bulk at most 1048576: NARROWER than '..Said'. Prove '..Said' where nothing that the law and all that it calls make is longer than what came in: it says more and counts as full. Else prove '..UptoSaid'. A law counts once. -/
mutual
def uptoBulk {H : Type} : DataW H → Nat
  | .lit (.string bytes) => bytes.length + 1
  | .lit _ => 1
  | .nil => 1
  | .ptr d => uptoBulk d + 1
  | .slice elems spare => uptoBulkAll elems + uptoBulkAll spare + 1
  | .agg parts => uptoBulkAll parts + 1
  | .iface _ d => uptoBulk d + 1
  | .map entries => uptoBulkEntries entries + 1
  | .held _ => 1
def uptoBulkAll {H : Type} : List (DataW H) → Nat
  | [] => 0
  | d :: r => uptoBulk d + uptoBulkAll r
def uptoBulkEntries {H : Type} : List (Lit × DataW H) → Nat
  | [] => 0
  | x :: r => uptoBulkEntry x + uptoBulkEntries r
def uptoBulkEntry {H : Type} : Lit × DataW H → Nat
  | (.string bytes, d) => bytes.length + uptoBulk d + 1
  | (_, d) => uptoBulk d + 1
 end
def uptoSmall : (H : Type) → List (DataW H) → Bool := fun _ ds => decide (uptoBulkAll ds ≤ 1048576)
def OpenSpec.upto (s : _root_.Go.ChangeSpec) : _root_.Go.OpenSpec := { _root_.Go.OpenSpec.ofChange s with cond := some uptoSmall }

/-- 'nsglaw7.ExpandComputes', WHERE WHAT IT READS IS OF BULK AT MOST 1048576: true; the input reads as it did. -/
def expandComputesUptoRow : OpenClaim := { program := "yteonocagaakagaadoor", sum := "8916b57c4fa7de1c59e5143c2e253e0e98d901ca77051d7b0778330622fae463", func := "netsegment/nsglaw7.ExpandComputes", spec := "expandComputes", named := ["netsegment/box.tops", "netsegment/expand.widths"], apart := false, laid := [("netsegment/box.tops", laid_netsegment_box_tops), ("netsegment/expand.widths", laid_netsegment_expand_widths)], narrowed := true }
def ExpandComputesUptoSaid : Prop := expandComputesUptoRow.holds Tryd.pinned (OpenSpec.upto expandComputesSpec)

/-- 'nsglaw7.ExpandDivides', WHERE WHAT IT READS IS OF BULK AT MOST 1048576: true; the input reads as it did. -/
def expandDividesUptoRow : OpenClaim := { program := "yteonocagaakagaadoor", sum := "8916b57c4fa7de1c59e5143c2e253e0e98d901ca77051d7b0778330622fae463", func := "netsegment/nsglaw7.ExpandDivides", spec := "expandDivides", named := ["netsegment/box.tops", "netsegment/expand.widths"], apart := false, laid := [("netsegment/box.tops", laid_netsegment_box_tops), ("netsegment/expand.widths", laid_netsegment_expand_widths)], narrowed := true }
def ExpandDividesUptoSaid : Prop := expandDividesUptoRow.holds Tryd.pinned (OpenSpec.upto expandDividesSpec)

/-- 'nsglaw7.ExpandProducts', WHERE WHAT IT READS IS OF BULK AT MOST 1048576: true; the input reads as it did. -/
def expandProductsUptoRow : OpenClaim := { program := "yteonocagaakagaadoor", sum := "8916b57c4fa7de1c59e5143c2e253e0e98d901ca77051d7b0778330622fae463", func := "netsegment/nsglaw7.ExpandProducts", spec := "expandProducts", named := ["netsegment/box.tops", "netsegment/expand.widths"], apart := false, laid := [("netsegment/box.tops", laid_netsegment_box_tops), ("netsegment/expand.widths", laid_netsegment_expand_widths)], narrowed := true }
def ExpandProductsUptoSaid : Prop := expandProductsUptoRow.holds Tryd.pinned (OpenSpec.upto expandProductsSpec)

/-- 'nsglaw7.ExpandCuts', WHERE WHAT IT READS IS OF BULK AT MOST 1048576: true; the input reads as it did. -/
def expandCutsUptoRow : OpenClaim := { program := "yteonocagaakagaadoor", sum := "8916b57c4fa7de1c59e5143c2e253e0e98d901ca77051d7b0778330622fae463", func := "netsegment/nsglaw7.ExpandCuts", spec := "expandCuts", named := ["netsegment/box.tops", "netsegment/expand.widths"], apart := false, laid := [("netsegment/box.tops", laid_netsegment_box_tops), ("netsegment/expand.widths", laid_netsegment_expand_widths)], narrowed := true }
def ExpandCutsUptoSaid : Prop := expandCutsUptoRow.holds Tryd.pinned (OpenSpec.upto expandCutsSpec)

/-- 'nsglaw7.ExpandSums', WHERE WHAT IT READS IS OF BULK AT MOST 1048576: true; the input reads as it did. -/
def expandSumsUptoRow : OpenClaim := { program := "yteonocagaakagaadoor", sum := "8916b57c4fa7de1c59e5143c2e253e0e98d901ca77051d7b0778330622fae463", func := "netsegment/nsglaw7.ExpandSums", spec := "expandSums", named := ["netsegment/box.tops", "netsegment/expand.widths"], apart := false, laid := [("netsegment/box.tops", laid_netsegment_box_tops), ("netsegment/expand.widths", laid_netsegment_expand_widths)], narrowed := true }
def ExpandSumsUptoSaid : Prop := expandSumsUptoRow.holds Tryd.pinned (OpenSpec.upto expandSumsSpec)

end Rows
end Go.Proofs.YteonocagaakagaaDoor
