/-
  NARROWER THAN 'FOR EVERY INPUT', by the rows' own cells (each row's printed sentence says how): ConntrackDeliversApart: laid · ConntrackForgets: laid · ConntrackNil: laid.
  DERIVED. THE GIVEN ROWS OF THIS SEAT. 3 by the template 'for every input the law returns true; each argument reads behind the call as it read before'; 0 by the template 'total and deterministic' (their statements: YtainggmhdmocfaaDoorTotals.lean).
  GIVEN WITH THE SEED: the statements are not yours to turn. If you find one false, say at which input.
  Laid BY PROGRAM, IN A SANDBOX (cutbox-rows.mjs): the forced cells as the released guide's own fill.sh prints them over the translation 1fd8e42700d79815… (all of the seat's roots in one cut). By AI agents, Wed Nov 11 2026. No macro, syntax, notation, axiom, sorry.
-/
import Derived.Test.YtainggmhdmocfaaDoorChecked
import GoSem.Claim
import GoSem.ClaimJoined
import GoSem.ClaimMapViews
import Derived.JoinedTies
import Derived.KernelRfl
namespace Go.Proofs.YtainggmhdmocfaaDoor
/- THE CELL 'sum', in the pinned program and in every row, IS THE sha256 OF THE DUMP (.gsa) THAT YtainggmhdmocfaaDoorProg.lean LOADS. Nothing in Lean hashes anything: it is a label: what it is worth is what the hold of that sum in a sandbox is worth. -/
noncomputable def Tryd.pinned : Pinned := { name := "ytainggmhdmocfaadoor", sum := "1fd8e42700d798150eac4de7f3d6dc16d812cf83dcc983cedae8a12cf4bb28df", checked := Tryd.checked }
namespace Rows
def none {H : Type} : Left H := { results := [], args := [] }

/- WHAT THE LISTED PACKAGE-LEVEL VARIABLES READ AS WHEN THE CALL BEGINS. Each datum BY PROGRAM (the guide's laid-datum.mjs) off the statement by which the dump's own 'gosem.cut.vars' lays the variable. In a bare row this is a premise. The card (YtainggmhdmocfaaDoorCards.lean) ties it to the program's text. -/
def laid_netsegment_box_tops {H : Type} : DataW H := .agg [.lit (.int .u32 4294967295), .lit (.int .u32 4294967295), .lit (.int .u32 255), .lit (.int .u32 65535), .lit (.int .u32 65535)]

/-- 'nsglaw25.ConntrackDeliversApart': WHATEVER THE INPUT: true; the input reads as it did. -/
def conntrackDeliversApartSpec : ChangeSpec := { name := "conntrackDeliversApart", fn := fun _ => fun
  | [d1, d2] => { results := [.lit (.bool true)], args := [d1, d2] }
  | _ => none }
def conntrackDeliversApartRow : OpenClaim := { program := "ytainggmhdmocfaadoor", sum := "1fd8e42700d798150eac4de7f3d6dc16d812cf83dcc983cedae8a12cf4bb28df", func := "netsegment/nsglaw25.ConntrackDeliversApart", spec := "conntrackDeliversApart", unfollowed := true, recurses := true, named := ["netsegment/box.tops"], plainKeys := false, apart := false, laid := [("netsegment/box.tops", laid_netsegment_box_tops)] }
def ConntrackDeliversApartSaid : Prop := conntrackDeliversApartRow.holds Tryd.pinned (OpenSpec.ofChange conntrackDeliversApartSpec)

/-- ITS FALSE NEIGHBOUR: 'it returns false'. Refute it at one input. -/
def conntrackDeliversApartWrong : ChangeSpec := { name := "conntrackDeliversApart", fn := fun _ => fun
  | [d1, d2] => { results := [.lit (.bool false)], args := [d1, d2] }
  | _ => none }
def ConntrackDeliversApartWrongFalsely : Prop := conntrackDeliversApartRow.holds Tryd.pinned (OpenSpec.ofChange conntrackDeliversApartWrong)

/-- 'nsglaw25.ConntrackForgets': WHATEVER THE INPUT: true; the input reads as it did. -/
def conntrackForgetsSpec : ChangeSpec := { name := "conntrackForgets", fn := fun _ => fun
  | [d1, d2, d3, d4, d5] => { results := [.lit (.bool true)], args := [d1, d2, d3, d4, d5] }
  | _ => none }
def conntrackForgetsRow : OpenClaim := { program := "ytainggmhdmocfaadoor", sum := "1fd8e42700d798150eac4de7f3d6dc16d812cf83dcc983cedae8a12cf4bb28df", func := "netsegment/nsglaw25.ConntrackForgets", spec := "conntrackForgets", unfollowed := true, recurses := true, named := ["netsegment/box.tops"], plainKeys := false, apart := false, laid := [("netsegment/box.tops", laid_netsegment_box_tops)] }
def ConntrackForgetsSaid : Prop := conntrackForgetsRow.holds Tryd.pinned (OpenSpec.ofChange conntrackForgetsSpec)

/-- ITS FALSE NEIGHBOUR: 'it returns false'. Refute it at one input. -/
def conntrackForgetsWrong : ChangeSpec := { name := "conntrackForgets", fn := fun _ => fun
  | [d1, d2, d3, d4, d5] => { results := [.lit (.bool false)], args := [d1, d2, d3, d4, d5] }
  | _ => none }
def ConntrackForgetsWrongFalsely : Prop := conntrackForgetsRow.holds Tryd.pinned (OpenSpec.ofChange conntrackForgetsWrong)

/-- 'nsglaw25.ConntrackNil': WHATEVER THE INPUT: true; the input reads as it did. -/
def conntrackNilSpec : ChangeSpec := { name := "conntrackNil", fn := fun _ => fun
  | [d1, d2, d3, d4] => { results := [.lit (.bool true)], args := [d1, d2, d3, d4] }
  | _ => none }
def conntrackNilRow : OpenClaim := { program := "ytainggmhdmocfaadoor", sum := "1fd8e42700d798150eac4de7f3d6dc16d812cf83dcc983cedae8a12cf4bb28df", func := "netsegment/nsglaw25.ConntrackNil", spec := "conntrackNil", unfollowed := true, recurses := true, named := ["netsegment/box.tops"], plainKeys := false, apart := false, laid := [("netsegment/box.tops", laid_netsegment_box_tops)] }
def ConntrackNilSaid : Prop := conntrackNilRow.holds Tryd.pinned (OpenSpec.ofChange conntrackNilSpec)

/-- ITS FALSE NEIGHBOUR: 'it returns false'. Refute it at one input. -/
def conntrackNilWrong : ChangeSpec := { name := "conntrackNil", fn := fun _ => fun
  | [d1, d2, d3, d4] => { results := [.lit (.bool false)], args := [d1, d2, d3, d4] }
  | _ => none }
def ConntrackNilWrongFalsely : Prop := conntrackNilRow.holds Tryd.pinned (OpenSpec.ofChange conntrackNilWrong)

/- THE SECOND FORM. 'bulk': how many values and letters a reading holds, each counted each time it is reached (what is shared counts as often as it is met; a slice's spare places count too). A statement '..UptoSaid' is the law's where the arguments, and the package variables that the reading takes, are together of bulk at most 1048576: NARROWER than '..Said'. Prove '..Said' where nothing that the law and all that it calls make is longer than what came in: it says more and counts as full. Else prove '..UptoSaid'. A law counts once. -/
mutual
def uptoBulk {H : Type} : DataW H → Nat
  | .lit (.string bytes) => bytes.length + 1
  | .lit _ => 1
  | .nil => 1
  | .ptr d => uptoBulk d + 1
  | .slice elems spare => uptoBulkAll elems + uptoBulkAll spare + 1
  | .agg parts => uptoBulkAll parts + 1
  | .iface _ d => uptoBulk d + 1
  | .map entries => uptoBulkEntries entries + 1
  | .held _ => 1
def uptoBulkAll {H : Type} : List (DataW H) → Nat
  | [] => 0
  | d :: r => uptoBulk d + uptoBulkAll r
def uptoBulkEntries {H : Type} : List (Lit × DataW H) → Nat
  | [] => 0
  | x :: r => uptoBulkEntry x + uptoBulkEntries r
def uptoBulkEntry {H : Type} : Lit × DataW H → Nat
  | (.string bytes, d) => bytes.length + uptoBulk d + 1
  | (_, d) => uptoBulk d + 1
 end
def uptoSmall : (H : Type) → List (DataW H) → Bool := fun _ ds => decide (uptoBulkAll ds ≤ 1048576)
def OpenSpec.upto (s : _root_.Go.ChangeSpec) : _root_.Go.OpenSpec := { _root_.Go.OpenSpec.ofChange s with cond := some uptoSmall }

/-- 'nsglaw25.ConntrackDeliversApart', WHERE WHAT IT READS IS OF BULK AT MOST 1048576: true; the input reads as it did. -/
def conntrackDeliversApartUptoRow : OpenClaim := { program := "ytainggmhdmocfaadoor", sum := "1fd8e42700d798150eac4de7f3d6dc16d812cf83dcc983cedae8a12cf4bb28df", func := "netsegment/nsglaw25.ConntrackDeliversApart", spec := "conntrackDeliversApart", unfollowed := true, recurses := true, named := ["netsegment/box.tops"], plainKeys := false, apart := false, laid := [("netsegment/box.tops", laid_netsegment_box_tops)], narrowed := true }
def ConntrackDeliversApartUptoSaid : Prop := conntrackDeliversApartUptoRow.holds Tryd.pinned (OpenSpec.upto conntrackDeliversApartSpec)

/-- 'nsglaw25.ConntrackForgets', WHERE WHAT IT READS IS OF BULK AT MOST 1048576: true; the input reads as it did. -/
def conntrackForgetsUptoRow : OpenClaim := { program := "ytainggmhdmocfaadoor", sum := "1fd8e42700d798150eac4de7f3d6dc16d812cf83dcc983cedae8a12cf4bb28df", func := "netsegment/nsglaw25.ConntrackForgets", spec := "conntrackForgets", unfollowed := true, recurses := true, named := ["netsegment/box.tops"], plainKeys := false, apart := false, laid := [("netsegment/box.tops", laid_netsegment_box_tops)], narrowed := true }
def ConntrackForgetsUptoSaid : Prop := conntrackForgetsUptoRow.holds Tryd.pinned (OpenSpec.upto conntrackForgetsSpec)

/-- 'nsglaw25.ConntrackNil', WHERE WHAT IT READS IS OF BULK AT MOST 1048576: true; the input reads as it did. -/
def conntrackNilUptoRow : OpenClaim := { program := "ytainggmhdmocfaadoor", sum := "1fd8e42700d798150eac4de7f3d6dc16d812cf83dcc983cedae8a12cf4bb28df", func := "netsegment/nsglaw25.ConntrackNil", spec := "conntrackNil", unfollowed := true, recurses := true, named := ["netsegment/box.tops"], plainKeys := false, apart := false, laid := [("netsegment/box.tops", laid_netsegment_box_tops)], narrowed := true }
def ConntrackNilUptoSaid : Prop := conntrackNilUptoRow.holds Tryd.pinned (OpenSpec.upto conntrackNilSpec)

end Rows
end Go.Proofs.YtainggmhdmocfaaDoor
