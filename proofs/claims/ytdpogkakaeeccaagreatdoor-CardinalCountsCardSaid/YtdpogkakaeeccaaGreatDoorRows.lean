/-
  NARROWER THAN 'FOR EVERY INPUT', by the rows' own cells (each row's printed sentence says how): CardinalAdds: laid · CardinalCounts: laid.
  DERIVED. THE GIVEN ROWS OF THIS SEAT. 2 by the template 'for every input the law returns true; each argument reads behind the call as it read before'; 0 by the template 'total and deterministic' (their statements: YtdpogkakaeeccaaGreatDoorTotals.lean).
  GIVEN WITH THE SEED: the statements are not yours to turn. If you find one false, say at which input.
  Laid BY PROGRAM, IN A SANDBOX (cutbox-rows.mjs): the forced cells as the released guide's own fill.sh prints them over the translation c23275fdca218160… (all of the seat's roots in one cut). By AI agents, Wed Nov 11 2026. No macro, syntax, notation, axiom, sorry.
-/
import Derived.Test.YtdpogkakaeeccaaGreatDoorChecked
import GoSem.Claim
import GoSem.ClaimJoined
import GoSem.ClaimMapViews
import Derived.JoinedTies
import Derived.KernelRfl
namespace Go.Proofs.YtdpogkakaeeccaaGreatDoor
/- THE CELL 'sum', in the pinned program and in every row, IS THE sha256 OF THE DUMP (.gsa) THAT YtdpogkakaeeccaaGreatDoorProg.lean LOADS. Nothing in Lean hashes anything: it is a label: what it is worth is what the hold of that sum in a sandbox is worth. -/
noncomputable def Tryz.pinned : Pinned := { name := "ytdpogkakaeeccaagreatdoor", sum := "c23275fdca21816060f93df0ce9666858054ea4028e2d4f1cf96ce6e41253c4c", checked := Tryz.checked }
namespace Rows
def none {H : Type} : Left H := { results := [], args := [] }

/- WHAT THE LISTED PACKAGE-LEVEL VARIABLES READ AS WHEN THE CALL BEGINS. Each datum BY PROGRAM (the guide's laid-datum.mjs) off the statement by which the dump's own 'gosem.cut.vars' lays the variable. In a bare row this is a premise. The card (YtdpogkakaeeccaaGreatDoorCards.lean) ties it to the program's text. -/
def laid_netsegment_box_tops {H : Type} : DataW H := .agg [.lit (.int .u32 4294967295), .lit (.int .u32 4294967295), .lit (.int .u32 255), .lit (.int .u32 65535), .lit (.int .u32 65535)]

/-- 'nsglaw5.CardinalAdds': WHATEVER THE INPUT: true; the input reads as it did. -/
def cardinalAddsSpec : ChangeSpec := { name := "cardinalAdds", fn := fun _ => fun
  | [d] => { results := [.lit (.bool true)], args := [d] }
  | _ => none }
def cardinalAddsRow : OpenClaim := { program := "ytdpogkakaeeccaagreatdoor", sum := "c23275fdca21816060f93df0ce9666858054ea4028e2d4f1cf96ce6e41253c4c", func := "netsegment/nsglaw5.CardinalAdds", spec := "cardinalAdds", inPlace := ["math/bits.Add64", "math/bits.Sub64"], unfollowed := true, recurses := true, named := ["netsegment/box.tops", "math/bits.divideError", "math/bits.overflowError"], apart := false, laid := [("netsegment/box.tops", laid_netsegment_box_tops)] }
def CardinalAddsSaid : Prop := cardinalAddsRow.holds Tryz.pinned (OpenSpec.ofChange cardinalAddsSpec)

/-- ITS FALSE NEIGHBOUR: 'it returns false'. Refute it at one input. -/
def cardinalAddsWrong : ChangeSpec := { name := "cardinalAdds", fn := fun _ => fun
  | [d] => { results := [.lit (.bool false)], args := [d] }
  | _ => none }
def CardinalAddsWrongFalsely : Prop := cardinalAddsRow.holds Tryz.pinned (OpenSpec.ofChange cardinalAddsWrong)

/-- 'nsglaw5.CardinalCounts': WHATEVER THE INPUT: true; the input reads as it did. -/
def cardinalCountsSpec : ChangeSpec := { name := "cardinalCounts", fn := fun _ => fun
  | [d1, d2, d3, d4] => { results := [.lit (.bool true)], args := [d1, d2, d3, d4] }
  | _ => none }
def cardinalCountsRow : OpenClaim := { program := "ytdpogkakaeeccaagreatdoor", sum := "c23275fdca21816060f93df0ce9666858054ea4028e2d4f1cf96ce6e41253c4c", func := "netsegment/nsglaw5.CardinalCounts", spec := "cardinalCounts", inPlace := ["math/bits.Add64", "math/bits.Sub64"], unfollowed := true, recurses := true, named := ["netsegment/box.tops", "math/bits.divideError", "math/bits.overflowError"], apart := false, laid := [("netsegment/box.tops", laid_netsegment_box_tops)] }
def CardinalCountsSaid : Prop := cardinalCountsRow.holds Tryz.pinned (OpenSpec.ofChange cardinalCountsSpec)

/-- ITS FALSE NEIGHBOUR: 'it returns false'. Refute it at one input. -/
def cardinalCountsWrong : ChangeSpec := { name := "cardinalCounts", fn := fun _ => fun
  | [d1, d2, d3, d4] => { results := [.lit (.bool false)], args := [d1, d2, d3, d4] }
  | _ => none }
def CardinalCountsWrongFalsely : Prop := cardinalCountsRow.holds Tryz.pinned (OpenSpec.ofChange cardinalCountsWrong)

/- THE SECOND FORM. 'bulk': how many values and letters a reading holds, each counted each time it is reached (what is shared counts as often as it is met; a slice's spare places count too). A statement '..UptoSaid' is the law's where the arguments, and the package variables that the reading takes, are together of bulk at most 1048576: NARROWER than '..Said'. Prove '..Said' where nothing that the law and all that it calls make is longer than what came in: it says more and counts as full. Else prove '..UptoSaid'. A law counts once. -/
mutual
def uptoBulk {H : Type} : DataW H → Nat
  | .lit (.string bytes) => bytes.length + 1
  | .lit _ => 1
  | .nil => 1
  | .ptr d => uptoBulk d + 1
  | .slice elems spare => uptoBulkAll elems + uptoBulkAll spare + 1
  | .agg parts => uptoBulkAll parts + 1
  | .iface _ d => uptoBulk d + 1
  | .map entries => uptoBulkEntries entries + 1
  | .held _ => 1
def uptoBulkAll {H : Type} : List (DataW H) → Nat
  | [] => 0
  | d :: r => uptoBulk d + uptoBulkAll r
def uptoBulkEntries {H : Type} : List (Lit × DataW H) → Nat
  | [] => 0
  | x :: r => uptoBulkEntry x + uptoBulkEntries r
def uptoBulkEntry {H : Type} : Lit × DataW H → Nat
  | (.string bytes, d) => bytes.length + uptoBulk d + 1
  | (_, d) => uptoBulk d + 1
 end
def uptoSmall : (H : Type) → List (DataW H) → Bool := fun _ ds => decide (uptoBulkAll ds ≤ 1048576)
def OpenSpec.upto (s : _root_.Go.ChangeSpec) : _root_.Go.OpenSpec := { _root_.Go.OpenSpec.ofChange s with cond := some uptoSmall }

/-- 'nsglaw5.CardinalAdds', WHERE WHAT IT READS IS OF BULK AT MOST 1048576: true; the input reads as it did. -/
def cardinalAddsUptoRow : OpenClaim := { program := "ytdpogkakaeeccaagreatdoor", sum := "c23275fdca21816060f93df0ce9666858054ea4028e2d4f1cf96ce6e41253c4c", func := "netsegment/nsglaw5.CardinalAdds", spec := "cardinalAdds", inPlace := ["math/bits.Add64", "math/bits.Sub64"], unfollowed := true, recurses := true, named := ["netsegment/box.tops", "math/bits.divideError", "math/bits.overflowError"], apart := false, laid := [("netsegment/box.tops", laid_netsegment_box_tops)], narrowed := true }
def CardinalAddsUptoSaid : Prop := cardinalAddsUptoRow.holds Tryz.pinned (OpenSpec.upto cardinalAddsSpec)

/-- 'nsglaw5.CardinalCounts', WHERE WHAT IT READS IS OF BULK AT MOST 1048576: true; the input reads as it did. -/
def cardinalCountsUptoRow : OpenClaim := { program := "ytdpogkakaeeccaagreatdoor", sum := "c23275fdca21816060f93df0ce9666858054ea4028e2d4f1cf96ce6e41253c4c", func := "netsegment/nsglaw5.CardinalCounts", spec := "cardinalCounts", inPlace := ["math/bits.Add64", "math/bits.Sub64"], unfollowed := true, recurses := true, named := ["netsegment/box.tops", "math/bits.divideError", "math/bits.overflowError"], apart := false, laid := [("netsegment/box.tops", laid_netsegment_box_tops)], narrowed := true }
def CardinalCountsUptoSaid : Prop := cardinalCountsUptoRow.holds Tryz.pinned (OpenSpec.upto cardinalCountsSpec)

end Rows
end Go.Proofs.YtdpogkakaeeccaaGreatDoor
