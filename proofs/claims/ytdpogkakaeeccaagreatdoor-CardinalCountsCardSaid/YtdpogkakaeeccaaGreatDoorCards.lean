/-
  DERIVED. GIVEN WITH THE SEED: THE CARDS: each row of YtdpogkakaeeccaaGreatDoorRows.lean that lists a variable, with what it lists TIED to the program's text (the seventh form; the later family's looks); each row that meets fmt, with fmt's text TOLD by the authors' own Lean function (tested against real Go, not proved from fmt's source: count such statements apart). THE CARD IS WHAT COUNTS. Prove the row's statement (the work); the ties are given (YtdpogkakaeeccaaGreatDoorTie.lean); close each card by the builder's one call (the guide's Derived/Test/ToyasCard.lean, 'card_holds'). Laid BY PROGRAM, IN A SANDBOX (cutbox-door.mjs). By AI agents, Wed Nov 11 2026. No macro, syntax, notation, axiom, sorry.
-/
import Derived.Test.YtdpogkakaeeccaaGreatDoorRows
import GoSem.ClaimSeven
namespace Go.Proofs.YtdpogkakaeeccaaGreatDoor
namespace Rows

/-- THE TIED CARD OF 'nsglaw5.CardinalAdds'. -/
def cardinalAddsCard : Claim7 := { stood := { row := cardinalAddsRow, standIns := [], harness := (true, "a845cf0324bd01e8221d7d8d345f02c52ebbf433ded919a82ac0feb6e630a3c0"), looks := false }, kinds := [], alts := [], laidByText := true, laidKinds := [.data], laidTests := true, laidLooks := .later }
def CardinalAddsCardSaid : Prop := Claim7.holds Tryz.pinned (.plain (OpenSpec.ofChange cardinalAddsSpec)) cardinalAddsCard

/-- THE TIED CARD OF 'nsglaw5.CardinalCounts'. -/
def cardinalCountsCard : Claim7 := { stood := { row := cardinalCountsRow, standIns := [], harness := (true, "a845cf0324bd01e8221d7d8d345f02c52ebbf433ded919a82ac0feb6e630a3c0"), looks := false }, kinds := [], alts := [], laidByText := true, laidKinds := [.data], laidTests := true, laidLooks := .later }
def CardinalCountsCardSaid : Prop := Claim7.holds Tryz.pinned (.plain (OpenSpec.ofChange cardinalCountsSpec)) cardinalCountsCard

/-- THE SECOND FORM's CARD OF 'nsglaw5.CardinalAdds'. -/
def cardinalAddsUptoCard : Claim7 := { stood := { row := cardinalAddsUptoRow, standIns := [], harness := (true, "a845cf0324bd01e8221d7d8d345f02c52ebbf433ded919a82ac0feb6e630a3c0"), looks := false }, kinds := [], alts := [], laidByText := true, laidKinds := [.data], laidTests := true, laidLooks := .later }
def CardinalAddsUptoCardSaid : Prop := Claim7.holds Tryz.pinned (.plain (OpenSpec.upto cardinalAddsSpec)) cardinalAddsUptoCard

/-- THE SECOND FORM's CARD OF 'nsglaw5.CardinalCounts'. -/
def cardinalCountsUptoCard : Claim7 := { stood := { row := cardinalCountsUptoRow, standIns := [], harness := (true, "a845cf0324bd01e8221d7d8d345f02c52ebbf433ded919a82ac0feb6e630a3c0"), looks := false }, kinds := [], alts := [], laidByText := true, laidKinds := [.data], laidTests := true, laidLooks := .later }
def CardinalCountsUptoCardSaid : Prop := Claim7.holds Tryz.pinned (.plain (OpenSpec.upto cardinalCountsSpec)) cardinalCountsUptoCard
end Rows
end Go.Proofs.YtdpogkakaeeccaaGreatDoor
