/-
  DERIVED. GIVEN WITH THE SEED: THE CARDS: each row of YtjcpfgkompgmeaaGreatDoorRows.lean that lists a variable, with what it lists TIED to the program's text (the seventh form; the later family's looks); each row that meets fmt, with fmt's text TOLD by the authors' own Lean function (tested against real Go, not proved from fmt's source: count such statements apart). THE CARD IS WHAT COUNTS. Prove the row's statement (the work); the ties are given (YtjcpfgkompgmeaaGreatDoorTie.lean); close each card by the builder's one call (the guide's Derived/Test/ToyasCard.lean, 'card_holds'). Laid BY PROGRAM, IN A SANDBOX (cutbox-door.mjs). By AI agents, Wed Nov 11 2026. No macro, syntax, notation, axiom, sorry.
-/
import Derived.Test.YtjcpfgkompgmeaaGreatDoorRows
import GoSem.ClaimSeven
namespace Go.Proofs.YtjcpfgkompgmeaaGreatDoor
namespace Rows

/-- THE TIED CARD OF 'nsglaw39.PlannerLeast'. -/
def plannerLeastCard : Claim7 := { stood := { row := plannerLeastRow, standIns := [], harness := (true, "aa1dab600a6a966f02ee501e3e7ec3997d9daa3a4186079c1f9df50c8c8713d8"), looks := false }, kinds := [], alts := [], laidByText := true, laidKinds := [.data, .data], laidTests := true, laidLooks := .later }
def PlannerLeastCardSaid : Prop := Claim7.holds Tryz.pinned (.plain (OpenSpec.ofChange plannerLeastSpec)) plannerLeastCard

/-- THE TIED CARD OF 'nsglaw39.PlannerStates'. -/
def plannerStatesCard : Claim7 := { stood := { row := plannerStatesRow, standIns := [], harness := (true, "aa1dab600a6a966f02ee501e3e7ec3997d9daa3a4186079c1f9df50c8c8713d8"), looks := false }, kinds := [], alts := [], laidByText := true, laidKinds := [.data, .data], laidTests := true, laidLooks := .later }
def PlannerStatesCardSaid : Prop := Claim7.holds Tryz.pinned (.plain (OpenSpec.ofChange plannerStatesSpec)) plannerStatesCard

/-- THE SECOND FORM's CARD OF 'nsglaw39.PlannerLeast'. -/
def plannerLeastUptoCard : Claim7 := { stood := { row := plannerLeastUptoRow, standIns := [], harness := (true, "aa1dab600a6a966f02ee501e3e7ec3997d9daa3a4186079c1f9df50c8c8713d8"), looks := false }, kinds := [], alts := [], laidByText := true, laidKinds := [.data, .data], laidTests := true, laidLooks := .later }
def PlannerLeastUptoCardSaid : Prop := Claim7.holds Tryz.pinned (.plain (OpenSpec.upto plannerLeastSpec)) plannerLeastUptoCard

/-- THE SECOND FORM's CARD OF 'nsglaw39.PlannerStates'. -/
def plannerStatesUptoCard : Claim7 := { stood := { row := plannerStatesUptoRow, standIns := [], harness := (true, "aa1dab600a6a966f02ee501e3e7ec3997d9daa3a4186079c1f9df50c8c8713d8"), looks := false }, kinds := [], alts := [], laidByText := true, laidKinds := [.data, .data], laidTests := true, laidLooks := .later }
def PlannerStatesUptoCardSaid : Prop := Claim7.holds Tryz.pinned (.plain (OpenSpec.upto plannerStatesSpec)) plannerStatesUptoCard
end Rows
end Go.Proofs.YtjcpfgkompgmeaaGreatDoor
