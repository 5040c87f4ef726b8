/-
  DERIVED. GIVEN WITH THE SEED: THE CARDS: each row of YteondmdcbhhbfaaGreatDoorRows.lean that lists a variable, with what it lists TIED to the program's text (the seventh form; the later family's looks); each row that meets fmt, with fmt's text TOLD by the authors' own Lean function (tested against real Go, not proved from fmt's source: count such statements apart). THE CARD IS WHAT COUNTS. Prove the row's statement (the work); the ties are given (YteondmdcbhhbfaaGreatDoorTie.lean); close each card by the builder's one call (the guide's Derived/Test/ToyasCard.lean, 'card_holds'). Laid BY PROGRAM, IN A SANDBOX (cutbox-door.mjs). By AI agents, Wed Nov 11 2026. No macro, syntax, notation, axiom, sorry.
-/
import Derived.Test.YteondmdcbhhbfaaGreatDoorRows
import GoSem.ClaimSeven
namespace Go.Proofs.YteondmdcbhhbfaaGreatDoor
namespace Rows

/-- THE TIED CARD OF 'nsglaw27.NetworkNil'. -/
def networkNilCard : Claim7 := { stood := { row := networkNilRow, standIns := [], harness := (true, "40072b475b8e5898babb99b9acd18d38a210af6c9ef3a2f08c22ea3e919d64f4"), looks := false }, kinds := [], alts := [], laidByText := true, laidKinds := [.data], laidTests := true, laidLooks := .later }
def NetworkNilCardSaid : Prop := Claim7.holds Tryz.pinned (.plain (OpenSpec.ofChange networkNilSpec)) networkNilCard

/-- THE SECOND FORM's CARD OF 'nsglaw27.NetworkNil'. -/
def networkNilUptoCard : Claim7 := { stood := { row := networkNilUptoRow, standIns := [], harness := (true, "40072b475b8e5898babb99b9acd18d38a210af6c9ef3a2f08c22ea3e919d64f4"), looks := false }, kinds := [], alts := [], laidByText := true, laidKinds := [.data], laidTests := true, laidLooks := .later }
def NetworkNilUptoCardSaid : Prop := Claim7.holds Tryz.pinned (.plain (OpenSpec.upto networkNilSpec)) networkNilUptoCard
end Rows
end Go.Proofs.YteondmdcbhhbfaaGreatDoor
