/-
  DERIVED. GIVEN WITH THE SEED: THE CARDS: each row of YtainggmhdmocfaaGreatDoorRows.lean that lists a variable, with what it lists TIED to the program's text (the seventh form; the later family's looks); each row that meets fmt, with fmt's text TOLD by the authors' own Lean function (tested against real Go, not proved from fmt's source: count such statements apart). THE CARD IS WHAT COUNTS. Prove the row's statement (the work); the ties are given (YtainggmhdmocfaaGreatDoorTie.lean); close each card by the builder's one call (the guide's Derived/Test/ToyasCard.lean, 'card_holds'). Laid BY PROGRAM, IN A SANDBOX (cutbox-door.mjs). By AI agents, Wed Nov 11 2026. No macro, syntax, notation, axiom, sorry.
-/
import Derived.Test.YtainggmhdmocfaaGreatDoorRows
import GoSem.ClaimSeven
namespace Go.Proofs.YtainggmhdmocfaaGreatDoor
namespace Rows

/-- THE TIED CARD OF 'nsglaw25.ConntrackPlays'. -/
def conntrackPlaysCard : Claim7 := { stood := { row := conntrackPlaysRow, standIns := [], harness := (true, "dcbf2d12412cc7a6dcab64fa6992b81c0d9ea1b2732fefe30cb76842136b88f0"), looks := false }, kinds := [], alts := [], laidByText := true, laidKinds := [.data], laidTests := true, laidLooks := .later }
def ConntrackPlaysCardSaid : Prop := Claim7.holds Tryz.pinned (.plain (OpenSpec.ofChange conntrackPlaysSpec)) conntrackPlaysCard

/-- THE TIED CARD OF 'nsglaw25.ConntrackClones'. -/
def conntrackClonesCard : Claim7 := { stood := { row := conntrackClonesRow, standIns := [], harness := (true, "dcbf2d12412cc7a6dcab64fa6992b81c0d9ea1b2732fefe30cb76842136b88f0"), looks := false }, kinds := [], alts := [], laidByText := true, laidKinds := [.data], laidTests := true, laidLooks := .later }
def ConntrackClonesCardSaid : Prop := Claim7.holds Tryz.pinned (.plain (OpenSpec.ofChange conntrackClonesSpec)) conntrackClonesCard

/-- THE SECOND FORM's CARD OF 'nsglaw25.ConntrackPlays'. -/
def conntrackPlaysUptoCard : Claim7 := { stood := { row := conntrackPlaysUptoRow, standIns := [], harness := (true, "dcbf2d12412cc7a6dcab64fa6992b81c0d9ea1b2732fefe30cb76842136b88f0"), looks := false }, kinds := [], alts := [], laidByText := true, laidKinds := [.data], laidTests := true, laidLooks := .later }
def ConntrackPlaysUptoCardSaid : Prop := Claim7.holds Tryz.pinned (.plain (OpenSpec.upto conntrackPlaysSpec)) conntrackPlaysUptoCard

/-- THE SECOND FORM's CARD OF 'nsglaw25.ConntrackClones'. -/
def conntrackClonesUptoCard : Claim7 := { stood := { row := conntrackClonesUptoRow, standIns := [], harness := (true, "dcbf2d12412cc7a6dcab64fa6992b81c0d9ea1b2732fefe30cb76842136b88f0"), looks := false }, kinds := [], alts := [], laidByText := true, laidKinds := [.data], laidTests := true, laidLooks := .later }
def ConntrackClonesUptoCardSaid : Prop := Claim7.holds Tryz.pinned (.plain (OpenSpec.upto conntrackClonesSpec)) conntrackClonesUptoCard
end Rows
end Go.Proofs.YtainggmhdmocfaaGreatDoor
