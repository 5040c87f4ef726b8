/-
  DERIVED. GIVEN WITH THE SEED: THE CARDS: each row of YtdbopohjgcdpmaaGreatDoorRows.lean that lists a variable, with what it lists TIED to the program's text (the seventh form; the later family's looks); each row that meets fmt, with fmt's text TOLD by the authors' own Lean function (tested against real Go, not proved from fmt's source: count such statements apart). THE CARD IS WHAT COUNTS. Prove the row's statement (the work); the ties are given (YtdbopohjgcdpmaaGreatDoorTie.lean); close each card by the builder's one call (the guide's Derived/Test/ToyasCard.lean, 'card_holds'). Laid BY PROGRAM, IN A SANDBOX (cutbox-door.mjs). By AI agents, Wed Nov 11 2026. No macro, syntax, notation, axiom, sorry.
-/
import Derived.Test.YtdbopohjgcdpmaaGreatDoorRows
import GoSem.ClaimSeven
namespace Go.Proofs.YtdbopohjgcdpmaaGreatDoor
namespace Rows

/-- THE TIED CARD OF 'nsglaw33.LoopsFollow'. -/
def loopsFollowCard : Claim7 := { stood := { row := loopsFollowRow, standIns := [], harness := (true, "0f03021d57f638e3a247330f3f1b8f29bcbbaa0621d50567d170c07a06f96ba3"), looks := false }, kinds := [], alts := [], laidByText := true, laidKinds := [.data], laidTests := true, laidLooks := .later }
def LoopsFollowCardSaid : Prop := Claim7.holds Tryz.pinned (.plain (OpenSpec.ofChange loopsFollowSpec)) loopsFollowCard

/-- THE SECOND FORM's CARD OF 'nsglaw33.LoopsFollow'. -/
def loopsFollowUptoCard : Claim7 := { stood := { row := loopsFollowUptoRow, standIns := [], harness := (true, "0f03021d57f638e3a247330f3f1b8f29bcbbaa0621d50567d170c07a06f96ba3"), looks := false }, kinds := [], alts := [], laidByText := true, laidKinds := [.data], laidTests := true, laidLooks := .later }
def LoopsFollowUptoCardSaid : Prop := Claim7.holds Tryz.pinned (.plain (OpenSpec.upto loopsFollowSpec)) loopsFollowUptoCard
end Rows
end Go.Proofs.YtdbopohjgcdpmaaGreatDoor
