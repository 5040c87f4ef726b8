/-
  DERIVED. GIVEN WITH THE SEED: THE CARDS: each row of YtkeeaccnnljimaaDoorRows.lean that lists a variable, with what it lists TIED to the program's text (the seventh form; the later family's looks); each row that meets fmt, with fmt's text TOLD by the authors' own Lean function (tested against real Go, not proved from fmt's source: count such statements apart). THE CARD IS WHAT COUNTS. Prove the row's statement (the work); the ties are given (YtkeeaccnnljimaaDoorTie.lean); close each card by the builder's one call (the guide's Derived/Test/ToyasCard.lean, 'card_holds'). Laid BY PROGRAM, IN A SANDBOX (cutbox-door.mjs). By AI agents, Wed Nov 11 2026. No macro, syntax, notation, axiom, sorry.
-/
import Derived.Test.YtkeeaccnnljimaaDoorRows
import GoSem.ClaimSeven
namespace Go.Proofs.YtkeeaccnnljimaaDoor
namespace Rows

/-- THE TIED CARD OF 'nsglaw6.RewriteInverse'. -/
def rewriteInverseCard : Claim7 := { stood := { row := rewriteInverseRow, standIns := [], harness := (true, "a5a40438a5418eb5847fead067e11a916d9015b808cf8c7bd0a2b3a164d37141"), looks := false }, kinds := [], alts := [], laidByText := true, laidKinds := [.data], laidTests := true, laidLooks := .later }
def RewriteInverseCardSaid : Prop := Claim7.holds Tryd.pinned (.plain (OpenSpec.ofChange rewriteInverseSpec)) rewriteInverseCard

/-- THE TIED CARD OF 'nsglaw6.RewriteInjective'. -/
def rewriteInjectiveCard : Claim7 := { stood := { row := rewriteInjectiveRow, standIns := [], harness := (true, "a5a40438a5418eb5847fead067e11a916d9015b808cf8c7bd0a2b3a164d37141"), looks := false }, kinds := [], alts := [], laidByText := true, laidKinds := [.data], laidTests := true, laidLooks := .later }
def RewriteInjectiveCardSaid : Prop := Claim7.holds Tryd.pinned (.plain (OpenSpec.ofChange rewriteInjectiveSpec)) rewriteInjectiveCard

/-- THE TIED CARD OF 'nsglaw6.RewritePoints'. -/
def rewritePointsCard : Claim7 := { stood := { row := rewritePointsRow, standIns := [], harness := (true, "a5a40438a5418eb5847fead067e11a916d9015b808cf8c7bd0a2b3a164d37141"), looks := false }, kinds := [], alts := [], laidByText := true, laidKinds := [.data], laidTests := true, laidLooks := .later }
def RewritePointsCardSaid : Prop := Claim7.holds Tryd.pinned (.plain (OpenSpec.ofChange rewritePointsSpec)) rewritePointsCard

/-- THE SECOND FORM's CARD OF 'nsglaw6.RewriteInverse'. -/
def rewriteInverseUptoCard : Claim7 := { stood := { row := rewriteInverseUptoRow, standIns := [], harness := (true, "a5a40438a5418eb5847fead067e11a916d9015b808cf8c7bd0a2b3a164d37141"), looks := false }, kinds := [], alts := [], laidByText := true, laidKinds := [.data], laidTests := true, laidLooks := .later }
def RewriteInverseUptoCardSaid : Prop := Claim7.holds Tryd.pinned (.plain (OpenSpec.upto rewriteInverseSpec)) rewriteInverseUptoCard

/-- THE SECOND FORM's CARD OF 'nsglaw6.RewriteInjective'. -/
def rewriteInjectiveUptoCard : Claim7 := { stood := { row := rewriteInjectiveUptoRow, standIns := [], harness := (true, "a5a40438a5418eb5847fead067e11a916d9015b808cf8c7bd0a2b3a164d37141"), looks := false }, kinds := [], alts := [], laidByText := true, laidKinds := [.data], laidTests := true, laidLooks := .later }
def RewriteInjectiveUptoCardSaid : Prop := Claim7.holds Tryd.pinned (.plain (OpenSpec.upto rewriteInjectiveSpec)) rewriteInjectiveUptoCard

/-- THE SECOND FORM's CARD OF 'nsglaw6.RewritePoints'. -/
def rewritePointsUptoCard : Claim7 := { stood := { row := rewritePointsUptoRow, standIns := [], harness := (true, "a5a40438a5418eb5847fead067e11a916d9015b808cf8c7bd0a2b3a164d37141"), looks := false }, kinds := [], alts := [], laidByText := true, laidKinds := [.data], laidTests := true, laidLooks := .later }
def RewritePointsUptoCardSaid : Prop := Claim7.holds Tryd.pinned (.plain (OpenSpec.upto rewritePointsSpec)) rewritePointsUptoCard
end Rows
end Go.Proofs.YtkeeaccnnljimaaDoor
