/-
  DERIVED. GIVEN WITH THE SEED: THE CARDS: each row of YtkeeaccnnljimaaGreatDoorRows.lean that lists a variable, with what it lists TIED to the program's text (the seventh form; the later family's looks); each row that meets fmt, with fmt's text TOLD by the authors' own Lean function (tested against real Go, not proved from fmt's source: count such statements apart). THE CARD IS WHAT COUNTS. Prove the row's statement (the work); the ties are given (YtkeeaccnnljimaaGreatDoorTie.lean); close each card by the builder's one call (the guide's Derived/Test/ToyasCard.lean, 'card_holds'). Laid BY PROGRAM, IN A SANDBOX (cutbox-door.mjs). By AI agents, Wed Nov 11 2026. No macro, syntax, notation, axiom, sorry.
-/
import Derived.Test.YtkeeaccnnljimaaGreatDoorRows
import GoSem.ClaimSeven
namespace Go.Proofs.YtkeeaccnnljimaaGreatDoor
namespace Rows

/-- THE TIED CARD OF 'nsglaw6.RewriteMoves'. -/
def rewriteMovesCard : Claim7 := { stood := { row := rewriteMovesRow, standIns := [], harness := (true, "6661b805d261edc0206b073f85e3ab60a74f406b3aad38b04df3b309ce1b9403"), looks := false }, kinds := [], alts := [], laidByText := true, laidKinds := [.data], laidTests := true, laidLooks := .later }
def RewriteMovesCardSaid : Prop := Claim7.holds Tryz.pinned (.plain (OpenSpec.ofChange rewriteMovesSpec)) rewriteMovesCard

/-- THE TIED CARD OF 'nsglaw6.RewriteGalois'. -/
def rewriteGaloisCard : Claim7 := { stood := { row := rewriteGaloisRow, standIns := [], harness := (true, "6661b805d261edc0206b073f85e3ab60a74f406b3aad38b04df3b309ce1b9403"), looks := false }, kinds := [], alts := [], laidByText := true, laidKinds := [.data], laidTests := true, laidLooks := .later }
def RewriteGaloisCardSaid : Prop := Claim7.holds Tryz.pinned (.plain (OpenSpec.ofChange rewriteGaloisSpec)) rewriteGaloisCard

/-- THE TIED CARD OF 'nsglaw6.RewriteImages'. -/
def rewriteImagesCard : Claim7 := { stood := { row := rewriteImagesRow, standIns := [], harness := (true, "6661b805d261edc0206b073f85e3ab60a74f406b3aad38b04df3b309ce1b9403"), looks := false }, kinds := [], alts := [], laidByText := true, laidKinds := [.data], laidTests := true, laidLooks := .later }
def RewriteImagesCardSaid : Prop := Claim7.holds Tryz.pinned (.plain (OpenSpec.ofChange rewriteImagesSpec)) rewriteImagesCard

/-- THE TIED CARD OF 'nsglaw6.RewriteHidePoints'. -/
def rewriteHidePointsCard : Claim7 := { stood := { row := rewriteHidePointsRow, standIns := [], harness := (true, "6661b805d261edc0206b073f85e3ab60a74f406b3aad38b04df3b309ce1b9403"), looks := false }, kinds := [], alts := [], laidByText := true, laidKinds := [.data], laidTests := true, laidLooks := .later }
def RewriteHidePointsCardSaid : Prop := Claim7.holds Tryz.pinned (.plain (OpenSpec.ofChange rewriteHidePointsSpec)) rewriteHidePointsCard

/-- THE TIED CARD OF 'nsglaw6.RewriteHides'. -/
def rewriteHidesCard : Claim7 := { stood := { row := rewriteHidesRow, standIns := [], harness := (true, "6661b805d261edc0206b073f85e3ab60a74f406b3aad38b04df3b309ce1b9403"), looks := false }, kinds := [], alts := [], laidByText := true, laidKinds := [.data], laidTests := true, laidLooks := .later }
def RewriteHidesCardSaid : Prop := Claim7.holds Tryz.pinned (.plain (OpenSpec.ofChange rewriteHidesSpec)) rewriteHidesCard

/-- THE SECOND FORM's CARD OF 'nsglaw6.RewriteMoves'. -/
def rewriteMovesUptoCard : Claim7 := { stood := { row := rewriteMovesUptoRow, standIns := [], harness := (true, "6661b805d261edc0206b073f85e3ab60a74f406b3aad38b04df3b309ce1b9403"), looks := false }, kinds := [], alts := [], laidByText := true, laidKinds := [.data], laidTests := true, laidLooks := .later }
def RewriteMovesUptoCardSaid : Prop := Claim7.holds Tryz.pinned (.plain (OpenSpec.upto rewriteMovesSpec)) rewriteMovesUptoCard

/-- THE SECOND FORM's CARD OF 'nsglaw6.RewriteGalois'. -/
def rewriteGaloisUptoCard : Claim7 := { stood := { row := rewriteGaloisUptoRow, standIns := [], harness := (true, "6661b805d261edc0206b073f85e3ab60a74f406b3aad38b04df3b309ce1b9403"), looks := false }, kinds := [], alts := [], laidByText := true, laidKinds := [.data], laidTests := true, laidLooks := .later }
def RewriteGaloisUptoCardSaid : Prop := Claim7.holds Tryz.pinned (.plain (OpenSpec.upto rewriteGaloisSpec)) rewriteGaloisUptoCard

/-- THE SECOND FORM's CARD OF 'nsglaw6.RewriteImages'. -/
def rewriteImagesUptoCard : Claim7 := { stood := { row := rewriteImagesUptoRow, standIns := [], harness := (true, "6661b805d261edc0206b073f85e3ab60a74f406b3aad38b04df3b309ce1b9403"), looks := false }, kinds := [], alts := [], laidByText := true, laidKinds := [.data], laidTests := true, laidLooks := .later }
def RewriteImagesUptoCardSaid : Prop := Claim7.holds Tryz.pinned (.plain (OpenSpec.upto rewriteImagesSpec)) rewriteImagesUptoCard

/-- THE SECOND FORM's CARD OF 'nsglaw6.RewriteHidePoints'. -/
def rewriteHidePointsUptoCard : Claim7 := { stood := { row := rewriteHidePointsUptoRow, standIns := [], harness := (true, "6661b805d261edc0206b073f85e3ab60a74f406b3aad38b04df3b309ce1b9403"), looks := false }, kinds := [], alts := [], laidByText := true, laidKinds := [.data], laidTests := true, laidLooks := .later }
def RewriteHidePointsUptoCardSaid : Prop := Claim7.holds Tryz.pinned (.plain (OpenSpec.upto rewriteHidePointsSpec)) rewriteHidePointsUptoCard

/-- THE SECOND FORM's CARD OF 'nsglaw6.RewriteHides'. -/
def rewriteHidesUptoCard : Claim7 := { stood := { row := rewriteHidesUptoRow, standIns := [], harness := (true, "6661b805d261edc0206b073f85e3ab60a74f406b3aad38b04df3b309ce1b9403"), looks := false }, kinds := [], alts := [], laidByText := true, laidKinds := [.data], laidTests := true, laidLooks := .later }
def RewriteHidesUptoCardSaid : Prop := Claim7.holds Tryz.pinned (.plain (OpenSpec.upto rewriteHidesSpec)) rewriteHidesUptoCard
end Rows
end Go.Proofs.YtkeeaccnnljimaaGreatDoor
