/-
  DERIVED. GIVEN WITH THE SEED: THE CARDS: each row of YtibpgdnenoehfaaGreatDoorRows.lean that lists a variable, with what it lists TIED to the program's text (the seventh form; the later family's looks); each row that meets fmt, with fmt's text TOLD by the authors' own Lean function (tested against real Go, not proved from fmt's source: count such statements apart). THE CARD IS WHAT COUNTS. Prove the row's statement (the work); the ties are given (YtibpgdnenoehfaaGreatDoorTie.lean); close each card by the builder's one call (the guide's Derived/Test/ToyasCard.lean, 'card_holds'). Laid BY PROGRAM, IN A SANDBOX (cutbox-door.mjs). By AI agents, Wed Nov 11 2026. No macro, syntax, notation, axiom, sorry.
-/
import Derived.Test.YtibpgdnenoehfaaGreatDoorRows
import GoSem.ClaimSeven
namespace Go.Proofs.YtibpgdnenoehfaaGreatDoor
namespace Rows

/-- THE TIED CARD OF 'nsglaw26.DeviceValidity'. -/
def deviceValidityCard : Claim7 := { stood := { row := deviceValidityRow, standIns := [], harness := (true, "3818143120383204309fa9c00890947d8a916d3b99f2e7a94b9fe82da8905316"), looks := false }, kinds := [], alts := [], laidByText := true, laidKinds := [.data], laidTests := true, laidLooks := .later }
def DeviceValidityCardSaid : Prop := Claim7.holds Tryz.pinned (.plain (OpenSpec.ofChange deviceValiditySpec)) deviceValidityCard

/-- THE SECOND FORM's CARD OF 'nsglaw26.DeviceValidity'. -/
def deviceValidityUptoCard : Claim7 := { stood := { row := deviceValidityUptoRow, standIns := [], harness := (true, "3818143120383204309fa9c00890947d8a916d3b99f2e7a94b9fe82da8905316"), looks := false }, kinds := [], alts := [], laidByText := true, laidKinds := [.data], laidTests := true, laidLooks := .later }
def DeviceValidityUptoCardSaid : Prop := Claim7.holds Tryz.pinned (.plain (OpenSpec.upto deviceValiditySpec)) deviceValidityUptoCard
end Rows
end Go.Proofs.YtibpgdnenoehfaaGreatDoor
