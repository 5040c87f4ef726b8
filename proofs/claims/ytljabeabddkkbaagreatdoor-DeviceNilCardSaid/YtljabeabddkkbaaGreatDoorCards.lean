/-
  DERIVED. GIVEN WITH THE SEED: THE CARDS: each row of YtljabeabddkkbaaGreatDoorRows.lean that lists a variable, with what it lists TIED to the program's text (the seventh form; the later family's looks); each row that meets fmt, with fmt's text TOLD by the authors' own Lean function (tested against real Go, not proved from fmt's source: count such statements apart). THE CARD IS WHAT COUNTS. Prove the row's statement (the work); the ties are given (YtljabeabddkkbaaGreatDoorTie.lean); close each card by the builder's one call (the guide's Derived/Test/ToyasCard.lean, 'card_holds'). Laid BY PROGRAM, IN A SANDBOX (cutbox-door.mjs). By AI agents, Wed Nov 11 2026. No macro, syntax, notation, axiom, sorry.
-/
import Derived.Test.YtljabeabddkkbaaGreatDoorRows
import GoSem.ClaimSeven
namespace Go.Proofs.YtljabeabddkkbaaGreatDoor
namespace Rows

/-- THE TIED CARD OF 'nsglaw26.DeviceNil'. -/
def deviceNilCard : Claim7 := { stood := { row := deviceNilRow, standIns := [], harness := (true, "8166ebb260b9415022bcb886f585872a72330264004923b9c751153f5cb6f722"), looks := false }, kinds := [], alts := [], laidByText := true, laidKinds := [.data], laidTests := true, laidLooks := .later }
def DeviceNilCardSaid : Prop := Claim7.holds Tryz.pinned (.plain (OpenSpec.ofChange deviceNilSpec)) deviceNilCard

/-- THE SECOND FORM's CARD OF 'nsglaw26.DeviceNil'. -/
def deviceNilUptoCard : Claim7 := { stood := { row := deviceNilUptoRow, standIns := [], harness := (true, "8166ebb260b9415022bcb886f585872a72330264004923b9c751153f5cb6f722"), looks := false }, kinds := [], alts := [], laidByText := true, laidKinds := [.data], laidTests := true, laidLooks := .later }
def DeviceNilUptoCardSaid : Prop := Claim7.holds Tryz.pinned (.plain (OpenSpec.upto deviceNilSpec)) deviceNilUptoCard
end Rows
end Go.Proofs.YtljabeabddkkbaaGreatDoor
