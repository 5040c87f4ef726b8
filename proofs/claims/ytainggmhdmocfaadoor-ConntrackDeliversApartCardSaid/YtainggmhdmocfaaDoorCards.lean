/-
  DERIVED. GIVEN WITH THE SEED: THE CARDS: each row of YtainggmhdmocfaaDoorRows.lean that lists a variable, with what it lists TIED to the program's text (the seventh form; the later family's looks); each row that meets fmt, with fmt's text TOLD by the authors' own Lean function (tested against real Go, not proved from fmt's source: count such statements apart). THE CARD IS WHAT COUNTS. Prove the row's statement (the work); the ties are given (YtainggmhdmocfaaDoorTie.lean); close each card by the builder's one call (the guide's Derived/Test/ToyasCard.lean, 'card_holds'). Laid BY PROGRAM, IN A SANDBOX (cutbox-door.mjs). By AI agents, Wed Nov 11 2026. No macro, syntax, notation, axiom, sorry.
-/
import Derived.Test.YtainggmhdmocfaaDoorRows
import GoSem.ClaimSeven
namespace Go.Proofs.YtainggmhdmocfaaDoor
namespace Rows

/-- THE TIED CARD OF 'nsglaw25.ConntrackDeliversApart'. -/
def conntrackDeliversApartCard : Claim7 := { stood := { row := conntrackDeliversApartRow, standIns := [], harness := (true, "1c1709ce8e3f44750e989041075c54df5cec65ebe8d89ef83ea555bc9523698a"), looks := false }, kinds := [], alts := [], laidByText := true, laidKinds := [.data], laidTests := true, laidLooks := .later }
def ConntrackDeliversApartCardSaid : Prop := Claim7.holds Tryd.pinned (.plain (OpenSpec.ofChange conntrackDeliversApartSpec)) conntrackDeliversApartCard

/-- THE TIED CARD OF 'nsglaw25.ConntrackForgets'. -/
def conntrackForgetsCard : Claim7 := { stood := { row := conntrackForgetsRow, standIns := [], harness := (true, "1c1709ce8e3f44750e989041075c54df5cec65ebe8d89ef83ea555bc9523698a"), looks := false }, kinds := [], alts := [], laidByText := true, laidKinds := [.data], laidTests := true, laidLooks := .later }
def ConntrackForgetsCardSaid : Prop := Claim7.holds Tryd.pinned (.plain (OpenSpec.ofChange conntrackForgetsSpec)) conntrackForgetsCard

/-- THE TIED CARD OF 'nsglaw25.ConntrackNil'. -/
def conntrackNilCard : Claim7 := { stood := { row := conntrackNilRow, standIns := [], harness := (true, "1c1709ce8e3f44750e989041075c54df5cec65ebe8d89ef83ea555bc9523698a"), looks := false }, kinds := [], alts := [], laidByText := true, laidKinds := [.data], laidTests := true, laidLooks := .later }
def ConntrackNilCardSaid : Prop := Claim7.holds Tryd.pinned (.plain (OpenSpec.ofChange conntrackNilSpec)) conntrackNilCard

/-- THE SECOND FORM's CARD OF 'nsglaw25.ConntrackDeliversApart'. -/
def conntrackDeliversApartUptoCard : Claim7 := { stood := { row := conntrackDeliversApartUptoRow, standIns := [], harness := (true, "1c1709ce8e3f44750e989041075c54df5cec65ebe8d89ef83ea555bc9523698a"), looks := false }, kinds := [], alts := [], laidByText := true, laidKinds := [.data], laidTests := true, laidLooks := .later }
def ConntrackDeliversApartUptoCardSaid : Prop := Claim7.holds Tryd.pinned (.plain (OpenSpec.upto conntrackDeliversApartSpec)) conntrackDeliversApartUptoCard

/-- THE SECOND FORM's CARD OF 'nsglaw25.ConntrackForgets'. -/
def conntrackForgetsUptoCard : Claim7 := { stood := { row := conntrackForgetsUptoRow, standIns := [], harness := (true, "1c1709ce8e3f44750e989041075c54df5cec65ebe8d89ef83ea555bc9523698a"), looks := false }, kinds := [], alts := [], laidByText := true, laidKinds := [.data], laidTests := true, laidLooks := .later }
def ConntrackForgetsUptoCardSaid : Prop := Claim7.holds Tryd.pinned (.plain (OpenSpec.upto conntrackForgetsSpec)) conntrackForgetsUptoCard

/-- THE SECOND FORM's CARD OF 'nsglaw25.ConntrackNil'. -/
def conntrackNilUptoCard : Claim7 := { stood := { row := conntrackNilUptoRow, standIns := [], harness := (true, "1c1709ce8e3f44750e989041075c54df5cec65ebe8d89ef83ea555bc9523698a"), looks := false }, kinds := [], alts := [], laidByText := true, laidKinds := [.data], laidTests := true, laidLooks := .later }
def ConntrackNilUptoCardSaid : Prop := Claim7.holds Tryd.pinned (.plain (OpenSpec.upto conntrackNilSpec)) conntrackNilUptoCard
end Rows
end Go.Proofs.YtainggmhdmocfaaDoor
