/-
  DERIVED. GIVEN WITH THE SEED: THE CARDS: each row of YteonocagaakagaaDoorRows.lean that lists a variable, with what it lists TIED to the program's text (the seventh form; the later family's looks); each row that meets fmt, with fmt's text TOLD by the authors' own Lean function (tested against real Go, not proved from fmt's source: count such statements apart). THE CARD IS WHAT COUNTS. Prove the row's statement (the work); the ties are given (YteonocagaakagaaDoorTie.lean); close each card by the builder's one call (the guide's Derived/Test/ToyasCard.lean, 'card_holds'). Laid BY PROGRAM, IN A SANDBOX (cutbox-door.mjs). By AI agents, Wed Nov 11 2026. No macro, syntax, notation, axiom, sorry.
-/
import Derived.Test.YteonocagaakagaaDoorRows
import GoSem.ClaimSeven
namespace Go.Proofs.YteonocagaakagaaDoor
namespace Rows

/-- THE TIED CARD OF 'nsglaw7.ExpandComputes'. -/
def expandComputesCard : Claim7 := { stood := { row := expandComputesRow, standIns := [], harness := (true, "065e0254d3aadf749f9d577ba51fd41df4cb97a45bd738486073d43b1ae9aad7"), looks := false }, kinds := [], alts := [], laidByText := true, laidKinds := [.data, .data], laidTests := true, laidLooks := .later }
def ExpandComputesCardSaid : Prop := Claim7.holds Tryd.pinned (.plain (OpenSpec.ofChange expandComputesSpec)) expandComputesCard

/-- THE TIED CARD OF 'nsglaw7.ExpandDivides'. -/
def expandDividesCard : Claim7 := { stood := { row := expandDividesRow, standIns := [], harness := (true, "065e0254d3aadf749f9d577ba51fd41df4cb97a45bd738486073d43b1ae9aad7"), looks := false }, kinds := [], alts := [], laidByText := true, laidKinds := [.data, .data], laidTests := true, laidLooks := .later }
def ExpandDividesCardSaid : Prop := Claim7.holds Tryd.pinned (.plain (OpenSpec.ofChange expandDividesSpec)) expandDividesCard

/-- THE TIED CARD OF 'nsglaw7.ExpandProducts'. -/
def expandProductsCard : Claim7 := { stood := { row := expandProductsRow, standIns := [], harness := (true, "065e0254d3aadf749f9d577ba51fd41df4cb97a45bd738486073d43b1ae9aad7"), looks := false }, kinds := [], alts := [], laidByText := true, laidKinds := [.data, .data], laidTests := true, laidLooks := .later }
def ExpandProductsCardSaid : Prop := Claim7.holds Tryd.pinned (.plain (OpenSpec.ofChange expandProductsSpec)) expandProductsCard

/-- THE TIED CARD OF 'nsglaw7.ExpandCuts'. -/
def expandCutsCard : Claim7 := { stood := { row := expandCutsRow, standIns := [], harness := (true, "065e0254d3aadf749f9d577ba51fd41df4cb97a45bd738486073d43b1ae9aad7"), looks := false }, kinds := [], alts := [], laidByText := true, laidKinds := [.data, .data], laidTests := true, laidLooks := .later }
def ExpandCutsCardSaid : Prop := Claim7.holds Tryd.pinned (.plain (OpenSpec.ofChange expandCutsSpec)) expandCutsCard

/-- THE TIED CARD OF 'nsglaw7.ExpandSums'. -/
def expandSumsCard : Claim7 := { stood := { row := expandSumsRow, standIns := [], harness := (true, "065e0254d3aadf749f9d577ba51fd41df4cb97a45bd738486073d43b1ae9aad7"), looks := false }, kinds := [], alts := [], laidByText := true, laidKinds := [.data, .data], laidTests := true, laidLooks := .later }
def ExpandSumsCardSaid : Prop := Claim7.holds Tryd.pinned (.plain (OpenSpec.ofChange expandSumsSpec)) expandSumsCard

/-- THE SECOND FORM's CARD OF 'nsglaw7.ExpandComputes'. -/
def expandComputesUptoCard : Claim7 := { stood := { row := expandComputesUptoRow, standIns := [], harness := (true, "065e0254d3aadf749f9d577ba51fd41df4cb97a45bd738486073d43b1ae9aad7"), looks := false }, kinds := [], alts := [], laidByText := true, laidKinds := [.data, .data], laidTests := true, laidLooks := .later }
def ExpandComputesUptoCardSaid : Prop := Claim7.holds Tryd.pinned (.plain (OpenSpec.upto expandComputesSpec)) expandComputesUptoCard

/-- THE SECOND FORM's CARD OF 'nsglaw7.ExpandDivides'. -/
def expandDividesUptoCard : Claim7 := { stood := { row := expandDividesUptoRow, standIns := [], harness := (true, "065e0254d3aadf749f9d577ba51fd41df4cb97a45bd738486073d43b1ae9aad7"), looks := false }, kinds := [], alts := [], laidByText := true, laidKinds := [.data, .data], laidTests := true, laidLooks := .later }
def ExpandDividesUptoCardSaid : Prop := Claim7.holds Tryd.pinned (.plain (OpenSpec.upto expandDividesSpec)) expandDividesUptoCard

/-- THE SECOND FORM's CARD OF 'nsglaw7.ExpandProducts'. -/
def expandProductsUptoCard : Claim7 := { stood := { row := expandProductsUptoRow, standIns := [], harness := (true, "065e0254d3aadf749f9d577ba51fd41df4cb97a45bd738486073d43b1ae9aad7"), looks := false }, kinds := [], alts := [], laidByText := true, laidKinds := [.data, .data], laidTests := true, laidLooks := .later }
def ExpandProductsUptoCardSaid : Prop := Claim7.holds Tryd.pinned (.plain (OpenSpec.upto expandProductsSpec)) expandProductsUptoCard

/-- THE SECOND FORM's CARD OF 'nsglaw7.ExpandCuts'. -/
def expandCutsUptoCard : Claim7 := { stood := { row := expandCutsUptoRow, standIns := [], harness := (true, "065e0254d3aadf749f9d577ba51fd41df4cb97a45bd738486073d43b1ae9aad7"), looks := false }, kinds := [], alts := [], laidByText := true, laidKinds := [.data, .data], laidTests := true, laidLooks := .later }
def ExpandCutsUptoCardSaid : Prop := Claim7.holds Tryd.pinned (.plain (OpenSpec.upto expandCutsSpec)) expandCutsUptoCard

/-- THE SECOND FORM's CARD OF 'nsglaw7.ExpandSums'. -/
def expandSumsUptoCard : Claim7 := { stood := { row := expandSumsUptoRow, standIns := [], harness := (true, "065e0254d3aadf749f9d577ba51fd41df4cb97a45bd738486073d43b1ae9aad7"), looks := false }, kinds := [], alts := [], laidByText := true, laidKinds := [.data, .data], laidTests := true, laidLooks := .later }
def ExpandSumsUptoCardSaid : Prop := Claim7.holds Tryd.pinned (.plain (OpenSpec.upto expandSumsSpec)) expandSumsUptoCard
end Rows
end Go.Proofs.YteonocagaakagaaDoor
