/-
  DERIVED. GIVEN WITH THE SEED: THE CARDS: each row of YtdpogkakaeeccaaDoorRows.lean that lists a variable, with what it lists TIED to the program's text (the seventh form; the later family's looks); each row that meets fmt, with fmt's text TOLD by the authors' own Lean function (tested against real Go, not proved from fmt's source: count such statements apart). THE CARD IS WHAT COUNTS. Prove the row's statement (the work); the ties are given (YtdpogkakaeeccaaDoorTie.lean); close each card by the builder's one call (the guide's Derived/Test/ToyasCard.lean, 'card_holds'). Laid BY PROGRAM, IN A SANDBOX (cutbox-door.mjs). By AI agents, Wed Nov 11 2026. No macro, syntax, notation, axiom, sorry.
-/
import Derived.Test.YtdpogkakaeeccaaDoorRows
import GoSem.ClaimSeven
namespace Go.Proofs.YtdpogkakaeeccaaDoor
namespace Rows

/-- THE TIED CARD OF 'nsglaw5.CardinalLaws'. -/
def cardinalLawsCard : Claim7 := { stood := { row := cardinalLawsRow, standIns := [], harness := (true, "a1cd8f58c0ee696020ad379c3b6bc5878f89da1641f1d3e410d84e3bbd3c0764"), looks := false }, kinds := [], alts := [], laidByText := true, laidKinds := [.data], laidTests := true, laidLooks := .later }
def CardinalLawsCardSaid : Prop := Claim7.holds Tryd.pinned (.plain (OpenSpec.ofChange cardinalLawsSpec)) cardinalLawsCard

/-- THE TIED CARD OF 'nsglaw5.CardinalComputes'. -/
def cardinalComputesCard : Claim7 := { stood := { row := cardinalComputesRow, standIns := [], harness := (true, "a1cd8f58c0ee696020ad379c3b6bc5878f89da1641f1d3e410d84e3bbd3c0764"), looks := false }, kinds := [], alts := [], laidByText := true, laidKinds := [.data], laidTests := true, laidLooks := .later }
def CardinalComputesCardSaid : Prop := Claim7.holds Tryd.pinned (.plain (OpenSpec.ofChange cardinalComputesSpec)) cardinalComputesCard

/-- THE TIED CARD OF 'nsglaw5.CardinalTexts'. -/
def cardinalTextsCard : Claim7 := { stood := { row := cardinalTextsRow, standIns := [], harness := (true, "a1cd8f58c0ee696020ad379c3b6bc5878f89da1641f1d3e410d84e3bbd3c0764"), looks := false }, kinds := [], alts := [], laidByText := true, laidKinds := [.data], laidTests := true, laidLooks := .later }
def CardinalTextsCardSaid : Prop := Claim7.holds Tryd.pinned (.plain (OpenSpec.ofChange cardinalTextsSpec)) cardinalTextsCard

/-- THE TIED CARD OF 'nsglaw5.CardinalInverse'. -/
def cardinalInverseCard : Claim7 := { stood := { row := cardinalInverseRow, standIns := [], harness := (true, "a1cd8f58c0ee696020ad379c3b6bc5878f89da1641f1d3e410d84e3bbd3c0764"), looks := false }, kinds := [], alts := [], laidByText := true, laidKinds := [.data], laidTests := true, laidLooks := .later }
def CardinalInverseCardSaid : Prop := Claim7.holds Tryd.pinned (.plain (OpenSpec.ofChange cardinalInverseSpec)) cardinalInverseCard

/-- THE TIED CARD OF 'nsglaw5.CardinalMonotone'. -/
def cardinalMonotoneCard : Claim7 := { stood := { row := cardinalMonotoneRow, standIns := [], harness := (true, "a1cd8f58c0ee696020ad379c3b6bc5878f89da1641f1d3e410d84e3bbd3c0764"), looks := false }, kinds := [], alts := [], laidByText := true, laidKinds := [.data], laidTests := true, laidLooks := .later }
def CardinalMonotoneCardSaid : Prop := Claim7.holds Tryd.pinned (.plain (OpenSpec.ofChange cardinalMonotoneSpec)) cardinalMonotoneCard

/-- THE SECOND FORM's CARD OF 'nsglaw5.CardinalLaws'. -/
def cardinalLawsUptoCard : Claim7 := { stood := { row := cardinalLawsUptoRow, standIns := [], harness := (true, "a1cd8f58c0ee696020ad379c3b6bc5878f89da1641f1d3e410d84e3bbd3c0764"), looks := false }, kinds := [], alts := [], laidByText := true, laidKinds := [.data], laidTests := true, laidLooks := .later }
def CardinalLawsUptoCardSaid : Prop := Claim7.holds Tryd.pinned (.plain (OpenSpec.upto cardinalLawsSpec)) cardinalLawsUptoCard

/-- THE SECOND FORM's CARD OF 'nsglaw5.CardinalComputes'. -/
def cardinalComputesUptoCard : Claim7 := { stood := { row := cardinalComputesUptoRow, standIns := [], harness := (true, "a1cd8f58c0ee696020ad379c3b6bc5878f89da1641f1d3e410d84e3bbd3c0764"), looks := false }, kinds := [], alts := [], laidByText := true, laidKinds := [.data], laidTests := true, laidLooks := .later }
def CardinalComputesUptoCardSaid : Prop := Claim7.holds Tryd.pinned (.plain (OpenSpec.upto cardinalComputesSpec)) cardinalComputesUptoCard

/-- THE SECOND FORM's CARD OF 'nsglaw5.CardinalTexts'. -/
def cardinalTextsUptoCard : Claim7 := { stood := { row := cardinalTextsUptoRow, standIns := [], harness := (true, "a1cd8f58c0ee696020ad379c3b6bc5878f89da1641f1d3e410d84e3bbd3c0764"), looks := false }, kinds := [], alts := [], laidByText := true, laidKinds := [.data], laidTests := true, laidLooks := .later }
def CardinalTextsUptoCardSaid : Prop := Claim7.holds Tryd.pinned (.plain (OpenSpec.upto cardinalTextsSpec)) cardinalTextsUptoCard

/-- THE SECOND FORM's CARD OF 'nsglaw5.CardinalInverse'. -/
def cardinalInverseUptoCard : Claim7 := { stood := { row := cardinalInverseUptoRow, standIns := [], harness := (true, "a1cd8f58c0ee696020ad379c3b6bc5878f89da1641f1d3e410d84e3bbd3c0764"), looks := false }, kinds := [], alts := [], laidByText := true, laidKinds := [.data], laidTests := true, laidLooks := .later }
def CardinalInverseUptoCardSaid : Prop := Claim7.holds Tryd.pinned (.plain (OpenSpec.upto cardinalInverseSpec)) cardinalInverseUptoCard

/-- THE SECOND FORM's CARD OF 'nsglaw5.CardinalMonotone'. -/
def cardinalMonotoneUptoCard : Claim7 := { stood := { row := cardinalMonotoneUptoRow, standIns := [], harness := (true, "a1cd8f58c0ee696020ad379c3b6bc5878f89da1641f1d3e410d84e3bbd3c0764"), looks := false }, kinds := [], alts := [], laidByText := true, laidKinds := [.data], laidTests := true, laidLooks := .later }
def CardinalMonotoneUptoCardSaid : Prop := Claim7.holds Tryd.pinned (.plain (OpenSpec.upto cardinalMonotoneSpec)) cardinalMonotoneUptoCard
end Rows
end Go.Proofs.YtdpogkakaeeccaaDoor
