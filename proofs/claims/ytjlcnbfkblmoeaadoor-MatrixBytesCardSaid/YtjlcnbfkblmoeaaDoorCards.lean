/-
  DERIVED. GIVEN WITH THE SEED: THE CARDS: each row of YtjlcnbfkblmoeaaDoorRows.lean that lists a variable, with what it lists TIED to the program's text (the seventh form; the later family's looks); each row that meets fmt, with fmt's text TOLD by the authors' own Lean function (tested against real Go, not proved from fmt's source: count such statements apart). THE CARD IS WHAT COUNTS. Prove the row's statement (the work); the ties are given (YtjlcnbfkblmoeaaDoorTie.lean); close each card by the builder's one call (the guide's Derived/Test/ToyasCard.lean, 'card_holds'). Laid BY PROGRAM, IN A SANDBOX (cutbox-door.mjs). By AI agents, Wed Nov 11 2026. No macro, syntax, notation, axiom, sorry.
-/
import Derived.Test.YtjlcnbfkblmoeaaDoorRows
import GoSem.ClaimSeven
namespace Go.Proofs.YtjlcnbfkblmoeaaDoor
namespace Rows

/-- THE TIED CARD OF 'arbaclaw44.MatrixDistincts'. -/
def matrixDistinctsCard : Claim7 := { stood := { row := matrixDistinctsRow, standIns := [], harness := (true, "c8920f07b1040985b31a197d2ee8be67959a76c82dd06a7f053779c6ee08690c"), looks := false }, kinds := [], alts := [], laidByText := true, laidKinds := [.data, .data, .pinned], laidTests := true, laidLooks := .later }
def MatrixDistinctsCardSaid : Prop := Claim7.holds Tryd.pinned (.plain (OpenSpec.ofChange matrixDistinctsSpec)) matrixDistinctsCard

/-- THE TIED CARD OF 'arbaclaw44.MatrixProducts'. -/
def matrixProductsCard : Claim7 := { stood := { row := matrixProductsRow, standIns := [], harness := (true, "c8920f07b1040985b31a197d2ee8be67959a76c82dd06a7f053779c6ee08690c"), looks := false }, kinds := [], alts := [], laidByText := true, laidKinds := [.data, .data, .pinned], laidTests := true, laidLooks := .later }
def MatrixProductsCardSaid : Prop := Claim7.holds Tryd.pinned (.plain (OpenSpec.ofChange matrixProductsSpec)) matrixProductsCard

/-- THE TIED CARD OF 'arbaclaw44.MatrixTexts'. -/
def matrixTextsCard : Claim7 := { stood := { row := matrixTextsRow, standIns := [], harness := (true, "c8920f07b1040985b31a197d2ee8be67959a76c82dd06a7f053779c6ee08690c"), looks := false }, kinds := [], alts := [], laidByText := true, laidKinds := [.data, .data, .pinned], laidTests := true, laidLooks := .later }
def MatrixTextsCardSaid : Prop := Claim7.holds Tryd.pinned (.plain (OpenSpec.ofChange matrixTextsSpec)) matrixTextsCard

/-- THE TIED CARD OF 'arbaclaw44.MatrixSets'. -/
def matrixSetsCard : Claim7 := { stood := { row := matrixSetsRow, standIns := [], harness := (true, "c8920f07b1040985b31a197d2ee8be67959a76c82dd06a7f053779c6ee08690c"), looks := false }, kinds := [], alts := [], laidByText := true, laidKinds := [.data, .data, .pinned], laidTests := true, laidLooks := .later }
def MatrixSetsCardSaid : Prop := Claim7.holds Tryd.pinned (.plain (OpenSpec.ofChange matrixSetsSpec)) matrixSetsCard

/-- THE TIED CARD OF 'arbaclaw44.MatrixCombines'. -/
def matrixCombinesCard : Claim7 := { stood := { row := matrixCombinesRow, standIns := [], harness := (true, "c8920f07b1040985b31a197d2ee8be67959a76c82dd06a7f053779c6ee08690c"), looks := false }, kinds := [], alts := [], laidByText := true, laidKinds := [.data, .data, .pinned], laidTests := true, laidLooks := .later }
def MatrixCombinesCardSaid : Prop := Claim7.holds Tryd.pinned (.plain (OpenSpec.ofChange matrixCombinesSpec)) matrixCombinesCard

/-- THE TIED CARD OF 'arbaclaw44.MatrixMakes'. -/
def matrixMakesCard : Claim7 := { stood := { row := matrixMakesRow, standIns := [], harness := (true, "c8920f07b1040985b31a197d2ee8be67959a76c82dd06a7f053779c6ee08690c"), looks := false }, kinds := [], alts := [], laidByText := true, laidKinds := [.data, .data, .pinned], laidTests := true, laidLooks := .later }
def MatrixMakesCardSaid : Prop := Claim7.holds Tryd.pinned (.plain (OpenSpec.ofChange matrixMakesSpec)) matrixMakesCard

/-- THE TIED CARD OF 'arbaclaw44.MatrixAlgebra'. -/
def matrixAlgebraCard : Claim7 := { stood := { row := matrixAlgebraRow, standIns := [], harness := (true, "c8920f07b1040985b31a197d2ee8be67959a76c82dd06a7f053779c6ee08690c"), looks := false }, kinds := [], alts := [], laidByText := true, laidKinds := [.data, .data, .pinned], laidTests := true, laidLooks := .later }
def MatrixAlgebraCardSaid : Prop := Claim7.holds Tryd.pinned (.plain (OpenSpec.ofChange matrixAlgebraSpec)) matrixAlgebraCard

/-- THE TIED CARD OF 'arbaclaw44.MatrixElements'. -/
def matrixElementsCard : Claim7 := { stood := { row := matrixElementsRow, standIns := [], harness := (true, "c8920f07b1040985b31a197d2ee8be67959a76c82dd06a7f053779c6ee08690c"), looks := false }, kinds := [], alts := [], laidByText := true, laidKinds := [.data, .data, .pinned], laidTests := true, laidLooks := .later }
def MatrixElementsCardSaid : Prop := Claim7.holds Tryd.pinned (.plain (OpenSpec.ofChange matrixElementsSpec)) matrixElementsCard

/-- THE TIED CARD OF 'arbaclaw44.MatrixNil'. -/
def matrixNilCard : Claim7 := { stood := { row := matrixNilRow, standIns := [], harness := (true, "c8920f07b1040985b31a197d2ee8be67959a76c82dd06a7f053779c6ee08690c"), looks := false }, kinds := [], alts := [], laidByText := true, laidKinds := [.data, .data, .pinned], laidTests := true, laidLooks := .later }
def MatrixNilCardSaid : Prop := Claim7.holds Tryd.pinned (.plain (OpenSpec.ofChange matrixNilSpec)) matrixNilCard

/-- THE TIED CARD OF 'arbaclaw44.MatrixBytes'. -/
def matrixBytesCard : Claim7 := { stood := { row := matrixBytesRow, standIns := [], harness := (true, "c8920f07b1040985b31a197d2ee8be67959a76c82dd06a7f053779c6ee08690c"), looks := false }, kinds := [], alts := [], laidByText := true, laidKinds := [.data, .data, .pinned], laidTests := true, laidLooks := .later }
def MatrixBytesCardSaid : Prop := Claim7.holds Tryd.pinned (.plain (OpenSpec.ofChange matrixBytesSpec)) matrixBytesCard

/-- THE SECOND FORM's CARD OF 'arbaclaw44.MatrixDistincts'. -/
def matrixDistinctsUptoCard : Claim7 := { stood := { row := matrixDistinctsUptoRow, standIns := [], harness := (true, "c8920f07b1040985b31a197d2ee8be67959a76c82dd06a7f053779c6ee08690c"), looks := false }, kinds := [], alts := [], laidByText := true, laidKinds := [.data, .data, .pinned], laidTests := true, laidLooks := .later }
def MatrixDistinctsUptoCardSaid : Prop := Claim7.holds Tryd.pinned (.plain (OpenSpec.upto matrixDistinctsSpec)) matrixDistinctsUptoCard

/-- THE SECOND FORM's CARD OF 'arbaclaw44.MatrixProducts'. -/
def matrixProductsUptoCard : Claim7 := { stood := { row := matrixProductsUptoRow, standIns := [], harness := (true, "c8920f07b1040985b31a197d2ee8be67959a76c82dd06a7f053779c6ee08690c"), looks := false }, kinds := [], alts := [], laidByText := true, laidKinds := [.data, .data, .pinned], laidTests := true, laidLooks := .later }
def MatrixProductsUptoCardSaid : Prop := Claim7.holds Tryd.pinned (.plain (OpenSpec.upto matrixProductsSpec)) matrixProductsUptoCard

/-- THE SECOND FORM's CARD OF 'arbaclaw44.MatrixTexts'. -/
def matrixTextsUptoCard : Claim7 := { stood := { row := matrixTextsUptoRow, standIns := [], harness := (true, "c8920f07b1040985b31a197d2ee8be67959a76c82dd06a7f053779c6ee08690c"), looks := false }, kinds := [], alts := [], laidByText := true, laidKinds := [.data, .data, .pinned], laidTests := true, laidLooks := .later }
def MatrixTextsUptoCardSaid : Prop := Claim7.holds Tryd.pinned (.plain (OpenSpec.upto matrixTextsSpec)) matrixTextsUptoCard

/-- THE SECOND FORM's CARD OF 'arbaclaw44.MatrixSets'. -/
def matrixSetsUptoCard : Claim7 := { stood := { row := matrixSetsUptoRow, standIns := [], harness := (true, "c8920f07b1040985b31a197d2ee8be67959a76c82dd06a7f053779c6ee08690c"), looks := false }, kinds := [], alts := [], laidByText := true, laidKinds := [.data, .data, .pinned], laidTests := true, laidLooks := .later }
def MatrixSetsUptoCardSaid : Prop := Claim7.holds Tryd.pinned (.plain (OpenSpec.upto matrixSetsSpec)) matrixSetsUptoCard

/-- THE SECOND FORM's CARD OF 'arbaclaw44.MatrixCombines'. -/
def matrixCombinesUptoCard : Claim7 := { stood := { row := matrixCombinesUptoRow, standIns := [], harness := (true, "c8920f07b1040985b31a197d2ee8be67959a76c82dd06a7f053779c6ee08690c"), looks := false }, kinds := [], alts := [], laidByText := true, laidKinds := [.data, .data, .pinned], laidTests := true, laidLooks := .later }
def MatrixCombinesUptoCardSaid : Prop := Claim7.holds Tryd.pinned (.plain (OpenSpec.upto matrixCombinesSpec)) matrixCombinesUptoCard

/-- THE SECOND FORM's CARD OF 'arbaclaw44.MatrixMakes'. -/
def matrixMakesUptoCard : Claim7 := { stood := { row := matrixMakesUptoRow, standIns := [], harness := (true, "c8920f07b1040985b31a197d2ee8be67959a76c82dd06a7f053779c6ee08690c"), looks := false }, kinds := [], alts := [], laidByText := true, laidKinds := [.data, .data, .pinned], laidTests := true, laidLooks := .later }
def MatrixMakesUptoCardSaid : Prop := Claim7.holds Tryd.pinned (.plain (OpenSpec.upto matrixMakesSpec)) matrixMakesUptoCard

/-- THE SECOND FORM's CARD OF 'arbaclaw44.MatrixAlgebra'. -/
def matrixAlgebraUptoCard : Claim7 := { stood := { row := matrixAlgebraUptoRow, standIns := [], harness := (true, "c8920f07b1040985b31a197d2ee8be67959a76c82dd06a7f053779c6ee08690c"), looks := false }, kinds := [], alts := [], laidByText := true, laidKinds := [.data, .data, .pinned], laidTests := true, laidLooks := .later }
def MatrixAlgebraUptoCardSaid : Prop := Claim7.holds Tryd.pinned (.plain (OpenSpec.upto matrixAlgebraSpec)) matrixAlgebraUptoCard

/-- THE SECOND FORM's CARD OF 'arbaclaw44.MatrixElements'. -/
def matrixElementsUptoCard : Claim7 := { stood := { row := matrixElementsUptoRow, standIns := [], harness := (true, "c8920f07b1040985b31a197d2ee8be67959a76c82dd06a7f053779c6ee08690c"), looks := false }, kinds := [], alts := [], laidByText := true, laidKinds := [.data, .data, .pinned], laidTests := true, laidLooks := .later }
def MatrixElementsUptoCardSaid : Prop := Claim7.holds Tryd.pinned (.plain (OpenSpec.upto matrixElementsSpec)) matrixElementsUptoCard

/-- THE SECOND FORM's CARD OF 'arbaclaw44.MatrixNil'. -/
def matrixNilUptoCard : Claim7 := { stood := { row := matrixNilUptoRow, standIns := [], harness := (true, "c8920f07b1040985b31a197d2ee8be67959a76c82dd06a7f053779c6ee08690c"), looks := false }, kinds := [], alts := [], laidByText := true, laidKinds := [.data, .data, .pinned], laidTests := true, laidLooks := .later }
def MatrixNilUptoCardSaid : Prop := Claim7.holds Tryd.pinned (.plain (OpenSpec.upto matrixNilSpec)) matrixNilUptoCard

/-- THE SECOND FORM's CARD OF 'arbaclaw44.MatrixBytes'. -/
def matrixBytesUptoCard : Claim7 := { stood := { row := matrixBytesUptoRow, standIns := [], harness := (true, "c8920f07b1040985b31a197d2ee8be67959a76c82dd06a7f053779c6ee08690c"), looks := false }, kinds := [], alts := [], laidByText := true, laidKinds := [.data, .data, .pinned], laidTests := true, laidLooks := .later }
def MatrixBytesUptoCardSaid : Prop := Claim7.holds Tryd.pinned (.plain (OpenSpec.upto matrixBytesSpec)) matrixBytesUptoCard
end Rows
end Go.Proofs.YtjlcnbfkblmoeaaDoor
