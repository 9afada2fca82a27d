/-
  NARROWER THAN 'FOR EVERY INPUT', by the rows' own cells (each row's printed sentence says how): MatrixDistincts: laid · MatrixProducts: laid · MatrixTexts: laid · MatrixSets: laid · MatrixCombines: laid · MatrixMakes: laid · MatrixAlgebra: laid · MatrixElements: laid · MatrixNil: laid · MatrixBytes: laid.
  DERIVED. THE GIVEN ROWS OF THIS SEAT. 10 by the template 'for every input the law returns true; each argument reads behind the call as it read before'; 0 by the template 'total and deterministic' (their statements: YtjlcnbfkblmoeaaDoorTotals.lean).
  GIVEN WITH THE SEED: the statements are not yours to turn. If you find one false, say at which input.
  Laid BY PROGRAM, IN A SANDBOX (cutbox-rows.mjs): the forced cells as the released guide's own fill.sh prints them over the translation 065f1b93db230076… (all of the seat's roots in one cut). By AI agents, Wed Nov 11 2026. No macro, syntax, notation, axiom, sorry.
-/
import Derived.Test.YtjlcnbfkblmoeaaDoorChecked
import GoSem.PinnedTables
import GoSem.Claim
import GoSem.ClaimJoined
import GoSem.ClaimMapViews
import Derived.JoinedTies
import Derived.KernelRfl
namespace Go.Proofs.YtjlcnbfkblmoeaaDoor
/- THE CELL 'sum', in the pinned program and in every row, IS THE sha256 OF THE DUMP (.gsa) THAT YtjlcnbfkblmoeaaDoorProg.lean LOADS. Nothing in Lean hashes anything: it is a label: what it is worth is what the hold of that sum in a sandbox is worth. -/
noncomputable def Tryd.pinned : Pinned := { name := "ytjlcnbfkblmoeaadoor", sum := "065f1b93db23007607293058bcebd8b21470dbc499c94bff8c3bd5971c792ed2", checked := Tryd.checked }
namespace Rows
def none {H : Type} : Left H := { results := [], args := [] }

/- WHAT THE LISTED PACKAGE-LEVEL VARIABLES READ AS WHEN THE CALL BEGINS. Each datum BY PROGRAM (the guide's laid-datum.mjs) off the statement by which the dump's own 'gosem.cut.vars' lays the variable. In a bare row this is a premise. The card (YtjlcnbfkblmoeaaDoorCards.lean) ties it to the program's text. -/
def laid_math_bits_deBruijn64tab {H : Type} : DataW H := .agg [.lit (.int .u8 0), .lit (.int .u8 1), .lit (.int .u8 56), .lit (.int .u8 2), .lit (.int .u8 57), .lit (.int .u8 49), .lit (.int .u8 28), .lit (.int .u8 3), .lit (.int .u8 61), .lit (.int .u8 58), .lit (.int .u8 42), .lit (.int .u8 50), .lit (.int .u8 38), .lit (.int .u8 29), .lit (.int .u8 17), .lit (.int .u8 4), .lit (.int .u8 62), .lit (.int .u8 47), .lit (.int .u8 59), .lit (.int .u8 36), .lit (.int .u8 45), .lit (.int .u8 43), .lit (.int .u8 51), .lit (.int .u8 22), .lit (.int .u8 53), .lit (.int .u8 39), .lit (.int .u8 33), .lit (.int .u8 30), .lit (.int .u8 24), .lit (.int .u8 18), .lit (.int .u8 12), .lit (.int .u8 5), .lit (.int .u8 63), .lit (.int .u8 55), .lit (.int .u8 48), .lit (.int .u8 27), .lit (.int .u8 60), .lit (.int .u8 41), .lit (.int .u8 37), .lit (.int .u8 16), .lit (.int .u8 46), .lit (.int .u8 35), .lit (.int .u8 44), .lit (.int .u8 21), .lit (.int .u8 52), .lit (.int .u8 32), .lit (.int .u8 23), .lit (.int .u8 11), .lit (.int .u8 54), .lit (.int .u8 26), .lit (.int .u8 40), .lit (.int .u8 15), .lit (.int .u8 34), .lit (.int .u8 20), .lit (.int .u8 31), .lit (.int .u8 10), .lit (.int .u8 25), .lit (.int .u8 14), .lit (.int .u8 19), .lit (.int .u8 9), .lit (.int .u8 13), .lit (.int .u8 8), .lit (.int .u8 7), .lit (.int .u8 6)]
def laid_unicode_utf8_acceptRanges {H : Type} : DataW H := .agg [.agg [.lit (.int .u8 128), .lit (.int .u8 191)], .agg [.lit (.int .u8 160), .lit (.int .u8 191)], .agg [.lit (.int .u8 128), .lit (.int .u8 159)], .agg [.lit (.int .u8 144), .lit (.int .u8 191)], .agg [.lit (.int .u8 128), .lit (.int .u8 143)], .agg [.lit (.int .u8 0), .lit (.int .u8 0)], .agg [.lit (.int .u8 0), .lit (.int .u8 0)], .agg [.lit (.int .u8 0), .lit (.int .u8 0)], .agg [.lit (.int .u8 0), .lit (.int .u8 0)], .agg [.lit (.int .u8 0), .lit (.int .u8 0)], .agg [.lit (.int .u8 0), .lit (.int .u8 0)], .agg [.lit (.int .u8 0), .lit (.int .u8 0)], .agg [.lit (.int .u8 0), .lit (.int .u8 0)], .agg [.lit (.int .u8 0), .lit (.int .u8 0)], .agg [.lit (.int .u8 0), .lit (.int .u8 0)], .agg [.lit (.int .u8 0), .lit (.int .u8 0)]]
/-- One of Go's own tables, pinned by name: the form's constant. -/
def laid_unicode_utf8_first : DataW Unit := Go.Pinned.utf8First

/-- 'arbaclaw44.MatrixDistincts': WHATEVER THE INPUT: true; the input reads as it did. -/
def matrixDistinctsSpec : ChangeSpec := { name := "matrixDistincts", fn := fun _ => fun
  | [d] => { results := [.lit (.bool true)], args := [d] }
  | _ => none }
def matrixDistinctsRow : OpenClaim := { program := "ytjlcnbfkblmoeaadoor", sum := "065f1b93db23007607293058bcebd8b21470dbc499c94bff8c3bd5971c792ed2", func := "arbac/arbaclaw44.MatrixDistincts", spec := "matrixDistincts", inPlace := ["internal/bytealg.CountString", "internal/bytealg.IndexByteString", "internal/bytealg.IndexString", "internal/abi.NoEscape"], unfollowed := true, recurses := true, named := ["unicode/utf8.first", "unicode/utf8.acceptRanges", "internal/bytealg.MaxLen", "math/bits.deBruijn64tab"], apart := false, laid := [("math/bits.deBruijn64tab", laid_math_bits_deBruijn64tab), ("unicode/utf8.acceptRanges", laid_unicode_utf8_acceptRanges), ("unicode/utf8.first", laid_unicode_utf8_first)] }
def MatrixDistinctsSaid : Prop := matrixDistinctsRow.holds Tryd.pinned (OpenSpec.ofChange matrixDistinctsSpec)

/-- ITS FALSE NEIGHBOUR: 'it returns false'. Refute it at one input. -/
def matrixDistinctsWrong : ChangeSpec := { name := "matrixDistincts", fn := fun _ => fun
  | [d] => { results := [.lit (.bool false)], args := [d] }
  | _ => none }
def MatrixDistinctsWrongFalsely : Prop := matrixDistinctsRow.holds Tryd.pinned (OpenSpec.ofChange matrixDistinctsWrong)

/-- 'arbaclaw44.MatrixProducts': WHATEVER THE INPUT: true; the input reads as it did. -/
def matrixProductsSpec : ChangeSpec := { name := "matrixProducts", fn := fun _ => fun
  | [d1, d2] => { results := [.lit (.bool true)], args := [d1, d2] }
  | _ => none }
def matrixProductsRow : OpenClaim := { program := "ytjlcnbfkblmoeaadoor", sum := "065f1b93db23007607293058bcebd8b21470dbc499c94bff8c3bd5971c792ed2", func := "arbac/arbaclaw44.MatrixProducts", spec := "matrixProducts", inPlace := ["internal/bytealg.CountString", "internal/bytealg.IndexByteString", "internal/bytealg.IndexString", "internal/abi.NoEscape"], unfollowed := true, recurses := true, named := ["unicode/utf8.first", "unicode/utf8.acceptRanges", "internal/bytealg.MaxLen", "math/bits.deBruijn64tab"], apart := false, laid := [("math/bits.deBruijn64tab", laid_math_bits_deBruijn64tab), ("unicode/utf8.acceptRanges", laid_unicode_utf8_acceptRanges), ("unicode/utf8.first", laid_unicode_utf8_first)] }
def MatrixProductsSaid : Prop := matrixProductsRow.holds Tryd.pinned (OpenSpec.ofChange matrixProductsSpec)

/-- ITS FALSE NEIGHBOUR: 'it returns false'. Refute it at one input. -/
def matrixProductsWrong : ChangeSpec := { name := "matrixProducts", fn := fun _ => fun
  | [d1, d2] => { results := [.lit (.bool false)], args := [d1, d2] }
  | _ => none }
def MatrixProductsWrongFalsely : Prop := matrixProductsRow.holds Tryd.pinned (OpenSpec.ofChange matrixProductsWrong)

/-- 'arbaclaw44.MatrixTexts': WHATEVER THE INPUT: true; the input reads as it did. -/
def matrixTextsSpec : ChangeSpec := { name := "matrixTexts", fn := fun _ => fun
  | [d1, d2] => { results := [.lit (.bool true)], args := [d1, d2] }
  | _ => none }
def matrixTextsRow : OpenClaim := { program := "ytjlcnbfkblmoeaadoor", sum := "065f1b93db23007607293058bcebd8b21470dbc499c94bff8c3bd5971c792ed2", func := "arbac/arbaclaw44.MatrixTexts", spec := "matrixTexts", inPlace := ["internal/bytealg.CountString", "internal/bytealg.IndexByteString", "internal/bytealg.IndexString", "internal/abi.NoEscape"], unfollowed := true, recurses := true, named := ["unicode/utf8.first", "unicode/utf8.acceptRanges", "internal/bytealg.MaxLen", "math/bits.deBruijn64tab"], apart := false, laid := [("math/bits.deBruijn64tab", laid_math_bits_deBruijn64tab), ("unicode/utf8.acceptRanges", laid_unicode_utf8_acceptRanges), ("unicode/utf8.first", laid_unicode_utf8_first)] }
def MatrixTextsSaid : Prop := matrixTextsRow.holds Tryd.pinned (OpenSpec.ofChange matrixTextsSpec)

/-- ITS FALSE NEIGHBOUR: 'it returns false'. Refute it at one input. -/
def matrixTextsWrong : ChangeSpec := { name := "matrixTexts", fn := fun _ => fun
  | [d1, d2] => { results := [.lit (.bool false)], args := [d1, d2] }
  | _ => none }
def MatrixTextsWrongFalsely : Prop := matrixTextsRow.holds Tryd.pinned (OpenSpec.ofChange matrixTextsWrong)

/-- 'arbaclaw44.MatrixSets': WHATEVER THE INPUT: true; the input reads as it did. -/
def matrixSetsSpec : ChangeSpec := { name := "matrixSets", fn := fun _ => fun
  | [d1, d2, d3] => { results := [.lit (.bool true)], args := [d1, d2, d3] }
  | _ => none }
def matrixSetsRow : OpenClaim := { program := "ytjlcnbfkblmoeaadoor", sum := "065f1b93db23007607293058bcebd8b21470dbc499c94bff8c3bd5971c792ed2", func := "arbac/arbaclaw44.MatrixSets", spec := "matrixSets", inPlace := ["internal/bytealg.CountString", "internal/bytealg.IndexByteString", "internal/bytealg.IndexString", "internal/abi.NoEscape"], unfollowed := true, recurses := true, named := ["unicode/utf8.first", "unicode/utf8.acceptRanges", "internal/bytealg.MaxLen", "math/bits.deBruijn64tab"], apart := false, laid := [("math/bits.deBruijn64tab", laid_math_bits_deBruijn64tab), ("unicode/utf8.acceptRanges", laid_unicode_utf8_acceptRanges), ("unicode/utf8.first", laid_unicode_utf8_first)] }
def MatrixSetsSaid : Prop := matrixSetsRow.holds Tryd.pinned (OpenSpec.ofChange matrixSetsSpec)

/-- ITS FALSE NEIGHBOUR: 'it returns false'. Refute it at one input. -/
def matrixSetsWrong : ChangeSpec := { name := "matrixSets", fn := fun _ => fun
  | [d1, d2, d3] => { results := [.lit (.bool false)], args := [d1, d2, d3] }
  | _ => none }
def MatrixSetsWrongFalsely : Prop := matrixSetsRow.holds Tryd.pinned (OpenSpec.ofChange matrixSetsWrong)

/-- 'arbaclaw44.MatrixCombines': WHATEVER THE INPUT: true; the input reads as it did. -/
def matrixCombinesSpec : ChangeSpec := { name := "matrixCombines", fn := fun _ => fun
  | [d1, d2] => { results := [.lit (.bool true)], args := [d1, d2] }
  | _ => none }
def matrixCombinesRow : OpenClaim := { program := "ytjlcnbfkblmoeaadoor", sum := "065f1b93db23007607293058bcebd8b21470dbc499c94bff8c3bd5971c792ed2", func := "arbac/arbaclaw44.MatrixCombines", spec := "matrixCombines", inPlace := ["internal/bytealg.CountString", "internal/bytealg.IndexByteString", "internal/bytealg.IndexString", "internal/abi.NoEscape"], unfollowed := true, recurses := true, named := ["unicode/utf8.first", "unicode/utf8.acceptRanges", "internal/bytealg.MaxLen", "math/bits.deBruijn64tab"], apart := false, laid := [("math/bits.deBruijn64tab", laid_math_bits_deBruijn64tab), ("unicode/utf8.acceptRanges", laid_unicode_utf8_acceptRanges), ("unicode/utf8.first", laid_unicode_utf8_first)] }
def MatrixCombinesSaid : Prop := matrixCombinesRow.holds Tryd.pinned (OpenSpec.ofChange matrixCombinesSpec)

/-- ITS FALSE NEIGHBOUR: 'it returns false'. Refute it at one input. -/
def matrixCombinesWrong : ChangeSpec := { name := "matrixCombines", fn := fun _ => fun
  | [d1, d2] => { results := [.lit (.bool false)], args := [d1, d2] }
  | _ => none }
def MatrixCombinesWrongFalsely : Prop := matrixCombinesRow.holds Tryd.pinned (OpenSpec.ofChange matrixCombinesWrong)

/-- 'arbaclaw44.MatrixMakes': WHATEVER THE INPUT: true; the input reads as it did. -/
def matrixMakesSpec : ChangeSpec := { name := "matrixMakes", fn := fun _ => fun
  | [d1, d2, d3] => { results := [.lit (.bool true)], args := [d1, d2, d3] }
  | _ => none }
def matrixMakesRow : OpenClaim := { program := "ytjlcnbfkblmoeaadoor", sum := "065f1b93db23007607293058bcebd8b21470dbc499c94bff8c3bd5971c792ed2", func := "arbac/arbaclaw44.MatrixMakes", spec := "matrixMakes", inPlace := ["internal/bytealg.CountString", "internal/bytealg.IndexByteString", "internal/bytealg.IndexString", "internal/abi.NoEscape"], unfollowed := true, recurses := true, named := ["unicode/utf8.first", "unicode/utf8.acceptRanges", "internal/bytealg.MaxLen", "math/bits.deBruijn64tab"], apart := false, laid := [("math/bits.deBruijn64tab", laid_math_bits_deBruijn64tab), ("unicode/utf8.acceptRanges", laid_unicode_utf8_acceptRanges), ("unicode/utf8.first", laid_unicode_utf8_first)] }
def MatrixMakesSaid : Prop := matrixMakesRow.holds Tryd.pinned (OpenSpec.ofChange matrixMakesSpec)

/-- ITS FALSE NEIGHBOUR: 'it returns false'. Refute it at one input. -/
def matrixMakesWrong : ChangeSpec := { name := "matrixMakes", fn := fun _ => fun
  | [d1, d2, d3] => { results := [.lit (.bool false)], args := [d1, d2, d3] }
  | _ => none }
def MatrixMakesWrongFalsely : Prop := matrixMakesRow.holds Tryd.pinned (OpenSpec.ofChange matrixMakesWrong)

/-- 'arbaclaw44.MatrixAlgebra': WHATEVER THE INPUT: true; the input reads as it did. -/
def matrixAlgebraSpec : ChangeSpec := { name := "matrixAlgebra", fn := fun _ => fun
  | [d1, d2, d3] => { results := [.lit (.bool true)], args := [d1, d2, d3] }
  | _ => none }
def matrixAlgebraRow : OpenClaim := { program := "ytjlcnbfkblmoeaadoor", sum := "065f1b93db23007607293058bcebd8b21470dbc499c94bff8c3bd5971c792ed2", func := "arbac/arbaclaw44.MatrixAlgebra", spec := "matrixAlgebra", inPlace := ["internal/bytealg.CountString", "internal/bytealg.IndexByteString", "internal/bytealg.IndexString", "internal/abi.NoEscape"], unfollowed := true, recurses := true, named := ["unicode/utf8.first", "unicode/utf8.acceptRanges", "internal/bytealg.MaxLen", "math/bits.deBruijn64tab"], apart := false, laid := [("math/bits.deBruijn64tab", laid_math_bits_deBruijn64tab), ("unicode/utf8.acceptRanges", laid_unicode_utf8_acceptRanges), ("unicode/utf8.first", laid_unicode_utf8_first)] }
def MatrixAlgebraSaid : Prop := matrixAlgebraRow.holds Tryd.pinned (OpenSpec.ofChange matrixAlgebraSpec)

/-- ITS FALSE NEIGHBOUR: 'it returns false'. Refute it at one input. -/
def matrixAlgebraWrong : ChangeSpec := { name := "matrixAlgebra", fn := fun _ => fun
  | [d1, d2, d3] => { results := [.lit (.bool false)], args := [d1, d2, d3] }
  | _ => none }
def MatrixAlgebraWrongFalsely : Prop := matrixAlgebraRow.holds Tryd.pinned (OpenSpec.ofChange matrixAlgebraWrong)

/-- 'arbaclaw44.MatrixElements': WHATEVER THE INPUT: true; the input reads as it did. -/
def matrixElementsSpec : ChangeSpec := { name := "matrixElements", fn := fun _ => fun
  | [d1, d2, d3] => { results := [.lit (.bool true)], args := [d1, d2, d3] }
  | _ => none }
def matrixElementsRow : OpenClaim := { program := "ytjlcnbfkblmoeaadoor", sum := "065f1b93db23007607293058bcebd8b21470dbc499c94bff8c3bd5971c792ed2", func := "arbac/arbaclaw44.MatrixElements", spec := "matrixElements", inPlace := ["internal/bytealg.CountString", "internal/bytealg.IndexByteString", "internal/bytealg.IndexString", "internal/abi.NoEscape"], unfollowed := true, recurses := true, named := ["unicode/utf8.first", "unicode/utf8.acceptRanges", "internal/bytealg.MaxLen", "math/bits.deBruijn64tab"], apart := false, laid := [("math/bits.deBruijn64tab", laid_math_bits_deBruijn64tab), ("unicode/utf8.acceptRanges", laid_unicode_utf8_acceptRanges), ("unicode/utf8.first", laid_unicode_utf8_first)] }
def MatrixElementsSaid : Prop := matrixElementsRow.holds Tryd.pinned (OpenSpec.ofChange matrixElementsSpec)

/-- ITS FALSE NEIGHBOUR: 'it returns false'. Refute it at one input. -/
def matrixElementsWrong : ChangeSpec := { name := "matrixElements", fn := fun _ => fun
  | [d1, d2, d3] => { results := [.lit (.bool false)], args := [d1, d2, d3] }
  | _ => none }
def MatrixElementsWrongFalsely : Prop := matrixElementsRow.holds Tryd.pinned (OpenSpec.ofChange matrixElementsWrong)

/-- 'arbaclaw44.MatrixNil': WHATEVER THE INPUT: true; the input reads as it did. -/
def matrixNilSpec : ChangeSpec := { name := "matrixNil", fn := fun _ => fun
  | [d1, d2, d3] => { results := [.lit (.bool true)], args := [d1, d2, d3] }
  | _ => none }
def matrixNilRow : OpenClaim := { program := "ytjlcnbfkblmoeaadoor", sum := "065f1b93db23007607293058bcebd8b21470dbc499c94bff8c3bd5971c792ed2", func := "arbac/arbaclaw44.MatrixNil", spec := "matrixNil", inPlace := ["internal/bytealg.CountString", "internal/bytealg.IndexByteString", "internal/bytealg.IndexString", "internal/abi.NoEscape"], unfollowed := true, recurses := true, named := ["unicode/utf8.first", "unicode/utf8.acceptRanges", "internal/bytealg.MaxLen", "math/bits.deBruijn64tab"], apart := false, laid := [("math/bits.deBruijn64tab", laid_math_bits_deBruijn64tab), ("unicode/utf8.acceptRanges", laid_unicode_utf8_acceptRanges), ("unicode/utf8.first", laid_unicode_utf8_first)] }
def MatrixNilSaid : Prop := matrixNilRow.holds Tryd.pinned (OpenSpec.ofChange matrixNilSpec)

/-- ITS FALSE NEIGHBOUR: 'it returns false'. Refute it at one input. -/
def matrixNilWrong : ChangeSpec := { name := "matrixNil", fn := fun _ => fun
  | [d1, d2, d3] => { results := [.lit (.bool false)], args := [d1, d2, d3] }
  | _ => none }
def MatrixNilWrongFalsely : Prop := matrixNilRow.holds Tryd.pinned (OpenSpec.ofChange matrixNilWrong)

/-- 'arbaclaw44.MatrixBytes': WHATEVER THE INPUT: true; the input reads as it did. -/
def matrixBytesSpec : ChangeSpec := { name := "matrixBytes", fn := fun _ => fun
  | [d1, d2, d3] => { results := [.lit (.bool true)], args := [d1, d2, d3] }
  | _ => none }
def matrixBytesRow : OpenClaim := { program := "ytjlcnbfkblmoeaadoor", sum := "065f1b93db23007607293058bcebd8b21470dbc499c94bff8c3bd5971c792ed2", func := "arbac/arbaclaw44.MatrixBytes", spec := "matrixBytes", inPlace := ["internal/bytealg.CountString", "internal/bytealg.IndexByteString", "internal/bytealg.IndexString", "internal/abi.NoEscape"], unfollowed := true, recurses := true, named := ["unicode/utf8.first", "unicode/utf8.acceptRanges", "internal/bytealg.MaxLen", "math/bits.deBruijn64tab"], apart := false, laid := [("math/bits.deBruijn64tab", laid_math_bits_deBruijn64tab), ("unicode/utf8.acceptRanges", laid_unicode_utf8_acceptRanges), ("unicode/utf8.first", laid_unicode_utf8_first)] }
def MatrixBytesSaid : Prop := matrixBytesRow.holds Tryd.pinned (OpenSpec.ofChange matrixBytesSpec)

/-- ITS FALSE NEIGHBOUR: 'it returns false'. Refute it at one input. -/
def matrixBytesWrong : ChangeSpec := { name := "matrixBytes", fn := fun _ => fun
  | [d1, d2, d3] => { results := [.lit (.bool false)], args := [d1, d2, d3] }
  | _ => none }
def MatrixBytesWrongFalsely : Prop := matrixBytesRow.holds Tryd.pinned (OpenSpec.ofChange matrixBytesWrong)

/- THE SECOND FORM. 'bulk': how many values and letters a reading holds, each counted each time it is reached (what is shared counts as often as it is met; a slice's spare places count too). A statement '..UptoSaid' is the law's where the arguments, and the package variables that the reading takes, are together of bulk at most 1048576: NARROWER than '..Said'. Prove '..Said' where nothing that the law and all that it calls make is longer than what came in: it says more and counts as full. Else prove '..UptoSaid'. A law counts once. -/
mutual
def uptoBulk {H : Type} : DataW H → Nat
  | .lit (.string bytes) => bytes.length + 1
  | .lit _ => 1
  | .nil => 1
  | .ptr d => uptoBulk d + 1
  | .slice elems spare => uptoBulkAll elems + uptoBulkAll spare + 1
  | .agg parts => uptoBulkAll parts + 1
  | .iface _ d => uptoBulk d + 1
  | .map entries => uptoBulkEntries entries + 1
  | .held _ => 1
def uptoBulkAll {H : Type} : List (DataW H) → Nat
  | [] => 0
  | d :: r => uptoBulk d + uptoBulkAll r
def uptoBulkEntries {H : Type} : List (Lit × DataW H) → Nat
  | [] => 0
  | x :: r => uptoBulkEntry x + uptoBulkEntries r
def uptoBulkEntry {H : Type} : Lit × DataW H → Nat
  | (.string bytes, d) => bytes.length + uptoBulk d + 1
  | (_, d) => uptoBulk d + 1
 end
def uptoSmall : (H : Type) → List (DataW H) → Bool := fun _ ds => decide (uptoBulkAll ds ≤ 1048576)
def OpenSpec.upto (s : _root_.Go.ChangeSpec) : _root_.Go.OpenSpec := { _root_.Go.OpenSpec.ofChange s with cond := some uptoSmall }

/-- 'arbaclaw44.MatrixDistincts', WHERE WHAT IT READS IS OF BULK AT MOST 1048576: true; the input reads as it did. -/
def matrixDistinctsUptoRow : OpenClaim := { program := "ytjlcnbfkblmoeaadoor", sum := "065f1b93db23007607293058bcebd8b21470dbc499c94bff8c3bd5971c792ed2", func := "arbac/arbaclaw44.MatrixDistincts", spec := "matrixDistincts", inPlace := ["internal/bytealg.CountString", "internal/bytealg.IndexByteString", "internal/bytealg.IndexString", "internal/abi.NoEscape"], unfollowed := true, recurses := true, named := ["unicode/utf8.first", "unicode/utf8.acceptRanges", "internal/bytealg.MaxLen", "math/bits.deBruijn64tab"], apart := false, laid := [("math/bits.deBruijn64tab", laid_math_bits_deBruijn64tab), ("unicode/utf8.acceptRanges", laid_unicode_utf8_acceptRanges), ("unicode/utf8.first", laid_unicode_utf8_first)], narrowed := true }
def MatrixDistinctsUptoSaid : Prop := matrixDistinctsUptoRow.holds Tryd.pinned (OpenSpec.upto matrixDistinctsSpec)

/-- 'arbaclaw44.MatrixProducts', WHERE WHAT IT READS IS OF BULK AT MOST 1048576: true; the input reads as it did. -/
def matrixProductsUptoRow : OpenClaim := { program := "ytjlcnbfkblmoeaadoor", sum := "065f1b93db23007607293058bcebd8b21470dbc499c94bff8c3bd5971c792ed2", func := "arbac/arbaclaw44.MatrixProducts", spec := "matrixProducts", inPlace := ["internal/bytealg.CountString", "internal/bytealg.IndexByteString", "internal/bytealg.IndexString", "internal/abi.NoEscape"], unfollowed := true, recurses := true, named := ["unicode/utf8.first", "unicode/utf8.acceptRanges", "internal/bytealg.MaxLen", "math/bits.deBruijn64tab"], apart := false, laid := [("math/bits.deBruijn64tab", laid_math_bits_deBruijn64tab), ("unicode/utf8.acceptRanges", laid_unicode_utf8_acceptRanges), ("unicode/utf8.first", laid_unicode_utf8_first)], narrowed := true }
def MatrixProductsUptoSaid : Prop := matrixProductsUptoRow.holds Tryd.pinned (OpenSpec.upto matrixProductsSpec)

/-- 'arbaclaw44.MatrixTexts', WHERE WHAT IT READS IS OF BULK AT MOST 1048576: true; the input reads as it did. -/
def matrixTextsUptoRow : OpenClaim := { program := "ytjlcnbfkblmoeaadoor", sum := "065f1b93db23007607293058bcebd8b21470dbc499c94bff8c3bd5971c792ed2", func := "arbac/arbaclaw44.MatrixTexts", spec := "matrixTexts", inPlace := ["internal/bytealg.CountString", "internal/bytealg.IndexByteString", "internal/bytealg.IndexString", "internal/abi.NoEscape"], unfollowed := true, recurses := true, named := ["unicode/utf8.first", "unicode/utf8.acceptRanges", "internal/bytealg.MaxLen", "math/bits.deBruijn64tab"], apart := false, laid := [("math/bits.deBruijn64tab", laid_math_bits_deBruijn64tab), ("unicode/utf8.acceptRanges", laid_unicode_utf8_acceptRanges), ("unicode/utf8.first", laid_unicode_utf8_first)], narrowed := true }
def MatrixTextsUptoSaid : Prop := matrixTextsUptoRow.holds Tryd.pinned (OpenSpec.upto matrixTextsSpec)

/-- 'arbaclaw44.MatrixSets', WHERE WHAT IT READS IS OF BULK AT MOST 1048576: true; the input reads as it did. -/
def matrixSetsUptoRow : OpenClaim := { program := "ytjlcnbfkblmoeaadoor", sum := "065f1b93db23007607293058bcebd8b21470dbc499c94bff8c3bd5971c792ed2", func := "arbac/arbaclaw44.MatrixSets", spec := "matrixSets", inPlace := ["internal/bytealg.CountString", "internal/bytealg.IndexByteString", "internal/bytealg.IndexString", "internal/abi.NoEscape"], unfollowed := true, recurses := true, named := ["unicode/utf8.first", "unicode/utf8.acceptRanges", "internal/bytealg.MaxLen", "math/bits.deBruijn64tab"], apart := false, laid := [("math/bits.deBruijn64tab", laid_math_bits_deBruijn64tab), ("unicode/utf8.acceptRanges", laid_unicode_utf8_acceptRanges), ("unicode/utf8.first", laid_unicode_utf8_first)], narrowed := true }
def MatrixSetsUptoSaid : Prop := matrixSetsUptoRow.holds Tryd.pinned (OpenSpec.upto matrixSetsSpec)

/-- 'arbaclaw44.MatrixCombines', WHERE WHAT IT READS IS OF BULK AT MOST 1048576: true; the input reads as it did. -/
def matrixCombinesUptoRow : OpenClaim := { program := "ytjlcnbfkblmoeaadoor", sum := "065f1b93db23007607293058bcebd8b21470dbc499c94bff8c3bd5971c792ed2", func := "arbac/arbaclaw44.MatrixCombines", spec := "matrixCombines", inPlace := ["internal/bytealg.CountString", "internal/bytealg.IndexByteString", "internal/bytealg.IndexString", "internal/abi.NoEscape"], unfollowed := true, recurses := true, named := ["unicode/utf8.first", "unicode/utf8.acceptRanges", "internal/bytealg.MaxLen", "math/bits.deBruijn64tab"], apart := false, laid := [("math/bits.deBruijn64tab", laid_math_bits_deBruijn64tab), ("unicode/utf8.acceptRanges", laid_unicode_utf8_acceptRanges), ("unicode/utf8.first", laid_unicode_utf8_first)], narrowed := true }
def MatrixCombinesUptoSaid : Prop := matrixCombinesUptoRow.holds Tryd.pinned (OpenSpec.upto matrixCombinesSpec)

/-- 'arbaclaw44.MatrixMakes', WHERE WHAT IT READS IS OF BULK AT MOST 1048576: true; the input reads as it did. -/
def matrixMakesUptoRow : OpenClaim := { program := "ytjlcnbfkblmoeaadoor", sum := "065f1b93db23007607293058bcebd8b21470dbc499c94bff8c3bd5971c792ed2", func := "arbac/arbaclaw44.MatrixMakes", spec := "matrixMakes", inPlace := ["internal/bytealg.CountString", "internal/bytealg.IndexByteString", "internal/bytealg.IndexString", "internal/abi.NoEscape"], unfollowed := true, recurses := true, named := ["unicode/utf8.first", "unicode/utf8.acceptRanges", "internal/bytealg.MaxLen", "math/bits.deBruijn64tab"], apart := false, laid := [("math/bits.deBruijn64tab", laid_math_bits_deBruijn64tab), ("unicode/utf8.acceptRanges", laid_unicode_utf8_acceptRanges), ("unicode/utf8.first", laid_unicode_utf8_first)], narrowed := true }
def MatrixMakesUptoSaid : Prop := matrixMakesUptoRow.holds Tryd.pinned (OpenSpec.upto matrixMakesSpec)

/-- 'arbaclaw44.MatrixAlgebra', WHERE WHAT IT READS IS OF BULK AT MOST 1048576: true; the input reads as it did. -/
def matrixAlgebraUptoRow : OpenClaim := { program := "ytjlcnbfkblmoeaadoor", sum := "065f1b93db23007607293058bcebd8b21470dbc499c94bff8c3bd5971c792ed2", func := "arbac/arbaclaw44.MatrixAlgebra", spec := "matrixAlgebra", inPlace := ["internal/bytealg.CountString", "internal/bytealg.IndexByteString", "internal/bytealg.IndexString", "internal/abi.NoEscape"], unfollowed := true, recurses := true, named := ["unicode/utf8.first", "unicode/utf8.acceptRanges", "internal/bytealg.MaxLen", "math/bits.deBruijn64tab"], apart := false, laid := [("math/bits.deBruijn64tab", laid_math_bits_deBruijn64tab), ("unicode/utf8.acceptRanges", laid_unicode_utf8_acceptRanges), ("unicode/utf8.first", laid_unicode_utf8_first)], narrowed := true }
def MatrixAlgebraUptoSaid : Prop := matrixAlgebraUptoRow.holds Tryd.pinned (OpenSpec.upto matrixAlgebraSpec)

/-- 'arbaclaw44.MatrixElements', WHERE WHAT IT READS IS OF BULK AT MOST 1048576: true; the input reads as it did. -/
def matrixElementsUptoRow : OpenClaim := { program := "ytjlcnbfkblmoeaadoor", sum := "065f1b93db23007607293058bcebd8b21470dbc499c94bff8c3bd5971c792ed2", func := "arbac/arbaclaw44.MatrixElements", spec := "matrixElements", inPlace := ["internal/bytealg.CountString", "internal/bytealg.IndexByteString", "internal/bytealg.IndexString", "internal/abi.NoEscape"], unfollowed := true, recurses := true, named := ["unicode/utf8.first", "unicode/utf8.acceptRanges", "internal/bytealg.MaxLen", "math/bits.deBruijn64tab"], apart := false, laid := [("math/bits.deBruijn64tab", laid_math_bits_deBruijn64tab), ("unicode/utf8.acceptRanges", laid_unicode_utf8_acceptRanges), ("unicode/utf8.first", laid_unicode_utf8_first)], narrowed := true }
def MatrixElementsUptoSaid : Prop := matrixElementsUptoRow.holds Tryd.pinned (OpenSpec.upto matrixElementsSpec)

/-- 'arbaclaw44.MatrixNil', WHERE WHAT IT READS IS OF BULK AT MOST 1048576: true; the input reads as it did. -/
def matrixNilUptoRow : OpenClaim := { program := "ytjlcnbfkblmoeaadoor", sum := "065f1b93db23007607293058bcebd8b21470dbc499c94bff8c3bd5971c792ed2", func := "arbac/arbaclaw44.MatrixNil", spec := "matrixNil", inPlace := ["internal/bytealg.CountString", "internal/bytealg.IndexByteString", "internal/bytealg.IndexString", "internal/abi.NoEscape"], unfollowed := true, recurses := true, named := ["unicode/utf8.first", "unicode/utf8.acceptRanges", "internal/bytealg.MaxLen", "math/bits.deBruijn64tab"], apart := false, laid := [("math/bits.deBruijn64tab", laid_math_bits_deBruijn64tab), ("unicode/utf8.acceptRanges", laid_unicode_utf8_acceptRanges), ("unicode/utf8.first", laid_unicode_utf8_first)], narrowed := true }
def MatrixNilUptoSaid : Prop := matrixNilUptoRow.holds Tryd.pinned (OpenSpec.upto matrixNilSpec)

/-- 'arbaclaw44.MatrixBytes', WHERE WHAT IT READS IS OF BULK AT MOST 1048576: true; the input reads as it did. -/
def matrixBytesUptoRow : OpenClaim := { program := "ytjlcnbfkblmoeaadoor", sum := "065f1b93db23007607293058bcebd8b21470dbc499c94bff8c3bd5971c792ed2", func := "arbac/arbaclaw44.MatrixBytes", spec := "matrixBytes", inPlace := ["internal/bytealg.CountString", "internal/bytealg.IndexByteString", "internal/bytealg.IndexString", "internal/abi.NoEscape"], unfollowed := true, recurses := true, named := ["unicode/utf8.first", "unicode/utf8.acceptRanges", "internal/bytealg.MaxLen", "math/bits.deBruijn64tab"], apart := false, laid := [("math/bits.deBruijn64tab", laid_math_bits_deBruijn64tab), ("unicode/utf8.acceptRanges", laid_unicode_utf8_acceptRanges), ("unicode/utf8.first", laid_unicode_utf8_first)], narrowed := true }
def MatrixBytesUptoSaid : Prop := matrixBytesUptoRow.holds Tryd.pinned (OpenSpec.upto matrixBytesSpec)

end Rows
end Go.Proofs.YtjlcnbfkblmoeaaDoor
