/-
  NARROWER THAN 'FOR EVERY INPUT', by the rows' own cells (each row's printed sentence says how): ClosureNil: laid · ClosureCommon: laid · ClosureGalois: laid · ClosureCloses: laid · ClosureMinimal: laid · ClosureLimits: laid · ClosureRectangles: laid · ClosureImplies: laid · ClosureConcepts: laid · ClosureTurns: laid.
  DERIVED. THE GIVEN ROWS OF THIS SEAT. 10 by the template 'for every input the law returns true; each argument reads behind the call as it read before'; 0 by the template 'total and deterministic' (their statements: YtiicgbbgiedknaaDoorTotals.lean).
  GIVEN WITH THE SEED: the statements are not yours to turn. If you find one false, say at which input.
  Laid BY PROGRAM, IN A SANDBOX (cutbox-rows.mjs): the forced cells as the released guide's own fill.sh prints them over the translation c5e97bef19e62757… (all of the seat's roots in one cut). By AI agents, Wed Nov 11 2026. No macro, syntax, notation, axiom, sorry.
-/
import Derived.Test.YtiicgbbgiedknaaDoorChecked
import GoSem.PinnedTables
import GoSem.Claim
import GoSem.ClaimJoined
import GoSem.ClaimMapViews
import Derived.JoinedTies
import Derived.KernelRfl
namespace Go.Proofs.YtiicgbbgiedknaaDoor
/- THE CELL 'sum', in the pinned program and in every row, IS THE sha256 OF THE DUMP (.gsa) THAT YtiicgbbgiedknaaDoorProg.lean LOADS. Nothing in Lean hashes anything: it is a label: what it is worth is what the hold of that sum in a sandbox is worth. -/
noncomputable def Tryd.pinned : Pinned := { name := "ytiicgbbgiedknaadoor", sum := "c5e97bef19e62757f81f69b7743be872d1ddcdbcfaf148759636defccbc7daf1", checked := Tryd.checked }
namespace Rows
def none {H : Type} : Left H := { results := [], args := [] }

/- WHAT THE LISTED PACKAGE-LEVEL VARIABLES READ AS WHEN THE CALL BEGINS. Each datum BY PROGRAM (the guide's laid-datum.mjs) off the statement by which the dump's own 'gosem.cut.vars' lays the variable. In a bare row this is a premise. The card (YtiicgbbgiedknaaDoorCards.lean) ties it to the program's text. -/
def laid_math_bits_deBruijn64tab {H : Type} : DataW H := .agg [.lit (.int .u8 0), .lit (.int .u8 1), .lit (.int .u8 56), .lit (.int .u8 2), .lit (.int .u8 57), .lit (.int .u8 49), .lit (.int .u8 28), .lit (.int .u8 3), .lit (.int .u8 61), .lit (.int .u8 58), .lit (.int .u8 42), .lit (.int .u8 50), .lit (.int .u8 38), .lit (.int .u8 29), .lit (.int .u8 17), .lit (.int .u8 4), .lit (.int .u8 62), .lit (.int .u8 47), .lit (.int .u8 59), .lit (.int .u8 36), .lit (.int .u8 45), .lit (.int .u8 43), .lit (.int .u8 51), .lit (.int .u8 22), .lit (.int .u8 53), .lit (.int .u8 39), .lit (.int .u8 33), .lit (.int .u8 30), .lit (.int .u8 24), .lit (.int .u8 18), .lit (.int .u8 12), .lit (.int .u8 5), .lit (.int .u8 63), .lit (.int .u8 55), .lit (.int .u8 48), .lit (.int .u8 27), .lit (.int .u8 60), .lit (.int .u8 41), .lit (.int .u8 37), .lit (.int .u8 16), .lit (.int .u8 46), .lit (.int .u8 35), .lit (.int .u8 44), .lit (.int .u8 21), .lit (.int .u8 52), .lit (.int .u8 32), .lit (.int .u8 23), .lit (.int .u8 11), .lit (.int .u8 54), .lit (.int .u8 26), .lit (.int .u8 40), .lit (.int .u8 15), .lit (.int .u8 34), .lit (.int .u8 20), .lit (.int .u8 31), .lit (.int .u8 10), .lit (.int .u8 25), .lit (.int .u8 14), .lit (.int .u8 19), .lit (.int .u8 9), .lit (.int .u8 13), .lit (.int .u8 8), .lit (.int .u8 7), .lit (.int .u8 6)]
def laid_unicode_utf8_acceptRanges {H : Type} : DataW H := .agg [.agg [.lit (.int .u8 128), .lit (.int .u8 191)], .agg [.lit (.int .u8 160), .lit (.int .u8 191)], .agg [.lit (.int .u8 128), .lit (.int .u8 159)], .agg [.lit (.int .u8 144), .lit (.int .u8 191)], .agg [.lit (.int .u8 128), .lit (.int .u8 143)], .agg [.lit (.int .u8 0), .lit (.int .u8 0)], .agg [.lit (.int .u8 0), .lit (.int .u8 0)], .agg [.lit (.int .u8 0), .lit (.int .u8 0)], .agg [.lit (.int .u8 0), .lit (.int .u8 0)], .agg [.lit (.int .u8 0), .lit (.int .u8 0)], .agg [.lit (.int .u8 0), .lit (.int .u8 0)], .agg [.lit (.int .u8 0), .lit (.int .u8 0)], .agg [.lit (.int .u8 0), .lit (.int .u8 0)], .agg [.lit (.int .u8 0), .lit (.int .u8 0)], .agg [.lit (.int .u8 0), .lit (.int .u8 0)], .agg [.lit (.int .u8 0), .lit (.int .u8 0)]]
/-- One of Go's own tables, pinned by name: the form's constant. -/
def laid_unicode_utf8_first : DataW Unit := Go.Pinned.utf8First

/-- 'arbaclaw45.ClosureNil': WHATEVER THE INPUT: true; the input reads as it did. -/
def closureNilSpec : ChangeSpec := { name := "closureNil", fn := fun _ => fun
  | [d] => { results := [.lit (.bool true)], args := [d] }
  | _ => none }
def closureNilRow : OpenClaim := { program := "ytiicgbbgiedknaadoor", sum := "c5e97bef19e62757f81f69b7743be872d1ddcdbcfaf148759636defccbc7daf1", func := "arbac/arbaclaw45.ClosureNil", spec := "closureNil", inPlace := ["internal/bytealg.CountString", "internal/bytealg.IndexByteString", "internal/bytealg.IndexString", "internal/abi.NoEscape"], unfollowed := true, recurses := true, named := ["unicode/utf8.first", "unicode/utf8.acceptRanges", "internal/bytealg.MaxLen", "math/bits.deBruijn64tab"], apart := false, laid := [("math/bits.deBruijn64tab", laid_math_bits_deBruijn64tab), ("unicode/utf8.acceptRanges", laid_unicode_utf8_acceptRanges), ("unicode/utf8.first", laid_unicode_utf8_first)] }
def ClosureNilSaid : Prop := closureNilRow.holds Tryd.pinned (OpenSpec.ofChange closureNilSpec)

/-- ITS FALSE NEIGHBOUR: 'it returns false'. Refute it at one input. -/
def closureNilWrong : ChangeSpec := { name := "closureNil", fn := fun _ => fun
  | [d] => { results := [.lit (.bool false)], args := [d] }
  | _ => none }
def ClosureNilWrongFalsely : Prop := closureNilRow.holds Tryd.pinned (OpenSpec.ofChange closureNilWrong)

/-- 'arbaclaw45.ClosureCommon': WHATEVER THE INPUT: true; the input reads as it did. -/
def closureCommonSpec : ChangeSpec := { name := "closureCommon", fn := fun _ => fun
  | [d1, d2, d3] => { results := [.lit (.bool true)], args := [d1, d2, d3] }
  | _ => none }
def closureCommonRow : OpenClaim := { program := "ytiicgbbgiedknaadoor", sum := "c5e97bef19e62757f81f69b7743be872d1ddcdbcfaf148759636defccbc7daf1", func := "arbac/arbaclaw45.ClosureCommon", spec := "closureCommon", inPlace := ["internal/bytealg.CountString", "internal/bytealg.IndexByteString", "internal/bytealg.IndexString", "internal/abi.NoEscape"], unfollowed := true, recurses := true, named := ["unicode/utf8.first", "unicode/utf8.acceptRanges", "internal/bytealg.MaxLen", "math/bits.deBruijn64tab"], apart := false, laid := [("math/bits.deBruijn64tab", laid_math_bits_deBruijn64tab), ("unicode/utf8.acceptRanges", laid_unicode_utf8_acceptRanges), ("unicode/utf8.first", laid_unicode_utf8_first)] }
def ClosureCommonSaid : Prop := closureCommonRow.holds Tryd.pinned (OpenSpec.ofChange closureCommonSpec)

/-- ITS FALSE NEIGHBOUR: 'it returns false'. Refute it at one input. -/
def closureCommonWrong : ChangeSpec := { name := "closureCommon", fn := fun _ => fun
  | [d1, d2, d3] => { results := [.lit (.bool false)], args := [d1, d2, d3] }
  | _ => none }
def ClosureCommonWrongFalsely : Prop := closureCommonRow.holds Tryd.pinned (OpenSpec.ofChange closureCommonWrong)

/-- 'arbaclaw45.ClosureGalois': WHATEVER THE INPUT: true; the input reads as it did. -/
def closureGaloisSpec : ChangeSpec := { name := "closureGalois", fn := fun _ => fun
  | [d1, d2, d3] => { results := [.lit (.bool true)], args := [d1, d2, d3] }
  | _ => none }
def closureGaloisRow : OpenClaim := { program := "ytiicgbbgiedknaadoor", sum := "c5e97bef19e62757f81f69b7743be872d1ddcdbcfaf148759636defccbc7daf1", func := "arbac/arbaclaw45.ClosureGalois", spec := "closureGalois", inPlace := ["internal/bytealg.CountString", "internal/bytealg.IndexByteString", "internal/bytealg.IndexString", "internal/abi.NoEscape"], unfollowed := true, recurses := true, named := ["unicode/utf8.first", "unicode/utf8.acceptRanges", "internal/bytealg.MaxLen", "math/bits.deBruijn64tab"], apart := false, laid := [("math/bits.deBruijn64tab", laid_math_bits_deBruijn64tab), ("unicode/utf8.acceptRanges", laid_unicode_utf8_acceptRanges), ("unicode/utf8.first", laid_unicode_utf8_first)] }
def ClosureGaloisSaid : Prop := closureGaloisRow.holds Tryd.pinned (OpenSpec.ofChange closureGaloisSpec)

/-- ITS FALSE NEIGHBOUR: 'it returns false'. Refute it at one input. -/
def closureGaloisWrong : ChangeSpec := { name := "closureGalois", fn := fun _ => fun
  | [d1, d2, d3] => { results := [.lit (.bool false)], args := [d1, d2, d3] }
  | _ => none }
def ClosureGaloisWrongFalsely : Prop := closureGaloisRow.holds Tryd.pinned (OpenSpec.ofChange closureGaloisWrong)

/-- 'arbaclaw45.ClosureCloses': WHATEVER THE INPUT: true; the input reads as it did. -/
def closureClosesSpec : ChangeSpec := { name := "closureCloses", fn := fun _ => fun
  | [d1, d2, d3] => { results := [.lit (.bool true)], args := [d1, d2, d3] }
  | _ => none }
def closureClosesRow : OpenClaim := { program := "ytiicgbbgiedknaadoor", sum := "c5e97bef19e62757f81f69b7743be872d1ddcdbcfaf148759636defccbc7daf1", func := "arbac/arbaclaw45.ClosureCloses", spec := "closureCloses", inPlace := ["internal/bytealg.CountString", "internal/bytealg.IndexByteString", "internal/bytealg.IndexString", "internal/abi.NoEscape"], unfollowed := true, recurses := true, named := ["unicode/utf8.first", "unicode/utf8.acceptRanges", "internal/bytealg.MaxLen", "math/bits.deBruijn64tab"], apart := false, laid := [("math/bits.deBruijn64tab", laid_math_bits_deBruijn64tab), ("unicode/utf8.acceptRanges", laid_unicode_utf8_acceptRanges), ("unicode/utf8.first", laid_unicode_utf8_first)] }
def ClosureClosesSaid : Prop := closureClosesRow.holds Tryd.pinned (OpenSpec.ofChange closureClosesSpec)

/-- ITS FALSE NEIGHBOUR: 'it returns false'. Refute it at one input. -/
def closureClosesWrong : ChangeSpec := { name := "closureCloses", fn := fun _ => fun
  | [d1, d2, d3] => { results := [.lit (.bool false)], args := [d1, d2, d3] }
  | _ => none }
def ClosureClosesWrongFalsely : Prop := closureClosesRow.holds Tryd.pinned (OpenSpec.ofChange closureClosesWrong)

/-- 'arbaclaw45.ClosureMinimal': WHATEVER THE INPUT: true; the input reads as it did. -/
def closureMinimalSpec : ChangeSpec := { name := "closureMinimal", fn := fun _ => fun
  | [d1, d2] => { results := [.lit (.bool true)], args := [d1, d2] }
  | _ => none }
def closureMinimalRow : OpenClaim := { program := "ytiicgbbgiedknaadoor", sum := "c5e97bef19e62757f81f69b7743be872d1ddcdbcfaf148759636defccbc7daf1", func := "arbac/arbaclaw45.ClosureMinimal", spec := "closureMinimal", inPlace := ["internal/bytealg.CountString", "internal/bytealg.IndexByteString", "internal/bytealg.IndexString", "internal/abi.NoEscape"], unfollowed := true, recurses := true, named := ["unicode/utf8.first", "unicode/utf8.acceptRanges", "internal/bytealg.MaxLen", "math/bits.deBruijn64tab"], apart := false, laid := [("math/bits.deBruijn64tab", laid_math_bits_deBruijn64tab), ("unicode/utf8.acceptRanges", laid_unicode_utf8_acceptRanges), ("unicode/utf8.first", laid_unicode_utf8_first)] }
def ClosureMinimalSaid : Prop := closureMinimalRow.holds Tryd.pinned (OpenSpec.ofChange closureMinimalSpec)

/-- ITS FALSE NEIGHBOUR: 'it returns false'. Refute it at one input. -/
def closureMinimalWrong : ChangeSpec := { name := "closureMinimal", fn := fun _ => fun
  | [d1, d2] => { results := [.lit (.bool false)], args := [d1, d2] }
  | _ => none }
def ClosureMinimalWrongFalsely : Prop := closureMinimalRow.holds Tryd.pinned (OpenSpec.ofChange closureMinimalWrong)

/-- 'arbaclaw45.ClosureLimits': WHATEVER THE INPUT: true; the input reads as it did. -/
def closureLimitsSpec : ChangeSpec := { name := "closureLimits", fn := fun _ => fun
  | [d1, d2] => { results := [.lit (.bool true)], args := [d1, d2] }
  | _ => none }
def closureLimitsRow : OpenClaim := { program := "ytiicgbbgiedknaadoor", sum := "c5e97bef19e62757f81f69b7743be872d1ddcdbcfaf148759636defccbc7daf1", func := "arbac/arbaclaw45.ClosureLimits", spec := "closureLimits", inPlace := ["internal/bytealg.CountString", "internal/bytealg.IndexByteString", "internal/bytealg.IndexString", "internal/abi.NoEscape"], unfollowed := true, recurses := true, named := ["unicode/utf8.first", "unicode/utf8.acceptRanges", "internal/bytealg.MaxLen", "math/bits.deBruijn64tab"], apart := false, laid := [("math/bits.deBruijn64tab", laid_math_bits_deBruijn64tab), ("unicode/utf8.acceptRanges", laid_unicode_utf8_acceptRanges), ("unicode/utf8.first", laid_unicode_utf8_first)] }
def ClosureLimitsSaid : Prop := closureLimitsRow.holds Tryd.pinned (OpenSpec.ofChange closureLimitsSpec)

/-- ITS FALSE NEIGHBOUR: 'it returns false'. Refute it at one input. -/
def closureLimitsWrong : ChangeSpec := { name := "closureLimits", fn := fun _ => fun
  | [d1, d2] => { results := [.lit (.bool false)], args := [d1, d2] }
  | _ => none }
def ClosureLimitsWrongFalsely : Prop := closureLimitsRow.holds Tryd.pinned (OpenSpec.ofChange closureLimitsWrong)

/-- 'arbaclaw45.ClosureRectangles': WHATEVER THE INPUT: true; the input reads as it did. -/
def closureRectanglesSpec : ChangeSpec := { name := "closureRectangles", fn := fun _ => fun
  | [d1, d2] => { results := [.lit (.bool true)], args := [d1, d2] }
  | _ => none }
def closureRectanglesRow : OpenClaim := { program := "ytiicgbbgiedknaadoor", sum := "c5e97bef19e62757f81f69b7743be872d1ddcdbcfaf148759636defccbc7daf1", func := "arbac/arbaclaw45.ClosureRectangles", spec := "closureRectangles", inPlace := ["internal/bytealg.CountString", "internal/bytealg.IndexByteString", "internal/bytealg.IndexString", "internal/abi.NoEscape"], unfollowed := true, recurses := true, named := ["unicode/utf8.first", "unicode/utf8.acceptRanges", "internal/bytealg.MaxLen", "math/bits.deBruijn64tab"], apart := false, laid := [("math/bits.deBruijn64tab", laid_math_bits_deBruijn64tab), ("unicode/utf8.acceptRanges", laid_unicode_utf8_acceptRanges), ("unicode/utf8.first", laid_unicode_utf8_first)] }
def ClosureRectanglesSaid : Prop := closureRectanglesRow.holds Tryd.pinned (OpenSpec.ofChange closureRectanglesSpec)

/-- ITS FALSE NEIGHBOUR: 'it returns false'. Refute it at one input. -/
def closureRectanglesWrong : ChangeSpec := { name := "closureRectangles", fn := fun _ => fun
  | [d1, d2] => { results := [.lit (.bool false)], args := [d1, d2] }
  | _ => none }
def ClosureRectanglesWrongFalsely : Prop := closureRectanglesRow.holds Tryd.pinned (OpenSpec.ofChange closureRectanglesWrong)

/-- 'arbaclaw45.ClosureImplies': WHATEVER THE INPUT: true; the input reads as it did. -/
def closureImpliesSpec : ChangeSpec := { name := "closureImplies", fn := fun _ => fun
  | [d1, d2, d3] => { results := [.lit (.bool true)], args := [d1, d2, d3] }
  | _ => none }
def closureImpliesRow : OpenClaim := { program := "ytiicgbbgiedknaadoor", sum := "c5e97bef19e62757f81f69b7743be872d1ddcdbcfaf148759636defccbc7daf1", func := "arbac/arbaclaw45.ClosureImplies", spec := "closureImplies", inPlace := ["internal/bytealg.CountString", "internal/bytealg.IndexByteString", "internal/bytealg.IndexString", "internal/abi.NoEscape"], unfollowed := true, recurses := true, named := ["unicode/utf8.first", "unicode/utf8.acceptRanges", "internal/bytealg.MaxLen", "math/bits.deBruijn64tab"], apart := false, laid := [("math/bits.deBruijn64tab", laid_math_bits_deBruijn64tab), ("unicode/utf8.acceptRanges", laid_unicode_utf8_acceptRanges), ("unicode/utf8.first", laid_unicode_utf8_first)] }
def ClosureImpliesSaid : Prop := closureImpliesRow.holds Tryd.pinned (OpenSpec.ofChange closureImpliesSpec)

/-- ITS FALSE NEIGHBOUR: 'it returns false'. Refute it at one input. -/
def closureImpliesWrong : ChangeSpec := { name := "closureImplies", fn := fun _ => fun
  | [d1, d2, d3] => { results := [.lit (.bool false)], args := [d1, d2, d3] }
  | _ => none }
def ClosureImpliesWrongFalsely : Prop := closureImpliesRow.holds Tryd.pinned (OpenSpec.ofChange closureImpliesWrong)

/-- 'arbaclaw45.ClosureConcepts': WHATEVER THE INPUT: true; the input reads as it did. -/
def closureConceptsSpec : ChangeSpec := { name := "closureConcepts", fn := fun _ => fun
  | [d1, d2] => { results := [.lit (.bool true)], args := [d1, d2] }
  | _ => none }
def closureConceptsRow : OpenClaim := { program := "ytiicgbbgiedknaadoor", sum := "c5e97bef19e62757f81f69b7743be872d1ddcdbcfaf148759636defccbc7daf1", func := "arbac/arbaclaw45.ClosureConcepts", spec := "closureConcepts", inPlace := ["internal/bytealg.CountString", "internal/bytealg.IndexByteString", "internal/bytealg.IndexString", "internal/abi.NoEscape"], unfollowed := true, recurses := true, named := ["unicode/utf8.first", "unicode/utf8.acceptRanges", "internal/bytealg.MaxLen", "math/bits.deBruijn64tab"], apart := false, laid := [("math/bits.deBruijn64tab", laid_math_bits_deBruijn64tab), ("unicode/utf8.acceptRanges", laid_unicode_utf8_acceptRanges), ("unicode/utf8.first", laid_unicode_utf8_first)] }
def ClosureConceptsSaid : Prop := closureConceptsRow.holds Tryd.pinned (OpenSpec.ofChange closureConceptsSpec)

/-- ITS FALSE NEIGHBOUR: 'it returns false'. Refute it at one input. -/
def closureConceptsWrong : ChangeSpec := { name := "closureConcepts", fn := fun _ => fun
  | [d1, d2] => { results := [.lit (.bool false)], args := [d1, d2] }
  | _ => none }
def ClosureConceptsWrongFalsely : Prop := closureConceptsRow.holds Tryd.pinned (OpenSpec.ofChange closureConceptsWrong)

/-- 'arbaclaw45.ClosureTurns': WHATEVER THE INPUT: true; the input reads as it did. -/
def closureTurnsSpec : ChangeSpec := { name := "closureTurns", fn := fun _ => fun
  | [d1, d2] => { results := [.lit (.bool true)], args := [d1, d2] }
  | _ => none }
def closureTurnsRow : OpenClaim := { program := "ytiicgbbgiedknaadoor", sum := "c5e97bef19e62757f81f69b7743be872d1ddcdbcfaf148759636defccbc7daf1", func := "arbac/arbaclaw45.ClosureTurns", spec := "closureTurns", inPlace := ["internal/bytealg.CountString", "internal/bytealg.IndexByteString", "internal/bytealg.IndexString", "internal/abi.NoEscape"], unfollowed := true, recurses := true, named := ["unicode/utf8.first", "unicode/utf8.acceptRanges", "internal/bytealg.MaxLen", "math/bits.deBruijn64tab"], apart := false, laid := [("math/bits.deBruijn64tab", laid_math_bits_deBruijn64tab), ("unicode/utf8.acceptRanges", laid_unicode_utf8_acceptRanges), ("unicode/utf8.first", laid_unicode_utf8_first)] }
def ClosureTurnsSaid : Prop := closureTurnsRow.holds Tryd.pinned (OpenSpec.ofChange closureTurnsSpec)

/-- ITS FALSE NEIGHBOUR: 'it returns false'. Refute it at one input. -/
def closureTurnsWrong : ChangeSpec := { name := "closureTurns", fn := fun _ => fun
  | [d1, d2] => { results := [.lit (.bool false)], args := [d1, d2] }
  | _ => none }
def ClosureTurnsWrongFalsely : Prop := closureTurnsRow.holds Tryd.pinned (OpenSpec.ofChange closureTurnsWrong)

/- THE SECOND FORM. 'bulk': how many values and letters a reading holds, each counted each time it is reached (what is shared counts as often as it is met; a slice's spare places count too). A statement '..UptoSaid' is the law's where the arguments, and the package variables that the reading takes, are together of bulk at most 1048576: NARROWER than '..Said'. Prove '..Said' where nothing that the law and all that it calls make is longer than what came in: it says more and counts as full. Else prove '..UptoSaid'. A law counts once. -/
mutual
def uptoBulk {H : Type} : DataW H → Nat
  | .lit (.string bytes) => bytes.length + 1
  | .lit _ => 1
  | .nil => 1
  | .ptr d => uptoBulk d + 1
  | .slice elems spare => uptoBulkAll elems + uptoBulkAll spare + 1
  | .agg parts => uptoBulkAll parts + 1
  | .iface _ d => uptoBulk d + 1
  | .map entries => uptoBulkEntries entries + 1
  | .held _ => 1
def uptoBulkAll {H : Type} : List (DataW H) → Nat
  | [] => 0
  | d :: r => uptoBulk d + uptoBulkAll r
def uptoBulkEntries {H : Type} : List (Lit × DataW H) → Nat
  | [] => 0
  | x :: r => uptoBulkEntry x + uptoBulkEntries r
def uptoBulkEntry {H : Type} : Lit × DataW H → Nat
  | (.string bytes, d) => bytes.length + uptoBulk d + 1
  | (_, d) => uptoBulk d + 1
 end
def uptoSmall : (H : Type) → List (DataW H) → Bool := fun _ ds => decide (uptoBulkAll ds ≤ 1048576)
def OpenSpec.upto (s : _root_.Go.ChangeSpec) : _root_.Go.OpenSpec := { _root_.Go.OpenSpec.ofChange s with cond := some uptoSmall }

/-- 'arbaclaw45.ClosureNil', WHERE WHAT IT READS IS OF BULK AT MOST 1048576: true; the input reads as it did. -/
def closureNilUptoRow : OpenClaim := { program := "ytiicgbbgiedknaadoor", sum := "c5e97bef19e62757f81f69b7743be872d1ddcdbcfaf148759636defccbc7daf1", func := "arbac/arbaclaw45.ClosureNil", spec := "closureNil", inPlace := ["internal/bytealg.CountString", "internal/bytealg.IndexByteString", "internal/bytealg.IndexString", "internal/abi.NoEscape"], unfollowed := true, recurses := true, named := ["unicode/utf8.first", "unicode/utf8.acceptRanges", "internal/bytealg.MaxLen", "math/bits.deBruijn64tab"], apart := false, laid := [("math/bits.deBruijn64tab", laid_math_bits_deBruijn64tab), ("unicode/utf8.acceptRanges", laid_unicode_utf8_acceptRanges), ("unicode/utf8.first", laid_unicode_utf8_first)], narrowed := true }
def ClosureNilUptoSaid : Prop := closureNilUptoRow.holds Tryd.pinned (OpenSpec.upto closureNilSpec)

/-- 'arbaclaw45.ClosureCommon', WHERE WHAT IT READS IS OF BULK AT MOST 1048576: true; the input reads as it did. -/
def closureCommonUptoRow : OpenClaim := { program := "ytiicgbbgiedknaadoor", sum := "c5e97bef19e62757f81f69b7743be872d1ddcdbcfaf148759636defccbc7daf1", func := "arbac/arbaclaw45.ClosureCommon", spec := "closureCommon", inPlace := ["internal/bytealg.CountString", "internal/bytealg.IndexByteString", "internal/bytealg.IndexString", "internal/abi.NoEscape"], unfollowed := true, recurses := true, named := ["unicode/utf8.first", "unicode/utf8.acceptRanges", "internal/bytealg.MaxLen", "math/bits.deBruijn64tab"], apart := false, laid := [("math/bits.deBruijn64tab", laid_math_bits_deBruijn64tab), ("unicode/utf8.acceptRanges", laid_unicode_utf8_acceptRanges), ("unicode/utf8.first", laid_unicode_utf8_first)], narrowed := true }
def ClosureCommonUptoSaid : Prop := closureCommonUptoRow.holds Tryd.pinned (OpenSpec.upto closureCommonSpec)

/-- 'arbaclaw45.ClosureGalois', WHERE WHAT IT READS IS OF BULK AT MOST 1048576: true; the input reads as it did. -/
def closureGaloisUptoRow : OpenClaim := { program := "ytiicgbbgiedknaadoor", sum := "c5e97bef19e62757f81f69b7743be872d1ddcdbcfaf148759636defccbc7daf1", func := "arbac/arbaclaw45.ClosureGalois", spec := "closureGalois", inPlace := ["internal/bytealg.CountString", "internal/bytealg.IndexByteString", "internal/bytealg.IndexString", "internal/abi.NoEscape"], unfollowed := true, recurses := true, named := ["unicode/utf8.first", "unicode/utf8.acceptRanges", "internal/bytealg.MaxLen", "math/bits.deBruijn64tab"], apart := false, laid := [("math/bits.deBruijn64tab", laid_math_bits_deBruijn64tab), ("unicode/utf8.acceptRanges", laid_unicode_utf8_acceptRanges), ("unicode/utf8.first", laid_unicode_utf8_first)], narrowed := true }
def ClosureGaloisUptoSaid : Prop := closureGaloisUptoRow.holds Tryd.pinned (OpenSpec.upto closureGaloisSpec)

/-- 'arbaclaw45.ClosureCloses', WHERE WHAT IT READS IS OF BULK AT MOST 1048576: true; the input reads as it did. -/
def closureClosesUptoRow : OpenClaim := { program := "ytiicgbbgiedknaadoor", sum := "c5e97bef19e62757f81f69b7743be872d1ddcdbcfaf148759636defccbc7daf1", func := "arbac/arbaclaw45.ClosureCloses", spec := "closureCloses", inPlace := ["internal/bytealg.CountString", "internal/bytealg.IndexByteString", "internal/bytealg.IndexString", "internal/abi.NoEscape"], unfollowed := true, recurses := true, named := ["unicode/utf8.first", "unicode/utf8.acceptRanges", "internal/bytealg.MaxLen", "math/bits.deBruijn64tab"], apart := false, laid := [("math/bits.deBruijn64tab", laid_math_bits_deBruijn64tab), ("unicode/utf8.acceptRanges", laid_unicode_utf8_acceptRanges), ("unicode/utf8.first", laid_unicode_utf8_first)], narrowed := true }
def ClosureClosesUptoSaid : Prop := closureClosesUptoRow.holds Tryd.pinned (OpenSpec.upto closureClosesSpec)

/-- 'arbaclaw45.ClosureMinimal', WHERE WHAT IT READS IS OF BULK AT MOST 1048576: true; the input reads as it did. -/
def closureMinimalUptoRow : OpenClaim := { program := "ytiicgbbgiedknaadoor", sum := "c5e97bef19e62757f81f69b7743be872d1ddcdbcfaf148759636defccbc7daf1", func := "arbac/arbaclaw45.ClosureMinimal", spec := "closureMinimal", inPlace := ["internal/bytealg.CountString", "internal/bytealg.IndexByteString", "internal/bytealg.IndexString", "internal/abi.NoEscape"], unfollowed := true, recurses := true, named := ["unicode/utf8.first", "unicode/utf8.acceptRanges", "internal/bytealg.MaxLen", "math/bits.deBruijn64tab"], apart := false, laid := [("math/bits.deBruijn64tab", laid_math_bits_deBruijn64tab), ("unicode/utf8.acceptRanges", laid_unicode_utf8_acceptRanges), ("unicode/utf8.first", laid_unicode_utf8_first)], narrowed := true }
def ClosureMinimalUptoSaid : Prop := closureMinimalUptoRow.holds Tryd.pinned (OpenSpec.upto closureMinimalSpec)

/-- 'arbaclaw45.ClosureLimits', WHERE WHAT IT READS IS OF BULK AT MOST 1048576: true; the input reads as it did. -/
def closureLimitsUptoRow : OpenClaim := { program := "ytiicgbbgiedknaadoor", sum := "c5e97bef19e62757f81f69b7743be872d1ddcdbcfaf148759636defccbc7daf1", func := "arbac/arbaclaw45.ClosureLimits", spec := "closureLimits", inPlace := ["internal/bytealg.CountString", "internal/bytealg.IndexByteString", "internal/bytealg.IndexString", "internal/abi.NoEscape"], unfollowed := true, recurses := true, named := ["unicode/utf8.first", "unicode/utf8.acceptRanges", "internal/bytealg.MaxLen", "math/bits.deBruijn64tab"], apart := false, laid := [("math/bits.deBruijn64tab", laid_math_bits_deBruijn64tab), ("unicode/utf8.acceptRanges", laid_unicode_utf8_acceptRanges), ("unicode/utf8.first", laid_unicode_utf8_first)], narrowed := true }
def ClosureLimitsUptoSaid : Prop := closureLimitsUptoRow.holds Tryd.pinned (OpenSpec.upto closureLimitsSpec)

/-- 'arbaclaw45.ClosureRectangles', WHERE WHAT IT READS IS OF BULK AT MOST 1048576: true; the input reads as it did. -/
def closureRectanglesUptoRow : OpenClaim := { program := "ytiicgbbgiedknaadoor", sum := "c5e97bef19e62757f81f69b7743be872d1ddcdbcfaf148759636defccbc7daf1", func := "arbac/arbaclaw45.ClosureRectangles", spec := "closureRectangles", inPlace := ["internal/bytealg.CountString", "internal/bytealg.IndexByteString", "internal/bytealg.IndexString", "internal/abi.NoEscape"], unfollowed := true, recurses := true, named := ["unicode/utf8.first", "unicode/utf8.acceptRanges", "internal/bytealg.MaxLen", "math/bits.deBruijn64tab"], apart := false, laid := [("math/bits.deBruijn64tab", laid_math_bits_deBruijn64tab), ("unicode/utf8.acceptRanges", laid_unicode_utf8_acceptRanges), ("unicode/utf8.first", laid_unicode_utf8_first)], narrowed := true }
def ClosureRectanglesUptoSaid : Prop := closureRectanglesUptoRow.holds Tryd.pinned (OpenSpec.upto closureRectanglesSpec)

/-- 'arbaclaw45.ClosureImplies', WHERE WHAT IT READS IS OF BULK AT MOST 1048576: true; the input reads as it did. -/
def closureImpliesUptoRow : OpenClaim := { program := "ytiicgbbgiedknaadoor", sum := "c5e97bef19e62757f81f69b7743be872d1ddcdbcfaf148759636defccbc7daf1", func := "arbac/arbaclaw45.ClosureImplies", spec := "closureImplies", inPlace := ["internal/bytealg.CountString", "internal/bytealg.IndexByteString", "internal/bytealg.IndexString", "internal/abi.NoEscape"], unfollowed := true, recurses := true, named := ["unicode/utf8.first", "unicode/utf8.acceptRanges", "internal/bytealg.MaxLen", "math/bits.deBruijn64tab"], apart := false, laid := [("math/bits.deBruijn64tab", laid_math_bits_deBruijn64tab), ("unicode/utf8.acceptRanges", laid_unicode_utf8_acceptRanges), ("unicode/utf8.first", laid_unicode_utf8_first)], narrowed := true }
def ClosureImpliesUptoSaid : Prop := closureImpliesUptoRow.holds Tryd.pinned (OpenSpec.upto closureImpliesSpec)

/-- 'arbaclaw45.ClosureConcepts', WHERE WHAT IT READS IS OF BULK AT MOST 1048576: true; the input reads as it did. -/
def closureConceptsUptoRow : OpenClaim := { program := "ytiicgbbgiedknaadoor", sum := "c5e97bef19e62757f81f69b7743be872d1ddcdbcfaf148759636defccbc7daf1", func := "arbac/arbaclaw45.ClosureConcepts", spec := "closureConcepts", inPlace := ["internal/bytealg.CountString", "internal/bytealg.IndexByteString", "internal/bytealg.IndexString", "internal/abi.NoEscape"], unfollowed := true, recurses := true, named := ["unicode/utf8.first", "unicode/utf8.acceptRanges", "internal/bytealg.MaxLen", "math/bits.deBruijn64tab"], apart := false, laid := [("math/bits.deBruijn64tab", laid_math_bits_deBruijn64tab), ("unicode/utf8.acceptRanges", laid_unicode_utf8_acceptRanges), ("unicode/utf8.first", laid_unicode_utf8_first)], narrowed := true }
def ClosureConceptsUptoSaid : Prop := closureConceptsUptoRow.holds Tryd.pinned (OpenSpec.upto closureConceptsSpec)

/-- 'arbaclaw45.ClosureTurns', WHERE WHAT IT READS IS OF BULK AT MOST 1048576: true; the input reads as it did. -/
def closureTurnsUptoRow : OpenClaim := { program := "ytiicgbbgiedknaadoor", sum := "c5e97bef19e62757f81f69b7743be872d1ddcdbcfaf148759636defccbc7daf1", func := "arbac/arbaclaw45.ClosureTurns", spec := "closureTurns", inPlace := ["internal/bytealg.CountString", "internal/bytealg.IndexByteString", "internal/bytealg.IndexString", "internal/abi.NoEscape"], unfollowed := true, recurses := true, named := ["unicode/utf8.first", "unicode/utf8.acceptRanges", "internal/bytealg.MaxLen", "math/bits.deBruijn64tab"], apart := false, laid := [("math/bits.deBruijn64tab", laid_math_bits_deBruijn64tab), ("unicode/utf8.acceptRanges", laid_unicode_utf8_acceptRanges), ("unicode/utf8.first", laid_unicode_utf8_first)], narrowed := true }
def ClosureTurnsUptoSaid : Prop := closureTurnsUptoRow.holds Tryd.pinned (OpenSpec.upto closureTurnsSpec)

end Rows
end Go.Proofs.YtiicgbbgiedknaaDoor
