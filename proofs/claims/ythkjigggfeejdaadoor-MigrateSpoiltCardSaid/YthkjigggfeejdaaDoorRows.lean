/-
  NARROWER THAN 'FOR EVERY INPUT', by the rows' own cells (each row's printed sentence says how): MigrateChecks: laid · MigrateApplies: laid · MigrateFits: laid · MigrateVerifies: laid · MigrateSpoilt: laid · MigrateSound: laid · MigrateMoments: laid · MigrateJoints: laid · MigratePlans: laid.
  DERIVED. THE GIVEN ROWS OF THIS SEAT. 9 by the template 'for every input the law returns true; each argument reads behind the call as it read before'; 0 by the template 'total and deterministic' (their statements: YthkjigggfeejdaaDoorTotals.lean).
  GIVEN WITH THE SEED: the statements are not yours to turn. If you find one false, say at which input.
  Laid BY PROGRAM, IN A SANDBOX (cutbox-rows.mjs): the forced cells as the released guide's own fill.sh prints them over the translation bb80b66f43103ece… (all of the seat's roots in one cut). By AI agents, Wed Nov 11 2026. No macro, syntax, notation, axiom, sorry.
-/
import Derived.Test.YthkjigggfeejdaaDoorChecked
import GoSem.PinnedTables
import GoSem.Claim
import GoSem.ClaimJoined
import GoSem.ClaimMapViews
import Derived.JoinedTies
import Derived.KernelRfl
namespace Go.Proofs.YthkjigggfeejdaaDoor
/- THE CELL 'sum', in the pinned program and in every row, IS THE sha256 OF THE DUMP (.gsa) THAT YthkjigggfeejdaaDoorProg.lean LOADS. Nothing in Lean hashes anything: it is a label: what it is worth is what the hold of that sum in a sandbox is worth. -/
noncomputable def Tryd.pinned : Pinned := { name := "ythkjigggfeejdaadoor", sum := "bb80b66f43103ecec1ea17cca30c0f7b0b144f22bf74a2f0187cf17fc98817a0", checked := Tryd.checked }
namespace Rows
def none {H : Type} : Left H := { results := [], args := [] }

/- WHAT THE LISTED PACKAGE-LEVEL VARIABLES READ AS WHEN THE CALL BEGINS. Each datum BY PROGRAM (the guide's laid-datum.mjs) off the statement by which the dump's own 'gosem.cut.vars' lays the variable. In a bare row this is a premise. The card (YthkjigggfeejdaaDoorCards.lean) ties it to the program's text. -/
def laid_math_bits_deBruijn64tab {H : Type} : DataW H := .agg [.lit (.int .u8 0), .lit (.int .u8 1), .lit (.int .u8 56), .lit (.int .u8 2), .lit (.int .u8 57), .lit (.int .u8 49), .lit (.int .u8 28), .lit (.int .u8 3), .lit (.int .u8 61), .lit (.int .u8 58), .lit (.int .u8 42), .lit (.int .u8 50), .lit (.int .u8 38), .lit (.int .u8 29), .lit (.int .u8 17), .lit (.int .u8 4), .lit (.int .u8 62), .lit (.int .u8 47), .lit (.int .u8 59), .lit (.int .u8 36), .lit (.int .u8 45), .lit (.int .u8 43), .lit (.int .u8 51), .lit (.int .u8 22), .lit (.int .u8 53), .lit (.int .u8 39), .lit (.int .u8 33), .lit (.int .u8 30), .lit (.int .u8 24), .lit (.int .u8 18), .lit (.int .u8 12), .lit (.int .u8 5), .lit (.int .u8 63), .lit (.int .u8 55), .lit (.int .u8 48), .lit (.int .u8 27), .lit (.int .u8 60), .lit (.int .u8 41), .lit (.int .u8 37), .lit (.int .u8 16), .lit (.int .u8 46), .lit (.int .u8 35), .lit (.int .u8 44), .lit (.int .u8 21), .lit (.int .u8 52), .lit (.int .u8 32), .lit (.int .u8 23), .lit (.int .u8 11), .lit (.int .u8 54), .lit (.int .u8 26), .lit (.int .u8 40), .lit (.int .u8 15), .lit (.int .u8 34), .lit (.int .u8 20), .lit (.int .u8 31), .lit (.int .u8 10), .lit (.int .u8 25), .lit (.int .u8 14), .lit (.int .u8 19), .lit (.int .u8 9), .lit (.int .u8 13), .lit (.int .u8 8), .lit (.int .u8 7), .lit (.int .u8 6)]
def laid_unicode_utf8_acceptRanges {H : Type} : DataW H := .agg [.agg [.lit (.int .u8 128), .lit (.int .u8 191)], .agg [.lit (.int .u8 160), .lit (.int .u8 191)], .agg [.lit (.int .u8 128), .lit (.int .u8 159)], .agg [.lit (.int .u8 144), .lit (.int .u8 191)], .agg [.lit (.int .u8 128), .lit (.int .u8 143)], .agg [.lit (.int .u8 0), .lit (.int .u8 0)], .agg [.lit (.int .u8 0), .lit (.int .u8 0)], .agg [.lit (.int .u8 0), .lit (.int .u8 0)], .agg [.lit (.int .u8 0), .lit (.int .u8 0)], .agg [.lit (.int .u8 0), .lit (.int .u8 0)], .agg [.lit (.int .u8 0), .lit (.int .u8 0)], .agg [.lit (.int .u8 0), .lit (.int .u8 0)], .agg [.lit (.int .u8 0), .lit (.int .u8 0)], .agg [.lit (.int .u8 0), .lit (.int .u8 0)], .agg [.lit (.int .u8 0), .lit (.int .u8 0)], .agg [.lit (.int .u8 0), .lit (.int .u8 0)]]
/-- One of Go's own tables, pinned by name: the form's constant. -/
def laid_unicode_utf8_first : DataW Unit := Go.Pinned.utf8First

/-- 'arbaclaw49.MigrateChecks': WHATEVER THE INPUT: true; the input reads as it did. -/
def migrateChecksSpec : ChangeSpec := { name := "migrateChecks", fn := fun _ => fun
  | [d1, d2] => { results := [.lit (.bool true)], args := [d1, d2] }
  | _ => none }
def migrateChecksRow : OpenClaim := { program := "ythkjigggfeejdaadoor", sum := "bb80b66f43103ecec1ea17cca30c0f7b0b144f22bf74a2f0187cf17fc98817a0", func := "arbac/arbaclaw49.MigrateChecks", spec := "migrateChecks", inPlace := ["internal/bytealg.CountString", "internal/bytealg.IndexByteString", "internal/bytealg.IndexString", "internal/abi.NoEscape"], unfollowed := true, recurses := true, named := ["unicode/utf8.first", "unicode/utf8.acceptRanges", "internal/bytealg.MaxLen", "math/bits.deBruijn64tab"], apart := false, laid := [("math/bits.deBruijn64tab", laid_math_bits_deBruijn64tab), ("unicode/utf8.acceptRanges", laid_unicode_utf8_acceptRanges), ("unicode/utf8.first", laid_unicode_utf8_first)] }
def MigrateChecksSaid : Prop := migrateChecksRow.holds Tryd.pinned (OpenSpec.ofChange migrateChecksSpec)

/-- ITS FALSE NEIGHBOUR: 'it returns false'. Refute it at one input. -/
def migrateChecksWrong : ChangeSpec := { name := "migrateChecks", fn := fun _ => fun
  | [d1, d2] => { results := [.lit (.bool false)], args := [d1, d2] }
  | _ => none }
def MigrateChecksWrongFalsely : Prop := migrateChecksRow.holds Tryd.pinned (OpenSpec.ofChange migrateChecksWrong)

/-- 'arbaclaw49.MigrateApplies': WHATEVER THE INPUT: true; the input reads as it did. -/
def migrateAppliesSpec : ChangeSpec := { name := "migrateApplies", fn := fun _ => fun
  | [d1, d2] => { results := [.lit (.bool true)], args := [d1, d2] }
  | _ => none }
def migrateAppliesRow : OpenClaim := { program := "ythkjigggfeejdaadoor", sum := "bb80b66f43103ecec1ea17cca30c0f7b0b144f22bf74a2f0187cf17fc98817a0", func := "arbac/arbaclaw49.MigrateApplies", spec := "migrateApplies", inPlace := ["internal/bytealg.CountString", "internal/bytealg.IndexByteString", "internal/bytealg.IndexString", "internal/abi.NoEscape"], unfollowed := true, recurses := true, named := ["unicode/utf8.first", "unicode/utf8.acceptRanges", "internal/bytealg.MaxLen", "math/bits.deBruijn64tab"], apart := false, laid := [("math/bits.deBruijn64tab", laid_math_bits_deBruijn64tab), ("unicode/utf8.acceptRanges", laid_unicode_utf8_acceptRanges), ("unicode/utf8.first", laid_unicode_utf8_first)] }
def MigrateAppliesSaid : Prop := migrateAppliesRow.holds Tryd.pinned (OpenSpec.ofChange migrateAppliesSpec)

/-- ITS FALSE NEIGHBOUR: 'it returns false'. Refute it at one input. -/
def migrateAppliesWrong : ChangeSpec := { name := "migrateApplies", fn := fun _ => fun
  | [d1, d2] => { results := [.lit (.bool false)], args := [d1, d2] }
  | _ => none }
def MigrateAppliesWrongFalsely : Prop := migrateAppliesRow.holds Tryd.pinned (OpenSpec.ofChange migrateAppliesWrong)

/-- 'arbaclaw49.MigrateFits': WHATEVER THE INPUT: true; the input reads as it did. -/
def migrateFitsSpec : ChangeSpec := { name := "migrateFits", fn := fun _ => fun
  | [d1, d2, d3] => { results := [.lit (.bool true)], args := [d1, d2, d3] }
  | _ => none }
def migrateFitsRow : OpenClaim := { program := "ythkjigggfeejdaadoor", sum := "bb80b66f43103ecec1ea17cca30c0f7b0b144f22bf74a2f0187cf17fc98817a0", func := "arbac/arbaclaw49.MigrateFits", spec := "migrateFits", inPlace := ["internal/bytealg.CountString", "internal/bytealg.IndexByteString", "internal/bytealg.IndexString", "internal/abi.NoEscape"], unfollowed := true, recurses := true, named := ["unicode/utf8.first", "unicode/utf8.acceptRanges", "internal/bytealg.MaxLen", "math/bits.deBruijn64tab"], apart := false, laid := [("math/bits.deBruijn64tab", laid_math_bits_deBruijn64tab), ("unicode/utf8.acceptRanges", laid_unicode_utf8_acceptRanges), ("unicode/utf8.first", laid_unicode_utf8_first)] }
def MigrateFitsSaid : Prop := migrateFitsRow.holds Tryd.pinned (OpenSpec.ofChange migrateFitsSpec)

/-- ITS FALSE NEIGHBOUR: 'it returns false'. Refute it at one input. -/
def migrateFitsWrong : ChangeSpec := { name := "migrateFits", fn := fun _ => fun
  | [d1, d2, d3] => { results := [.lit (.bool false)], args := [d1, d2, d3] }
  | _ => none }
def MigrateFitsWrongFalsely : Prop := migrateFitsRow.holds Tryd.pinned (OpenSpec.ofChange migrateFitsWrong)

/-- 'arbaclaw49.MigrateVerifies': WHATEVER THE INPUT: true; the input reads as it did. -/
def migrateVerifiesSpec : ChangeSpec := { name := "migrateVerifies", fn := fun _ => fun
  | [d1, d2] => { results := [.lit (.bool true)], args := [d1, d2] }
  | _ => none }
def migrateVerifiesRow : OpenClaim := { program := "ythkjigggfeejdaadoor", sum := "bb80b66f43103ecec1ea17cca30c0f7b0b144f22bf74a2f0187cf17fc98817a0", func := "arbac/arbaclaw49.MigrateVerifies", spec := "migrateVerifies", inPlace := ["internal/bytealg.CountString", "internal/bytealg.IndexByteString", "internal/bytealg.IndexString", "internal/abi.NoEscape"], unfollowed := true, recurses := true, named := ["unicode/utf8.first", "unicode/utf8.acceptRanges", "internal/bytealg.MaxLen", "math/bits.deBruijn64tab"], apart := false, laid := [("math/bits.deBruijn64tab", laid_math_bits_deBruijn64tab), ("unicode/utf8.acceptRanges", laid_unicode_utf8_acceptRanges), ("unicode/utf8.first", laid_unicode_utf8_first)] }
def MigrateVerifiesSaid : Prop := migrateVerifiesRow.holds Tryd.pinned (OpenSpec.ofChange migrateVerifiesSpec)

/-- ITS FALSE NEIGHBOUR: 'it returns false'. Refute it at one input. -/
def migrateVerifiesWrong : ChangeSpec := { name := "migrateVerifies", fn := fun _ => fun
  | [d1, d2] => { results := [.lit (.bool false)], args := [d1, d2] }
  | _ => none }
def MigrateVerifiesWrongFalsely : Prop := migrateVerifiesRow.holds Tryd.pinned (OpenSpec.ofChange migrateVerifiesWrong)

/-- 'arbaclaw49.MigrateSpoilt': WHATEVER THE INPUT: true; the input reads as it did. -/
def migrateSpoiltSpec : ChangeSpec := { name := "migrateSpoilt", fn := fun _ => fun
  | [d1, d2] => { results := [.lit (.bool true)], args := [d1, d2] }
  | _ => none }
def migrateSpoiltRow : OpenClaim := { program := "ythkjigggfeejdaadoor", sum := "bb80b66f43103ecec1ea17cca30c0f7b0b144f22bf74a2f0187cf17fc98817a0", func := "arbac/arbaclaw49.MigrateSpoilt", spec := "migrateSpoilt", inPlace := ["internal/bytealg.CountString", "internal/bytealg.IndexByteString", "internal/bytealg.IndexString", "internal/abi.NoEscape"], unfollowed := true, recurses := true, named := ["unicode/utf8.first", "unicode/utf8.acceptRanges", "internal/bytealg.MaxLen", "math/bits.deBruijn64tab"], apart := false, laid := [("math/bits.deBruijn64tab", laid_math_bits_deBruijn64tab), ("unicode/utf8.acceptRanges", laid_unicode_utf8_acceptRanges), ("unicode/utf8.first", laid_unicode_utf8_first)] }
def MigrateSpoiltSaid : Prop := migrateSpoiltRow.holds Tryd.pinned (OpenSpec.ofChange migrateSpoiltSpec)

/-- ITS FALSE NEIGHBOUR: 'it returns false'. Refute it at one input. -/
def migrateSpoiltWrong : ChangeSpec := { name := "migrateSpoilt", fn := fun _ => fun
  | [d1, d2] => { results := [.lit (.bool false)], args := [d1, d2] }
  | _ => none }
def MigrateSpoiltWrongFalsely : Prop := migrateSpoiltRow.holds Tryd.pinned (OpenSpec.ofChange migrateSpoiltWrong)

/-- 'arbaclaw49.MigrateSound': WHATEVER THE INPUT: true; the input reads as it did. -/
def migrateSoundSpec : ChangeSpec := { name := "migrateSound", fn := fun _ => fun
  | [d1, d2] => { results := [.lit (.bool true)], args := [d1, d2] }
  | _ => none }
def migrateSoundRow : OpenClaim := { program := "ythkjigggfeejdaadoor", sum := "bb80b66f43103ecec1ea17cca30c0f7b0b144f22bf74a2f0187cf17fc98817a0", func := "arbac/arbaclaw49.MigrateSound", spec := "migrateSound", inPlace := ["internal/bytealg.CountString", "internal/bytealg.IndexByteString", "internal/bytealg.IndexString", "internal/abi.NoEscape"], unfollowed := true, recurses := true, named := ["unicode/utf8.first", "unicode/utf8.acceptRanges", "internal/bytealg.MaxLen", "math/bits.deBruijn64tab"], apart := false, laid := [("math/bits.deBruijn64tab", laid_math_bits_deBruijn64tab), ("unicode/utf8.acceptRanges", laid_unicode_utf8_acceptRanges), ("unicode/utf8.first", laid_unicode_utf8_first)] }
def MigrateSoundSaid : Prop := migrateSoundRow.holds Tryd.pinned (OpenSpec.ofChange migrateSoundSpec)

/-- ITS FALSE NEIGHBOUR: 'it returns false'. Refute it at one input. -/
def migrateSoundWrong : ChangeSpec := { name := "migrateSound", fn := fun _ => fun
  | [d1, d2] => { results := [.lit (.bool false)], args := [d1, d2] }
  | _ => none }
def MigrateSoundWrongFalsely : Prop := migrateSoundRow.holds Tryd.pinned (OpenSpec.ofChange migrateSoundWrong)

/-- 'arbaclaw49.MigrateMoments': WHATEVER THE INPUT: true; the input reads as it did. -/
def migrateMomentsSpec : ChangeSpec := { name := "migrateMoments", fn := fun _ => fun
  | [d] => { results := [.lit (.bool true)], args := [d] }
  | _ => none }
def migrateMomentsRow : OpenClaim := { program := "ythkjigggfeejdaadoor", sum := "bb80b66f43103ecec1ea17cca30c0f7b0b144f22bf74a2f0187cf17fc98817a0", func := "arbac/arbaclaw49.MigrateMoments", spec := "migrateMoments", inPlace := ["internal/bytealg.CountString", "internal/bytealg.IndexByteString", "internal/bytealg.IndexString", "internal/abi.NoEscape"], unfollowed := true, recurses := true, named := ["unicode/utf8.first", "unicode/utf8.acceptRanges", "internal/bytealg.MaxLen", "math/bits.deBruijn64tab"], apart := false, laid := [("math/bits.deBruijn64tab", laid_math_bits_deBruijn64tab), ("unicode/utf8.acceptRanges", laid_unicode_utf8_acceptRanges), ("unicode/utf8.first", laid_unicode_utf8_first)] }
def MigrateMomentsSaid : Prop := migrateMomentsRow.holds Tryd.pinned (OpenSpec.ofChange migrateMomentsSpec)

/-- ITS FALSE NEIGHBOUR: 'it returns false'. Refute it at one input. -/
def migrateMomentsWrong : ChangeSpec := { name := "migrateMoments", fn := fun _ => fun
  | [d] => { results := [.lit (.bool false)], args := [d] }
  | _ => none }
def MigrateMomentsWrongFalsely : Prop := migrateMomentsRow.holds Tryd.pinned (OpenSpec.ofChange migrateMomentsWrong)

/-- 'arbaclaw49.MigrateJoints': WHATEVER THE INPUT: true; the input reads as it did. -/
def migrateJointsSpec : ChangeSpec := { name := "migrateJoints", fn := fun _ => fun
  | [d] => { results := [.lit (.bool true)], args := [d] }
  | _ => none }
def migrateJointsRow : OpenClaim := { program := "ythkjigggfeejdaadoor", sum := "bb80b66f43103ecec1ea17cca30c0f7b0b144f22bf74a2f0187cf17fc98817a0", func := "arbac/arbaclaw49.MigrateJoints", spec := "migrateJoints", inPlace := ["internal/bytealg.CountString", "internal/bytealg.IndexByteString", "internal/bytealg.IndexString", "internal/abi.NoEscape"], unfollowed := true, recurses := true, named := ["unicode/utf8.first", "unicode/utf8.acceptRanges", "internal/bytealg.MaxLen", "math/bits.deBruijn64tab"], apart := false, laid := [("math/bits.deBruijn64tab", laid_math_bits_deBruijn64tab), ("unicode/utf8.acceptRanges", laid_unicode_utf8_acceptRanges), ("unicode/utf8.first", laid_unicode_utf8_first)] }
def MigrateJointsSaid : Prop := migrateJointsRow.holds Tryd.pinned (OpenSpec.ofChange migrateJointsSpec)

/-- ITS FALSE NEIGHBOUR: 'it returns false'. Refute it at one input. -/
def migrateJointsWrong : ChangeSpec := { name := "migrateJoints", fn := fun _ => fun
  | [d] => { results := [.lit (.bool false)], args := [d] }
  | _ => none }
def MigrateJointsWrongFalsely : Prop := migrateJointsRow.holds Tryd.pinned (OpenSpec.ofChange migrateJointsWrong)

/-- 'arbaclaw49.MigratePlans': WHATEVER THE INPUT: true; the input reads as it did. -/
def migratePlansSpec : ChangeSpec := { name := "migratePlans", fn := fun _ => fun
  | [d] => { results := [.lit (.bool true)], args := [d] }
  | _ => none }
def migratePlansRow : OpenClaim := { program := "ythkjigggfeejdaadoor", sum := "bb80b66f43103ecec1ea17cca30c0f7b0b144f22bf74a2f0187cf17fc98817a0", func := "arbac/arbaclaw49.MigratePlans", spec := "migratePlans", inPlace := ["internal/bytealg.CountString", "internal/bytealg.IndexByteString", "internal/bytealg.IndexString", "internal/abi.NoEscape"], unfollowed := true, recurses := true, named := ["unicode/utf8.first", "unicode/utf8.acceptRanges", "internal/bytealg.MaxLen", "math/bits.deBruijn64tab"], apart := false, laid := [("math/bits.deBruijn64tab", laid_math_bits_deBruijn64tab), ("unicode/utf8.acceptRanges", laid_unicode_utf8_acceptRanges), ("unicode/utf8.first", laid_unicode_utf8_first)] }
def MigratePlansSaid : Prop := migratePlansRow.holds Tryd.pinned (OpenSpec.ofChange migratePlansSpec)

/-- ITS FALSE NEIGHBOUR: 'it returns false'. Refute it at one input. -/
def migratePlansWrong : ChangeSpec := { name := "migratePlans", fn := fun _ => fun
  | [d] => { results := [.lit (.bool false)], args := [d] }
  | _ => none }
def MigratePlansWrongFalsely : Prop := migratePlansRow.holds Tryd.pinned (OpenSpec.ofChange migratePlansWrong)

/- THE SECOND FORM. 'bulk': how many values and letters a reading holds, each counted each time it is reached (what is shared counts as often as it is met; a slice's spare places count too). A statement '..UptoSaid' is the law's where the arguments, and the package variables that the reading takes, are together of bulk at most 1048576: NARROWER than '..Said'. Prove '..Said' where nothing that the law and all that it calls make is longer than what came in: it says more and counts as full. Else prove '..UptoSaid'. A law counts once. -/
mutual
def uptoBulk {H : Type} : DataW H → Nat
  | .lit (.string bytes) => bytes.length + 1
  | .lit _ => 1
  | .nil => 1
  | .ptr d => uptoBulk d + 1
  | .slice elems spare => uptoBulkAll elems + uptoBulkAll spare + 1
  | .agg parts => uptoBulkAll parts + 1
  | .iface _ d => uptoBulk d + 1
  | .map entries => uptoBulkEntries entries + 1
  | .held _ => 1
def uptoBulkAll {H : Type} : List (DataW H) → Nat
  | [] => 0
  | d :: r => uptoBulk d + uptoBulkAll r
def uptoBulkEntries {H : Type} : List (Lit × DataW H) → Nat
  | [] => 0
  | x :: r => uptoBulkEntry x + uptoBulkEntries r
def uptoBulkEntry {H : Type} : Lit × DataW H → Nat
  | (.string bytes, d) => bytes.length + uptoBulk d + 1
  | (_, d) => uptoBulk d + 1
 end
def uptoSmall : (H : Type) → List (DataW H) → Bool := fun _ ds => decide (uptoBulkAll ds ≤ 1048576)
def OpenSpec.upto (s : _root_.Go.ChangeSpec) : _root_.Go.OpenSpec := { _root_.Go.OpenSpec.ofChange s with cond := some uptoSmall }

/-- 'arbaclaw49.MigrateChecks', WHERE WHAT IT READS IS OF BULK AT MOST 1048576: true; the input reads as it did. -/
def migrateChecksUptoRow : OpenClaim := { program := "ythkjigggfeejdaadoor", sum := "bb80b66f43103ecec1ea17cca30c0f7b0b144f22bf74a2f0187cf17fc98817a0", func := "arbac/arbaclaw49.MigrateChecks", spec := "migrateChecks", inPlace := ["internal/bytealg.CountString", "internal/bytealg.IndexByteString", "internal/bytealg.IndexString", "internal/abi.NoEscape"], unfollowed := true, recurses := true, named := ["unicode/utf8.first", "unicode/utf8.acceptRanges", "internal/bytealg.MaxLen", "math/bits.deBruijn64tab"], apart := false, laid := [("math/bits.deBruijn64tab", laid_math_bits_deBruijn64tab), ("unicode/utf8.acceptRanges", laid_unicode_utf8_acceptRanges), ("unicode/utf8.first", laid_unicode_utf8_first)], narrowed := true }
def MigrateChecksUptoSaid : Prop := migrateChecksUptoRow.holds Tryd.pinned (OpenSpec.upto migrateChecksSpec)

/-- 'arbaclaw49.MigrateApplies', WHERE WHAT IT READS IS OF BULK AT MOST 1048576: true; the input reads as it did. -/
def migrateAppliesUptoRow : OpenClaim := { program := "ythkjigggfeejdaadoor", sum := "bb80b66f43103ecec1ea17cca30c0f7b0b144f22bf74a2f0187cf17fc98817a0", func := "arbac/arbaclaw49.MigrateApplies", spec := "migrateApplies", inPlace := ["internal/bytealg.CountString", "internal/bytealg.IndexByteString", "internal/bytealg.IndexString", "internal/abi.NoEscape"], unfollowed := true, recurses := true, named := ["unicode/utf8.first", "unicode/utf8.acceptRanges", "internal/bytealg.MaxLen", "math/bits.deBruijn64tab"], apart := false, laid := [("math/bits.deBruijn64tab", laid_math_bits_deBruijn64tab), ("unicode/utf8.acceptRanges", laid_unicode_utf8_acceptRanges), ("unicode/utf8.first", laid_unicode_utf8_first)], narrowed := true }
def MigrateAppliesUptoSaid : Prop := migrateAppliesUptoRow.holds Tryd.pinned (OpenSpec.upto migrateAppliesSpec)

/-- 'arbaclaw49.MigrateFits', WHERE WHAT IT READS IS OF BULK AT MOST 1048576: true; the input reads as it did. -/
def migrateFitsUptoRow : OpenClaim := { program := "ythkjigggfeejdaadoor", sum := "bb80b66f43103ecec1ea17cca30c0f7b0b144f22bf74a2f0187cf17fc98817a0", func := "arbac/arbaclaw49.MigrateFits", spec := "migrateFits", inPlace := ["internal/bytealg.CountString", "internal/bytealg.IndexByteString", "internal/bytealg.IndexString", "internal/abi.NoEscape"], unfollowed := true, recurses := true, named := ["unicode/utf8.first", "unicode/utf8.acceptRanges", "internal/bytealg.MaxLen", "math/bits.deBruijn64tab"], apart := false, laid := [("math/bits.deBruijn64tab", laid_math_bits_deBruijn64tab), ("unicode/utf8.acceptRanges", laid_unicode_utf8_acceptRanges), ("unicode/utf8.first", laid_unicode_utf8_first)], narrowed := true }
def MigrateFitsUptoSaid : Prop := migrateFitsUptoRow.holds Tryd.pinned (OpenSpec.upto migrateFitsSpec)

/-- 'arbaclaw49.MigrateVerifies', WHERE WHAT IT READS IS OF BULK AT MOST 1048576: true; the input reads as it did. -/
def migrateVerifiesUptoRow : OpenClaim := { program := "ythkjigggfeejdaadoor", sum := "bb80b66f43103ecec1ea17cca30c0f7b0b144f22bf74a2f0187cf17fc98817a0", func := "arbac/arbaclaw49.MigrateVerifies", spec := "migrateVerifies", inPlace := ["internal/bytealg.CountString", "internal/bytealg.IndexByteString", "internal/bytealg.IndexString", "internal/abi.NoEscape"], unfollowed := true, recurses := true, named := ["unicode/utf8.first", "unicode/utf8.acceptRanges", "internal/bytealg.MaxLen", "math/bits.deBruijn64tab"], apart := false, laid := [("math/bits.deBruijn64tab", laid_math_bits_deBruijn64tab), ("unicode/utf8.acceptRanges", laid_unicode_utf8_acceptRanges), ("unicode/utf8.first", laid_unicode_utf8_first)], narrowed := true }
def MigrateVerifiesUptoSaid : Prop := migrateVerifiesUptoRow.holds Tryd.pinned (OpenSpec.upto migrateVerifiesSpec)

/-- 'arbaclaw49.MigrateSpoilt', WHERE WHAT IT READS IS OF BULK AT MOST 1048576: true; the input reads as it did. -/
def migrateSpoiltUptoRow : OpenClaim := { program := "ythkjigggfeejdaadoor", sum := "bb80b66f43103ecec1ea17cca30c0f7b0b144f22bf74a2f0187cf17fc98817a0", func := "arbac/arbaclaw49.MigrateSpoilt", spec := "migrateSpoilt", inPlace := ["internal/bytealg.CountString", "internal/bytealg.IndexByteString", "internal/bytealg.IndexString", "internal/abi.NoEscape"], unfollowed := true, recurses := true, named := ["unicode/utf8.first", "unicode/utf8.acceptRanges", "internal/bytealg.MaxLen", "math/bits.deBruijn64tab"], apart := false, laid := [("math/bits.deBruijn64tab", laid_math_bits_deBruijn64tab), ("unicode/utf8.acceptRanges", laid_unicode_utf8_acceptRanges), ("unicode/utf8.first", laid_unicode_utf8_first)], narrowed := true }
def MigrateSpoiltUptoSaid : Prop := migrateSpoiltUptoRow.holds Tryd.pinned (OpenSpec.upto migrateSpoiltSpec)

/-- 'arbaclaw49.MigrateSound', WHERE WHAT IT READS IS OF BULK AT MOST 1048576: true; the input reads as it did. -/
def migrateSoundUptoRow : OpenClaim := { program := "ythkjigggfeejdaadoor", sum := "bb80b66f43103ecec1ea17cca30c0f7b0b144f22bf74a2f0187cf17fc98817a0", func := "arbac/arbaclaw49.MigrateSound", spec := "migrateSound", inPlace := ["internal/bytealg.CountString", "internal/bytealg.IndexByteString", "internal/bytealg.IndexString", "internal/abi.NoEscape"], unfollowed := true, recurses := true, named := ["unicode/utf8.first", "unicode/utf8.acceptRanges", "internal/bytealg.MaxLen", "math/bits.deBruijn64tab"], apart := false, laid := [("math/bits.deBruijn64tab", laid_math_bits_deBruijn64tab), ("unicode/utf8.acceptRanges", laid_unicode_utf8_acceptRanges), ("unicode/utf8.first", laid_unicode_utf8_first)], narrowed := true }
def MigrateSoundUptoSaid : Prop := migrateSoundUptoRow.holds Tryd.pinned (OpenSpec.upto migrateSoundSpec)

/-- 'arbaclaw49.MigrateMoments', WHERE WHAT IT READS IS OF BULK AT MOST 1048576: true; the input reads as it did. -/
def migrateMomentsUptoRow : OpenClaim := { program := "ythkjigggfeejdaadoor", sum := "bb80b66f43103ecec1ea17cca30c0f7b0b144f22bf74a2f0187cf17fc98817a0", func := "arbac/arbaclaw49.MigrateMoments", spec := "migrateMoments", inPlace := ["internal/bytealg.CountString", "internal/bytealg.IndexByteString", "internal/bytealg.IndexString", "internal/abi.NoEscape"], unfollowed := true, recurses := true, named := ["unicode/utf8.first", "unicode/utf8.acceptRanges", "internal/bytealg.MaxLen", "math/bits.deBruijn64tab"], apart := false, laid := [("math/bits.deBruijn64tab", laid_math_bits_deBruijn64tab), ("unicode/utf8.acceptRanges", laid_unicode_utf8_acceptRanges), ("unicode/utf8.first", laid_unicode_utf8_first)], narrowed := true }
def MigrateMomentsUptoSaid : Prop := migrateMomentsUptoRow.holds Tryd.pinned (OpenSpec.upto migrateMomentsSpec)

/-- 'arbaclaw49.MigrateJoints', WHERE WHAT IT READS IS OF BULK AT MOST 1048576: true; the input reads as it did. -/
def migrateJointsUptoRow : OpenClaim := { program := "ythkjigggfeejdaadoor", sum := "bb80b66f43103ecec1ea17cca30c0f7b0b144f22bf74a2f0187cf17fc98817a0", func := "arbac/arbaclaw49.MigrateJoints", spec := "migrateJoints", inPlace := ["internal/bytealg.CountString", "internal/bytealg.IndexByteString", "internal/bytealg.IndexString", "internal/abi.NoEscape"], unfollowed := true, recurses := true, named := ["unicode/utf8.first", "unicode/utf8.acceptRanges", "internal/bytealg.MaxLen", "math/bits.deBruijn64tab"], apart := false, laid := [("math/bits.deBruijn64tab", laid_math_bits_deBruijn64tab), ("unicode/utf8.acceptRanges", laid_unicode_utf8_acceptRanges), ("unicode/utf8.first", laid_unicode_utf8_first)], narrowed := true }
def MigrateJointsUptoSaid : Prop := migrateJointsUptoRow.holds Tryd.pinned (OpenSpec.upto migrateJointsSpec)

/-- 'arbaclaw49.MigratePlans', WHERE WHAT IT READS IS OF BULK AT MOST 1048576: true; the input reads as it did. -/
def migratePlansUptoRow : OpenClaim := { program := "ythkjigggfeejdaadoor", sum := "bb80b66f43103ecec1ea17cca30c0f7b0b144f22bf74a2f0187cf17fc98817a0", func := "arbac/arbaclaw49.MigratePlans", spec := "migratePlans", inPlace := ["internal/bytealg.CountString", "internal/bytealg.IndexByteString", "internal/bytealg.IndexString", "internal/abi.NoEscape"], unfollowed := true, recurses := true, named := ["unicode/utf8.first", "unicode/utf8.acceptRanges", "internal/bytealg.MaxLen", "math/bits.deBruijn64tab"], apart := false, laid := [("math/bits.deBruijn64tab", laid_math_bits_deBruijn64tab), ("unicode/utf8.acceptRanges", laid_unicode_utf8_acceptRanges), ("unicode/utf8.first", laid_unicode_utf8_first)], narrowed := true }
def MigratePlansUptoSaid : Prop := migratePlansUptoRow.holds Tryd.pinned (OpenSpec.upto migratePlansSpec)

end Rows
end Go.Proofs.YthkjigggfeejdaaDoor
