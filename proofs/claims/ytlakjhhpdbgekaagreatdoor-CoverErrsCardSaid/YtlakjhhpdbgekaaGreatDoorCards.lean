/-
  DERIVED. GIVEN WITH THE SEED: THE CARDS: each row of YtlakjhhpdbgekaaGreatDoorRows.lean that lists a variable, with what it lists TIED to the program's text (the seventh form; the later family's looks); each row that meets fmt, with fmt's text TOLD by the authors' own Lean function (tested against real Go, not proved from fmt's source: count such statements apart). THE CARD IS WHAT COUNTS. Prove the row's statement (the work); the ties are given (YtlakjhhpdbgekaaGreatDoorTie.lean); close each card by the builder's one call (the guide's Derived/Test/ToyasCard.lean, 'card_holds'). Laid BY PROGRAM, IN A SANDBOX (cutbox-door.mjs). By AI agents, Wed Nov 11 2026. No macro, syntax, notation, axiom, sorry.
-/
import Derived.Test.YtlakjhhpdbgekaaGreatDoorRows
import GoSem.ClaimSeven
namespace Go.Proofs.YtlakjhhpdbgekaaGreatDoor
namespace Rows

/-- THE TIED CARD OF 'arbaclaw48.CoverMinimal'. -/
def coverMinimalCard : Claim7 := { stood := { row := coverMinimalRow, standIns := [], harness := (true, "41a748a963da1d8a9bc988857e43b80cbef835702838b948b786b617ee55c014"), looks := false }, kinds := [], alts := [], laidByText := true, laidKinds := [.data, .data, .pinned], laidTests := true, laidLooks := .later }
def CoverMinimalCardSaid : Prop := Claim7.holds Tryz.pinned (.plain (OpenSpec.ofChange coverMinimalSpec)) coverMinimalCard

/-- THE TIED CARD OF 'arbaclaw48.CoverGreedy'. -/
def coverGreedyCard : Claim7 := { stood := { row := coverGreedyRow, standIns := [], harness := (true, "41a748a963da1d8a9bc988857e43b80cbef835702838b948b786b617ee55c014"), looks := false }, kinds := [], alts := [], laidByText := true, laidKinds := [.data, .data, .pinned], laidTests := true, laidLooks := .later }
def CoverGreedyCardSaid : Prop := Claim7.holds Tryz.pinned (.plain (OpenSpec.ofChange coverGreedySpec)) coverGreedyCard

/-- THE TIED CARD OF 'arbaclaw48.CoverSimplify'. -/
def coverSimplifyCard : Claim7 := { stood := { row := coverSimplifyRow, standIns := [], harness := (true, "41a748a963da1d8a9bc988857e43b80cbef835702838b948b786b617ee55c014"), looks := false }, kinds := [], alts := [], laidByText := true, laidKinds := [.data, .data, .pinned], laidTests := true, laidLooks := .later }
def CoverSimplifyCardSaid : Prop := Claim7.holds Tryz.pinned (.plain (OpenSpec.ofChange coverSimplifySpec)) coverSimplifyCard

/-- THE TIED CARD OF 'arbaclaw48.CoverNeeds'. -/
def coverNeedsCard : Claim7 := { stood := { row := coverNeedsRow, standIns := [], harness := (true, "41a748a963da1d8a9bc988857e43b80cbef835702838b948b786b617ee55c014"), looks := false }, kinds := [], alts := [], laidByText := true, laidKinds := [.data, .data, .pinned], laidTests := true, laidLooks := .later }
def CoverNeedsCardSaid : Prop := Claim7.holds Tryz.pinned (.plain (OpenSpec.ofChange coverNeedsSpec)) coverNeedsCard

/-- THE TIED CARD OF 'arbaclaw48.CoverBounds'. -/
def coverBoundsCard : Claim7 := { stood := { row := coverBoundsRow, standIns := [], harness := (true, "41a748a963da1d8a9bc988857e43b80cbef835702838b948b786b617ee55c014"), looks := false }, kinds := [], alts := [], laidByText := true, laidKinds := [.data, .data, .pinned], laidTests := true, laidLooks := .later }
def CoverBoundsCardSaid : Prop := Claim7.holds Tryz.pinned (.plain (OpenSpec.ofChange coverBoundsSpec)) coverBoundsCard

/-- THE TIED CARD OF 'arbaclaw48.CoverProved'. -/
def coverProvedCard : Claim7 := { stood := { row := coverProvedRow, standIns := [], harness := (true, "41a748a963da1d8a9bc988857e43b80cbef835702838b948b786b617ee55c014"), looks := false }, kinds := [], alts := [], laidByText := true, laidKinds := [.data, .data, .pinned], laidTests := true, laidLooks := .later }
def CoverProvedCardSaid : Prop := Claim7.holds Tryz.pinned (.plain (OpenSpec.ofChange coverProvedSpec)) coverProvedCard

/-- THE TIED CARD OF 'arbaclaw48.CoverNormal'. -/
def coverNormalCard : Claim7 := { stood := { row := coverNormalRow, standIns := [], harness := (true, "41a748a963da1d8a9bc988857e43b80cbef835702838b948b786b617ee55c014"), looks := false }, kinds := [], alts := [], laidByText := true, laidKinds := [.data, .data, .pinned], laidTests := true, laidLooks := .later }
def CoverNormalCardSaid : Prop := Claim7.holds Tryz.pinned (.plain (OpenSpec.ofChange coverNormalSpec)) coverNormalCard

/-- THE TIED CARD OF 'arbaclaw48.CoverErrs'. -/
def coverErrsCard : Claim7 := { stood := { row := coverErrsRow, standIns := [], harness := (true, "41a748a963da1d8a9bc988857e43b80cbef835702838b948b786b617ee55c014"), looks := false }, kinds := [], alts := [], laidByText := true, laidKinds := [.data, .data, .pinned], laidTests := true, laidLooks := .later }
def CoverErrsCardSaid : Prop := Claim7.holds Tryz.pinned (.plain (OpenSpec.ofChange coverErrsSpec)) coverErrsCard

/-- THE SECOND FORM's CARD OF 'arbaclaw48.CoverMinimal'. -/
def coverMinimalUptoCard : Claim7 := { stood := { row := coverMinimalUptoRow, standIns := [], harness := (true, "41a748a963da1d8a9bc988857e43b80cbef835702838b948b786b617ee55c014"), looks := false }, kinds := [], alts := [], laidByText := true, laidKinds := [.data, .data, .pinned], laidTests := true, laidLooks := .later }
def CoverMinimalUptoCardSaid : Prop := Claim7.holds Tryz.pinned (.plain (OpenSpec.upto coverMinimalSpec)) coverMinimalUptoCard

/-- THE SECOND FORM's CARD OF 'arbaclaw48.CoverGreedy'. -/
def coverGreedyUptoCard : Claim7 := { stood := { row := coverGreedyUptoRow, standIns := [], harness := (true, "41a748a963da1d8a9bc988857e43b80cbef835702838b948b786b617ee55c014"), looks := false }, kinds := [], alts := [], laidByText := true, laidKinds := [.data, .data, .pinned], laidTests := true, laidLooks := .later }
def CoverGreedyUptoCardSaid : Prop := Claim7.holds Tryz.pinned (.plain (OpenSpec.upto coverGreedySpec)) coverGreedyUptoCard

/-- THE SECOND FORM's CARD OF 'arbaclaw48.CoverSimplify'. -/
def coverSimplifyUptoCard : Claim7 := { stood := { row := coverSimplifyUptoRow, standIns := [], harness := (true, "41a748a963da1d8a9bc988857e43b80cbef835702838b948b786b617ee55c014"), looks := false }, kinds := [], alts := [], laidByText := true, laidKinds := [.data, .data, .pinned], laidTests := true, laidLooks := .later }
def CoverSimplifyUptoCardSaid : Prop := Claim7.holds Tryz.pinned (.plain (OpenSpec.upto coverSimplifySpec)) coverSimplifyUptoCard

/-- THE SECOND FORM's CARD OF 'arbaclaw48.CoverNeeds'. -/
def coverNeedsUptoCard : Claim7 := { stood := { row := coverNeedsUptoRow, standIns := [], harness := (true, "41a748a963da1d8a9bc988857e43b80cbef835702838b948b786b617ee55c014"), looks := false }, kinds := [], alts := [], laidByText := true, laidKinds := [.data, .data, .pinned], laidTests := true, laidLooks := .later }
def CoverNeedsUptoCardSaid : Prop := Claim7.holds Tryz.pinned (.plain (OpenSpec.upto coverNeedsSpec)) coverNeedsUptoCard

/-- THE SECOND FORM's CARD OF 'arbaclaw48.CoverBounds'. -/
def coverBoundsUptoCard : Claim7 := { stood := { row := coverBoundsUptoRow, standIns := [], harness := (true, "41a748a963da1d8a9bc988857e43b80cbef835702838b948b786b617ee55c014"), looks := false }, kinds := [], alts := [], laidByText := true, laidKinds := [.data, .data, .pinned], laidTests := true, laidLooks := .later }
def CoverBoundsUptoCardSaid : Prop := Claim7.holds Tryz.pinned (.plain (OpenSpec.upto coverBoundsSpec)) coverBoundsUptoCard

/-- THE SECOND FORM's CARD OF 'arbaclaw48.CoverProved'. -/
def coverProvedUptoCard : Claim7 := { stood := { row := coverProvedUptoRow, standIns := [], harness := (true, "41a748a963da1d8a9bc988857e43b80cbef835702838b948b786b617ee55c014"), looks := false }, kinds := [], alts := [], laidByText := true, laidKinds := [.data, .data, .pinned], laidTests := true, laidLooks := .later }
def CoverProvedUptoCardSaid : Prop := Claim7.holds Tryz.pinned (.plain (OpenSpec.upto coverProvedSpec)) coverProvedUptoCard

/-- THE SECOND FORM's CARD OF 'arbaclaw48.CoverNormal'. -/
def coverNormalUptoCard : Claim7 := { stood := { row := coverNormalUptoRow, standIns := [], harness := (true, "41a748a963da1d8a9bc988857e43b80cbef835702838b948b786b617ee55c014"), looks := false }, kinds := [], alts := [], laidByText := true, laidKinds := [.data, .data, .pinned], laidTests := true, laidLooks := .later }
def CoverNormalUptoCardSaid : Prop := Claim7.holds Tryz.pinned (.plain (OpenSpec.upto coverNormalSpec)) coverNormalUptoCard

/-- THE SECOND FORM's CARD OF 'arbaclaw48.CoverErrs'. -/
def coverErrsUptoCard : Claim7 := { stood := { row := coverErrsUptoRow, standIns := [], harness := (true, "41a748a963da1d8a9bc988857e43b80cbef835702838b948b786b617ee55c014"), looks := false }, kinds := [], alts := [], laidByText := true, laidKinds := [.data, .data, .pinned], laidTests := true, laidLooks := .later }
def CoverErrsUptoCardSaid : Prop := Claim7.holds Tryz.pinned (.plain (OpenSpec.upto coverErrsSpec)) coverErrsUptoCard
end Rows
end Go.Proofs.YtlakjhhpdbgekaaGreatDoor
