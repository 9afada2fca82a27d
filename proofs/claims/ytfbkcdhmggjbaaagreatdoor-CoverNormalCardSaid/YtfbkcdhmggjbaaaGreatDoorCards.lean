/-
  DERIVED. GIVEN WITH THE SEED: THE CARDS: each row of YtfbkcdhmggjbaaaGreatDoorRows.lean that lists a variable, with what it lists TIED to the program's text (the seventh form; the later family's looks); each row that meets fmt, with fmt's text TOLD by the authors' own Lean function (tested against real Go, not proved from fmt's source: count such statements apart). THE CARD IS WHAT COUNTS. Prove the row's statement (the work); the ties are given (YtfbkcdhmggjbaaaGreatDoorTie.lean); close each card by the builder's one call (the guide's Derived/Test/ToyasCard.lean, 'card_holds'). Laid BY PROGRAM, IN A SANDBOX (cutbox-door.mjs). By AI agents, Wed Nov 11 2026. No macro, syntax, notation, axiom, sorry.
-/
import Derived.Test.YtfbkcdhmggjbaaaGreatDoorRows
import GoSem.ClaimSeven
namespace Go.Proofs.YtfbkcdhmggjbaaaGreatDoor
namespace Rows

/-- THE TIED CARD OF 'arbaclaw48.CoverSimplify'. -/
def coverSimplifyCard : Claim7 := { stood := { row := coverSimplifyRow, standIns := [], harness := (true, "a2c60bf4f8f85fa396f8fb3e9b42604d1e43e378323f64dfa57289164ef4d6e5"), looks := false }, kinds := [], alts := [], laidByText := true, laidKinds := [.data, .data, .pinned], laidTests := true, laidLooks := .later }
def CoverSimplifyCardSaid : Prop := Claim7.holds Tryz.pinned (.plain (OpenSpec.ofChange coverSimplifySpec)) coverSimplifyCard

/-- THE TIED CARD OF 'arbaclaw48.CoverNeeds'. -/
def coverNeedsCard : Claim7 := { stood := { row := coverNeedsRow, standIns := [], harness := (true, "a2c60bf4f8f85fa396f8fb3e9b42604d1e43e378323f64dfa57289164ef4d6e5"), looks := false }, kinds := [], alts := [], laidByText := true, laidKinds := [.data, .data, .pinned], laidTests := true, laidLooks := .later }
def CoverNeedsCardSaid : Prop := Claim7.holds Tryz.pinned (.plain (OpenSpec.ofChange coverNeedsSpec)) coverNeedsCard

/-- THE TIED CARD OF 'arbaclaw48.CoverNormal'. -/
def coverNormalCard : Claim7 := { stood := { row := coverNormalRow, standIns := [], harness := (true, "a2c60bf4f8f85fa396f8fb3e9b42604d1e43e378323f64dfa57289164ef4d6e5"), looks := false }, kinds := [], alts := [], laidByText := true, laidKinds := [.data, .data, .pinned], laidTests := true, laidLooks := .later }
def CoverNormalCardSaid : Prop := Claim7.holds Tryz.pinned (.plain (OpenSpec.ofChange coverNormalSpec)) coverNormalCard

/-- THE TIED CARD OF 'arbactop.TopRanked'. -/
def topRankedCard : Claim7 := { stood := { row := topRankedRow, standIns := [], harness := (true, "a2c60bf4f8f85fa396f8fb3e9b42604d1e43e378323f64dfa57289164ef4d6e5"), looks := false }, kinds := [], alts := [], laidByText := true, laidKinds := [.data], laidTests := true, laidLooks := .later }
def TopRankedCardSaid : Prop := Claim7.holds Tryz.pinned (.plain (OpenSpec.ofChange topRankedSpec)) topRankedCard

/-- THE SECOND FORM's CARD OF 'arbaclaw48.CoverSimplify'. -/
def coverSimplifyUptoCard : Claim7 := { stood := { row := coverSimplifyUptoRow, standIns := [], harness := (true, "a2c60bf4f8f85fa396f8fb3e9b42604d1e43e378323f64dfa57289164ef4d6e5"), looks := false }, kinds := [], alts := [], laidByText := true, laidKinds := [.data, .data, .pinned], laidTests := true, laidLooks := .later }
def CoverSimplifyUptoCardSaid : Prop := Claim7.holds Tryz.pinned (.plain (OpenSpec.upto coverSimplifySpec)) coverSimplifyUptoCard

/-- THE SECOND FORM's CARD OF 'arbaclaw48.CoverNeeds'. -/
def coverNeedsUptoCard : Claim7 := { stood := { row := coverNeedsUptoRow, standIns := [], harness := (true, "a2c60bf4f8f85fa396f8fb3e9b42604d1e43e378323f64dfa57289164ef4d6e5"), looks := false }, kinds := [], alts := [], laidByText := true, laidKinds := [.data, .data, .pinned], laidTests := true, laidLooks := .later }
def CoverNeedsUptoCardSaid : Prop := Claim7.holds Tryz.pinned (.plain (OpenSpec.upto coverNeedsSpec)) coverNeedsUptoCard

/-- THE SECOND FORM's CARD OF 'arbaclaw48.CoverNormal'. -/
def coverNormalUptoCard : Claim7 := { stood := { row := coverNormalUptoRow, standIns := [], harness := (true, "a2c60bf4f8f85fa396f8fb3e9b42604d1e43e378323f64dfa57289164ef4d6e5"), looks := false }, kinds := [], alts := [], laidByText := true, laidKinds := [.data, .data, .pinned], laidTests := true, laidLooks := .later }
def CoverNormalUptoCardSaid : Prop := Claim7.holds Tryz.pinned (.plain (OpenSpec.upto coverNormalSpec)) coverNormalUptoCard

/-- THE SECOND FORM's CARD OF 'arbactop.TopRanked'. -/
def topRankedUptoCard : Claim7 := { stood := { row := topRankedUptoRow, standIns := [], harness := (true, "a2c60bf4f8f85fa396f8fb3e9b42604d1e43e378323f64dfa57289164ef4d6e5"), looks := false }, kinds := [], alts := [], laidByText := true, laidKinds := [.data], laidTests := true, laidLooks := .later }
def TopRankedUptoCardSaid : Prop := Claim7.holds Tryz.pinned (.plain (OpenSpec.upto topRankedSpec)) topRankedUptoCard
end Rows
end Go.Proofs.YtfbkcdhmggjbaaaGreatDoor
