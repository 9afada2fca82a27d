/-
  DERIVED. GIVEN WITH THE SEED: THE CARDS: each row of YtafpmkdlciioaaaGreatDoorRows.lean that lists a variable, with what it lists TIED to the program's text (the seventh form; the later family's looks); each row that meets fmt, with fmt's text TOLD by the authors' own Lean function (tested against real Go, not proved from fmt's source: count such statements apart). THE CARD IS WHAT COUNTS. Prove the row's statement (the work); the ties are given (YtafpmkdlciioaaaGreatDoorTie.lean); close each card by the builder's one call (the guide's Derived/Test/ToyasCard.lean, 'card_holds'). Laid BY PROGRAM, IN A SANDBOX (cutbox-door.mjs). By AI agents, Wed Nov 11 2026. No macro, syntax, notation, axiom, sorry.
-/
import Derived.Test.YtafpmkdlciioaaaGreatDoorRows
import GoSem.ClaimSeven
namespace Go.Proofs.YtafpmkdlciioaaaGreatDoor
namespace Rows

/-- THE TIED CARD OF 'arbactop.TopRanked'. -/
def topRankedCard : Claim7 := { stood := { row := topRankedRow, standIns := [], harness := (true, "56a9c3bb34d774974fb6190f1c04b2d3ec748c24294655c181287b80c36b1c29"), looks := false }, kinds := [], alts := [], laidByText := true, laidKinds := [.data], laidTests := true, laidLooks := .later }
def TopRankedCardSaid : Prop := Claim7.holds Tryz.pinned (.plain (OpenSpec.ofChange topRankedSpec)) topRankedCard

/-- THE SECOND FORM's CARD OF 'arbactop.TopRanked'. -/
def topRankedUptoCard : Claim7 := { stood := { row := topRankedUptoRow, standIns := [], harness := (true, "56a9c3bb34d774974fb6190f1c04b2d3ec748c24294655c181287b80c36b1c29"), looks := false }, kinds := [], alts := [], laidByText := true, laidKinds := [.data], laidTests := true, laidLooks := .later }
def TopRankedUptoCardSaid : Prop := Claim7.holds Tryz.pinned (.plain (OpenSpec.upto topRankedSpec)) topRankedUptoCard
end Rows
end Go.Proofs.YtafpmkdlciioaaaGreatDoor
