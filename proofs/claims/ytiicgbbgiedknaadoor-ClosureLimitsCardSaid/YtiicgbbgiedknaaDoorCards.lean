/-
  DERIVED. GIVEN WITH THE SEED: THE CARDS: each row of YtiicgbbgiedknaaDoorRows.lean that lists a variable, with what it lists TIED to the program's text (the seventh form; the later family's looks); each row that meets fmt, with fmt's text TOLD by the authors' own Lean function (tested against real Go, not proved from fmt's source: count such statements apart). THE CARD IS WHAT COUNTS. Prove the row's statement (the work); the ties are given (YtiicgbbgiedknaaDoorTie.lean); close each card by the builder's one call (the guide's Derived/Test/ToyasCard.lean, 'card_holds'). Laid BY PROGRAM, IN A SANDBOX (cutbox-door.mjs). By AI agents, Wed Nov 11 2026. No macro, syntax, notation, axiom, sorry.
-/
import Derived.Test.YtiicgbbgiedknaaDoorRows
import GoSem.ClaimSeven
namespace Go.Proofs.YtiicgbbgiedknaaDoor
namespace Rows

/-- THE TIED CARD OF 'arbaclaw45.ClosureNil'. -/
def closureNilCard : Claim7 := { stood := { row := closureNilRow, standIns := [], harness := (true, "b8a597b2e1bf0e363a01472a56456a1076506bbed07fe0cf58d9d6eb259b2dab"), looks := false }, kinds := [], alts := [], laidByText := true, laidKinds := [.data, .data, .pinned], laidTests := true, laidLooks := .later }
def ClosureNilCardSaid : Prop := Claim7.holds Tryd.pinned (.plain (OpenSpec.ofChange closureNilSpec)) closureNilCard

/-- THE TIED CARD OF 'arbaclaw45.ClosureCommon'. -/
def closureCommonCard : Claim7 := { stood := { row := closureCommonRow, standIns := [], harness := (true, "b8a597b2e1bf0e363a01472a56456a1076506bbed07fe0cf58d9d6eb259b2dab"), looks := false }, kinds := [], alts := [], laidByText := true, laidKinds := [.data, .data, .pinned], laidTests := true, laidLooks := .later }
def ClosureCommonCardSaid : Prop := Claim7.holds Tryd.pinned (.plain (OpenSpec.ofChange closureCommonSpec)) closureCommonCard

/-- THE TIED CARD OF 'arbaclaw45.ClosureGalois'. -/
def closureGaloisCard : Claim7 := { stood := { row := closureGaloisRow, standIns := [], harness := (true, "b8a597b2e1bf0e363a01472a56456a1076506bbed07fe0cf58d9d6eb259b2dab"), looks := false }, kinds := [], alts := [], laidByText := true, laidKinds := [.data, .data, .pinned], laidTests := true, laidLooks := .later }
def ClosureGaloisCardSaid : Prop := Claim7.holds Tryd.pinned (.plain (OpenSpec.ofChange closureGaloisSpec)) closureGaloisCard

/-- THE TIED CARD OF 'arbaclaw45.ClosureCloses'. -/
def closureClosesCard : Claim7 := { stood := { row := closureClosesRow, standIns := [], harness := (true, "b8a597b2e1bf0e363a01472a56456a1076506bbed07fe0cf58d9d6eb259b2dab"), looks := false }, kinds := [], alts := [], laidByText := true, laidKinds := [.data, .data, .pinned], laidTests := true, laidLooks := .later }
def ClosureClosesCardSaid : Prop := Claim7.holds Tryd.pinned (.plain (OpenSpec.ofChange closureClosesSpec)) closureClosesCard

/-- THE TIED CARD OF 'arbaclaw45.ClosureMinimal'. -/
def closureMinimalCard : Claim7 := { stood := { row := closureMinimalRow, standIns := [], harness := (true, "b8a597b2e1bf0e363a01472a56456a1076506bbed07fe0cf58d9d6eb259b2dab"), looks := false }, kinds := [], alts := [], laidByText := true, laidKinds := [.data, .data, .pinned], laidTests := true, laidLooks := .later }
def ClosureMinimalCardSaid : Prop := Claim7.holds Tryd.pinned (.plain (OpenSpec.ofChange closureMinimalSpec)) closureMinimalCard

/-- THE TIED CARD OF 'arbaclaw45.ClosureLimits'. -/
def closureLimitsCard : Claim7 := { stood := { row := closureLimitsRow, standIns := [], harness := (true, "b8a597b2e1bf0e363a01472a56456a1076506bbed07fe0cf58d9d6eb259b2dab"), looks := false }, kinds := [], alts := [], laidByText := true, laidKinds := [.data, .data, .pinned], laidTests := true, laidLooks := .later }
def ClosureLimitsCardSaid : Prop := Claim7.holds Tryd.pinned (.plain (OpenSpec.ofChange closureLimitsSpec)) closureLimitsCard

/-- THE TIED CARD OF 'arbaclaw45.ClosureRectangles'. -/
def closureRectanglesCard : Claim7 := { stood := { row := closureRectanglesRow, standIns := [], harness := (true, "b8a597b2e1bf0e363a01472a56456a1076506bbed07fe0cf58d9d6eb259b2dab"), looks := false }, kinds := [], alts := [], laidByText := true, laidKinds := [.data, .data, .pinned], laidTests := true, laidLooks := .later }
def ClosureRectanglesCardSaid : Prop := Claim7.holds Tryd.pinned (.plain (OpenSpec.ofChange closureRectanglesSpec)) closureRectanglesCard

/-- THE TIED CARD OF 'arbaclaw45.ClosureImplies'. -/
def closureImpliesCard : Claim7 := { stood := { row := closureImpliesRow, standIns := [], harness := (true, "b8a597b2e1bf0e363a01472a56456a1076506bbed07fe0cf58d9d6eb259b2dab"), looks := false }, kinds := [], alts := [], laidByText := true, laidKinds := [.data, .data, .pinned], laidTests := true, laidLooks := .later }
def ClosureImpliesCardSaid : Prop := Claim7.holds Tryd.pinned (.plain (OpenSpec.ofChange closureImpliesSpec)) closureImpliesCard

/-- THE TIED CARD OF 'arbaclaw45.ClosureConcepts'. -/
def closureConceptsCard : Claim7 := { stood := { row := closureConceptsRow, standIns := [], harness := (true, "b8a597b2e1bf0e363a01472a56456a1076506bbed07fe0cf58d9d6eb259b2dab"), looks := false }, kinds := [], alts := [], laidByText := true, laidKinds := [.data, .data, .pinned], laidTests := true, laidLooks := .later }
def ClosureConceptsCardSaid : Prop := Claim7.holds Tryd.pinned (.plain (OpenSpec.ofChange closureConceptsSpec)) closureConceptsCard

/-- THE TIED CARD OF 'arbaclaw45.ClosureTurns'. -/
def closureTurnsCard : Claim7 := { stood := { row := closureTurnsRow, standIns := [], harness := (true, "b8a597b2e1bf0e363a01472a56456a1076506bbed07fe0cf58d9d6eb259b2dab"), looks := false }, kinds := [], alts := [], laidByText := true, laidKinds := [.data, .data, .pinned], laidTests := true, laidLooks := .later }
def ClosureTurnsCardSaid : Prop := Claim7.holds Tryd.pinned (.plain (OpenSpec.ofChange closureTurnsSpec)) closureTurnsCard

/-- THE SECOND FORM's CARD OF 'arbaclaw45.ClosureNil'. -/
def closureNilUptoCard : Claim7 := { stood := { row := closureNilUptoRow, standIns := [], harness := (true, "b8a597b2e1bf0e363a01472a56456a1076506bbed07fe0cf58d9d6eb259b2dab"), looks := false }, kinds := [], alts := [], laidByText := true, laidKinds := [.data, .data, .pinned], laidTests := true, laidLooks := .later }
def ClosureNilUptoCardSaid : Prop := Claim7.holds Tryd.pinned (.plain (OpenSpec.upto closureNilSpec)) closureNilUptoCard

/-- THE SECOND FORM's CARD OF 'arbaclaw45.ClosureCommon'. -/
def closureCommonUptoCard : Claim7 := { stood := { row := closureCommonUptoRow, standIns := [], harness := (true, "b8a597b2e1bf0e363a01472a56456a1076506bbed07fe0cf58d9d6eb259b2dab"), looks := false }, kinds := [], alts := [], laidByText := true, laidKinds := [.data, .data, .pinned], laidTests := true, laidLooks := .later }
def ClosureCommonUptoCardSaid : Prop := Claim7.holds Tryd.pinned (.plain (OpenSpec.upto closureCommonSpec)) closureCommonUptoCard

/-- THE SECOND FORM's CARD OF 'arbaclaw45.ClosureGalois'. -/
def closureGaloisUptoCard : Claim7 := { stood := { row := closureGaloisUptoRow, standIns := [], harness := (true, "b8a597b2e1bf0e363a01472a56456a1076506bbed07fe0cf58d9d6eb259b2dab"), looks := false }, kinds := [], alts := [], laidByText := true, laidKinds := [.data, .data, .pinned], laidTests := true, laidLooks := .later }
def ClosureGaloisUptoCardSaid : Prop := Claim7.holds Tryd.pinned (.plain (OpenSpec.upto closureGaloisSpec)) closureGaloisUptoCard

/-- THE SECOND FORM's CARD OF 'arbaclaw45.ClosureCloses'. -/
def closureClosesUptoCard : Claim7 := { stood := { row := closureClosesUptoRow, standIns := [], harness := (true, "b8a597b2e1bf0e363a01472a56456a1076506bbed07fe0cf58d9d6eb259b2dab"), looks := false }, kinds := [], alts := [], laidByText := true, laidKinds := [.data, .data, .pinned], laidTests := true, laidLooks := .later }
def ClosureClosesUptoCardSaid : Prop := Claim7.holds Tryd.pinned (.plain (OpenSpec.upto closureClosesSpec)) closureClosesUptoCard

/-- THE SECOND FORM's CARD OF 'arbaclaw45.ClosureMinimal'. -/
def closureMinimalUptoCard : Claim7 := { stood := { row := closureMinimalUptoRow, standIns := [], harness := (true, "b8a597b2e1bf0e363a01472a56456a1076506bbed07fe0cf58d9d6eb259b2dab"), looks := false }, kinds := [], alts := [], laidByText := true, laidKinds := [.data, .data, .pinned], laidTests := true, laidLooks := .later }
def ClosureMinimalUptoCardSaid : Prop := Claim7.holds Tryd.pinned (.plain (OpenSpec.upto closureMinimalSpec)) closureMinimalUptoCard

/-- THE SECOND FORM's CARD OF 'arbaclaw45.ClosureLimits'. -/
def closureLimitsUptoCard : Claim7 := { stood := { row := closureLimitsUptoRow, standIns := [], harness := (true, "b8a597b2e1bf0e363a01472a56456a1076506bbed07fe0cf58d9d6eb259b2dab"), looks := false }, kinds := [], alts := [], laidByText := true, laidKinds := [.data, .data, .pinned], laidTests := true, laidLooks := .later }
def ClosureLimitsUptoCardSaid : Prop := Claim7.holds Tryd.pinned (.plain (OpenSpec.upto closureLimitsSpec)) closureLimitsUptoCard

/-- THE SECOND FORM's CARD OF 'arbaclaw45.ClosureRectangles'. -/
def closureRectanglesUptoCard : Claim7 := { stood := { row := closureRectanglesUptoRow, standIns := [], harness := (true, "b8a597b2e1bf0e363a01472a56456a1076506bbed07fe0cf58d9d6eb259b2dab"), looks := false }, kinds := [], alts := [], laidByText := true, laidKinds := [.data, .data, .pinned], laidTests := true, laidLooks := .later }
def ClosureRectanglesUptoCardSaid : Prop := Claim7.holds Tryd.pinned (.plain (OpenSpec.upto closureRectanglesSpec)) closureRectanglesUptoCard

/-- THE SECOND FORM's CARD OF 'arbaclaw45.ClosureImplies'. -/
def closureImpliesUptoCard : Claim7 := { stood := { row := closureImpliesUptoRow, standIns := [], harness := (true, "b8a597b2e1bf0e363a01472a56456a1076506bbed07fe0cf58d9d6eb259b2dab"), looks := false }, kinds := [], alts := [], laidByText := true, laidKinds := [.data, .data, .pinned], laidTests := true, laidLooks := .later }
def ClosureImpliesUptoCardSaid : Prop := Claim7.holds Tryd.pinned (.plain (OpenSpec.upto closureImpliesSpec)) closureImpliesUptoCard

/-- THE SECOND FORM's CARD OF 'arbaclaw45.ClosureConcepts'. -/
def closureConceptsUptoCard : Claim7 := { stood := { row := closureConceptsUptoRow, standIns := [], harness := (true, "b8a597b2e1bf0e363a01472a56456a1076506bbed07fe0cf58d9d6eb259b2dab"), looks := false }, kinds := [], alts := [], laidByText := true, laidKinds := [.data, .data, .pinned], laidTests := true, laidLooks := .later }
def ClosureConceptsUptoCardSaid : Prop := Claim7.holds Tryd.pinned (.plain (OpenSpec.upto closureConceptsSpec)) closureConceptsUptoCard

/-- THE SECOND FORM's CARD OF 'arbaclaw45.ClosureTurns'. -/
def closureTurnsUptoCard : Claim7 := { stood := { row := closureTurnsUptoRow, standIns := [], harness := (true, "b8a597b2e1bf0e363a01472a56456a1076506bbed07fe0cf58d9d6eb259b2dab"), looks := false }, kinds := [], alts := [], laidByText := true, laidKinds := [.data, .data, .pinned], laidTests := true, laidLooks := .later }
def ClosureTurnsUptoCardSaid : Prop := Claim7.holds Tryd.pinned (.plain (OpenSpec.upto closureTurnsSpec)) closureTurnsUptoCard
end Rows
end Go.Proofs.YtiicgbbgiedknaaDoor
