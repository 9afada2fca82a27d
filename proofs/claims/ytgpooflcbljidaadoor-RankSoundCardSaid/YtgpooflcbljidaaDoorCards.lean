/-
  DERIVED. GIVEN WITH THE SEED: THE CARDS: each row of YtgpooflcbljidaaDoorRows.lean that lists a variable, with what it lists TIED to the program's text (the seventh form; the later family's looks); each row that meets fmt, with fmt's text TOLD by the authors' own Lean function (tested against real Go, not proved from fmt's source: count such statements apart). THE CARD IS WHAT COUNTS. Prove the row's statement (the work); the ties are given (YtgpooflcbljidaaDoorTie.lean); close each card by the builder's one call (the guide's Derived/Test/ToyasCard.lean, 'card_holds'). Laid BY PROGRAM, IN A SANDBOX (cutbox-door.mjs). By AI agents, Wed Nov 11 2026. No macro, syntax, notation, axiom, sorry.
-/
import Derived.Test.YtgpooflcbljidaaDoorRows
import GoSem.ClaimSeven
namespace Go.Proofs.YtgpooflcbljidaaDoor
namespace Rows

/-- THE TIED CARD OF 'arbaclaw47.RankChecks'. -/
def rankChecksCard : Claim7 := { stood := { row := rankChecksRow, standIns := [], harness := (true, "6d93b156a99ec0856db9c7cd7b91c57988d19ffe990b358aba62ed8a7f703c9f"), looks := false }, kinds := [], alts := [], laidByText := true, laidKinds := [.data], laidTests := true, laidLooks := .later }
def RankChecksCardSaid : Prop := Claim7.holds Tryd.pinned (.plain (OpenSpec.ofChange rankChecksSpec)) rankChecksCard

/-- THE TIED CARD OF 'arbaclaw47.RankForms'. -/
def rankFormsCard : Claim7 := { stood := { row := rankFormsRow, standIns := [], harness := (true, "6d93b156a99ec0856db9c7cd7b91c57988d19ffe990b358aba62ed8a7f703c9f"), looks := false }, kinds := [], alts := [], laidByText := true, laidKinds := [.data], laidTests := true, laidLooks := .later }
def RankFormsCardSaid : Prop := Claim7.holds Tryd.pinned (.plain (OpenSpec.ofChange rankFormsSpec)) rankFormsCard

/-- THE TIED CARD OF 'arbaclaw47.RankSound'. -/
def rankSoundCard : Claim7 := { stood := { row := rankSoundRow, standIns := [], harness := (true, "6d93b156a99ec0856db9c7cd7b91c57988d19ffe990b358aba62ed8a7f703c9f"), looks := false }, kinds := [], alts := [], laidByText := true, laidKinds := [.data], laidTests := true, laidLooks := .later }
def RankSoundCardSaid : Prop := Claim7.holds Tryd.pinned (.plain (OpenSpec.ofChange rankSoundSpec)) rankSoundCard

/-- THE TIED CARD OF 'arbaclaw47.RankProves'. -/
def rankProvesCard : Claim7 := { stood := { row := rankProvesRow, standIns := [], harness := (true, "6d93b156a99ec0856db9c7cd7b91c57988d19ffe990b358aba62ed8a7f703c9f"), looks := false }, kinds := [], alts := [], laidByText := true, laidKinds := [.data], laidTests := true, laidLooks := .later }
def RankProvesCardSaid : Prop := Claim7.holds Tryd.pinned (.plain (OpenSpec.ofChange rankProvesSpec)) rankProvesCard

/-- THE TIED CARD OF 'arbaclaw47.RankCloses'. -/
def rankClosesCard : Claim7 := { stood := { row := rankClosesRow, standIns := [], harness := (true, "6d93b156a99ec0856db9c7cd7b91c57988d19ffe990b358aba62ed8a7f703c9f"), looks := false }, kinds := [], alts := [], laidByText := true, laidKinds := [.data], laidTests := true, laidLooks := .later }
def RankClosesCardSaid : Prop := Claim7.holds Tryd.pinned (.plain (OpenSpec.ofChange rankClosesSpec)) rankClosesCard

/-- THE TIED CARD OF 'arbaclaw47.RankFools'. -/
def rankFoolsCard : Claim7 := { stood := { row := rankFoolsRow, standIns := [], harness := (true, "6d93b156a99ec0856db9c7cd7b91c57988d19ffe990b358aba62ed8a7f703c9f"), looks := false }, kinds := [], alts := [], laidByText := true, laidKinds := [.data], laidTests := true, laidLooks := .later }
def RankFoolsCardSaid : Prop := Claim7.holds Tryd.pinned (.plain (OpenSpec.ofChange rankFoolsSpec)) rankFoolsCard

/-- THE TIED CARD OF 'arbaclaw47.RankConcepts'. -/
def rankConceptsCard : Claim7 := { stood := { row := rankConceptsRow, standIns := [], harness := (true, "6d93b156a99ec0856db9c7cd7b91c57988d19ffe990b358aba62ed8a7f703c9f"), looks := false }, kinds := [], alts := [], laidByText := true, laidKinds := [.data], laidTests := true, laidLooks := .later }
def RankConceptsCardSaid : Prop := Claim7.holds Tryd.pinned (.plain (OpenSpec.ofChange rankConceptsSpec)) rankConceptsCard

/-- THE TIED CARD OF 'arbaclaw47.RankEqual'. -/
def rankEqualCard : Claim7 := { stood := { row := rankEqualRow, standIns := [], harness := (true, "6d93b156a99ec0856db9c7cd7b91c57988d19ffe990b358aba62ed8a7f703c9f"), looks := false }, kinds := [], alts := [], laidByText := true, laidKinds := [.data], laidTests := true, laidLooks := .later }
def RankEqualCardSaid : Prop := Claim7.holds Tryd.pinned (.plain (OpenSpec.ofChange rankEqualSpec)) rankEqualCard

/-- THE TIED CARD OF 'arbaclaw47.RankLimits'. -/
def rankLimitsCard : Claim7 := { stood := { row := rankLimitsRow, standIns := [], harness := (true, "6d93b156a99ec0856db9c7cd7b91c57988d19ffe990b358aba62ed8a7f703c9f"), looks := false }, kinds := [], alts := [], laidByText := true, laidKinds := [.data], laidTests := true, laidLooks := .later }
def RankLimitsCardSaid : Prop := Claim7.holds Tryd.pinned (.plain (OpenSpec.ofChange rankLimitsSpec)) rankLimitsCard

/-- THE TIED CARD OF 'arbaclaw47.RankBest'. -/
def rankBestCard : Claim7 := { stood := { row := rankBestRow, standIns := [], harness := (true, "6d93b156a99ec0856db9c7cd7b91c57988d19ffe990b358aba62ed8a7f703c9f"), looks := false }, kinds := [], alts := [], laidByText := true, laidKinds := [.data], laidTests := true, laidLooks := .later }
def RankBestCardSaid : Prop := Claim7.holds Tryd.pinned (.plain (OpenSpec.ofChange rankBestSpec)) rankBestCard

/-- THE SECOND FORM's CARD OF 'arbaclaw47.RankChecks'. -/
def rankChecksUptoCard : Claim7 := { stood := { row := rankChecksUptoRow, standIns := [], harness := (true, "6d93b156a99ec0856db9c7cd7b91c57988d19ffe990b358aba62ed8a7f703c9f"), looks := false }, kinds := [], alts := [], laidByText := true, laidKinds := [.data], laidTests := true, laidLooks := .later }
def RankChecksUptoCardSaid : Prop := Claim7.holds Tryd.pinned (.plain (OpenSpec.upto rankChecksSpec)) rankChecksUptoCard

/-- THE SECOND FORM's CARD OF 'arbaclaw47.RankForms'. -/
def rankFormsUptoCard : Claim7 := { stood := { row := rankFormsUptoRow, standIns := [], harness := (true, "6d93b156a99ec0856db9c7cd7b91c57988d19ffe990b358aba62ed8a7f703c9f"), looks := false }, kinds := [], alts := [], laidByText := true, laidKinds := [.data], laidTests := true, laidLooks := .later }
def RankFormsUptoCardSaid : Prop := Claim7.holds Tryd.pinned (.plain (OpenSpec.upto rankFormsSpec)) rankFormsUptoCard

/-- THE SECOND FORM's CARD OF 'arbaclaw47.RankSound'. -/
def rankSoundUptoCard : Claim7 := { stood := { row := rankSoundUptoRow, standIns := [], harness := (true, "6d93b156a99ec0856db9c7cd7b91c57988d19ffe990b358aba62ed8a7f703c9f"), looks := false }, kinds := [], alts := [], laidByText := true, laidKinds := [.data], laidTests := true, laidLooks := .later }
def RankSoundUptoCardSaid : Prop := Claim7.holds Tryd.pinned (.plain (OpenSpec.upto rankSoundSpec)) rankSoundUptoCard

/-- THE SECOND FORM's CARD OF 'arbaclaw47.RankProves'. -/
def rankProvesUptoCard : Claim7 := { stood := { row := rankProvesUptoRow, standIns := [], harness := (true, "6d93b156a99ec0856db9c7cd7b91c57988d19ffe990b358aba62ed8a7f703c9f"), looks := false }, kinds := [], alts := [], laidByText := true, laidKinds := [.data], laidTests := true, laidLooks := .later }
def RankProvesUptoCardSaid : Prop := Claim7.holds Tryd.pinned (.plain (OpenSpec.upto rankProvesSpec)) rankProvesUptoCard

/-- THE SECOND FORM's CARD OF 'arbaclaw47.RankCloses'. -/
def rankClosesUptoCard : Claim7 := { stood := { row := rankClosesUptoRow, standIns := [], harness := (true, "6d93b156a99ec0856db9c7cd7b91c57988d19ffe990b358aba62ed8a7f703c9f"), looks := false }, kinds := [], alts := [], laidByText := true, laidKinds := [.data], laidTests := true, laidLooks := .later }
def RankClosesUptoCardSaid : Prop := Claim7.holds Tryd.pinned (.plain (OpenSpec.upto rankClosesSpec)) rankClosesUptoCard

/-- THE SECOND FORM's CARD OF 'arbaclaw47.RankFools'. -/
def rankFoolsUptoCard : Claim7 := { stood := { row := rankFoolsUptoRow, standIns := [], harness := (true, "6d93b156a99ec0856db9c7cd7b91c57988d19ffe990b358aba62ed8a7f703c9f"), looks := false }, kinds := [], alts := [], laidByText := true, laidKinds := [.data], laidTests := true, laidLooks := .later }
def RankFoolsUptoCardSaid : Prop := Claim7.holds Tryd.pinned (.plain (OpenSpec.upto rankFoolsSpec)) rankFoolsUptoCard

/-- THE SECOND FORM's CARD OF 'arbaclaw47.RankConcepts'. -/
def rankConceptsUptoCard : Claim7 := { stood := { row := rankConceptsUptoRow, standIns := [], harness := (true, "6d93b156a99ec0856db9c7cd7b91c57988d19ffe990b358aba62ed8a7f703c9f"), looks := false }, kinds := [], alts := [], laidByText := true, laidKinds := [.data], laidTests := true, laidLooks := .later }
def RankConceptsUptoCardSaid : Prop := Claim7.holds Tryd.pinned (.plain (OpenSpec.upto rankConceptsSpec)) rankConceptsUptoCard

/-- THE SECOND FORM's CARD OF 'arbaclaw47.RankEqual'. -/
def rankEqualUptoCard : Claim7 := { stood := { row := rankEqualUptoRow, standIns := [], harness := (true, "6d93b156a99ec0856db9c7cd7b91c57988d19ffe990b358aba62ed8a7f703c9f"), looks := false }, kinds := [], alts := [], laidByText := true, laidKinds := [.data], laidTests := true, laidLooks := .later }
def RankEqualUptoCardSaid : Prop := Claim7.holds Tryd.pinned (.plain (OpenSpec.upto rankEqualSpec)) rankEqualUptoCard

/-- THE SECOND FORM's CARD OF 'arbaclaw47.RankLimits'. -/
def rankLimitsUptoCard : Claim7 := { stood := { row := rankLimitsUptoRow, standIns := [], harness := (true, "6d93b156a99ec0856db9c7cd7b91c57988d19ffe990b358aba62ed8a7f703c9f"), looks := false }, kinds := [], alts := [], laidByText := true, laidKinds := [.data], laidTests := true, laidLooks := .later }
def RankLimitsUptoCardSaid : Prop := Claim7.holds Tryd.pinned (.plain (OpenSpec.upto rankLimitsSpec)) rankLimitsUptoCard

/-- THE SECOND FORM's CARD OF 'arbaclaw47.RankBest'. -/
def rankBestUptoCard : Claim7 := { stood := { row := rankBestUptoRow, standIns := [], harness := (true, "6d93b156a99ec0856db9c7cd7b91c57988d19ffe990b358aba62ed8a7f703c9f"), looks := false }, kinds := [], alts := [], laidByText := true, laidKinds := [.data], laidTests := true, laidLooks := .later }
def RankBestUptoCardSaid : Prop := Claim7.holds Tryd.pinned (.plain (OpenSpec.upto rankBestSpec)) rankBestUptoCard
end Rows
end Go.Proofs.YtgpooflcbljidaaDoor
