/-
  DERIVED. GIVEN WITH THE SEED: THE CARDS: each row of YthkjigggfeejdaaDoorRows.lean that lists a variable, with what it lists TIED to the program's text (the seventh form; the later family's looks); each row that meets fmt, with fmt's text TOLD by the authors' own Lean function (tested against real Go, not proved from fmt's source: count such statements apart). THE CARD IS WHAT COUNTS. Prove the row's statement (the work); the ties are given (YthkjigggfeejdaaDoorTie.lean); close each card by the builder's one call (the guide's Derived/Test/ToyasCard.lean, 'card_holds'). Laid BY PROGRAM, IN A SANDBOX (cutbox-door.mjs). By AI agents, Wed Nov 11 2026. No macro, syntax, notation, axiom, sorry.
-/
import Derived.Test.YthkjigggfeejdaaDoorRows
import GoSem.ClaimSeven
namespace Go.Proofs.YthkjigggfeejdaaDoor
namespace Rows

/-- THE TIED CARD OF 'arbaclaw49.MigrateChecks'. -/
def migrateChecksCard : Claim7 := { stood := { row := migrateChecksRow, standIns := [], harness := (true, "23ea8bfd3e089f23aa7f0b4b157ab176d16d71c4dcadaf843cdbf94adf9d5652"), looks := false }, kinds := [], alts := [], laidByText := true, laidKinds := [.data, .data, .pinned], laidTests := true, laidLooks := .later }
def MigrateChecksCardSaid : Prop := Claim7.holds Tryd.pinned (.plain (OpenSpec.ofChange migrateChecksSpec)) migrateChecksCard

/-- THE TIED CARD OF 'arbaclaw49.MigrateApplies'. -/
def migrateAppliesCard : Claim7 := { stood := { row := migrateAppliesRow, standIns := [], harness := (true, "23ea8bfd3e089f23aa7f0b4b157ab176d16d71c4dcadaf843cdbf94adf9d5652"), looks := false }, kinds := [], alts := [], laidByText := true, laidKinds := [.data, .data, .pinned], laidTests := true, laidLooks := .later }
def MigrateAppliesCardSaid : Prop := Claim7.holds Tryd.pinned (.plain (OpenSpec.ofChange migrateAppliesSpec)) migrateAppliesCard

/-- THE TIED CARD OF 'arbaclaw49.MigrateFits'. -/
def migrateFitsCard : Claim7 := { stood := { row := migrateFitsRow, standIns := [], harness := (true, "23ea8bfd3e089f23aa7f0b4b157ab176d16d71c4dcadaf843cdbf94adf9d5652"), looks := false }, kinds := [], alts := [], laidByText := true, laidKinds := [.data, .data, .pinned], laidTests := true, laidLooks := .later }
def MigrateFitsCardSaid : Prop := Claim7.holds Tryd.pinned (.plain (OpenSpec.ofChange migrateFitsSpec)) migrateFitsCard

/-- THE TIED CARD OF 'arbaclaw49.MigrateVerifies'. -/
def migrateVerifiesCard : Claim7 := { stood := { row := migrateVerifiesRow, standIns := [], harness := (true, "23ea8bfd3e089f23aa7f0b4b157ab176d16d71c4dcadaf843cdbf94adf9d5652"), looks := false }, kinds := [], alts := [], laidByText := true, laidKinds := [.data, .data, .pinned], laidTests := true, laidLooks := .later }
def MigrateVerifiesCardSaid : Prop := Claim7.holds Tryd.pinned (.plain (OpenSpec.ofChange migrateVerifiesSpec)) migrateVerifiesCard

/-- THE TIED CARD OF 'arbaclaw49.MigrateSpoilt'. -/
def migrateSpoiltCard : Claim7 := { stood := { row := migrateSpoiltRow, standIns := [], harness := (true, "23ea8bfd3e089f23aa7f0b4b157ab176d16d71c4dcadaf843cdbf94adf9d5652"), looks := false }, kinds := [], alts := [], laidByText := true, laidKinds := [.data, .data, .pinned], laidTests := true, laidLooks := .later }
def MigrateSpoiltCardSaid : Prop := Claim7.holds Tryd.pinned (.plain (OpenSpec.ofChange migrateSpoiltSpec)) migrateSpoiltCard

/-- THE TIED CARD OF 'arbaclaw49.MigrateSound'. -/
def migrateSoundCard : Claim7 := { stood := { row := migrateSoundRow, standIns := [], harness := (true, "23ea8bfd3e089f23aa7f0b4b157ab176d16d71c4dcadaf843cdbf94adf9d5652"), looks := false }, kinds := [], alts := [], laidByText := true, laidKinds := [.data, .data, .pinned], laidTests := true, laidLooks := .later }
def MigrateSoundCardSaid : Prop := Claim7.holds Tryd.pinned (.plain (OpenSpec.ofChange migrateSoundSpec)) migrateSoundCard

/-- THE TIED CARD OF 'arbaclaw49.MigrateMoments'. -/
def migrateMomentsCard : Claim7 := { stood := { row := migrateMomentsRow, standIns := [], harness := (true, "23ea8bfd3e089f23aa7f0b4b157ab176d16d71c4dcadaf843cdbf94adf9d5652"), looks := false }, kinds := [], alts := [], laidByText := true, laidKinds := [.data, .data, .pinned], laidTests := true, laidLooks := .later }
def MigrateMomentsCardSaid : Prop := Claim7.holds Tryd.pinned (.plain (OpenSpec.ofChange migrateMomentsSpec)) migrateMomentsCard

/-- THE TIED CARD OF 'arbaclaw49.MigrateJoints'. -/
def migrateJointsCard : Claim7 := { stood := { row := migrateJointsRow, standIns := [], harness := (true, "23ea8bfd3e089f23aa7f0b4b157ab176d16d71c4dcadaf843cdbf94adf9d5652"), looks := false }, kinds := [], alts := [], laidByText := true, laidKinds := [.data, .data, .pinned], laidTests := true, laidLooks := .later }
def MigrateJointsCardSaid : Prop := Claim7.holds Tryd.pinned (.plain (OpenSpec.ofChange migrateJointsSpec)) migrateJointsCard

/-- THE TIED CARD OF 'arbaclaw49.MigratePlans'. -/
def migratePlansCard : Claim7 := { stood := { row := migratePlansRow, standIns := [], harness := (true, "23ea8bfd3e089f23aa7f0b4b157ab176d16d71c4dcadaf843cdbf94adf9d5652"), looks := false }, kinds := [], alts := [], laidByText := true, laidKinds := [.data, .data, .pinned], laidTests := true, laidLooks := .later }
def MigratePlansCardSaid : Prop := Claim7.holds Tryd.pinned (.plain (OpenSpec.ofChange migratePlansSpec)) migratePlansCard

/-- THE SECOND FORM's CARD OF 'arbaclaw49.MigrateChecks'. -/
def migrateChecksUptoCard : Claim7 := { stood := { row := migrateChecksUptoRow, standIns := [], harness := (true, "23ea8bfd3e089f23aa7f0b4b157ab176d16d71c4dcadaf843cdbf94adf9d5652"), looks := false }, kinds := [], alts := [], laidByText := true, laidKinds := [.data, .data, .pinned], laidTests := true, laidLooks := .later }
def MigrateChecksUptoCardSaid : Prop := Claim7.holds Tryd.pinned (.plain (OpenSpec.upto migrateChecksSpec)) migrateChecksUptoCard

/-- THE SECOND FORM's CARD OF 'arbaclaw49.MigrateApplies'. -/
def migrateAppliesUptoCard : Claim7 := { stood := { row := migrateAppliesUptoRow, standIns := [], harness := (true, "23ea8bfd3e089f23aa7f0b4b157ab176d16d71c4dcadaf843cdbf94adf9d5652"), looks := false }, kinds := [], alts := [], laidByText := true, laidKinds := [.data, .data, .pinned], laidTests := true, laidLooks := .later }
def MigrateAppliesUptoCardSaid : Prop := Claim7.holds Tryd.pinned (.plain (OpenSpec.upto migrateAppliesSpec)) migrateAppliesUptoCard

/-- THE SECOND FORM's CARD OF 'arbaclaw49.MigrateFits'. -/
def migrateFitsUptoCard : Claim7 := { stood := { row := migrateFitsUptoRow, standIns := [], harness := (true, "23ea8bfd3e089f23aa7f0b4b157ab176d16d71c4dcadaf843cdbf94adf9d5652"), looks := false }, kinds := [], alts := [], laidByText := true, laidKinds := [.data, .data, .pinned], laidTests := true, laidLooks := .later }
def MigrateFitsUptoCardSaid : Prop := Claim7.holds Tryd.pinned (.plain (OpenSpec.upto migrateFitsSpec)) migrateFitsUptoCard

/-- THE SECOND FORM's CARD OF 'arbaclaw49.MigrateVerifies'. -/
def migrateVerifiesUptoCard : Claim7 := { stood := { row := migrateVerifiesUptoRow, standIns := [], harness := (true, "23ea8bfd3e089f23aa7f0b4b157ab176d16d71c4dcadaf843cdbf94adf9d5652"), looks := false }, kinds := [], alts := [], laidByText := true, laidKinds := [.data, .data, .pinned], laidTests := true, laidLooks := .later }
def MigrateVerifiesUptoCardSaid : Prop := Claim7.holds Tryd.pinned (.plain (OpenSpec.upto migrateVerifiesSpec)) migrateVerifiesUptoCard

/-- THE SECOND FORM's CARD OF 'arbaclaw49.MigrateSpoilt'. -/
def migrateSpoiltUptoCard : Claim7 := { stood := { row := migrateSpoiltUptoRow, standIns := [], harness := (true, "23ea8bfd3e089f23aa7f0b4b157ab176d16d71c4dcadaf843cdbf94adf9d5652"), looks := false }, kinds := [], alts := [], laidByText := true, laidKinds := [.data, .data, .pinned], laidTests := true, laidLooks := .later }
def MigrateSpoiltUptoCardSaid : Prop := Claim7.holds Tryd.pinned (.plain (OpenSpec.upto migrateSpoiltSpec)) migrateSpoiltUptoCard

/-- THE SECOND FORM's CARD OF 'arbaclaw49.MigrateSound'. -/
def migrateSoundUptoCard : Claim7 := { stood := { row := migrateSoundUptoRow, standIns := [], harness := (true, "23ea8bfd3e089f23aa7f0b4b157ab176d16d71c4dcadaf843cdbf94adf9d5652"), looks := false }, kinds := [], alts := [], laidByText := true, laidKinds := [.data, .data, .pinned], laidTests := true, laidLooks := .later }
def MigrateSoundUptoCardSaid : Prop := Claim7.holds Tryd.pinned (.plain (OpenSpec.upto migrateSoundSpec)) migrateSoundUptoCard

/-- THE SECOND FORM's CARD OF 'arbaclaw49.MigrateMoments'. -/
def migrateMomentsUptoCard : Claim7 := { stood := { row := migrateMomentsUptoRow, standIns := [], harness := (true, "23ea8bfd3e089f23aa7f0b4b157ab176d16d71c4dcadaf843cdbf94adf9d5652"), looks := false }, kinds := [], alts := [], laidByText := true, laidKinds := [.data, .data, .pinned], laidTests := true, laidLooks := .later }
def MigrateMomentsUptoCardSaid : Prop := Claim7.holds Tryd.pinned (.plain (OpenSpec.upto migrateMomentsSpec)) migrateMomentsUptoCard

/-- THE SECOND FORM's CARD OF 'arbaclaw49.MigrateJoints'. -/
def migrateJointsUptoCard : Claim7 := { stood := { row := migrateJointsUptoRow, standIns := [], harness := (true, "23ea8bfd3e089f23aa7f0b4b157ab176d16d71c4dcadaf843cdbf94adf9d5652"), looks := false }, kinds := [], alts := [], laidByText := true, laidKinds := [.data, .data, .pinned], laidTests := true, laidLooks := .later }
def MigrateJointsUptoCardSaid : Prop := Claim7.holds Tryd.pinned (.plain (OpenSpec.upto migrateJointsSpec)) migrateJointsUptoCard

/-- THE SECOND FORM's CARD OF 'arbaclaw49.MigratePlans'. -/
def migratePlansUptoCard : Claim7 := { stood := { row := migratePlansUptoRow, standIns := [], harness := (true, "23ea8bfd3e089f23aa7f0b4b157ab176d16d71c4dcadaf843cdbf94adf9d5652"), looks := false }, kinds := [], alts := [], laidByText := true, laidKinds := [.data, .data, .pinned], laidTests := true, laidLooks := .later }
def MigratePlansUptoCardSaid : Prop := Claim7.holds Tryd.pinned (.plain (OpenSpec.upto migratePlansSpec)) migratePlansUptoCard
end Rows
end Go.Proofs.YthkjigggfeejdaaDoor
