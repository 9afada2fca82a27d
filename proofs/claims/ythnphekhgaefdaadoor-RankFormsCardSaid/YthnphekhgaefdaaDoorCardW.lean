/-
  The world of the witness, where math/bits's table is the only one listed.
-/
import Derived.Test.YthnphekhgaefdaaDoorCard2
namespace Go.Proofs.YthnphekhgaefdaaDoor
open Go.ChangeShapes Go.WideShapes Go.ChangeAt Go.RowKit
set_option maxRecDepth 100000
/-- The world of the witness: the table as it is laid. -/
noncomputable def laidWorld1 (os : Os) : World :=
  { World.holding Tryd.prog os ⟨#[], #[], []⟩ with heap := (World.holding Tryd.prog os ⟨#[], #[], []⟩).heap.modify 0 (filling Lib.deBruijn64tab) }
theorem laid_met1 (os : Os) (args : Array Value) : laidMet Tryd.prog Rows.rankFormsRow.laid ((laidWorld1 os).forCall (fun _ _ => 0) ⟨#[], args, []⟩).memory :=
  laidMet_of_run' 8 (by kernel_rfl) (by kernel_rfl)
end Go.Proofs.YthnphekhgaefdaaDoor
