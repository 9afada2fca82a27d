import Derived.Test.YthkjigggfeejdaaDoorMig2
namespace Go.Proofs.YthkjigggfeejdaaDoor
open Go.RowKit

set_option maxRecDepth 100000 in
set_option maxHeartbeats 1000000 in
theorem of_at (s : ByteArray) (C : Nat) (M : List (List Bool)) (hC : pC s.data.toList = C) (hN : pNs s.data.toList = nsOf C M) (hok : pOK s.data.toList) (hw : Wide C M) (hs : s.size ≤ 4096) (w : World) :
    Calls Tryd.prog 43 #[.string s] w fun e w' => ∃ q, e = .returned (ptr q) ∧ PM w' q C M ∧ Below w.heap.size w w' := by
  have HP := hideC (parse_at s C (nsOf C M) hC hN hok hs w)
  clear hC hN hok
  go_enter Tryd.func43, Tryd.ntmps43
  go_wp2_with fail; (with_reducible refine (HP.out).mono ?_); rintro e w1 ⟨q, rfl, hm, hb⟩
  go_wp2_with fail
  go_ret
  exact ⟨q, rfl, ⟨hm, hw⟩, hb⟩
/-! The matrices of the chapter's first example. -/
theorem ex1 : pC [49, 48, 10, 48, 49, 10] = 2 ∧ pNs [49, 48, 10, 48, 49, 10] = nsOf 2 [[true, false], [false, true]] ∧ pOK [49, 48, 10, 48, 49, 10] := by decide +kernel
theorem ex2 : pC [49, 48, 48, 10, 48, 49, 48, 10] = 3 ∧ pNs [49, 48, 48, 10, 48, 49, 48, 10] = nsOf 3 [[true, false, false], [false, true, false]] ∧ pOK [49, 48, 48, 10, 48, 49, 48, 10] := by decide +kernel
theorem ex3 : pC [49, 10, 49, 10] = 1 ∧ pNs [49, 10, 49, 10] = nsOf 1 [[true], [true]] ∧ pOK [49, 10, 49, 10] := by decide +kernel
theorem ex4 : pC [49, 49, 48, 10] = 3 ∧ pNs [49, 49, 48, 10] = nsOf 3 [[true, true, false]] ∧ pOK [49, 49, 48, 10] := by decide +kernel
end Go.Proofs.YthkjigggfeejdaaDoor
