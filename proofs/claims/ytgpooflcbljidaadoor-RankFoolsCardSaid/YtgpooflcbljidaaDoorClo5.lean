/-
  closure.Closed and closure.Implies.
-/
import Derived.Test.YtgpooflcbljidaaDoorClo4
namespace Go.Proofs.YtgpooflcbljidaaDoor
open Go.RowKit

set_option maxRecDepth 100000 in
set_option maxHeartbeats 2000000 in
theorem closed_any (p C : Nat) (Ns : List Nat) (v : Value) (S : Nat) (w : World) (h : IsMat w p C Ns) (hs : IsSet w v S) (hT : Tab w) :
    Calls Tryd.prog 24 #[ptr p, .agg #[v]] w fun e w' => e = .returned (.bool (decide (cloN C Ns S = S &&& lowN C))) ∧ Below w.heap.size w w' := by
  obtain ⟨A, c, rfl, _⟩ := id hs
  have hm : IsMV w (some ⟨p, 0, none⟩) C Ns := .inr ⟨p, rfl, h⟩
  go_enter Tryd.func24, Tryd.ntmps24
  go_wp2_with fail
  refine abs1 fun W0 hX hb0 hz => ?_
  have x0 := hX.cell 0
  have hd : Below W0.heap.size W0 W0.drew := (Below.refl _ _).drew
  have bd := hb0.trans (hd.mono hb0.size)
  refine wp_spine (fun W => Below W0.heap.size W0 W) [0, 1, 2, 3, 4, 6, 7] [5, 8, 9, 10, 11] (by kernel_rfl) (by kernel_rfl) ?_
  iterate 3 (refine wpE_op (v := ?_) rfl rfl (fun W hW => ?_) ?_; rotate_left; (go_simp; first | done | with_reducible rfl); simp only [Act.put, List.setIfInBounds_toArray, List.set_cons_zero, List.set_cons_succ])
  iterate 4 (refine wpE_yes (v := ?_) rfl (by rfl) (fun W hW => ?_) ?_; rotate_left; (have z0 := onB hW x0; go_simp; first | done | with_reducible rfl); simp only [Act.put, List.setIfInBounds_toArray, List.set_cons_zero, List.set_cons_succ])
  refine wpE_nil ⟨fun h => (by cases h), wpSp_op rfl hd ?_⟩
  go_wp2_with fail
  refine (close_any _ C Ns _ S _ (hm.below bd) (hs.below bd) (hT.below bd)).mono ?_
  rintro e w1 ⟨r1, rfl, hr1, hb1⟩
  obtain ⟨A1, c1, rfl, _⟩ := id hr1
  have hb01 := hd.trans (hb1.mono hd.size)
  have b1 := hb0.trans (hb01.mono hb0.size)
  go_wp2_with fail
  refine nxt_op rfl hb01 ?_
  go_wp2_with fail
  refine (own_any _ C Ns _ S w1 (hm.below b1) (hs.below b1)).mono ?_
  rintro e w2 ⟨r2, rfl, hr2, hb2⟩
  obtain ⟨A2, c2, rfl, _⟩ := id hr2
  have hb02 := hb01.trans (hb2.mono hb01.size)
  have b2 := hb0.trans (hb02.mono hb0.size)
  go_wp2_with fail
  refine nxt_op rfl hb02 ?_
  go_wp2_with fail
  refine (equal_any _ _ _ _ w2 (hr1.below hb2) hr2).mono ?_
  rintro e w3 ⟨rfl, hb3⟩
  have hb03 := hb02.trans (hb3.mono hb02.size)
  have b3 := hb0.trans (hb03.mono hb0.size)
  go_wp2_with fail
  refine nxt_op rfl hb03 ?_
  go_wp2_with fail
  refine nxt_op rfl hb03 ?_
  go_wp2_with fail
  refine nxt_nil ?_
  go_wp2_with fail
  go_ret
  exact ⟨rfl, b3⟩
set_option maxRecDepth 100000 in
set_option maxHeartbeats 2000000 in
theorem closed_nil (v : Value) (w : World) :
    Calls Tryd.prog 24 #[.pointer none, .agg #[v]] w fun e w' => e = .returned (.bool false) ∧ Below w.heap.size w w' := by
  go_enter Tryd.func24, Tryd.ntmps24
  go_wp2_with fail
  refine abs1 fun W0 hX hb0 hz => ?_
  have x0 := hX.cell 0
  have hd : Below W0.heap.size W0 W0.drew := (Below.refl _ _).drew
  have bd := hb0.trans (hd.mono hb0.size)
  refine wp_spine (fun W => Below W0.heap.size W0 W) [0, 1, 2, 3, 4, 6, 7] [5, 8, 9, 10, 11] (by kernel_rfl) (by kernel_rfl) ?_
  iterate 3 (refine wpE_op (v := ?_) rfl rfl (fun W hW => ?_) ?_; rotate_left; (go_simp; first | done | with_reducible rfl); simp only [Act.put, List.setIfInBounds_toArray, List.set_cons_zero, List.set_cons_succ])
  iterate 4 (refine wpE_no rfl (by rfl) ?_; simp only [Act.put, List.setIfInBounds_toArray, List.set_cons_zero, List.set_cons_succ])
  refine wpE_nil ⟨fun h => (by cases h), wpSp_op rfl hd ?_⟩
  go_wp2_with fail
  refine nxt_op rfl hd ?_
  go_wp2_with fail
  refine nxt_op rfl hd ?_
  go_wp2_with fail
  refine nxt_op rfl hd ?_
  go_wp2_with fail
  refine nxt_op rfl hd ?_
  go_wp2_with fail
  refine nxt_nil ?_
  go_wp2_with fail
  go_ret
  exact ⟨rfl, bd⟩
end Go.Proofs.YtgpooflcbljidaaDoor
