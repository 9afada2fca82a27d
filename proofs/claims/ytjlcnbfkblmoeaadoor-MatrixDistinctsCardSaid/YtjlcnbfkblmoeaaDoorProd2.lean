import Derived.Test.YtjlcnbfkblmoeaaDoorProd
namespace Go.Proofs.YtjlcnbfkblmoeaaDoor
open Go.RowKit
set_option maxRecDepth 100000 in
set_option maxHeartbeats 2000000 in
theorem prod_nil (o : Option Addr) (w : World) :
    Calls Tryd.prog 22 #[.pointer none, .pointer o] w fun e w' => e = pair (.pointer none) 1 ∧ Below w.heap.size w w' := by
  refine (callsIn_wide (n := 9)).1 (callsIn_of_wp_marks Tryd.func22 rfl trivial (wpIn_wide.2 ?_) rfl)
  simp only [Tryd.ntmps22, List.size_toArray, List.length_cons, List.length_nil, Nat.reduceAdd, Nat.reduceSub, Array.replicate_succ, Array.replicate_zero, List.push_toArray, List.append_toArray, List.nil_append, List.cons_append]
  go_wp2_with fail
  refine abs1 fun W0 hO0 hbel0 hz => ?_
  refine wp_spine (fun W => Below W0.heap.size W0 W) [0, 1, 2, 3, 4, 5, 6, 7, 8, 9, 10, 11, 12, 13, 14, 15, 16, 17] [] (by kernel_rfl) (by kernel_rfl) ?_
  iterate 3 (refine wpE_op (v := ?_) rfl rfl (fun W hW => ?_) ?_; rotate_left; (go_simp; first | done | with_reducible rfl); simp only [Act.put, List.setIfInBounds_toArray, List.set_cons_zero, List.set_cons_succ])
  iterate 2 (refine wpE_no rfl (by rfl) ?_; simp only [Act.put, List.setIfInBounds_toArray, List.set_cons_zero, List.set_cons_succ])
  iterate 2 (refine wpE_op (v := ?_) rfl rfl (fun W hW => ?_) ?_; rotate_left; (go_simp; first | done | with_reducible rfl); simp only [Act.put, List.setIfInBounds_toArray, List.set_cons_zero, List.set_cons_succ])
  iterate 10 (refine wpE_no rfl (by rfl) ?_; simp only [Act.put, List.setIfInBounds_toArray, List.set_cons_zero, List.set_cons_succ])
  iterate 1 (refine wpE_op (v := ?_) rfl rfl (fun W hW => ?_) ?_; rotate_left; (go_simp; first | done | with_reducible rfl); simp only [Act.put, List.setIfInBounds_toArray, List.set_cons_zero, List.set_cons_succ])
  refine wpE_nil ⟨fun _ => (Below.refl _ _).drew, wpSp_nil ?_⟩
  go_wp2_with fail
  exact ⟨_, results_tmp2 rfl _ _ _, rfl, hbel0.drew⟩
set_option maxRecDepth 100000 in
set_option maxHeartbeats 2000000 in
theorem prod_nil2 (p : Nat) (w : World) :
    Calls Tryd.prog 22 #[ptr p, .pointer none] w fun e w' => e = pair (.pointer none) 1 ∧ Below w.heap.size w w' := by
  refine (callsIn_wide (n := 9)).1 (callsIn_of_wp_marks Tryd.func22 rfl trivial (wpIn_wide.2 ?_) rfl)
  simp only [Tryd.ntmps22, List.size_toArray, List.length_cons, List.length_nil, Nat.reduceAdd, Nat.reduceSub, Array.replicate_succ, Array.replicate_zero, List.push_toArray, List.append_toArray, List.nil_append, List.cons_append]
  go_wp2_with fail
  refine abs1 fun W0 hO0 hbel0 hz => ?_
  have o0 := hO0.cell 0
  refine wp_spine (fun W => Below W0.heap.size W0 W) [0, 1, 2, 3, 4, 5, 6, 7, 8, 9, 10, 11, 12, 13, 14, 15, 16, 17] [] (by kernel_rfl) (by kernel_rfl) ?_
  iterate 3 (refine wpE_op (v := ?_) rfl rfl (fun W hW => ?_) ?_; rotate_left; (go_simp; first | done | with_reducible rfl); simp only [Act.put, List.setIfInBounds_toArray, List.set_cons_zero, List.set_cons_succ])
  iterate 2 (refine wpE_yes (v := ?_) rfl (by rfl) (fun W hW => ?_) ?_; rotate_left; (have x1 := onB hW o0; go_simp; first | done | with_reducible rfl); simp only [Act.put, List.setIfInBounds_toArray, List.set_cons_zero, List.set_cons_succ])
  iterate 2 (refine wpE_op (v := ?_) rfl rfl (fun W hW => ?_) ?_; rotate_left; (go_simp; first | done | with_reducible rfl); simp only [Act.put, List.setIfInBounds_toArray, List.set_cons_zero, List.set_cons_succ])
  iterate 10 (refine wpE_no rfl (by rfl) ?_; simp only [Act.put, List.setIfInBounds_toArray, List.set_cons_zero, List.set_cons_succ])
  iterate 1 (refine wpE_op (v := ?_) rfl rfl (fun W hW => ?_) ?_; rotate_left; (go_simp; first | done | with_reducible rfl); simp only [Act.put, List.setIfInBounds_toArray, List.set_cons_zero, List.set_cons_succ])
  refine wpE_nil ⟨fun _ => (Below.refl _ _).drew, wpSp_nil ?_⟩
  go_wp2_with fail
  exact ⟨_, results_tmp2 rfl _ _ _, rfl, hbel0.drew⟩
set_option maxRecDepth 100000 in
set_option maxHeartbeats 2000000 in
theorem prod_ne (p q C D : Nat) (Ns Ms : List Nat) (w : World) (h : IsMat w p C Ns) (h' : IsMat w q D Ms) (hC : C ≠ Ms.length) :
    Calls Tryd.prog 22 #[ptr p, ptr q] w fun e w' => e = pair (.pointer none) 1 ∧ Below w.heap.size w w' := by
  obtain ⟨h1, h2, A, c, vs, hB, hc, hr, hs⟩ := id h
  obtain ⟨h1', h2', A', c', vs', hB', hc', hr', hs'⟩ := id h'
  have e0 : ((C : Int) != ((Ms.length : Nat) : Int)) = true := by simp; omega
  have HCM := Lib.hid hC; clear hC
  refine (callsIn_wide (n := 9)).1 (callsIn_of_wp_marks Tryd.func22 rfl trivial (wpIn_wide.2 ?_) rfl)
  simp only [Tryd.ntmps22, List.size_toArray, List.length_cons, List.length_nil, Nat.reduceAdd, Nat.reduceSub, Array.replicate_succ, Array.replicate_zero, List.push_toArray, List.append_toArray, List.nil_append, List.cons_append]
  go_wp2_with fail
  refine abs1 fun W0 hO0 hbel0 hz => ?_
  have HZ := Lib.hid hz; clear hz
  have o0 := hO0.cell 0
  have m0 := onB hbel0 (hB.cell 0)
  have n1 := onB hbel0 (hB'.cell 1)
  refine wp_spine (fun W => Below W0.heap.size W0 W) [0, 1, 2, 3, 4, 5, 6, 7, 8, 9, 10, 11, 12, 13, 14, 15, 16, 17] [] (by kernel_rfl) (by kernel_rfl) ?_
  iterate 3 (refine wpE_op (v := ?_) rfl rfl (fun W hW => ?_) ?_; rotate_left; (go_simp; first | done | with_reducible rfl); simp only [Act.put, List.setIfInBounds_toArray, List.set_cons_zero, List.set_cons_succ])
  iterate 2 (refine wpE_yes (v := ?_) rfl (by rfl) (fun W hW => ?_) ?_; rotate_left; (have x1 := onB hW o0; go_simp; first | done | with_reducible rfl); simp only [Act.put, List.setIfInBounds_toArray, List.set_cons_zero, List.set_cons_succ])
  iterate 2 (refine wpE_op (v := ?_) rfl rfl (fun W hW => ?_) ?_; rotate_left; (go_simp; first | done | with_reducible rfl); simp only [Act.put, List.setIfInBounds_toArray, List.set_cons_zero, List.set_cons_succ])
  iterate 10 (refine wpE_yes (v := ?_) rfl (by rfl) (fun W hW => ?_) ?_; rotate_left; (have x1 := onB hW o0; have x2 := onB hW m0; have x3 := onB hW n1; go_simp; first | done | with_reducible rfl); simp only [Act.put, List.setIfInBounds_toArray, List.set_cons_zero, List.set_cons_succ])
  iterate 1 (refine wpE_op (v := ?_) rfl rfl (fun W hW => ?_) ?_; rotate_left; (go_simp; first | done | with_reducible rfl); simp only [Act.put, List.setIfInBounds_toArray, List.set_cons_zero, List.set_cons_succ])
  refine wpE_nil ⟨fun _ => (Below.refl _ _).drew, wpSp_nil ?_⟩
  go_wp2_with fail
  exact ⟨_, results_tmp2 rfl _ _ _, rfl, hbel0.drew⟩
set_option maxRecDepth 100000 in
theorem trans_nil (w : World) :
    Calls Tryd.prog 20 #[.pointer none] w fun e w' => e = .returned (.pointer none) ∧ w = w' := by
  go_enter Tryd.func20, Tryd.ntmps20
  go_wp2
  go_ret
  exact ⟨rfl, rfl⟩
end Go.Proofs.YtjlcnbfkblmoeaaDoor
