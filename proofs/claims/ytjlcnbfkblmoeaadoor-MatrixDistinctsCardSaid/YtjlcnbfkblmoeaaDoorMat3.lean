import Derived.Test.YtjlcnbfkblmoeaaDoorMat2
namespace Go.Proofs.YtjlcnbfkblmoeaaDoor
open Go.RowKit

/-- The ones of the rows below k. -/
def onesTo (Ns : List Nat) (k : Nat) : Nat := ((Ns.take k).map card).sum
theorem onesTo_succ {Ns : List Nat} {k : Nat} (h : k < Ns.length) : onesTo Ns (k + 1) = onesTo Ns k + card Ns[k] := by
  unfold onesTo
  rw [List.take_add_one, List.getElem?_eq_getElem h, List.map_append, List.sum_append]
  simp
set_option maxRecDepth 100000 in
set_option maxHeartbeats 400000 in
theorem onesm_any (p C : Nat) (Ns : List Nat) (w : World) (h : IsMat w p C Ns) (hT : Tab w) :
    Calls Tryd.prog 42 #[ptr p] w fun e w' => e = .returned (.int .i64 (onesTo Ns Ns.length)) ∧ Below w.heap.size w w' := by
  obtain ⟨h1, h2, A, c, vs, hB, hc, hr, hs⟩ := id h
  have HR := hideC (rows_any p C Ns w h)
  go_enter Tryd.func42, Tryd.ntmps42
  go_wp2_with (go_at_call 28; refine HR.out.mono ?_; rintro e w' ⟨rfl, rfl⟩)
  go_loopw [3, 7] (fun n i wr => ∃ k : Nat, k ≤ Ns.length ∧ i = .int .i64 k ∧ n = .int .i64 (onesTo Ns k) ∧ onesTo Ns k ≤ 4096 * k ∧ Below w.heap.size w wr) (fun _ i _ => Ns.length - (intOf i).toNat)
  case atStart => exact ⟨0, Nat.zero_le _, rfl, by simp [onesTo], by simp [onesTo], Below.refl _ _⟩
  case round =>
    obtain ⟨k, hk, rfl, rfl, hle, hbel⟩ := hrel
    by_cases hlt : k < Ns.length
    · have hstep := onesTo_succ hlt
      obtain ⟨A1, c1, hv, hset⟩ := hs.at_ hlt
      obtain ⟨g, off, rfl, hg, hcell⟩ := hr (by rw [hs.1]; omega)
      have cv := onB hbel (hcell k _ hv)
      have cm := onB hbel (hB.cell 1)
      have hcard := card_le (N := Ns[k]) (by obtain ⟨_, _, _, x, _⟩ := hset; exact x)
      clear hB hcell hr hs hv h
      have HS := Lib.hid hstep; clear hstep
      go_wp2_with (go_at_call 75; refine (len_any _ _ _ (hset.below hbel)).mono ?_; rintro e w' ⟨rfl, hb1⟩)
      exact ⟨⟨k + 1, by omega, by go_num, by rw [HS.out]; go_num, by rw [HS.out]; omega, hbel.trans (hb1.mono hbel.size)⟩, by simp [intOf]; omega⟩
    · obtain rfl : k = Ns.length := by omega
      clear hB hr hs h
      go_wp2
      go_ret
      exact ⟨rfl, hbel⟩
set_option maxRecDepth 100000 in
theorem onesm_nil (w : World) :
    Calls Tryd.prog 42 #[.pointer none] w fun e w' => e = .returned (.int .i64 0) ∧ Below w.heap.size w w' := by
  have HR := hideC (rows_nil w)
  go_enter Tryd.func42, Tryd.ntmps42
  go_wp2_with (go_at_call 28; refine HR.out.mono ?_; rintro e w' ⟨rfl, rfl⟩)
  go_loopw [3, 7] (fun n i wr => i = .int .i64 0 ∧ n = .int .i64 0 ∧ wr = w) (fun _ i _ => 0)
  case atStart => exact ⟨rfl, rfl, rfl⟩
  case round =>
    obtain ⟨rfl, rfl, rfl⟩ := hrel
    go_wp2
    go_ret
    exact ⟨rfl, Below.refl _ _⟩

set_option maxRecDepth 100000 in
set_option maxHeartbeats 1000000 in
theorem fits_any (p q C D : Nat) (Ns Ms : List Nat) (w : World) (h : IsMat w p C Ns) (h' : IsMat w q D Ms) :
    Calls Tryd.prog 71 #[ptr p, ptr q] w fun e w' => e = .returned (.bool (decide (C = D ∧ Ns.length = Ms.length))) ∧ Below w.heap.size w w' := by
  obtain ⟨h1, h2, A, c, vs, hB, hc, hr, hs⟩ := id h
  obtain ⟨h1', h2', A', c', vs', hB', hc', hr', hs'⟩ := id h'
  have a0 := hB.cell 0
  have a1 := hB.cell 1
  have b0 := hB'.cell 0
  have b1 := hB'.cell 1
  clear hB hB' hr hr' hs hs' h h'
  by_cases hC : C = D
  · have e0 : ((C : Int) == (D : Int)) = true := by simp [hC]
    by_cases hL : Ns.length = Ms.length
    · have e1 : (((Ns.length : Nat) : Int) == ((Ms.length : Nat) : Int)) = true := by simp [hL]
      have H0 := Lib.hid hC; have H1 := Lib.hid hL; clear hC hL
      go_enter Tryd.func71, Tryd.ntmps71
      go_wp2_with fail
      refine wp_spine (fun W => Below w.heap.size w W) [0, 1, 2, 3, 4, 5, 6, 7, 8, 9, 10, 11, 12, 13, 14, 15, 16, 17, 18, 19, 20, 21, 22, 23, 24, 25, 26, 27, 28, 29, 30] [] (by kernel_rfl) (by kernel_rfl) ?_
      iterate 3 (refine wpE_op (v := ?_) rfl rfl (fun W hW => ?_) ?_; rotate_left; (go_simp; first | done | with_reducible rfl); simp only [Act.put, List.setIfInBounds_toArray, List.set_cons_zero, List.set_cons_succ])
      iterate 2 (refine wpE_yes (v := ?_) rfl (by rfl) (fun W hW => ?_) ?_; rotate_left; (go_simp; first | done | with_reducible rfl); simp only [Act.put, List.setIfInBounds_toArray, List.set_cons_zero, List.set_cons_succ])
      iterate 2 (refine wpE_op (v := ?_) rfl rfl (fun W hW => ?_) ?_; rotate_left; (go_simp; first | done | with_reducible rfl); simp only [Act.put, List.setIfInBounds_toArray, List.set_cons_zero, List.set_cons_succ])
      iterate 9 (refine wpE_yes (v := ?_) rfl (by rfl) (fun W hW => ?_) ?_; rotate_left; (have x1 := onB hW a0; have x2 := onB hW a1; have x3 := onB hW b0; have x4 := onB hW b1; go_simp; first | done | with_reducible rfl); simp only [Act.put, List.setIfInBounds_toArray, List.set_cons_zero, List.set_cons_succ])
      iterate 2 (refine wpE_op (v := ?_) rfl rfl (fun W hW => ?_) ?_; rotate_left; (go_simp; first | done | with_reducible rfl); simp only [Act.put, List.setIfInBounds_toArray, List.set_cons_zero, List.set_cons_succ])
      iterate 11 (refine wpE_yes (v := ?_) rfl (by rfl) (fun W hW => ?_) ?_; rotate_left; (have x1 := onB hW a0; have x2 := onB hW a1; have x3 := onB hW b0; have x4 := onB hW b1; go_simp; first | done | with_reducible rfl); simp only [Act.put, List.setIfInBounds_toArray, List.set_cons_zero, List.set_cons_succ])
      iterate 2 (refine wpE_op (v := ?_) rfl rfl (fun W hW => ?_) ?_; rotate_left; (go_simp; first | done | with_reducible rfl); simp only [Act.put, List.setIfInBounds_toArray, List.set_cons_zero, List.set_cons_succ])
      refine wpE_nil ⟨fun _ => (Below.refl _ _).drew, wpSp_nil ?_⟩
      go_wp2_with fail
      go_ret
      exact ⟨ret_bool (by rw [eq_comm, decide_eq_true_eq]; exact ⟨H0.out, H1.out⟩), (Below.refl _ _).drew⟩
    · have e1 : (((Ns.length : Nat) : Int) == ((Ms.length : Nat) : Int)) = false := by simp; omega
      have H0 := Lib.hid hC; have H1 := Lib.hid hL; clear hC hL
      go_enter Tryd.func71, Tryd.ntmps71
      go_wp2_with fail
      refine wp_spine (fun W => Below w.heap.size w W) [0, 1, 2, 3, 4, 5, 6, 7, 8, 9, 10, 11, 12, 13, 14, 15, 16, 17, 18, 19, 20, 21, 22, 23, 24, 25, 26, 27, 28, 29, 30] [] (by kernel_rfl) (by kernel_rfl) ?_
      iterate 3 (refine wpE_op (v := ?_) rfl rfl (fun W hW => ?_) ?_; rotate_left; (go_simp; first | done | with_reducible rfl); simp only [Act.put, List.setIfInBounds_toArray, List.set_cons_zero, List.set_cons_succ])
      iterate 2 (refine wpE_yes (v := ?_) rfl (by rfl) (fun W hW => ?_) ?_; rotate_left; (go_simp; first | done | with_reducible rfl); simp only [Act.put, List.setIfInBounds_toArray, List.set_cons_zero, List.set_cons_succ])
      iterate 2 (refine wpE_op (v := ?_) rfl rfl (fun W hW => ?_) ?_; rotate_left; (go_simp; first | done | with_reducible rfl); simp only [Act.put, List.setIfInBounds_toArray, List.set_cons_zero, List.set_cons_succ])
      iterate 9 (refine wpE_yes (v := ?_) rfl (by rfl) (fun W hW => ?_) ?_; rotate_left; (have x1 := onB hW a0; have x2 := onB hW a1; have x3 := onB hW b0; have x4 := onB hW b1; go_simp; first | done | with_reducible rfl); simp only [Act.put, List.setIfInBounds_toArray, List.set_cons_zero, List.set_cons_succ])
      iterate 2 (refine wpE_op (v := ?_) rfl rfl (fun W hW => ?_) ?_; rotate_left; (go_simp; first | done | with_reducible rfl); simp only [Act.put, List.setIfInBounds_toArray, List.set_cons_zero, List.set_cons_succ])
      iterate 11 (refine wpE_yes (v := ?_) rfl (by rfl) (fun W hW => ?_) ?_; rotate_left; (have x1 := onB hW a0; have x2 := onB hW a1; have x3 := onB hW b0; have x4 := onB hW b1; go_simp; first | done | with_reducible rfl); simp only [Act.put, List.setIfInBounds_toArray, List.set_cons_zero, List.set_cons_succ])
      iterate 2 (refine wpE_op (v := ?_) rfl rfl (fun W hW => ?_) ?_; rotate_left; (go_simp; first | done | with_reducible rfl); simp only [Act.put, List.setIfInBounds_toArray, List.set_cons_zero, List.set_cons_succ])
      refine wpE_nil ⟨fun _ => (Below.refl _ _).drew, wpSp_nil ?_⟩
      go_wp2_with fail
      go_ret
      exact ⟨ret_bool (by rw [eq_comm, decide_eq_false_iff_not]; exact fun h => H1.out h.2), (Below.refl _ _).drew⟩
  · have e0 : ((C : Int) == (D : Int)) = false := by simp; omega
    have H0 := Lib.hid hC; clear hC
    go_enter Tryd.func71, Tryd.ntmps71
    go_wp2_with fail
    refine wp_spine (fun W => Below w.heap.size w W) [0, 1, 2, 3, 4, 5, 6, 7, 8, 9, 10, 11, 12, 13, 14, 15, 16, 17, 18, 19, 20, 21, 22, 23, 24, 25, 26, 27, 28, 29, 30] [] (by kernel_rfl) (by kernel_rfl) ?_
    iterate 3 (refine wpE_op (v := ?_) rfl rfl (fun W hW => ?_) ?_; rotate_left; (go_simp; first | done | with_reducible rfl); simp only [Act.put, List.setIfInBounds_toArray, List.set_cons_zero, List.set_cons_succ])
    iterate 2 (refine wpE_yes (v := ?_) rfl (by rfl) (fun W hW => ?_) ?_; rotate_left; (go_simp; first | done | with_reducible rfl); simp only [Act.put, List.setIfInBounds_toArray, List.set_cons_zero, List.set_cons_succ])
    iterate 2 (refine wpE_op (v := ?_) rfl rfl (fun W hW => ?_) ?_; rotate_left; (go_simp; first | done | with_reducible rfl); simp only [Act.put, List.setIfInBounds_toArray, List.set_cons_zero, List.set_cons_succ])
    iterate 9 (refine wpE_yes (v := ?_) rfl (by rfl) (fun W hW => ?_) ?_; rotate_left; (have x1 := onB hW a0; have x2 := onB hW a1; have x3 := onB hW b0; have x4 := onB hW b1; go_simp; first | done | with_reducible rfl); simp only [Act.put, List.setIfInBounds_toArray, List.set_cons_zero, List.set_cons_succ])
    iterate 2 (refine wpE_op (v := ?_) rfl rfl (fun W hW => ?_) ?_; rotate_left; (go_simp; first | done | with_reducible rfl); simp only [Act.put, List.setIfInBounds_toArray, List.set_cons_zero, List.set_cons_succ])
    iterate 11 (refine wpE_no rfl (by rfl) ?_; simp only [Act.put, List.setIfInBounds_toArray, List.set_cons_zero, List.set_cons_succ])
    iterate 2 (refine wpE_op (v := ?_) rfl rfl (fun W hW => ?_) ?_; rotate_left; (go_simp; first | done | with_reducible rfl); simp only [Act.put, List.setIfInBounds_toArray, List.set_cons_zero, List.set_cons_succ])
    refine wpE_nil ⟨fun _ => (Below.refl _ _).drew, wpSp_nil ?_⟩
    go_wp2_with fail
    go_ret
    exact ⟨ret_bool (by rw [eq_comm, decide_eq_false_iff_not]; exact fun h => H0.out h.1), (Below.refl _ _).drew⟩
set_option maxRecDepth 100000 in
set_option maxHeartbeats 1000000 in
theorem fits_nil (m : Value) (w : World) :
    Calls Tryd.prog 71 #[.pointer none, m] w fun e w' => e = .returned (.bool false) ∧ Below w.heap.size w w' := by
  go_enter Tryd.func71, Tryd.ntmps71
  go_wp2_with fail
  refine wp_spine (fun W => Below w.heap.size w W) [0, 1, 2, 3, 4, 5, 6, 7, 8, 9, 10, 11, 12, 13, 14, 15, 16, 17, 18, 19, 20, 21, 22, 23, 24, 25, 26, 27, 28, 29, 30] [] (by kernel_rfl) (by kernel_rfl) ?_
  iterate 3 (refine wpE_op (v := ?_) rfl rfl (fun W hW => ?_) ?_; rotate_left; (go_simp; first | done | with_reducible rfl); simp only [Act.put, List.setIfInBounds_toArray, List.set_cons_zero, List.set_cons_succ])
  iterate 2 (refine wpE_no rfl (by rfl) ?_; simp only [Act.put, List.setIfInBounds_toArray, List.set_cons_zero, List.set_cons_succ])
  iterate 2 (refine wpE_op (v := ?_) rfl rfl (fun W hW => ?_) ?_; rotate_left; (go_simp; first | done | with_reducible rfl); simp only [Act.put, List.setIfInBounds_toArray, List.set_cons_zero, List.set_cons_succ])
  iterate 9 (refine wpE_no rfl (by rfl) ?_; simp only [Act.put, List.setIfInBounds_toArray, List.set_cons_zero, List.set_cons_succ])
  iterate 2 (refine wpE_op (v := ?_) rfl rfl (fun W hW => ?_) ?_; rotate_left; (go_simp; first | done | with_reducible rfl); simp only [Act.put, List.setIfInBounds_toArray, List.set_cons_zero, List.set_cons_succ])
  iterate 11 (refine wpE_no rfl (by rfl) ?_; simp only [Act.put, List.setIfInBounds_toArray, List.set_cons_zero, List.set_cons_succ])
  iterate 2 (refine wpE_op (v := ?_) rfl rfl (fun W hW => ?_) ?_; rotate_left; (go_simp; first | done | with_reducible rfl); simp only [Act.put, List.setIfInBounds_toArray, List.set_cons_zero, List.set_cons_succ])
  refine wpE_nil ⟨fun _ => (Below.refl _ _).drew, wpSp_nil ?_⟩
  go_wp2_with fail
  go_ret
  exact ⟨rfl, (Below.refl _ _).drew⟩
set_option maxRecDepth 100000 in
set_option maxHeartbeats 1000000 in
theorem fits_nil2 (p : Nat) (w : World) :
    Calls Tryd.prog 71 #[ptr p, .pointer none] w fun e w' => e = .returned (.bool false) ∧ Below w.heap.size w w' := by
  go_enter Tryd.func71, Tryd.ntmps71
  go_wp2_with fail
  refine wp_spine (fun W => Below w.heap.size w W) [0, 1, 2, 3, 4, 5, 6, 7, 8, 9, 10, 11, 12, 13, 14, 15, 16, 17, 18, 19, 20, 21, 22, 23, 24, 25, 26, 27, 28, 29, 30] [] (by kernel_rfl) (by kernel_rfl) ?_
  iterate 3 (refine wpE_op (v := ?_) rfl rfl (fun W hW => ?_) ?_; rotate_left; (go_simp; first | done | with_reducible rfl); simp only [Act.put, List.setIfInBounds_toArray, List.set_cons_zero, List.set_cons_succ])
  iterate 2 (refine wpE_yes (v := ?_) rfl (by rfl) (fun W hW => ?_) ?_; rotate_left; (go_simp; first | done | with_reducible rfl); simp only [Act.put, List.setIfInBounds_toArray, List.set_cons_zero, List.set_cons_succ])
  iterate 2 (refine wpE_op (v := ?_) rfl rfl (fun W hW => ?_) ?_; rotate_left; (go_simp; first | done | with_reducible rfl); simp only [Act.put, List.setIfInBounds_toArray, List.set_cons_zero, List.set_cons_succ])
  iterate 9 (refine wpE_no rfl (by rfl) ?_; simp only [Act.put, List.setIfInBounds_toArray, List.set_cons_zero, List.set_cons_succ])
  iterate 2 (refine wpE_op (v := ?_) rfl rfl (fun W hW => ?_) ?_; rotate_left; (go_simp; first | done | with_reducible rfl); simp only [Act.put, List.setIfInBounds_toArray, List.set_cons_zero, List.set_cons_succ])
  iterate 11 (refine wpE_no rfl (by rfl) ?_; simp only [Act.put, List.setIfInBounds_toArray, List.set_cons_zero, List.set_cons_succ])
  iterate 2 (refine wpE_op (v := ?_) rfl rfl (fun W hW => ?_) ?_; rotate_left; (go_simp; first | done | with_reducible rfl); simp only [Act.put, List.setIfInBounds_toArray, List.set_cons_zero, List.set_cons_succ])
  refine wpE_nil ⟨fun _ => (Below.refl _ _).drew, wpSp_nil ?_⟩
  go_wp2_with fail
  go_ret
  exact ⟨rfl, (Below.refl _ _).drew⟩

/-- Each row is within the other's. -/
def withinM (Ns Ms : List Nat) : Prop := ∀ k, k < Ns.length → Ns.getD k 0 &&& Ms.getD k 0 = Ns.getD k 0
instance (Ns Ms : List Nat) : Decidable (withinM Ns Ms) := by unfold withinM; exact inferInstance
set_option maxRecDepth 100000 in
set_option maxHeartbeats 1000000 in
theorem withinm_core (m o : Value) (w : World) (h : Calls Tryd.prog 71 #[m, o] w fun e w' => e = .returned (.bool false) ∧ Below w.heap.size w w') :
    Calls Tryd.prog 33 #[m, o] w fun e w' => e = .returned (.bool false) ∧ Below w.heap.size w w' := by
  have HF := hideC h; clear h
  go_enter Tryd.func33, Tryd.ntmps33
  go_wp2_with (go_at_call 71; refine HF.out.mono ?_; rintro e w' ⟨rfl, hb1⟩)
  go_ret
  exact ⟨rfl, hb1⟩
set_option maxRecDepth 100000 in
set_option maxHeartbeats 1000000 in
theorem withinm_any (p q C D : Nat) (Ns Ms : List Nat) (w : World) (h : IsMat w p C Ns) (h' : IsMat w q D Ms) :
    Calls Tryd.prog 33 #[ptr p, ptr q] w fun e w' => e = .returned (.bool (decide (C = D ∧ Ns.length = Ms.length ∧ withinM Ns Ms))) ∧ Below w.heap.size w w' := by
  have hf := fits_any p q C D Ns Ms w h h'
  by_cases hfit : C = D ∧ Ns.length = Ms.length
  · obtain ⟨h1, h2, A, c, vs, hB, hc, hr, hs⟩ := id h
    obtain ⟨h1', h2', A', c', vs', hB', hc', hr', hs'⟩ := id h'
    rw [decide_eq_true hfit] at hf
    have HF := hideC hf; clear hf
    have HFIT := Lib.hid hfit; clear hfit
    go_enter Tryd.func33, Tryd.ntmps33
    go_wp2_with fail
    refine HF.out.mono ?_
    rintro e w1 ⟨rfl, hb1⟩
    have a1 := onB hb1 (hB.cell 1)
    go_wp2_with fail
    go_loopw [16] (fun i wr => ∃ k : Nat, k ≤ Ns.length ∧ i = .int .i64 k ∧ (∀ j, j < k → Ns.getD j 0 &&& Ms.getD j 0 = Ns.getD j 0) ∧ Below w.heap.size w wr) (fun i _ => Ns.length - (intOf i).toNat)
    case atStart => exact ⟨0, Nat.zero_le _, rfl, fun j hj => absurd hj (by omega), hb1⟩
    case round =>
      obtain ⟨k, hk, rfl, heq, hbel⟩ := hrel
      have HEQ := Lib.hid heq; clear heq
      by_cases hlt : k < Ns.length
      · have hlt' : k < Ms.length := by have := HFIT.out.2; omega
        obtain ⟨A1, c1, hv, hset⟩ := hs.at_ hlt
        obtain ⟨A2, c2, hv', hset'⟩ := hs'.at_ hlt'
        obtain ⟨g, off, rfl, hg, hcell⟩ := hr (by rw [hs.1]; omega)
        obtain ⟨g', off', rfl, hg', hcell'⟩ := hr' (by rw [hs'.1]; omega)
        have cv := onB hbel (hcell k _ hv)
        have cv' := onB hbel (hcell' k _ hv')
        have b1 := onB hbel (hB'.cell 1)
        clear hB hB' hcell hcell' hr hr' hs hs' hv hv' h h'
        have hsb := hset.below hbel
        have hsb' := hset'.below hbel
        go_wp2_with fail
        refine abs1 fun W1 hX hbx hz1 => ?_
        have cX := hX.cell 0
        have cv'2 := onB hbx cv'
        have b12 := onB hbx b1
        have hbel1 := hbel.trans (hbx.mono hbel.size)
        by_cases he : Ns[k] &&& Ms[k] = Ns[k]
        · have hcall := within_any _ _ _ _ W1.drew ((hsb.below hbx).below ((Below.refl _ _).drew)) ((hsb'.below hbx).below ((Below.refl _ _).drew))
          rw [decide_eq_true he] at hcall
          have HC := hideC hcall; clear hcall
          have HE := Lib.hid he; clear he
          have HZ1 := Lib.hid hz1; clear hz1
          refine wp_spine (fun W => Below W1.heap.size W1 W) [0, 1, 2, 3, 4, 5, 6, 7] [8, 9] (by kernel_rfl) (by kernel_rfl) ?_
          iterate 8 (refine wpE_op (v := ?_) rfl rfl (fun W hW => ?_) ?_; rotate_left; (have x1 := onB hW cX; have x2 := onB hW cv'2; have x3 := onB hW b12; go_simp; first | done | with_reducible rfl); simp only [Act.put, List.setIfInBounds_toArray, List.set_cons_zero, List.set_cons_succ])
          refine wpE_nil ⟨fun h => (by cases h), wpSp_op rfl (Below.refl _ _).drew ?_⟩
          go_wp2_with fail
          refine HC.out.mono ?_
          rintro e w2 ⟨rfl, hb2⟩
          have hb3 : Below W1.heap.size W1 w2 := (Below.refl _ _).drew.trans hb2
          go_wp2_with fail
          refine nxt_op rfl hb3 ?_
          go_wp2_with fail
          refine nxt_nil ?_
          go_wp2_with fail
          exact ⟨⟨k + 1, by omega, by go_num, fun j hj => by
            by_cases h : j = k
            · rw [h, List.getD_eq_getElem?_getD, List.getD_eq_getElem?_getD, List.getElem?_eq_getElem hlt, List.getElem?_eq_getElem hlt']; exact HE.out
            · exact HEQ.out j (by omega), hbel1.trans (hb3.mono hbel1.size)⟩, by simp [intOf]; omega⟩
        · have hcall := within_any _ _ _ _ W1.drew ((hsb.below hbx).below ((Below.refl _ _).drew)) ((hsb'.below hbx).below ((Below.refl _ _).drew))
          rw [decide_eq_false he] at hcall
          have HC := hideC hcall; clear hcall
          have HE := Lib.hid he; clear he
          have HZ1 := Lib.hid hz1; clear hz1
          refine wp_spine (fun W => Below W1.heap.size W1 W) [0, 1, 2, 3, 4, 5, 6, 7] [8, 9] (by kernel_rfl) (by kernel_rfl) ?_
          iterate 8 (refine wpE_op (v := ?_) rfl rfl (fun W hW => ?_) ?_; rotate_left; (have x1 := onB hW cX; have x2 := onB hW cv'2; have x3 := onB hW b12; go_simp; first | done | with_reducible rfl); simp only [Act.put, List.setIfInBounds_toArray, List.set_cons_zero, List.set_cons_succ])
          refine wpE_nil ⟨fun h => (by cases h), wpSp_op rfl (Below.refl _ _).drew ?_⟩
          go_wp2_with fail
          refine HC.out.mono ?_
          rintro e w2 ⟨rfl, hb2⟩
          have hb3 : Below W1.heap.size W1 w2 := (Below.refl _ _).drew.trans hb2
          go_wp2_with fail
          refine nxt_op rfl hb3 ?_
          go_wp2_with fail
          refine nxt_nil ?_
          go_wp2_with fail
          go_ret
          exact ⟨ret_bool (by rw [eq_comm, decide_eq_false_iff_not]; intro h; apply HE.out; have := h.2.2 k hlt; rwa [List.getD_eq_getElem?_getD, List.getD_eq_getElem?_getD, List.getElem?_eq_getElem hlt, List.getElem?_eq_getElem hlt'] at this), hbel1.trans (hb3.mono hbel1.size)⟩
      · obtain rfl : k = Ns.length := by omega
        clear hB hr hs h hB' hr' hs' h'
        go_wp2
        go_ret
        exact ⟨ret_bool (by rw [eq_comm, decide_eq_true_eq]; exact ⟨HFIT.out.1, HFIT.out.2, HEQ.out⟩), hbel⟩
  · rw [decide_eq_false hfit] at hf
    have e : decide (C = D ∧ Ns.length = Ms.length ∧ withinM Ns Ms) = false := by
      rw [decide_eq_false_iff_not]; exact fun h => hfit ⟨h.1, h.2.1⟩
    rw [e]
    exact withinm_core _ _ w hf
end Go.Proofs.YtjlcnbfkblmoeaaDoor
