/-
  The law CoverTurns.
-/
import Derived.Test.YthnphekhgaefdaaDoorCvT
import Derived.Test.YthnphekhgaefdaaDoorLaw
import Derived.Test.YthnphekhgaefdaaDoorLaw3
import Derived.Deep.DeepCutAuto
import Derived.Deep.CutBlock
namespace Go.Proofs.YthnphekhgaefdaaDoor
open Go.RowKit

theorem clos_100 {C : Nat} (Ns : List Nat) (hC : C ≤ 5) : ((closL C Ns).length : Int) ≤ 100 := by
  have h1 := closL_len C Ns
  have h2 : 2 ^ C ≤ 2 ^ 5 := Nat.pow_le_pow_right (by omega) hC
  omega
namespace Mix2
set_option maxRecDepth 100000 in
set_option maxHeartbeats 8000000 in
theorem turns_walk (v : Value) (R C : Nat) (zs : List Int) (w : World) (hT : Tab w) (h : IsRaw w v R C zs) :
    Calls Tryd.prog 4 #[v] w fun e w' => e = .returned (.bool true) ∧ Below w.heap.size w w' := by
  have hbd := h.bd
  obtain ⟨r, c, A0, d0, hv, _⟩ := id h
  subst hv
  have HIN := hideC h; clear h
  go_enter Tryd.func4, Tryd.ntmps4
  go_wp2_with fail
  refine absC1 fun W0 hX hbel0 hz => ?_
  clear hz
  refine (awake_any48 W0 (hT.below hbel0)).mono ?_
  rintro e w1 ⟨rfl, hb1⟩
  have b1 := hbel0.trans (hb1.mono hbel0.size)
  replace hX := hX.below hb1 hX.lt
  have x0 := hX.cell 0
  have x1 := hX.cell 1
  have x2 := hX.cell 2
  have HM := hideC (make_raw _ R C zs w1 (HIN.out.below b1))
  go_wp2_with fail
  refine HM.out.mono ?_
  rintro e w2 ⟨A2, c2, rfl, hI, hb2⟩
  have b2 := b1.trans (hb2.mono b1.size)
  obtain ⟨M, hMd⟩ : ∃ M, M = rawM R C zs := ⟨_, rfl⟩
  have hML : M.length = R := by rw [hMd, mat_len]
  rw [← hMd] at hI
  subst hML
  obtain ⟨hR5, hC5⟩ := hbd
  have hnl : (nsOf C M).length = M.length := nsTo_len ..
  have hin := rowsIn_nsOf C M (by omega)
  clear hMd HM HIN hbel0 hb1 hb2 b1 x0 x1 x2 hX
  go_wp2_with fail
  refine (matrixl_any C A2 c2 M _ hI (by omega) (by omega)).mono ?_
  rintro e w3 ⟨q, rfl, hq, -, hb3⟩
  have b3 := b2.trans (hb3.mono b2.size)
  obtain ⟨Ns, hNs⟩ : ∃ N, N = nsOf C M := ⟨_, rfl⟩
  rw [← hNs] at hq hin hnl
  have hN5 : Ns.length ≤ 5 := by omega
  have hl : Ns.length ≤ 4096 := by omega
  clear hNs hI b2 hb3 hnl hR5
  have hM1 := minimal_any q C Ns 100 w3 hq hin hN5 hC5 (clos_100 Ns hC5) (hT.below b3)
  have hlen1 := (minK_spec (C := C) hl hin).1
  have HL1 := Lib.hid hlen1
  have HM1 := hideC hM1
  clear hM1 hlen1
  go_wp2_with fail
  with_reducible refine HM1.out.mono ?_
  rintro e w4 ⟨u1, r1, A1, n1, c1, rfl, hu1, hr1, -, hb4⟩
  have b4 := b3.trans (hb4.mono b3.size)
  have hq4 := hq.below hb4
  clear HM1 hb4 hq b3 hr1
  go_upto_region 7 with fail
  refine abs2 fun w5 h4 h5 hb5 hz => ?_
  clear hz
  have b5 := b4.trans (hb5.mono b4.size)
  have hq5 := hq4.below hb5
  have hu15 := hu1.below hb5
  obtain ⟨g4, hg4⟩ : ∃ x, x = w4.heap.size := ⟨_, rfl⟩
  rw [← hg4] at h4 h5 ⊢
  clear hg4 hb5 hq4 hu1 b4
  have HTR := hideC (trans_any q C Ns w5 hq5)
  go_wp2_with fail
  with_reducible refine HTR.out.mono ?_
  rintro e w6 ⟨q2, rfl, hq2, hb6⟩
  have b6 := b5.trans (hb6.mono b5.size)
  have hq6 := hq5.below hb6
  have hu16 := hu15.below hb6
  have h46 := h4.below hb6 h4.lt
  clear HTR hb6 hq5 hu15 h4 h5 b5
  have hin2 := rows_trans (C := C) (Ns := Ns) hl
  have hlT : (mtrans C Ns C).length = C := mtrans_len ..
  have hM2 := minimal_any q2 Ns.length (mtrans C Ns C) 100 w6 hq2 hin2 (by rw [hlT]; exact hC5) hN5 (clos_100 _ hN5) (hT.below b6)
  have hlen2 := (minK_spec (C := Ns.length) (Ns := mtrans C Ns C) (by rw [hlT]; omega) hin2).1
  have hss := sizeM_trans hl (show C ≤ 4096 by omega) hin
  have hml := minC_len (C := Ns.length) (Ns := mtrans C Ns C) hN5
  have htv := turn_valid hl (show C ≤ 4096 by omega) hin (Nat.le_trans hml (by decide))
  obtain ⟨NT, hNT⟩ : ∃ N, N = mtrans C Ns C := ⟨_, rfl⟩
  rw [← hNT] at hM2 hlen2 hss hml htv hlT
  obtain ⟨K1, hK1⟩ : ∃ K, K = minC C Ns := ⟨_, rfl⟩
  obtain ⟨K2, hK2⟩ : ∃ K, K = minC Ns.length NT := ⟨_, rfl⟩
  rw [← hK2] at hM2 hlen2 htv hml
  have hKK : K1.length = K2.length := by rw [hK1, HL1.out, hlen2, hss]
  rw [← hK1] at hu16
  have HM2 := hideC hM2
  have HTV := Lib.hid htv
  have HNT := Lib.hid hNT
  have hinr := rowsIn_clo (C := Ns.length) (Ns := NT) (M := K2) (by rw [hK2]; exact minC_clo)
  have HINR := Lib.hid hinr
  have HHT := Lib.hid hlT; have HHM := Lib.hid hml; have HKK := Lib.hid hKK
  clear hM2 hlen2 hss htv hNT hK1 hK2 HL1 hin2 hq2 hlT hml hKK hinr
  go_wp2_with fail
  with_reducible refine HM2.out.mono ?_
  rintro e w7 ⟨u2, r2, A3, n3, c3, rfl, hu2, hr2, -, hb7⟩
  have b7 := b6.trans (hb7.mono b6.size)
  have hq7 := hq6.below hb7
  have hu17 := hu16.below hb7
  have h47 := h46.below hb7 h46.lt
  clear HM2 hb7 hq6 hu16 h46 b6
  go_upto_region 8 with fail
  refine abs2 fun w8 h7 h8 hb8 hz => ?_
  clear hz
  have b8 := b7.trans (hb8.mono b7.size)
  have hq8 := hq7.below hb8
  have hu18 := hu17.below hb8
  have h48 := h47.below hb8 h47.lt
  have hu28 := hu2.below hb8
  have hr28 := hr2.below hb8
  obtain ⟨g7, hg7⟩ : ∃ x, x = w7.heap.size := ⟨_, rfl⟩
  rw [← hg7] at h7 h8 ⊢
  clear hg7 hb8 hq7 hu17 h47 hu2 hr2 b7 h8
  rw [HKK.out] at hu18
  have p0 := h48.cell 0
  have q0 := h7.cell 0
  refine wp_mix (fun V => Below w8.heap.size w8 V) 15 (by kernel_rfl) (by kernel_rfl) (Below.refl _ _).drew ?_
  have hr := (Below.refl w8.heap.size w8).drew
  obtain ⟨w9, hw9⟩ : ∃ V, V = w8.drew := ⟨_, rfl⟩
  rw [← hw9] at hr ⊢
  clear hw9
  (refine m_q 0 (v := ?_) (by kernel_rfl) rfl rfl (fun W hW => ?_) ?_; rotate_left; (go_simp; first | done | with_reducible rfl); simp only [Act.put, List.setIfInBounds_toArray, List.set_cons_zero, List.set_cons_succ]); (refine m_q 1 (v := ?_) (by kernel_rfl) rfl rfl (fun W hW => ?_) ?_; rotate_left; (go_simp; first | done | with_reducible rfl); simp only [Act.put, List.setIfInBounds_toArray, List.set_cons_zero, List.set_cons_succ]); (refine m_q 2 (v := ?_) (by kernel_rfl) rfl rfl (fun W hW => ?_) ?_; rotate_left; (go_simp; first | done | with_reducible rfl); simp only [Act.put, List.setIfInBounds_toArray, List.set_cons_zero, List.set_cons_succ])
  (refine m_yes 3 (v := ?_) (by kernel_rfl) rfl (by rfl) (fun W hW => ?_) ?_; rotate_left; (go_simp; first | done | with_reducible rfl); simp only [Act.put, List.setIfInBounds_toArray, List.set_cons_zero, List.set_cons_succ]); (refine m_yes 4 (v := ?_) (by kernel_rfl) rfl (by rfl) (fun W hW => ?_) ?_; rotate_left; (go_simp; first | done | with_reducible rfl); simp only [Act.put, List.setIfInBounds_toArray, List.set_cons_zero, List.set_cons_succ])
  (refine m_q 5 (v := ?_) (by kernel_rfl) rfl rfl (fun W hW => ?_) ?_; rotate_left; (go_simp; first | done | with_reducible rfl); simp only [Act.put, List.setIfInBounds_toArray, List.set_cons_zero, List.set_cons_succ]); (refine m_q 6 (v := ?_) (by kernel_rfl) rfl rfl (fun W hW => ?_) ?_; rotate_left; (go_simp; first | done | with_reducible rfl); simp only [Act.put, List.setIfInBounds_toArray, List.set_cons_zero, List.set_cons_succ])
  (refine m_yes 7 (v := ?_) (by kernel_rfl) rfl (by rfl) (fun W hW => ?_) ?_; rotate_left; (go_simp; first | done | with_reducible rfl); simp only [Act.put, List.setIfInBounds_toArray, List.set_cons_zero, List.set_cons_succ])
  (refine m_yes 8 (v := ?_) (by kernel_rfl) rfl (by rfl) (fun W hW => ?_) ?_; rotate_left; (have z := onB hW p0; go_simp; first | done | with_reducible rfl); simp only [Act.put, List.setIfInBounds_toArray, List.set_cons_zero, List.set_cons_succ])
  (refine m_yes 10 (v := ?_) (by kernel_rfl) rfl (by rfl) (fun W hW => ?_) ?_; rotate_left; (go_simp; first | done | with_reducible rfl); simp only [Act.put, List.setIfInBounds_toArray, List.set_cons_zero, List.set_cons_succ])
  (refine m_yes 11 (v := ?_) (by kernel_rfl) rfl (by rfl) (fun W hW => ?_) ?_; rotate_left; (have z := onB hW q0; go_simp; first | done | with_reducible rfl); simp only [Act.put, List.setIfInBounds_toArray, List.set_cons_zero, List.set_cons_succ])
  refine m_s1 9 (by kernel_rfl) rfl ?_
  go_wp2_with fail
  with_reducible refine (cols_any u1 K2.length _ w9 (hu18.mat.below hr)).mono ?_
  rintro e w' ⟨rfl, rfl⟩
  go_wp2_with fail
  refine m_keep hr ?_
  refine m_s1 12 (by kernel_rfl) rfl ?_
  go_wp2_with fail
  with_reducible refine (cols_any u2 K2.length _ w9 (hu28.mat.below hr)).mono ?_
  rintro e w' ⟨rfl, rfl⟩
  go_wp2_with fail
  refine m_keep hr ?_
  (refine m_yes 13 (v := ?_) (by kernel_rfl) rfl (by rfl) (fun W hW => ?_) ?_; rotate_left; (go_simp; first | done | with_reducible rfl); simp only [Act.put, List.setIfInBounds_toArray, List.set_cons_zero, List.set_cons_succ])
  (refine m_q 14 (v := ?_) (by kernel_rfl) rfl rfl (fun W hW => ?_) ?_; rotate_left; (go_simp; first | done | with_reducible rfl); simp only [Act.put, List.setIfInBounds_toArray, List.set_cons_zero, List.set_cons_succ])
  refine m_end (by kernel_rfl) ?_
  have b9 := b8.trans (hr.mono b8.size)
  have hq9 := hq8.below hr
  have h79 := h7.below hr h7.lt
  have hu29 := hu28.below hr
  have hr29 := hr28.below hr
  clear p0 q0 hr hq8 h48 h7 hu18 hu28 hr28 b8
  go_upto_region 10 with fail
  have p1 := h79.cell 1
  have p0 := h79.cell 0
  refine wp_mix (fun V => Below w9.heap.size w9 V) 10 (by kernel_rfl) (by kernel_rfl) (Below.refl _ _).drew ?_
  have hr := (Below.refl w9.heap.size w9).drew
  obtain ⟨wa, hwa⟩ : ∃ V, V = w9.drew := ⟨_, rfl⟩
  rw [← hwa] at hr ⊢
  clear hwa
  (refine m_q 0 (v := ?_) (by kernel_rfl) rfl rfl (fun W hW => ?_) ?_; rotate_left; (have z0 := onB hW p0; have z1 := onB hW p1; go_simp; first | done | with_reducible rfl); simp only [Act.put, List.setIfInBounds_toArray, List.set_cons_zero, List.set_cons_succ]); (refine m_q 1 (v := ?_) (by kernel_rfl) rfl rfl (fun W hW => ?_) ?_; rotate_left; (have z0 := onB hW p0; have z1 := onB hW p1; go_simp; first | done | with_reducible rfl); simp only [Act.put, List.setIfInBounds_toArray, List.set_cons_zero, List.set_cons_succ]); (refine m_q 2 (v := ?_) (by kernel_rfl) rfl rfl (fun W hW => ?_) ?_; rotate_left; (have z0 := onB hW p0; have z1 := onB hW p1; go_simp; first | done | with_reducible rfl); simp only [Act.put, List.setIfInBounds_toArray, List.set_cons_zero, List.set_cons_succ]); (refine m_q 4 (v := ?_) (by kernel_rfl) rfl rfl (fun W hW => ?_) ?_; rotate_left; (have z0 := onB hW p0; have z1 := onB hW p1; go_simp; first | done | with_reducible rfl); simp only [Act.put, List.setIfInBounds_toArray, List.set_cons_zero, List.set_cons_succ]); (refine m_q 5 (v := ?_) (by kernel_rfl) rfl rfl (fun W hW => ?_) ?_; rotate_left; (have z0 := onB hW p0; have z1 := onB hW p1; go_simp; first | done | with_reducible rfl); simp only [Act.put, List.setIfInBounds_toArray, List.set_cons_zero, List.set_cons_succ])
  refine m_s1 3 (by kernel_rfl) rfl ?_
  have HT1 := hideC (trans_any r2 Ns.length K2 wa (hr29.mat.below hr))
  go_wp2_with fail
  with_reducible refine HT1.out.mono ?_
  rintro e wb ⟨t1, rfl, ht1, hb⟩
  have hrb := hr.trans (hb.mono hr.size)
  go_wp2_with fail
  refine m_keep hrb ?_
  refine m_s1 6 (by kernel_rfl) rfl ?_
  have HT2 := hideC (trans_any u2 K2.length (usersN Ns.length NT K2) wb (hu29.mat.below hrb))
  go_wp2_with fail
  with_reducible refine HT2.out.mono ?_
  rintro e wd ⟨t2, rfl, ht2, hb2⟩
  have hrd := hrb.trans (hb2.mono hrb.size)
  go_wp2_with fail
  refine m_keep hrd ?_
  (refine m_q 7 (v := ?_) (by kernel_rfl) rfl rfl (fun W hW => ?_) ?_; rotate_left; (go_simp; first | done | with_reducible rfl); simp only [Act.put, List.setIfInBounds_toArray, List.set_cons_zero, List.set_cons_succ])
  refine m_s1 8 (by kernel_rfl) rfl ?_
  have hva := valid_any q t1 t2 C K2.length (usersN Ns.length NT K2).length Ns _ _ wd (hq9.below hrd) (ht1.below hb2) ht2 (rows_trans (C := Ns.length) (Ns := K2) (Nat.le_trans HHM.out (by decide))) (hT.below (b9.trans (hrd.mono b9.size)))
  rw [HTV.out] at hva
  have HVA := hideC hva
  clear hva
  go_wp2_with fail
  with_reducible refine HVA.out.mono ?_
  rintro e we ⟨rfl, hb3⟩
  have hre := hrd.trans (hb3.mono hrd.size)
  go_wp2_with fail
  refine m_keep hre ?_
  (refine m_q 9 (v := ?_) (by kernel_rfl) rfl rfl (fun W hW => ?_) ?_; rotate_left; (go_simp; first | done | with_reducible rfl); simp only [Act.put, List.setIfInBounds_toArray, List.set_cons_zero, List.set_cons_succ])
  refine m_end (by kernel_rfl) ?_
  go_wp2_with fail
  go_ret
  exact ⟨rfl, b9.trans (hre.mono b9.size)⟩
end Mix2
end Go.Proofs.YthnphekhgaefdaaDoor
