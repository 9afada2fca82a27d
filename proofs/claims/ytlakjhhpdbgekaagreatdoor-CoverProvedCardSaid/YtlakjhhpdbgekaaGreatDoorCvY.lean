/-
  The law CoverProved.
-/
import Derived.Test.YtlakjhhpdbgekaaGreatDoorCvX
import Derived.Test.YtlakjhhpdbgekaaGreatDoorRn6
import Derived.Test.YtlakjhhpdbgekaaGreatDoorLaw
import Derived.Test.YtlakjhhpdbgekaaGreatDoorLaw3
import Derived.Deep.DeepCutAuto
import Derived.Deep.CutBlock
namespace Go.Proofs.YtlakjhhpdbgekaaGreatDoor
open Go.RowKit

theorem clos_100 {C : Nat} (Ns : List Nat) (hC : C ≤ 5) : ((closL C Ns).length : Int) ≤ 100 := by
  have h1 := closL_len C Ns
  have h2 : 2 ^ C ≤ 2 ^ 5 := Nat.pow_le_pow_right (by omega) hC
  omega
namespace Mix2
set_option maxRecDepth 100000 in
set_option maxHeartbeats 8000000 in
theorem proved_walk (v : Value) (R C : Nat) (zs : List Int) (w : World) (hT : Tab w) (h : IsRaw w v R C zs) :
    Calls Tryz.prog 8 #[v] w fun e w' => e = .returned (.bool true) ∧ Below w.heap.size w w' := by
  have hbd := h.bd
  obtain ⟨r, c, A0, d0, hv, _⟩ := id h
  subst hv
  have HIN := hideC h; clear h
  go_enter Tryz.func8, Tryz.ntmps8
  go_wp2_with fail
  refine absC1 fun W0 hX hbel0 hz => ?_
  clear hz
  refine (awake_any48 W0 (hT.below hbel0)).mono ?_
  rintro e w1 ⟨rfl, hb1⟩
  have b1 := hbel0.trans (hb1.mono hbel0.size)
  replace hX := hX.below hb1 hX.lt
  have x0 := hX.cell 0
  have x1 := hX.cell 1
  have x2 := hX.cell 2
  have HM := hideC (make_raw _ R C zs w1 (HIN.out.below b1))
  go_wp2_with fail
  refine HM.out.mono ?_
  rintro e w2 ⟨A2, c2, rfl, hI, hb2⟩
  have b2 := b1.trans (hb2.mono b1.size)
  obtain ⟨M, hMd⟩ : ∃ M, M = rawM R C zs := ⟨_, rfl⟩
  have hML : M.length = R := by rw [hMd, mat_len]
  rw [← hMd] at hI
  subst hML
  obtain ⟨hR5, hC5⟩ := hbd
  have hnl : (nsOf C M).length = M.length := nsTo_len ..
  have hin := rowsIn_nsOf C M (by omega)
  clear hMd HM HIN hbel0 hb1 hb2 b1 x0 x1 x2 hX
  go_wp2_with fail
  refine (matrixl_any C A2 c2 M _ hI (by omega) (by omega)).mono ?_
  rintro e w3 ⟨q, rfl, hq, -, hb3⟩
  have b3 := b2.trans (hb3.mono b2.size)
  obtain ⟨Ns, hNs⟩ : ∃ N, N = nsOf C M := ⟨_, rfl⟩
  rw [← hNs] at hq hin hnl
  have hN5 : Ns.length ≤ 5 := by omega
  have hl : Ns.length ≤ 4096 := by omega
  clear hNs hI b2 hb3 hnl hR5
  have hM1 := minimal_any q C Ns 100 w3 hq hin hN5 hC5 (clos_100 Ns hC5) (hT.below b3)
  have hlen := (minK_spec (C := C) hl hin).1
  obtain ⟨sz, hsz⟩ : ∃ s, s = sizeM C Ns := ⟨_, rfl⟩
  rw [← hsz] at hM1 hlen
  have HSZ := Lib.hid hsz
  rw [hlen] at hM1
  have HM1 := hideC hM1
  clear hM1 hlen hsz
  go_wp2_with fail
  with_reducible refine HM1.out.mono ?_
  rintro e w4 ⟨u1, r1, A1, n1, c1, rfl, hu1, -, hp1, hb4⟩
  have b4 := b3.trans (hb4.mono b3.size)
  have hq4 := hq.below hb4
  obtain ⟨P, AP, cP, hPv, hnd, hchk, hworse⟩ := hp1.check hC5 hN5 hin
  cases hPv
  rw [← HSZ.out] at hchk hworse
  clear HM1 hb4 hq b3 hp1
  go_upto_region 5 with fail
  refine abs2 fun w5 h4 h5 hb5 hz => ?_
  clear hz
  have b5 := b4.trans (hb5.mono b4.size)
  have hq5 := hq4.below hb5
  have hu15 := hu1.below hb5
  have hn5 := hnd.below hb5
  obtain ⟨g4, hg4⟩ : ∃ x, x = w4.heap.size := ⟨_, rfl⟩
  rw [← hg4] at h4 h5 ⊢
  clear hg4 hb5 hq4 hu1 hnd b4
  have p0 := h4.cell 0
  have q0 := h5.cell 0
  refine wp_mix (fun V => Below w5.heap.size w5 V) 14 (by kernel_rfl) (by kernel_rfl) (Below.refl _ _).drew ?_
  have hr := (Below.refl w5.heap.size w5).drew
  obtain ⟨w6, hw6⟩ : ∃ V, V = w5.drew := ⟨_, rfl⟩
  rw [← hw6] at hr ⊢
  clear hw6
  (refine m_q 0 (v := ?_) (by kernel_rfl) rfl rfl (fun W hW => ?_) ?_; rotate_left; (go_simp; first | done | with_reducible rfl); simp only [Act.put, List.setIfInBounds_toArray, List.set_cons_zero, List.set_cons_succ]); (refine m_q 1 (v := ?_) (by kernel_rfl) rfl rfl (fun W hW => ?_) ?_; rotate_left; (go_simp; first | done | with_reducible rfl); simp only [Act.put, List.setIfInBounds_toArray, List.set_cons_zero, List.set_cons_succ]); (refine m_q 2 (v := ?_) (by kernel_rfl) rfl rfl (fun W hW => ?_) ?_; rotate_left; (go_simp; first | done | with_reducible rfl); simp only [Act.put, List.setIfInBounds_toArray, List.set_cons_zero, List.set_cons_succ])
  (refine m_yes 3 (v := ?_) (by kernel_rfl) rfl (by rfl) (fun W hW => ?_) ?_; rotate_left; (go_simp; first | done | with_reducible rfl); simp only [Act.put, List.setIfInBounds_toArray, List.set_cons_zero, List.set_cons_succ]); (refine m_yes 4 (v := ?_) (by kernel_rfl) rfl (by rfl) (fun W hW => ?_) ?_; rotate_left; (go_simp; first | done | with_reducible rfl); simp only [Act.put, List.setIfInBounds_toArray, List.set_cons_zero, List.set_cons_succ])
  (refine m_q 5 (v := ?_) (by kernel_rfl) rfl rfl (fun W hW => ?_) ?_; rotate_left; (go_simp; first | done | with_reducible rfl); simp only [Act.put, List.setIfInBounds_toArray, List.set_cons_zero, List.set_cons_succ]); (refine m_q 6 (v := ?_) (by kernel_rfl) rfl rfl (fun W hW => ?_) ?_; rotate_left; (go_simp; first | done | with_reducible rfl); simp only [Act.put, List.setIfInBounds_toArray, List.set_cons_zero, List.set_cons_succ])
  (refine m_yes 7 (v := ?_) (by kernel_rfl) rfl (by rfl) (fun W hW => ?_) ?_; rotate_left; (go_simp; first | done | with_reducible rfl); simp only [Act.put, List.setIfInBounds_toArray, List.set_cons_zero, List.set_cons_succ])
  (refine m_yes 8 (v := ?_) (by kernel_rfl) rfl (by rfl) (fun W hW => ?_) ?_; rotate_left; (have z := onB hW p0; go_simp; first | done | with_reducible rfl); simp only [Act.put, List.setIfInBounds_toArray, List.set_cons_zero, List.set_cons_succ])
  (refine m_yes 10 (v := ?_) (by kernel_rfl) rfl (by rfl) (fun W hW => ?_) ?_; rotate_left; (go_simp; first | done | with_reducible rfl); simp only [Act.put, List.setIfInBounds_toArray, List.set_cons_zero, List.set_cons_succ])
  (refine m_yes 11 (v := ?_) (by kernel_rfl) rfl (by rfl) (fun W hW => ?_) ?_; rotate_left; (have z := onB hW q0; go_simp; first | done | with_reducible rfl); simp only [Act.put, List.setIfInBounds_toArray, List.set_cons_zero, List.set_cons_succ])
  refine m_s1 9 (by kernel_rfl) rfl ?_
  go_wp2_with fail
  with_reducible refine (cols_any u1 sz _ w6 (hu15.mat.below hr)).mono ?_
  rintro e w' ⟨rfl, rfl⟩
  go_wp2_with fail
  refine m_keep hr ?_
  (refine m_yes 12 (v := ?_) (by kernel_rfl) rfl (by rfl) (fun W hW => ?_) ?_; rotate_left; (go_simp; first | done | with_reducible rfl); simp only [Act.put, List.setIfInBounds_toArray, List.set_cons_zero, List.set_cons_succ])
  (refine m_q 13 (v := ?_) (by kernel_rfl) rfl rfl (fun W hW => ?_) ?_; rotate_left; (go_simp; first | done | with_reducible rfl); simp only [Act.put, List.setIfInBounds_toArray, List.set_cons_zero, List.set_cons_succ])
  refine m_end (by kernel_rfl) ?_
  have b6 := b5.trans (hr.mono b5.size)
  have hq6 := hq5.below hr
  have hn6 := hn5.below hr
  have h56 := h5.below hr h5.lt
  clear p0 q0 hr hq5 h4 h5 hu15 hn5 b5
  have e0 := h56.cell 0
  have e1 := h56.cell 1
  have hck := check_any q C Ns (sz : Nat) A1 c1 P w6 hq6 hin hn6 (hT.below b6)
  rw [hchk] at hck
  have HCK := hideC hck
  have HWO := Lib.hid hworse
  clear hck hchk hworse
  go_wp2_with fail
  with_reducible refine HCK.out.mono ?_
  rintro e w7 ⟨rfl, hb7⟩
  have b7 := b6.trans (hb7.mono b6.size)
  have hq7 := hq6.below hb7
  have hn7 := hn6.below hb7
  have h57 := h56.below hb7 h56.lt
  have e0 := h57.cell 0
  have e1 := h57.cell 1
  have HCK2 := Lib.hid (fun W (hb : Below w7.heap.size w7 W) => check_any q C Ns ((sz : Int) + 1) A1 c1 P W (hq7.below hb) hin (hn7.below hb) (hT.below (b7.trans (hb.mono b7.size))))
  have hwo := HWO.out
  obtain ⟨pr, hpr⟩ : ∃ p, p = checkP C Ns ((sz : Int) + 1) P := ⟨_, rfl⟩
  rw [← hpr] at HCK2 hwo
  have HWO2 := Lib.hid hwo
  clear HCK hb7 hq6 hn6 h56 b6 hwo HWO hpr
  go_upto_region 9 with fail
  refine abs1 fun w8 h9 hb8 hz => ?_
  clear hz
  obtain ⟨g9, hg9⟩ : ∃ x, x = w7.heap.size := ⟨_, rfl⟩
  rw [← hg9] at h9 ⊢
  have c0 := h9.cell 0
  have c1' := h9.cell 1
  have fr0 := h9.frozen 0
  have hs32 : sz ≤ 256 := by rw [HSZ.out]; exact Nat.le_trans (sizeM_le hl hin) (by omega)
  have hb9 := hb8.setCell (p := ⟨g9, 0, none⟩) (show w7.heap.size ≤ g9 by omega) (.int .i64 ((sz : Int) + 1))
  have h10 := h9.set_ 0 (.int .i64 ((sz : Int) + 1))
  have HB9 := Lib.hid hb9; have H10 := Lib.hid h10
  have l9 := h9.lt
  clear e0 e1 h57 hb8 hg9 hb9 h10
  go_upto_region 10 with fail
  obtain ⟨w9, hw9⟩ : ∃ V, V = w8.setCell ⟨g9, 0, none⟩ (.int .i64 ((sz : Int) + 1)) := ⟨_, rfl⟩
  have hb9 := HB9.out
  have h10 := H10.out
  rw [← hw9] at hb9 h10 ⊢
  have b9 := b7.trans (hb9.mono b7.size)
  have d0 := Blk.cell h10 0
  have d1 := Blk.cell h10 1
  have hck := HCK2.out w9 hb9
  have hwo := HWO2.out
  obtain ⟨x, y⟩ := pr
  dsimp only at hck hwo
  have hx1 : (x != 1) = true := by rw [bne_iff_ne]; exact hwo
  have hx2 : (x == 1) = false := by rw [beq_eq_false_iff_ne]; exact hwo
  have hx3 : decide (x = 1) = false := decide_eq_false hwo
  have HCK := hideC hck
  clear hck hwo c0 c1' fr0 hw9 hb9 hq7 hn7 h9 h10 b7 HWO2 HCK2 HB9 H10
  go_wp2_with fail
  with_reducible refine HCK.out.mono ?_
  rintro e wa ⟨rfl, hba⟩
  clear HCK d0 d1
  go_wp2_with fail
  go_ret
  exact ⟨rfl, b9.trans (hba.mono b9.size)⟩
end Mix2
end Go.Proofs.YtlakjhhpdbgekaaGreatDoor
