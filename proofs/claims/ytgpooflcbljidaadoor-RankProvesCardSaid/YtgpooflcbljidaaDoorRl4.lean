/-
  The law RankProves.
-/
import Derived.Test.YtgpooflcbljidaaDoorRn7
import Derived.Test.YtgpooflcbljidaaDoorRk9
import Derived.Test.YtgpooflcbljidaaDoorRq1
import Derived.Test.YtgpooflcbljidaaDoorMix2
import Derived.Test.YtgpooflcbljidaaDoorJoin
import Derived.Deep.DeepCutAuto
import Derived.Deep.CutBlock
namespace Go.Proofs.YtgpooflcbljidaaDoor
open Go.RowKit
namespace Mix2
set_option maxRecDepth 100000 in
set_option maxHeartbeats 8000000 in
theorem proves_walk (v : Value) (R C : Nat) (zs : List Int) (last : Bool) (w : World) (hT : Tab w) (h : IsRaw w v R C zs) :
    Calls Tryd.prog 6 #[v, .bool last] w fun e w' => e = .returned (.bool true) ∧ Below w.heap.size w w' := by
  have hbd := h.bd
  obtain ⟨r, c, A0, d0, hv, _⟩ := id h
  subst hv
  have HIN := hideC h; clear h
  go_enter Tryd.func6, Tryd.ntmps6
  go_wp2_with fail
  refine absC1 fun W0 hX hbel0 hz => ?_
  clear hz
  refine (awake_any47 W0 (hT.below hbel0)).mono ?_
  rintro e w1 ⟨rfl, hb1⟩
  have b1 := hbel0.trans (hb1.mono hbel0.size)
  replace hX := hX.below hb1 hX.lt
  have x0 := hX.cell 0
  have x1 := hX.cell 1
  have x2 := hX.cell 2
  have HM := hideC (make_raw _ R C zs w1 (HIN.out.below b1))
  go_wp2_with fail
  refine HM.out.mono ?_
  rintro e w2 ⟨A2, c2, rfl, hI, hb2⟩
  have b2 := b1.trans (hb2.mono b1.size)
  obtain ⟨M, hMd⟩ : ∃ M, M = rawM R C zs := ⟨_, rfl⟩
  have hML : M.length = R := by rw [hMd, mat_len]
  rw [← hMd] at hI
  subst hML
  obtain ⟨hR5, hC5⟩ := hbd
  have hl : (nsOf C M).length ≤ 4096 := by rw [nsTo_len]; omega
  have hin := rowsIn_nsOf C M (by omega)
  clear hMd HM HIN hbel0 hb1 hb2 b1 x0 x1 x2
  replace hT := hT.below b2
  clear hX
  go_wp2_with fail
  refine absC1 fun w3 hY hb hz => ?_
  clear hz
  replace hI := hI.below hb; replace hT := hT.below hb; replace b2 := b2.trans (hb.mono b2.size)
  clear hb
  refine (leastr_any C A2 c2 M _ (by omega) (by omega) hI).mono ?_
  rintro e u1 ⟨b, rfl, hcv, hlst, hbC, hb⟩
  replace hI := hI.below hb; replace hT := hT.below hb; replace b2 := b2.trans (hb.mono b2.size); replace hY := hY.below hb hY.lt
  clear hb
  by_cases hb0 : b = 0
  · subst hb0
    go_wp2_with fail
    go_ret
    exact ⟨rfl, b2⟩
  · have hncov : ¬ Cov C (nsOf C M) (b - 1) (cellsOf (nsOf C M)) := fun h => by
      have := (covF_iff C (nsOf C M) (b - 1) (cellsOf (nsOf C M))).2 h
      rw [hlst (b - 1) (by omega)] at this; cases this
    have hcov : Cov C (nsOf C M) b (cellsOf (nsOf C M)) := (covF_iff C (nsOf C M) b (cellsOf (nsOf C M))).1 hcv
    have hgl := growL_len C (nsOf C M) last (by omega) (b - 1) 0 (cellsOf (nsOf C M))
    have hgn := grow_nodes C (nsOf C M) last (b - 1) 0 (cellsOf (nsOf C M))
    have hck := fun hle => check_grow (C := C) (Ns := nsOf C M) (last := last) (by omega) hl hin (size := b) (by omega) (by omega) hncov hle
    have hgp := fun W (h : IsRef W C A2 M) => prove_any C A2 c2 M last b W (by omega) (by omega) h (by omega) (by omega) hncov
    have hb33 : 33 ^ (b - 1) ≤ 33 ^ 4 := Nat.pow_le_pow_right (by omega) (by omega)
    have h2C : 2 ^ C ≤ 2 ^ 5 := Nat.pow_le_pow_right (by omega) (by omega)
    obtain ⟨G, hG⟩ : ∃ G, G = growL C (nsOf C M) last (b - 1) 0 (cellsOf (nsOf C M)) := ⟨_, rfl⟩
    rw [← hG] at hgl hgn hck hgp
    have hGl : G.length ≤ 100000000 := by omega
    have hok : ∀ x ∈ G, NdOK x := fun x hx => by
      obtain ⟨a1, a2, a3, a4⟩ := hgn x hx
      exact ⟨by omega, by omega, by omega, by omega⟩
    have hmr : (checkP C (nsOf C M) ((b : Int) + 1) G).1 ≠ 1 := fun h => by
      rcases check_sound (by omega) hl hin h with h | ⟨_, h⟩
      · omega
      · exact h (by rw [show ((b : Int) + 1 - 1).toNat = b by omega]; exact hcov)
    have HCK := Lib.hid hck; have HGP := Lib.hid hgp; have HOK := Lib.hid hok
    obtain ⟨f2, a2, hfa⟩ : ∃ f2 a2, checkP C (nsOf C M) ((b : Int) + 1) G = (f2, a2) := ⟨_, _, rfl⟩
    rw [hfa] at hmr
    have HFA := Lib.hid hfa
    dsimp only at hmr
    have hmrb : (f2 != 1) = true := by rw [bne_iff_ne]; exact hmr
    have hb0b : ((b : Int) == 0) = false := by rw [beq_eq_false_iff_ne]; omega
    have hb0i : ¬ (b : Int) = 0 := by omega
    have y0 := hY.cell 0; have y1 := hY.cell 1
    clear hcv hlst hncov hcov hgl hgn hck hgp hb33 h2C hG hok hfa hmr
    go_wp2_with fail
    refine (HGP.out _ hI).mono ?_
    rintro e u2 ⟨v5, rfl, hN5, hb⟩
    replace hI := hI.below hb; replace hT := hT.below hb; replace b2 := b2.trans (hb.mono b2.size); replace hY := hY.below hb hY.lt
    clear hb
    obtain ⟨A5, c5, rfl, -, -, hR5a⟩ := hN5.nr
    clear hN5 y0 y1
    go_wp2_with fail
    refine (proof_any b A5 c5 G _ hR5a HOK.out hGl).mono ?_
    rintro e u3 ⟨A6, c6, rfl, -, hK6, hb⟩
    replace hI := hI.below hb; replace hT := hT.below hb; replace b2 := b2.trans (hb.mono b2.size); replace hY := hY.below hb hY.lt
    clear hb
    clear hR5a
    by_cases hbig : 5000 < G.length
    · go_wp2_with fail
      go_ret
      exact ⟨rfl, b2.alloc b2.size _⟩
    · have HC1 := Lib.hid (HCK.out (by omega))
      clear HCK
      have b2z := b2.size
      have z := Below.refl u3.heap.size u3
      go_wp2_with fail
      refine abs1 fun w7 hZ hb hz => ?_
      clear hz
      replace z := z.trans (hb.mono z.size); replace b2 := b2.trans (hb.mono b2.size)
      clear hb
      obtain ⟨gZ, hgZ⟩ : ∃ g, g = u3.heap.size := ⟨_, rfl⟩
      have hgz1 : u3.heap.size ≤ gZ := by omega
      have hgz2 : w.heap.size ≤ gZ := by omega
      rw [← hgZ] at hZ ⊢
      clear hgZ b2z
      go_wp2_with fail
      refine wp_mix (fun V => Below w7.heap.size w7 V) 9 (by kernel_rfl) (by kernel_rfl) (Below.refl _ _).drew ?_
      have hr : Below w7.heap.size w7 w7.drew := (Below.refl _ _).drew
      obtain ⟨u4, hw⟩ : ∃ V, V = w7.drew := ⟨_, rfl⟩
      rw [← hw] at hr ⊢; clear hw
      have hb := hr
      have y0 := (hY.below z hY.lt).cell 0
      have y1 := (hY.below z hY.lt).cell 1
      have z0 := hZ.cell 0
      have z1 := hZ.cell 1
      replace z := z.trans (hb.mono z.size); replace b2 := b2.trans (hb.mono b2.size); replace hZ := hZ.below hb hZ.lt
      clear hb
      (refine m_q 0 (v := ?_) (by kernel_rfl) rfl rfl (fun W hW => ?_) ?_; rotate_left; (have zy0 := onB hW y0; have zy1 := onB hW y1; have zz0 := onB hW z0; have zz1 := onB hW z1; go_simp; first | done | with_reducible rfl); simp only [Act.put, List.setIfInBounds_toArray, List.set_cons_zero, List.set_cons_succ]); (refine m_q 2 (v := ?_) (by kernel_rfl) rfl rfl (fun W hW => ?_) ?_; rotate_left; (have zy0 := onB hW y0; have zy1 := onB hW y1; have zz0 := onB hW z0; have zz1 := onB hW z1; go_simp; first | done | with_reducible rfl); simp only [Act.put, List.setIfInBounds_toArray, List.set_cons_zero, List.set_cons_succ])
      refine m_s1 1 (by kernel_rfl) rfl ?_
      go_wp2_with fail
      refine (matrixl_any C A2 c2 M _ (hI.below z) (by omega) (by omega)).mono ?_
      rintro e u5 ⟨q1, rfl, m1, _, hb⟩
      replace z := z.trans (hb.mono z.size); replace b2 := b2.trans (hb.mono b2.size); replace hZ := hZ.below hb hZ.lt; replace hr := hr.trans (hb.mono hr.size)
      clear hb
      go_wp2_with fail
      refine m_keep hr ?_
      refine m_s1 3 (by kernel_rfl) rfl ?_
      go_wp2_with fail
      refine (check_is HC1.out rfl m1 hin (hK6.below z) (hT.below z)).mono ?_
      rintro e u6 ⟨rfl, hb⟩
      replace z := z.trans (hb.mono z.size); replace b2 := b2.trans (hb.mono b2.size); replace hZ := hZ.below hb hZ.lt; replace hr := hr.trans (hb.mono hr.size); replace m1 := m1.below hb
      clear hb
      go_wp2_with fail
      refine m_keep hr ?_
      (refine m_q 4 (v := ?_) (by kernel_rfl) rfl rfl (fun W hW => ?_) ?_; rotate_left; (go_simp; first | done | with_reducible rfl); simp only [Act.put, List.setIfInBounds_toArray, List.set_cons_zero, List.set_cons_succ]); (refine m_q 5 (v := ?_) (by kernel_rfl) rfl rfl (fun W hW => ?_) ?_; rotate_left; (go_simp; first | done | with_reducible rfl); simp only [Act.put, List.setIfInBounds_toArray, List.set_cons_zero, List.set_cons_succ]); (refine m_q 6 (v := ?_) (by kernel_rfl) rfl rfl (fun W hW => ?_) ?_; rotate_left; (go_simp; first | done | with_reducible rfl); simp only [Act.put, List.setIfInBounds_toArray, List.set_cons_zero, List.set_cons_succ]); (refine m_q 7 (v := ?_) (by kernel_rfl) rfl rfl (fun W hW => ?_) ?_; rotate_left; (go_simp; first | done | with_reducible rfl); simp only [Act.put, List.setIfInBounds_toArray, List.set_cons_zero, List.set_cons_succ]); (refine m_q 8 (v := ?_) (by kernel_rfl) rfl rfl (fun W hW => ?_) ?_; rotate_left; (go_simp; first | done | with_reducible rfl); simp only [Act.put, List.setIfInBounds_toArray, List.set_cons_zero, List.set_cons_succ])
      refine m_end (by kernel_rfl) ?_
      clear y0 y1 z0 z1
      have z0 := hZ.cell 0; have f0 := hZ.frozen 0; have lZ := hZ.lt
      have ebz : wrap64 ((b : Int) + 1) = (b : Int) + 1 := IntWalk.wrap64_in _ ⟨by omega, by omega⟩
      clear m1
      go_wp2_with fail
      replace z := z.setCell (p := ⟨gZ, 0, none⟩) hgz1 (.int .i64 ((b : Int) + 1))
      replace b2 := b2.setCell (p := ⟨gZ, 0, none⟩) hgz2 (.int .i64 ((b : Int) + 1))
      replace hZ : Blk (u6.setCell ⟨gZ, 0, none⟩ (.int .i64 ((b : Int) + 1))) gZ 44 #[.int .i64 ((b : Int) + 1), .slice A6 G.length c6] := hZ.set_ 0 _
      obtain ⟨wb, hwb⟩ : ∃ W, W = u6.setCell ⟨gZ, 0, none⟩ (.int .i64 ((b : Int) + 1)) := ⟨_, rfl⟩
      rw [← hwb] at z b2 hZ ⊢
      clear hwb z0 f0 lZ ebz
      refine wp_mix (fun V => Below wb.heap.size wb V) 9 (by kernel_rfl) (by kernel_rfl) (Below.refl _ _).drew ?_
      have hr : Below wb.heap.size wb wb.drew := (Below.refl _ _).drew
      obtain ⟨u7, hw⟩ : ∃ V, V = wb.drew := ⟨_, rfl⟩
      rw [← hw] at hr ⊢; clear hw
      have hb := hr
      have y0 := (hY.below z hY.lt).cell 0
      have y1 := (hY.below z hY.lt).cell 1
      have z0 := hZ.cell 0
      have z1 := hZ.cell 1
      replace z := z.trans (hb.mono z.size); replace b2 := b2.trans (hb.mono b2.size); replace hZ := hZ.below hb hZ.lt
      clear hb
      (refine m_q 0 (v := ?_) (by kernel_rfl) rfl rfl (fun W hW => ?_) ?_; rotate_left; (have zy0 := onB hW y0; have zy1 := onB hW y1; have zz0 := onB hW z0; have zz1 := onB hW z1; go_simp; first | done | with_reducible rfl); simp only [Act.put, List.setIfInBounds_toArray, List.set_cons_zero, List.set_cons_succ]); (refine m_q 2 (v := ?_) (by kernel_rfl) rfl rfl (fun W hW => ?_) ?_; rotate_left; (have zy0 := onB hW y0; have zy1 := onB hW y1; have zz0 := onB hW z0; have zz1 := onB hW z1; go_simp; first | done | with_reducible rfl); simp only [Act.put, List.setIfInBounds_toArray, List.set_cons_zero, List.set_cons_succ])
      refine m_s1 1 (by kernel_rfl) rfl ?_
      go_wp2_with fail
      refine (matrixl_any C A2 c2 M _ (hI.below z) (by omega) (by omega)).mono ?_
      rintro e u8 ⟨q2, rfl, m2, _, hb⟩
      replace z := z.trans (hb.mono z.size); replace b2 := b2.trans (hb.mono b2.size); replace hZ := hZ.below hb hZ.lt; replace hr := hr.trans (hb.mono hr.size)
      clear hb
      go_wp2_with fail
      refine m_keep hr ?_
      refine m_s1 3 (by kernel_rfl) rfl ?_
      go_wp2_with fail
      refine (check_is HFA.out rfl m2 hin (hK6.below z) (hT.below z)).mono ?_
      rintro e u9 ⟨rfl, hb⟩
      replace z := z.trans (hb.mono z.size); replace b2 := b2.trans (hb.mono b2.size); replace hZ := hZ.below hb hZ.lt; replace hr := hr.trans (hb.mono hr.size); replace m2 := m2.below hb
      clear hb
      go_wp2_with fail
      refine m_keep hr ?_
      (refine m_q 4 (v := ?_) (by kernel_rfl) rfl rfl (fun W hW => ?_) ?_; rotate_left; (go_simp; first | done | with_reducible rfl); simp only [Act.put, List.setIfInBounds_toArray, List.set_cons_zero, List.set_cons_succ]); (refine m_q 5 (v := ?_) (by kernel_rfl) rfl rfl (fun W hW => ?_) ?_; rotate_left; (go_simp; first | done | with_reducible rfl); simp only [Act.put, List.setIfInBounds_toArray, List.set_cons_zero, List.set_cons_succ]); (refine m_q 6 (v := ?_) (by kernel_rfl) rfl rfl (fun W hW => ?_) ?_; rotate_left; (go_simp; first | done | with_reducible rfl); simp only [Act.put, List.setIfInBounds_toArray, List.set_cons_zero, List.set_cons_succ]); (refine m_q 7 (v := ?_) (by kernel_rfl) rfl rfl (fun W hW => ?_) ?_; rotate_left; (go_simp; first | done | with_reducible rfl); simp only [Act.put, List.setIfInBounds_toArray, List.set_cons_zero, List.set_cons_succ]); (refine m_q 8 (v := ?_) (by kernel_rfl) rfl rfl (fun W hW => ?_) ?_; rotate_left; (go_simp; first | done | with_reducible rfl); simp only [Act.put, List.setIfInBounds_toArray, List.set_cons_zero, List.set_cons_succ])
      refine m_end (by kernel_rfl) ?_
      clear y0 y1 z0 z1
      go_wp2_with fail
      go_ret
      exact ⟨rfl, b2⟩
end Mix2
end Go.Proofs.YtgpooflcbljidaaDoor

