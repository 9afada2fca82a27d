/-
  The law RankSound.
-/
import Derived.Test.YtgpooflcbljidaaDoorRn7
import Derived.Test.YtgpooflcbljidaaDoorRk9
import Derived.Test.YtgpooflcbljidaaDoorRq4
import Derived.Test.YtgpooflcbljidaaDoorMix2
import Derived.Test.YtgpooflcbljidaaDoorJoin
import Derived.Deep.DeepCutAuto
import Derived.Deep.CutBlock
namespace Go.Proofs.YtgpooflcbljidaaDoor
open Go.RowKit
namespace Mix2
set_option maxRecDepth 100000 in
set_option maxHeartbeats 8000000 in
theorem sound_walk (v : Value) (R C : Nat) (zs : List Int) (vy : Value) (less : Nat) (last : Bool) (l : List Odd4) (w : World) (hT : Tab w) (h : IsRaw w v R C zs) (hy : IsRaw47 w vy less last l) :
    Calls Tryd.prog 5 #[v, vy] w fun e w' => e = .returned (.bool true) ∧ Below w.heap.size w w' := by
  obtain ⟨vo, hye, hle, ho⟩ := hy
  subst hye
  obtain ⟨Ao, co, hoe, hO, hoc, hom, hok⟩ := ho
  subst hoe
  have hRaw := fun W (hb : Below w.heap.size w W) => (show IsRaw47 w (.agg #[.int .u8 less, .bool last, .slice Ao l.length co]) less last l from ⟨_, rfl, hle, Ao, co, rfl, hO, hoc, hom, hok⟩).below hb
  have HRAW := Lib.hid hRaw
  clear hRaw hO hoc hom hok
  have hbd := h.bd
  obtain ⟨r, c, A0, d0, hv, _⟩ := id h
  subst hv
  have HIN := hideC h; clear h
  go_enter Tryd.func5, Tryd.ntmps5
  go_wp2_with fail
  refine absC2 fun W0 hX hR0 hbel0 hz => ?_
  clear hz
  refine (awake_any47 W0 (hT.below hbel0)).mono ?_
  rintro e w1 ⟨rfl, hb1⟩
  have b1 := hbel0.trans (hb1.mono hbel0.size)
  replace hX := hX.below hb1 hX.lt
  replace hR0 := hR0.below hb1 hR0.lt
  have x0 := hX.cell 0
  have x1 := hX.cell 1
  have x2 := hX.cell 2
  have HM := hideC (make_raw _ R C zs w1 (HIN.out.below b1))
  go_wp2_with fail
  refine HM.out.mono ?_
  rintro e w2 ⟨A2, c2, rfl, hI, hb2⟩
  have b2 := b1.trans (hb2.mono b1.size)
  replace hR0 := hR0.below hb2 hR0.lt
  obtain ⟨M, hMd⟩ : ∃ M, M = rawM R C zs := ⟨_, rfl⟩
  have hML : M.length = R := by rw [hMd, mat_len]
  rw [← hMd] at hI
  subst hML
  obtain ⟨hR5, hC5⟩ := hbd
  have hl : (nsOf C M).length ≤ 4096 := by rw [nsTo_len]; omega
  have hin := rowsIn_nsOf C M (by omega)
  clear hMd HM HIN hbel0 hb1 hb2 b1 x0 x1 x2
  replace hT := hT.below b2
  clear hX
  go_upto_region 4 with fail
  refine abs1 fun w3 hY hb hz => ?_
  clear hz
  replace hR0 := hR0.below hb hR0.lt; replace hI := hI.below hb; replace hT := hT.below hb; replace b2 := b2.trans (hb.mono b2.size)
  clear hb
  have y0 := hY.cell 0; have y1 := hY.cell 1; have x0 := hR0.cell 0; have x1 := hR0.cell 1; have x2 := hR0.cell 2
  have HF := hideC (by have := fit_any less last l C A2 c2 M _ w3 (HRAW.out w3 b2) (by omega) (by omega) hI; unfold refV at this; exact this)
  go_wp2_with fail
  refine (HF.out).mono ?_
  rintro e u1 ⟨v5, s5, P5, rfl, hP5, hnd5, hl5, hs5a, hs5b, hb⟩
  replace hR0 := hR0.below hb hR0.lt; replace hI := hI.below hb; replace hT := hT.below hb; replace b2 := b2.trans (hb.mono b2.size); replace hY := hY.below hb hY.lt
  clear hb
  obtain ⟨A5, c5, rfl, hR5, hc5, hn5⟩ := hP5
  clear y0 y1 x0 x1 x2 HF
  have hok : ∀ x ∈ P5, NdOK x := fun x hx => by
    obtain ⟨k1, k2, k3, k4⟩ := hnd5 x hx
    exact ⟨by omega, by omega, k3, k4⟩
  have hGl : P5.length ≤ 100000000 := by omega
  obtain ⟨f2, a2, hfa⟩ : ∃ f2 a2, checkP C (nsOf C M) s5 P5 = (f2, a2) := ⟨_, _, rfl⟩
  have hsnd := fun h => check_sound (C := C) (Ns := nsOf C M) (size := s5) (P := P5) (by omega) hl hin h
  rw [hfa] at hsnd
  dsimp only at hsnd
  have HSND := Lib.hid hsnd; have HFA := Lib.hid hfa; have HOK := Lib.hid hok
  clear hsnd hfa hok hnd5
  go_wp2_with fail
  refine abs1 fun w4 hZ hb hz => ?_
  clear hz
  replace hR0 := hR0.below hb hR0.lt; replace hI := hI.below hb; replace hT := hT.below hb; replace b2 := b2.trans (hb.mono b2.size); replace hY := hY.below hb hY.lt; replace hR5 := hR5.below hb
  clear hb
  go_wp2_with fail
  refine wp_mix (fun V => Below w4.heap.size w4 V) 10 (by kernel_rfl) (by kernel_rfl) (Below.refl _ _).drew ?_
  have hr : Below w4.heap.size w4 w4.drew := (Below.refl _ _).drew
  obtain ⟨u2, hw⟩ : ∃ V, V = w4.drew := ⟨_, rfl⟩
  rw [← hw] at hr ⊢; clear hw
  have hb := hr
  have y0 := hY.cell 0
  have y1 := hY.cell 1
  have z0 := hZ.cell 0
  have z1 := hZ.cell 1
  replace hR0 := hR0.below hb hR0.lt; replace hI := hI.below hb; replace hT := hT.below hb; replace b2 := b2.trans (hb.mono b2.size); replace hY := hY.below hb hY.lt; replace hR5 := hR5.below hb; replace hZ := hZ.below hb hZ.lt
  clear hb
  (refine m_q 0 (v := ?_) (by kernel_rfl) rfl rfl (fun W hW => ?_) ?_; rotate_left; (have zy0 := onB hW y0; have zy1 := onB hW y1; have zz0 := onB hW z0; have zz1 := onB hW z1; go_simp; first | done | with_reducible rfl); simp only [Act.put, List.setIfInBounds_toArray, List.set_cons_zero, List.set_cons_succ]); (refine m_q 2 (v := ?_) (by kernel_rfl) rfl rfl (fun W hW => ?_) ?_; rotate_left; (have zy0 := onB hW y0; have zy1 := onB hW y1; have zz0 := onB hW z0; have zz1 := onB hW z1; go_simp; first | done | with_reducible rfl); simp only [Act.put, List.setIfInBounds_toArray, List.set_cons_zero, List.set_cons_succ])
  refine m_s1 1 (by kernel_rfl) rfl ?_
  go_wp2_with fail
  refine (matrixl_any C A2 c2 M _ hI (by omega) (by omega)).mono ?_
  rintro e u3 ⟨q1, rfl, m1, _, hb⟩
  replace hR0 := hR0.below hb hR0.lt; replace hI := hI.below hb; replace hT := hT.below hb; replace b2 := b2.trans (hb.mono b2.size); replace hY := hY.below hb hY.lt; replace hR5 := hR5.below hb; replace hZ := hZ.below hb hZ.lt; replace hr := hr.trans (hb.mono hr.size)
  clear hb
  go_wp2_with fail
  refine m_keep hr ?_
  refine m_s1 3 (by kernel_rfl) rfl ?_
  go_wp2_with fail
  refine (proof_any s5 A5 c5 P5 _ hR5 HOK.out hGl).mono ?_
  rintro e u4 ⟨A6, c6, rfl, -, hK6, hb⟩
  replace hR0 := hR0.below hb hR0.lt; replace hI := hI.below hb; replace hT := hT.below hb; replace b2 := b2.trans (hb.mono b2.size); replace hY := hY.below hb hY.lt; replace hR5 := hR5.below hb; replace hZ := hZ.below hb hZ.lt; replace hr := hr.trans (hb.mono hr.size); replace m1 := m1.below hb
  clear hb
  go_wp2_with fail
  refine m_keep hr ?_
  refine m_s1 4 (by kernel_rfl) rfl ?_
  go_wp2_with fail
  refine (check_is HFA.out rfl m1 hin hK6 hT).mono ?_
  rintro e u5 ⟨rfl, hb⟩
  replace hR0 := hR0.below hb hR0.lt; replace hI := hI.below hb; replace hT := hT.below hb; replace b2 := b2.trans (hb.mono b2.size); replace hY := hY.below hb hY.lt; replace hR5 := hR5.below hb; replace hZ := hZ.below hb hZ.lt; replace hr := hr.trans (hb.mono hr.size); replace m1 := m1.below hb; replace hK6 := hK6.below hb
  clear hb
  go_wp2_with fail
  refine m_keep hr ?_
  (refine m_q 5 (v := ?_) (by kernel_rfl) rfl rfl (fun W hW => ?_) ?_; rotate_left; (go_simp; first | done | with_reducible rfl); simp only [Act.put, List.setIfInBounds_toArray, List.set_cons_zero, List.set_cons_succ]); (refine m_q 6 (v := ?_) (by kernel_rfl) rfl rfl (fun W hW => ?_) ?_; rotate_left; (go_simp; first | done | with_reducible rfl); simp only [Act.put, List.setIfInBounds_toArray, List.set_cons_zero, List.set_cons_succ]); (refine m_q 7 (v := ?_) (by kernel_rfl) rfl rfl (fun W hW => ?_) ?_; rotate_left; (go_simp; first | done | with_reducible rfl); simp only [Act.put, List.setIfInBounds_toArray, List.set_cons_zero, List.set_cons_succ]); (refine m_q 8 (v := ?_) (by kernel_rfl) rfl rfl (fun W hW => ?_) ?_; rotate_left; (go_simp; first | done | with_reducible rfl); simp only [Act.put, List.setIfInBounds_toArray, List.set_cons_zero, List.set_cons_succ]); (refine m_q 9 (v := ?_) (by kernel_rfl) rfl rfl (fun W hW => ?_) ?_; rotate_left; (go_simp; first | done | with_reducible rfl); simp only [Act.put, List.setIfInBounds_toArray, List.set_cons_zero, List.set_cons_succ])
  refine m_end (by kernel_rfl) ?_
  clear y0 y1 z0 z1
  clear m1 hK6 hR5
  by_cases hf1 : f2 = 1
  · have hfb : (f2 != 1) = false := by rw [hf1]; rfl
    have hsn := HSND.out hf1
    subst hf1
    go_wp2_with fail
    refine wp_mix (fun V => Below u5.heap.size u5 V) 10 (by kernel_rfl) (by kernel_rfl) (Below.refl _ _).drew ?_
    have hr : Below u5.heap.size u5 u5.drew := (Below.refl _ _).drew
    obtain ⟨u6, hw⟩ : ∃ V, V = u5.drew := ⟨_, rfl⟩
    rw [← hw] at hr ⊢; clear hw
    have hb := hr
    have y0 := hY.cell 0
    have y1 := hY.cell 1
    have z0 := hZ.cell 0
    have z1 := hZ.cell 1
    replace hR0 := hR0.below hb hR0.lt; replace hI := hI.below hb; replace hT := hT.below hb; replace b2 := b2.trans (hb.mono b2.size); replace hY := hY.below hb hY.lt; replace hZ := hZ.below hb hZ.lt
    clear hb
    (refine m_q 0 (v := ?_) (by kernel_rfl) rfl rfl (fun W hW => ?_) ?_; rotate_left; (go_simp; first | done | with_reducible rfl); simp only [Act.put, List.setIfInBounds_toArray, List.set_cons_zero, List.set_cons_succ]); (refine m_q 1 (v := ?_) (by kernel_rfl) rfl rfl (fun W hW => ?_) ?_; rotate_left; (go_simp; first | done | with_reducible rfl); simp only [Act.put, List.setIfInBounds_toArray, List.set_cons_zero, List.set_cons_succ]); (refine m_q 2 (v := ?_) (by kernel_rfl) rfl rfl (fun W hW => ?_) ?_; rotate_left; (go_simp; first | done | with_reducible rfl); simp only [Act.put, List.setIfInBounds_toArray, List.set_cons_zero, List.set_cons_succ])
    (refine m_yes 3 (v := ?_) (by kernel_rfl) rfl (by rfl) (fun W hW => ?_) ?_; rotate_left; (have zy0 := onB hW y0; have zy1 := onB hW y1; have zz0 := onB hW z0; have zz1 := onB hW z1; go_simp; first | done | with_reducible rfl); simp only [Act.put, List.setIfInBounds_toArray, List.set_cons_zero, List.set_cons_succ]); (refine m_yes 4 (v := ?_) (by kernel_rfl) rfl (by rfl) (fun W hW => ?_) ?_; rotate_left; (have zy0 := onB hW y0; have zy1 := onB hW y1; have zz0 := onB hW z0; have zz1 := onB hW z1; go_simp; first | done | with_reducible rfl); simp only [Act.put, List.setIfInBounds_toArray, List.set_cons_zero, List.set_cons_succ]); (refine m_yes 5 (v := ?_) (by kernel_rfl) rfl (by rfl) (fun W hW => ?_) ?_; rotate_left; (have zy0 := onB hW y0; have zy1 := onB hW y1; have zz0 := onB hW z0; have zz1 := onB hW z1; go_simp; first | done | with_reducible rfl); simp only [Act.put, List.setIfInBounds_toArray, List.set_cons_zero, List.set_cons_succ])
    refine m_s1 6 (by kernel_rfl) rfl ?_
    go_wp2_with fail
    refine (leastr_any C A2 c2 M _ (by omega) (by omega) hI).mono ?_
    rintro e u7 ⟨b, rfl, hcv, hlst, hbC, hb⟩
    replace hR0 := hR0.below hb hR0.lt; replace hI := hI.below hb; replace hT := hT.below hb; replace b2 := b2.trans (hb.mono b2.size); replace hY := hY.below hb hY.lt; replace hZ := hZ.below hb hZ.lt; replace hr := hr.trans (hb.mono hr.size)
    clear hb
    go_wp2_with fail
    refine m_keep hr ?_
    have hsb : s5 ≤ (b : Int) := by
      rcases hsn with h0 | ⟨h1, h2⟩
      · omega
      · refine Int.not_lt.1 fun hlt => h2 ?_
        obtain ⟨L, k1, k2, k3⟩ := (covF_iff C (nsOf C M) b (cellsOf (nsOf C M))).1 hcv
        exact ⟨L, by omega, k2, k3⟩
    have hsd : decide (s5 ≤ (b : Int)) = true := decide_eq_true hsb
    clear hcv hlst hsn
    (refine m_yes 7 (v := ?_) (by kernel_rfl) rfl (by rfl) (fun W hW => ?_) ?_; rotate_left; (go_simp; first | done | with_reducible rfl); simp only [Act.put, List.setIfInBounds_toArray, List.set_cons_zero, List.set_cons_succ])
    (refine m_q 8 (v := ?_) (by kernel_rfl) rfl rfl (fun W hW => ?_) ?_; rotate_left; (go_simp; first | done | with_reducible rfl); simp only [Act.put, List.setIfInBounds_toArray, List.set_cons_zero, List.set_cons_succ]); (refine m_q 9 (v := ?_) (by kernel_rfl) rfl rfl (fun W hW => ?_) ?_; rotate_left; (go_simp; first | done | with_reducible rfl); simp only [Act.put, List.setIfInBounds_toArray, List.set_cons_zero, List.set_cons_succ])
    refine m_end (by kernel_rfl) ?_
    clear y0 y1 z0 z1
    go_wp2_with fail
    go_ret
    exact ⟨rfl, b2⟩
  · have hfb : (f2 != 1) = true := by rw [bne_iff_ne]; exact hf1
    go_wp2_with fail
    refine wp_mix (fun V => Below u5.heap.size u5 V) 10 (by kernel_rfl) (by kernel_rfl) (Below.refl _ _).drew ?_
    have hr : Below u5.heap.size u5 u5.drew := (Below.refl _ _).drew
    obtain ⟨u6, hw⟩ : ∃ V, V = u5.drew := ⟨_, rfl⟩
    rw [← hw] at hr ⊢; clear hw
    have hb := hr
    have y0 := hY.cell 0
    have y1 := hY.cell 1
    have z0 := hZ.cell 0
    have z1 := hZ.cell 1
    replace hR0 := hR0.below hb hR0.lt; replace hI := hI.below hb; replace hT := hT.below hb; replace b2 := b2.trans (hb.mono b2.size); replace hY := hY.below hb hY.lt; replace hZ := hZ.below hb hZ.lt
    clear hb
    (refine m_q 0 (v := ?_) (by kernel_rfl) rfl rfl (fun W hW => ?_) ?_; rotate_left; (go_simp; first | done | with_reducible rfl); simp only [Act.put, List.setIfInBounds_toArray, List.set_cons_zero, List.set_cons_succ]); (refine m_q 1 (v := ?_) (by kernel_rfl) rfl rfl (fun W hW => ?_) ?_; rotate_left; (go_simp; first | done | with_reducible rfl); simp only [Act.put, List.setIfInBounds_toArray, List.set_cons_zero, List.set_cons_succ]); (refine m_q 2 (v := ?_) (by kernel_rfl) rfl rfl (fun W hW => ?_) ?_; rotate_left; (go_simp; first | done | with_reducible rfl); simp only [Act.put, List.setIfInBounds_toArray, List.set_cons_zero, List.set_cons_succ])
    (refine m_no 3 (by kernel_rfl) rfl (by rfl) ?_; simp only [Act.put, List.setIfInBounds_toArray, List.set_cons_zero, List.set_cons_succ]); (refine m_no 4 (by kernel_rfl) rfl (by rfl) ?_; simp only [Act.put, List.setIfInBounds_toArray, List.set_cons_zero, List.set_cons_succ]); (refine m_no 5 (by kernel_rfl) rfl (by rfl) ?_; simp only [Act.put, List.setIfInBounds_toArray, List.set_cons_zero, List.set_cons_succ]); (refine m_no 6 (by kernel_rfl) rfl (by rfl) ?_; simp only [Act.put, List.setIfInBounds_toArray, List.set_cons_zero, List.set_cons_succ]); (refine m_no 7 (by kernel_rfl) rfl (by rfl) ?_; simp only [Act.put, List.setIfInBounds_toArray, List.set_cons_zero, List.set_cons_succ])
    (refine m_q 8 (v := ?_) (by kernel_rfl) rfl rfl (fun W hW => ?_) ?_; rotate_left; (go_simp; first | done | with_reducible rfl); simp only [Act.put, List.setIfInBounds_toArray, List.set_cons_zero, List.set_cons_succ]); (refine m_q 9 (v := ?_) (by kernel_rfl) rfl rfl (fun W hW => ?_) ?_; rotate_left; (go_simp; first | done | with_reducible rfl); simp only [Act.put, List.setIfInBounds_toArray, List.set_cons_zero, List.set_cons_succ])
    refine m_end (by kernel_rfl) ?_
    clear y0 y1 z0 z1
    go_wp2_with fail
    go_ret
    exact ⟨rfl, b2⟩
end Mix2
end Go.Proofs.YtgpooflcbljidaaDoor

