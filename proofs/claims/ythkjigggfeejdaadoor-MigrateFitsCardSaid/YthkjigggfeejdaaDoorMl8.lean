import Derived.Test.YthkjigggfeejdaaDoorMl5
namespace Go.Proofs.YthkjigggfeejdaaDoor
open Go.RowKit

set_option maxRecDepth 100000 in
set_option maxHeartbeats 2000000 in
theorem mcheck_nil (w : World) :
    Calls Tryd.prog 17 #[.agg #[.pointer none, .pointer none]] w fun e w' => e = .returned (.int .i64 1) ∧ Below w.heap.size w w' := by
  go_enter Tryd.func17, Tryd.ntmps17
  go_wp2_with fail
  refine abs1 fun W0 hX0 hbel0 hz => ?_
  clear hz
  have x0 := hX0.cell 0
  have x1 := hX0.cell 1
  have hbd : Below w.heap.size w W0.drew := hbel0.trans ((Below.refl W0.heap.size W0).drew.mono hbel0.size)
  refine wp_spine (fun W => Below W0.heap.size W0 W) [0, 1, 2, 3, 4, 5, 6, 7, 8, 9, 10, 12, 13] [11, 14, 15, 16] (by kernel_rfl) (by kernel_rfl) ?_
  iterate 4 (refine wpE_op (v := ?_) rfl rfl (fun W hW => ?_) ?_; rotate_left; (have z0 := onB hW x0; have z1 := onB hW x1; go_simp; first | done | with_reducible rfl); simp only [Act.put, List.setIfInBounds_toArray, List.set_cons_zero, List.set_cons_succ])
  iterate 3 (refine wpE_no rfl (by rfl) ?_; simp only [Act.put, List.setIfInBounds_toArray, List.set_cons_zero, List.set_cons_succ])
  iterate 2 (refine wpE_op (v := ?_) rfl rfl (fun W hW => ?_) ?_; rotate_left; (go_simp; first | done | with_reducible rfl); simp only [Act.put, List.setIfInBounds_toArray, List.set_cons_zero, List.set_cons_succ])
  iterate 4 (refine wpE_no rfl (by rfl) ?_; simp only [Act.put, List.setIfInBounds_toArray, List.set_cons_zero, List.set_cons_succ])
  refine wpE_nil ⟨fun h => (by cases h), wpSp_op rfl (Below.refl _ _).drew ?_⟩
  go_wp2_with fail
  refine nxt_op rfl (Below.refl _ _).drew ?_
  go_wp2_with fail
  refine nxt_op rfl (Below.refl _ _).drew ?_
  go_wp2_with fail
  refine nxt_op rfl (Below.refl _ _).drew ?_
  go_wp2_with fail
  refine nxt_nil ?_
  go_wp2_with fail
  go_ret
  exact ⟨rfl, hbd⟩
set_option maxRecDepth 100000 in
set_option maxHeartbeats 2000000 in
theorem mcheck_half (q : Nat) (w : World) :
    Calls Tryd.prog 17 #[.agg #[ptr q, .pointer none]] w fun e w' => e = .returned (.int .i64 1) ∧ Below w.heap.size w w' := by
  go_enter Tryd.func17, Tryd.ntmps17
  go_wp2_with fail
  refine abs1 fun W0 hX0 hbel0 hz => ?_
  clear hz
  have x0 := hX0.cell 0
  have x1 := hX0.cell 1
  have hbd : Below w.heap.size w W0.drew := hbel0.trans ((Below.refl W0.heap.size W0).drew.mono hbel0.size)
  refine wp_spine (fun W => Below W0.heap.size W0 W) [0, 1, 2, 3, 4, 5, 6, 7, 8, 9, 10, 12, 13] [11, 14, 15, 16] (by kernel_rfl) (by kernel_rfl) ?_
  iterate 4 (refine wpE_op (v := ?_) rfl rfl (fun W hW => ?_) ?_; rotate_left; (have z0 := onB hW x0; have z1 := onB hW x1; go_simp; first | done | with_reducible rfl); simp only [Act.put, List.setIfInBounds_toArray, List.set_cons_zero, List.set_cons_succ])
  iterate 3 (refine wpE_yes (v := ?_) rfl (by rfl) (fun W hW => ?_) ?_; rotate_left; (have z0 := onB hW x0; have z1 := onB hW x1; go_simp; first | done | with_reducible rfl); simp only [Act.put, List.setIfInBounds_toArray, List.set_cons_zero, List.set_cons_succ])
  iterate 2 (refine wpE_op (v := ?_) rfl rfl (fun W hW => ?_) ?_; rotate_left; (go_simp; first | done | with_reducible rfl); simp only [Act.put, List.setIfInBounds_toArray, List.set_cons_zero, List.set_cons_succ])
  iterate 4 (refine wpE_no rfl (by rfl) ?_; simp only [Act.put, List.setIfInBounds_toArray, List.set_cons_zero, List.set_cons_succ])
  refine wpE_nil ⟨fun h => (by cases h), wpSp_op rfl (Below.refl _ _).drew ?_⟩
  go_wp2_with fail
  refine nxt_op rfl (Below.refl _ _).drew ?_
  go_wp2_with fail
  refine nxt_op rfl (Below.refl _ _).drew ?_
  go_wp2_with fail
  refine nxt_op rfl (Below.refl _ _).drew ?_
  go_wp2_with fail
  refine nxt_nil ?_
  go_wp2_with fail
  go_ret
  exact ⟨rfl, hbd⟩
theorem config_pm (C R c C' R' d : Nat) (A B : Option Addr) (M P : List (List Bool)) (w : World) (hU : TRef w C A c M) (hP : TRef w C' B d P) (lM : M.length = R) (lP : P.length = R') (h1 : C ≤ 256) (h2 : R ≤ 256) (h3 : C' ≤ 256) (h4 : R' ≤ 256) :
    Calls Tryd.prog 16 #[rcfV C A R c C' B R' d] w fun e w' => ∃ u p, e = .returned (cfgV u p) ∧ PM w' u C M ∧ PM w' p C' P ∧ u ≠ p ∧ Below w.heap.size w w' := by
  subst lM lP
  exact config_any C c C' d A B M P w hU.ref hP.ref h1 h2 h3 h4
set_option maxRecDepth 100000 in
set_option maxHeartbeats 40000000 in
theorem checks_walk (v v' : Value) (R C : Nat) (zs : List Int) (R' C' : Nat) (zs' : List Int) (w : World) (hT : Tab w) (h : IsRaw w v R C zs) (h' : IsRaw w v' R' C' zs') :
    Calls Tryd.prog 3 #[v, v'] w fun e w' => e = .returned (.bool true) ∧ Below w.heap.size w w' := by
  have hbd := h.bd
  have hbd' := h'.bd
  obtain ⟨r, c, A0, d0, hv, _⟩ := id h
  obtain ⟨r', c', A0', d0', hv', _⟩ := id h'
  subst hv; subst hv'
  have HIN := hideC h; clear h
  have HIN' := hideC h'; clear h'
  go_enter Tryd.func3, Tryd.ntmps3
  go_wp2_with fail
  refine absC2 fun W0 hX hX2 hb0 hz => ?_
  clear hz
  refine (awake_any49 W0 (hT.below hb0)).mono ?_
  rintro e w1 ⟨rfl, hb1⟩
  have bw := hb0.trans (hb1.mono hb0.size)
  replace hX := hX.below hb1 hX.lt
  replace hX2 := hX2.below hb1 hX2.lt
  clear hb0 hb1
  go_upto_region 4 with fail
  go_cut [5] (fun s5 wx => ∃ g5 A1 c1 A2 c2, s5 = ptr g5 ∧ Blk wx g5 31 #[.int .i64 (C : Int), .slice A1 R c1, .int .i64 (C' : Int), .slice A2 R' c2] ∧ TRef wx C A1 c1 (mat R C (rawF C zs)) ∧ TRef wx C' A2 c2 (mat R' C' (rawF C' zs')) ∧ Below w.heap.size w wx)
  case first =>
    have hd : Below w1.heap.size w1 w1.drew := (Below.refl _ _).drew
    replace bw := bw.trans (hd.mono bw.size)
    replace hX := hX.below hd hX.lt
    replace hX2 := hX2.below hd hX2.lt
    go_wp2_with fail
    refine wp_mix (fun V => Blk V w.heap.size 24 #[.int .u8 r, .int .u8 c, .slice A0 zs.length d0] ∧ Blk V (w.heap.size + 1) 24 #[.int .u8 r', .int .u8 c', .slice A0' zs'.length d0']) 7 (by kernel_rfl) (by kernel_rfl) ⟨hX, hX2⟩ ?_
    obtain ⟨wq, hwq⟩ : ∃ V, V = w1.drew := ⟨_, rfl⟩
    rw [← hwq] at hd bw hX hX2 ⊢
    clear hwq hd
    (refine m_q 0 (v := ?_) (by kernel_rfl) rfl rfl (fun W hW => ?_) ?_; rotate_left; (have z0 := hW.1.cell 0; have z1 := hW.1.cell 1; have z2 := hW.1.cell 2; have u0 := hW.2.cell 0; have u1 := hW.2.cell 1; have u2 := hW.2.cell 2; go_simp; first | done | with_reducible rfl); simp only [Act.put, List.setIfInBounds_toArray, List.set_cons_zero, List.set_cons_succ]); (refine m_q 2 (v := ?_) (by kernel_rfl) rfl rfl (fun W hW => ?_) ?_; rotate_left; (have z0 := hW.1.cell 0; have z1 := hW.1.cell 1; have z2 := hW.1.cell 2; have u0 := hW.2.cell 0; have u1 := hW.2.cell 1; have u2 := hW.2.cell 2; go_simp; first | done | with_reducible rfl); simp only [Act.put, List.setIfInBounds_toArray, List.set_cons_zero, List.set_cons_succ])
    refine m_s2 1 5 (by kernel_rfl) rfl rfl ?_ ?_
    · go_wp2_with fail
      refine (make_own _ R C zs _ (HIN.out.below bw)).mono ?_
      rintro e wk1 ⟨A1, c1, gs1, rfl, hgs1, ho1, hb⟩
      replace bw := bw.trans (hb.mono bw.size)
      replace hX := hX.below hb hX.lt; replace hX2 := hX2.below hb hX2.lt
      go_wp2_with fail
      refine m_keep ⟨hX, hX2⟩ ?_
      clear hb
      refine m_s2 3 5 (by kernel_rfl) rfl rfl ?_ ?_
      · go_wp2_with fail
        refine (make_own _ R' C' zs' _ (HIN'.out.below bw)).mono ?_
        rintro e wk2 ⟨A2, c2, gs2, rfl, hgs2, ho2, hb⟩
        replace bw := bw.trans (hb.mono bw.size)
        replace hX := hX.below hb hX.lt; replace hX2 := hX2.below hb hX2.lt; replace ho1 := ho1.below hb
        go_wp2_with fail
        refine m_keep ⟨hX, hX2⟩ ?_
        clear hb
        refine m_s2 4 5 (by kernel_rfl) rfl rfl ?_ ?_
        · go_wp2_with fail
          refine m_keep ⟨hX, hX2⟩ ?_
          refine m_s1 5 (by kernel_rfl) rfl ?_
          go_wp2_with fail
          have hB5_lo := bw.size
          refine absN fun wk4 hB5 hb hzq => ?_
          clear hzq
          replace bw := bw.trans (hb.mono bw.size)
          replace hX := hX.below hb hX.lt; replace hX2 := hX2.below hb hX2.lt; replace ho1 := ho1.below hb; replace ho2 := ho2.below hb
          refine m_keep ⟨hX, hX2⟩ ?_
          generalize wk2.heap.size = g5 at hB5 hB5_lo ⊢
          clear hb
          have e0 := hB5.cell 0; have e1 := hB5.cell 1; have e2 := hB5.cell 2; have e3 := hB5.cell 3; have f0 := hB5.frozen 0; have f1 := hB5.frozen 1; have f2 := hB5.frozen 2; have f3 := hB5.frozen 3
          have P5 := hB5.putd (.int .i64 (C : Int)) (.slice A1 R c1) (.int .i64 (C' : Int)) (.slice A2 R' c2)
          have T1 := (TRef.mk_ ho1 hgs1 (by omega) (by omega)).far4 hB5 (by decide) (by decide) (.int .i64 (C : Int)) (.slice A1 R c1) (.int .i64 (C' : Int)) (.slice A2 R' c2)
          have T2 := (TRef.mk_ ho2 hgs2 (by omega) (by omega)).far4 hB5 (by decide) (by decide) (.int .i64 (C : Int)) (.slice A1 R c1) (.int .i64 (C' : Int)) (.slice A2 R' c2)
          have Y1 := hX.far4 (hX.ne_ hB5 (by decide)) (.int .i64 (C : Int)) (.slice A1 R c1) (.int .i64 (C' : Int)) (.slice A2 R' c2)
          have Y2 := hX2.far4 (hX2.ne_ hB5 (by decide)) (.int .i64 (C : Int)) (.slice A1 R c1) (.int .i64 (C' : Int)) (.slice A2 R' c2)
          have BW := below_put4 bw hB5_lo (.int .i64 (C : Int)) (.slice A1 R c1) (.int .i64 (C' : Int)) (.slice A2 R' c2)
          clear hB5 hX hX2 ho1 ho2 bw
          refine m_s1 6 (by kernel_rfl) rfl ?_
          go_wp2_with fail
          refine m_keep (W := put4 wk4 g5 (.int .i64 (C : Int)) (.slice A1 R c1) (.int .i64 (C' : Int)) (.slice A2 R' c2)) ⟨Y1, Y2⟩ ?_
          refine m_end (by kernel_rfl) ?_
          go_wp2_with fail
          go_meet
          exact ⟨_, A1, c1, A2, c2, rfl, P5, T1, T2, BW⟩
        · go_wp2_with fail
          have hB5_lo := bw.size
          refine absN fun wk5 hB5 hb hzq => ?_
          clear hzq
          replace bw := bw.trans (hb.mono bw.size)
          replace hX := hX.below hb hX.lt; replace hX2 := hX2.below hb hX2.lt; replace ho1 := ho1.below hb; replace ho2 := ho2.below hb
          refine m_keep ⟨hX, hX2⟩ ?_
          generalize wk2.heap.size = g5 at hB5 hB5_lo ⊢
          clear hb
          refine m_s1 4 (by kernel_rfl) rfl ?_
          go_wp2_with fail
          refine m_keep ⟨hX, hX2⟩ ?_
          have e0 := hB5.cell 0; have e1 := hB5.cell 1; have e2 := hB5.cell 2; have e3 := hB5.cell 3; have f0 := hB5.frozen 0; have f1 := hB5.frozen 1; have f2 := hB5.frozen 2; have f3 := hB5.frozen 3
          have P5 := hB5.putd (.int .i64 (C : Int)) (.slice A1 R c1) (.int .i64 (C' : Int)) (.slice A2 R' c2)
          have T1 := (TRef.mk_ ho1 hgs1 (by omega) (by omega)).far4 hB5 (by decide) (by decide) (.int .i64 (C : Int)) (.slice A1 R c1) (.int .i64 (C' : Int)) (.slice A2 R' c2)
          have T2 := (TRef.mk_ ho2 hgs2 (by omega) (by omega)).far4 hB5 (by decide) (by decide) (.int .i64 (C : Int)) (.slice A1 R c1) (.int .i64 (C' : Int)) (.slice A2 R' c2)
          have Y1 := hX.far4 (hX.ne_ hB5 (by decide)) (.int .i64 (C : Int)) (.slice A1 R c1) (.int .i64 (C' : Int)) (.slice A2 R' c2)
          have Y2 := hX2.far4 (hX2.ne_ hB5 (by decide)) (.int .i64 (C : Int)) (.slice A1 R c1) (.int .i64 (C' : Int)) (.slice A2 R' c2)
          have BW := below_put4 bw hB5_lo (.int .i64 (C : Int)) (.slice A1 R c1) (.int .i64 (C' : Int)) (.slice A2 R' c2)
          clear hB5 hX hX2 ho1 ho2 bw
          refine m_s1 6 (by kernel_rfl) rfl ?_
          go_wp2_with fail
          refine m_keep (W := put4 wk5 g5 (.int .i64 (C : Int)) (.slice A1 R c1) (.int .i64 (C' : Int)) (.slice A2 R' c2)) ⟨Y1, Y2⟩ ?_
          refine m_end (by kernel_rfl) ?_
          go_wp2_with fail
          go_meet
          exact ⟨_, A1, c1, A2, c2, rfl, P5, T1, T2, BW⟩
      · go_wp2_with fail
        have hB5_lo := bw.size
        refine absN fun wk7 hB5 hb hzq => ?_
        clear hzq
        replace bw := bw.trans (hb.mono bw.size)
        replace hX := hX.below hb hX.lt; replace hX2 := hX2.below hb hX2.lt; replace ho1 := ho1.below hb
        refine m_keep ⟨hX, hX2⟩ ?_
        generalize wk1.heap.size = g5 at hB5 hB5_lo ⊢
        clear hb
        refine m_s1 3 (by kernel_rfl) rfl ?_
        go_wp2_with fail
        refine (make_own _ R' C' zs' _ (HIN'.out.below bw)).mono ?_
        rintro e wk8 ⟨A2, c2, gs2, rfl, hgs2, ho2, hb⟩
        replace bw := bw.trans (hb.mono bw.size)
        replace hX := hX.below hb hX.lt; replace hX2 := hX2.below hb hX2.lt; replace ho1 := ho1.below hb; replace hB5 := hB5.below hb hB5.lt
        go_wp2_with fail
        refine m_keep ⟨hX, hX2⟩ ?_
        clear hb
        refine m_s1 4 (by kernel_rfl) rfl ?_
        go_wp2_with fail
        refine m_keep ⟨hX, hX2⟩ ?_
        have e0 := hB5.cell 0; have e1 := hB5.cell 1; have e2 := hB5.cell 2; have e3 := hB5.cell 3; have f0 := hB5.frozen 0; have f1 := hB5.frozen 1; have f2 := hB5.frozen 2; have f3 := hB5.frozen 3
        have P5 := hB5.putd (.int .i64 (C : Int)) (.slice A1 R c1) (.int .i64 (C' : Int)) (.slice A2 R' c2)
        have T1 := (TRef.mk_ ho1 hgs1 (by omega) (by omega)).far4 hB5 (by decide) (by decide) (.int .i64 (C : Int)) (.slice A1 R c1) (.int .i64 (C' : Int)) (.slice A2 R' c2)
        have T2 := (TRef.mk_ ho2 hgs2 (by omega) (by omega)).far4 hB5 (by decide) (by decide) (.int .i64 (C : Int)) (.slice A1 R c1) (.int .i64 (C' : Int)) (.slice A2 R' c2)
        have Y1 := hX.far4 (hX.ne_ hB5 (by decide)) (.int .i64 (C : Int)) (.slice A1 R c1) (.int .i64 (C' : Int)) (.slice A2 R' c2)
        have Y2 := hX2.far4 (hX2.ne_ hB5 (by decide)) (.int .i64 (C : Int)) (.slice A1 R c1) (.int .i64 (C' : Int)) (.slice A2 R' c2)
        have BW := below_put4 bw hB5_lo (.int .i64 (C : Int)) (.slice A1 R c1) (.int .i64 (C' : Int)) (.slice A2 R' c2)
        clear hB5 hX hX2 ho1 ho2 bw
        refine m_s1 6 (by kernel_rfl) rfl ?_
        go_wp2_with fail
        refine m_keep (W := put4 wk8 g5 (.int .i64 (C : Int)) (.slice A1 R c1) (.int .i64 (C' : Int)) (.slice A2 R' c2)) ⟨Y1, Y2⟩ ?_
        refine m_end (by kernel_rfl) ?_
        go_wp2_with fail
        go_meet
        exact ⟨_, A1, c1, A2, c2, rfl, P5, T1, T2, BW⟩
    · go_wp2_with fail
      have hB5_lo := bw.size
      refine absN fun wk10 hB5 hb hzq => ?_
      clear hzq
      replace bw := bw.trans (hb.mono bw.size)
      replace hX := hX.below hb hX.lt; replace hX2 := hX2.below hb hX2.lt
      refine m_keep ⟨hX, hX2⟩ ?_
      generalize wq.heap.size = g5 at hB5 hB5_lo ⊢
      clear hb
      refine m_s1 1 (by kernel_rfl) rfl ?_
      go_wp2_with fail
      refine (make_own _ R C zs _ (HIN.out.below bw)).mono ?_
      rintro e wk11 ⟨A1, c1, gs1, rfl, hgs1, ho1, hb⟩
      replace bw := bw.trans (hb.mono bw.size)
      replace hX := hX.below hb hX.lt; replace hX2 := hX2.below hb hX2.lt; replace hB5 := hB5.below hb hB5.lt
      go_wp2_with fail
      refine m_keep ⟨hX, hX2⟩ ?_
      clear hb
      refine m_s1 3 (by kernel_rfl) rfl ?_
      go_wp2_with fail
      refine (make_own _ R' C' zs' _ (HIN'.out.below bw)).mono ?_
      rintro e wk12 ⟨A2, c2, gs2, rfl, hgs2, ho2, hb⟩
      replace bw := bw.trans (hb.mono bw.size)
      replace hX := hX.below hb hX.lt; replace hX2 := hX2.below hb hX2.lt; replace hB5 := hB5.below hb hB5.lt; replace ho1 := ho1.below hb
      go_wp2_with fail
      refine m_keep ⟨hX, hX2⟩ ?_
      clear hb
      refine m_s1 4 (by kernel_rfl) rfl ?_
      go_wp2_with fail
      refine m_keep ⟨hX, hX2⟩ ?_
      have e0 := hB5.cell 0; have e1 := hB5.cell 1; have e2 := hB5.cell 2; have e3 := hB5.cell 3; have f0 := hB5.frozen 0; have f1 := hB5.frozen 1; have f2 := hB5.frozen 2; have f3 := hB5.frozen 3
      have P5 := hB5.putd (.int .i64 (C : Int)) (.slice A1 R c1) (.int .i64 (C' : Int)) (.slice A2 R' c2)
      have T1 := (TRef.mk_ ho1 hgs1 (by omega) (by omega)).far4 hB5 (by decide) (by decide) (.int .i64 (C : Int)) (.slice A1 R c1) (.int .i64 (C' : Int)) (.slice A2 R' c2)
      have T2 := (TRef.mk_ ho2 hgs2 (by omega) (by omega)).far4 hB5 (by decide) (by decide) (.int .i64 (C : Int)) (.slice A1 R c1) (.int .i64 (C' : Int)) (.slice A2 R' c2)
      have Y1 := hX.far4 (hX.ne_ hB5 (by decide)) (.int .i64 (C : Int)) (.slice A1 R c1) (.int .i64 (C' : Int)) (.slice A2 R' c2)
      have Y2 := hX2.far4 (hX2.ne_ hB5 (by decide)) (.int .i64 (C : Int)) (.slice A1 R c1) (.int .i64 (C' : Int)) (.slice A2 R' c2)
      have BW := below_put4 bw hB5_lo (.int .i64 (C : Int)) (.slice A1 R c1) (.int .i64 (C' : Int)) (.slice A2 R' c2)
      clear hB5 hX hX2 ho1 ho2 bw
      refine m_s1 6 (by kernel_rfl) rfl ?_
      go_wp2_with fail
      refine m_keep (W := put4 wk12 g5 (.int .i64 (C : Int)) (.slice A1 R c1) (.int .i64 (C' : Int)) (.slice A2 R' c2)) ⟨Y1, Y2⟩ ?_
      refine m_end (by kernel_rfl) ?_
      go_wp2_with fail
      go_meet
      exact ⟨_, A1, c1, A2, c2, rfl, P5, T1, T2, BW⟩
  case rest =>
    obtain ⟨g5, A1, c1, A2, c2, rfl, h5, hM, hP, b1⟩ := hcut
    clear hX hX2 bw HIN HIN'
    have lM := mat_len R C (rawF C zs)
    have lP := mat_len R' C' (rawF C' zs')
    obtain ⟨M, hMe⟩ : ∃ M, M = mat R C (rawF C zs) := ⟨_, rfl⟩
    obtain ⟨P, hPe⟩ : ∃ M, M = mat R' C' (rawF C' zs') := ⟨_, rfl⟩
    rw [← hMe] at hM lM
    rw [← hPe] at hP lP
    have HLM := Lib.hid lM
    have HLP := Lib.hid lP
    have x0 := h5.cell 0
    have x1 := h5.cell 1
    have x2 := h5.cell 2
    have x3 := h5.cell 3
    clear hMe hPe lM lP
    obtain ⟨E, hE⟩ : ∃ E : Nat, E = if C = R' then 0 else 1 := ⟨_, rfl⟩
    have HCH := rcheck_any C R c1 C' R' c2 A1 A2 wc
    rw [show (if C = R' then (0 : Int) else 1) = ((if C = R' then 0 else 1 : Nat) : Int) by split <;> rfl, ← hE] at HCH
    have HCHH := hideC HCH
    have HMC : Hid (∀ W q r, PM W q C M → PM W r C' P → Calls Tryd.prog 17 #[cfgV q r] W fun e w' => e = .returned (.int .i64 E) ∧ Below W.heap.size W w') := hideC fun W q r h1 h2 => by
      have := mcheck_any q r C C' M P W h1 h2
      rw [HLP.out] at this
      rwa [show (if C = R' then (0 : Int) else 1) = ((if C = R' then 0 else 1 : Nat) : Int) by split <;> rfl, ← hE] at this
    have HE := Lib.hid hE
    clear hE HCH
    go_wp2_with fail
    refine HCHH.out.mono ?_
    rintro e w2 ⟨rfl, hb2⟩
    have b2 := b1.trans (hb2.mono b1.size)
    have h52 := h5.below hb2 h5.lt
    have hM2 := hM.below hb2
    have hP2 := hP.below hb2
    clear x0 x1 x2 x3 h5 hM hP HCHH hb2 b1
    have x0 := h52.cell 0
    have x1 := h52.cell 1
    have x2 := h52.cell 2
    have x3 := h52.cell 3
    go_wp2_with fail
    refine (config_pm C R c1 C' R' c2 A1 A2 M P w2 hM2 hP2 HLM.out HLP.out (by omega) (by omega) (by omega) (by omega)).mono ?_
    rintro e w3 ⟨q1, r1, rfl, hq1, hr1, hne1, hb3⟩
    have b3 := b2.trans (hb3.mono b2.size)
    have h53 := h52.below hb3 h52.lt
    have hM3 := hM2.below hb3
    have hP3 := hP2.below hb3
    clear x0 x1 x2 x3 h52 hM2 hP2 hb3 b2
    have x0 := h53.cell 0
    have x1 := h53.cell 1
    have x2 := h53.cell 2
    have x3 := h53.cell 3
    have HAC : Hid (Calls Tryd.prog 15 #[cfgV q1 r1] w3 fun e w' => ∃ o, e = pair (.pointer o) E ∧ (E ≠ 0 → o = none) ∧ (E = 0 → C = R' ∧ ∃ b, o = some ⟨b, 0, none⟩ ∧ PM w' b C' (accM C C' M P)) ∧ Below w3.heap.size w3 w') := hideC (by
      by_cases hcr : C = R'
      · have hE0 : E = 0 := by rw [HE.out, if_pos hcr]
        refine (maccess_any q1 r1 C C' M P w3 ⟨hq1, hr1, by rw [HLP.out]; exact hcr, hne1⟩ (hT.below b3)).mono ?_
        rintro e w' ⟨b, rfl, hm, hb⟩
        exact ⟨some ⟨b, 0, none⟩, by rw [hE0]; rfl, fun h => absurd hE0 h, fun _ => ⟨hcr, b, rfl, hm⟩, hb⟩
      · have hE1 : E = 1 := by rw [HE.out, if_neg hcr]
        refine (maccess_no q1 r1 C C' M P w3 hq1 hr1 (by rw [HLP.out]; exact hcr)).mono ?_
        rintro e w' ⟨rfl, hb⟩
        exact ⟨none, by rw [hE1]; rfl, fun _ => rfl, fun h => absurd h (by omega), hb⟩)
    have hE2 : E ≤ 1 := by rw [HE.out]; split <;> omega
    go_wp2_with fail
    refine HAC.out.mono ?_
    rintro e w4 ⟨o, rfl, ho1, ho2, hb4⟩
    have b4 := b3.trans (hb4.mono b3.size)
    have h54 := h53.below hb4 h53.lt
    have hM4 := hM3.below hb4
    have hP4 := hP3.below hb4
    clear x0 x1 x2 x3 h53 hM3 hP3 b3 HAC hq1 hr1 hne1
    have x0 := h54.cell 0
    have x1 := h54.cell 1
    have x2 := h54.cell 2
    have x3 := h54.cell 3
    have HO1 := hideC ho1
    have HO2 := hideC ho2
    clear ho1 ho2
    go_wp2_with fail
    refine (config_pm C R c1 C' R' c2 A1 A2 M P w4 hM4 hP4 HLM.out HLP.out (by omega) (by omega) (by omega) (by omega)).mono ?_
    rintro e w5 ⟨q2, r2, rfl, hq2, hr2, hne2, hb5⟩
    go_wp2_with fail
    refine (HMC.out w5 q2 r2 hq2 hr2).mono ?_
    rintro e w6 ⟨rfl, hb6⟩
    have hb46 := hb5.trans (hb6.mono hb5.size)
    go_wp2_with fail
    refine (mcheck_nil w6).mono ?_
    rintro e w7 ⟨rfl, hb7⟩
    have hb47 := hb46.trans (hb7.mono hb46.size)
    have h57 := h54.below hb47 h54.lt
    have hM7 := hM4.below hb47
    have hP7 := hP4.below hb47
    have b7 := b4.trans (hb47.mono b4.size)
    clear x0 x1 x2 x3 h54 hM4 hP4 b4 hq2 hr2 hne2 hb5 hb6 hb7 hb46
    have x0 := h57.cell 0
    have x1 := h57.cell 1
    have hML := hideC (matrixl_any C A1 c1 M w7 hM7.ref (by omega) (by rw [HLM.out]; omega))
    rw [HLM.out] at hML
    go_wp2_with fail
    refine hML.out.mono ?_
    rintro e w8 ⟨q8, rfl, _, _, hb8⟩
    go_wp2_with fail
    refine (mcheck_half q8 w8).mono ?_
    rintro e w9 ⟨rfl, hb9⟩
    have hb79 := hb8.trans (hb9.mono hb8.size)
    have h59 := h57.below hb79 h57.lt
    have hM9 := hM7.below hb79
    have hP9 := hP7.below hb79
    have b9 := b7.trans (hb79.mono b7.size)
    have k49 := hb47.trans (hb79.mono hb47.size)
    clear x0 x1 h57 hM7 hP7 hML
    have x0 := h59.cell 0
    have x1 := h59.cell 1
    have x2 := h59.cell 2
    have x3 := h59.cell 3
    by_cases hE0 : E = 0
    · obtain ⟨hcr, b, hob, hmb⟩ := HO2.out hE0
      subst hE0
      subst hob
      have HRA := raccess_own C c1 C' c2 A1 A2 M P w9 ⟨hM9, hP9⟩ (by rw [HLP.out]; exact hcr)
      rw [HLM.out, HLP.out] at HRA
      have HRAA := hideC HRA
      have hmb9 := hmb.below k49
      have hal := accM_len C C' M P
      rw [HLM.out] at hal
      have HAL := Lib.hid hal
      clear HRA hal hcr HO1 HO2 HE HMC hmb
      go_wp2_with fail
      refine HRAA.out.mono ?_
      rintro e wA ⟨AA, cA, rfl, htA, hbA⟩
      have HSM := samel_yes b C' cA AA (accM C C' M P) wA (hmb9.below hbA) htA.ref (by omega) (by rw [HAL.out]; omega)
      rw [HAL.out] at HSM
      have HSMM := hideC HSM
      clear HSM
      go_wp2_with fail
      refine HSMM.out.mono ?_
      rintro e wB ⟨rfl, hbB⟩
      go_wp2_with fail
      go_ret
      exact ⟨rfl, (b9.trans (hbA.mono b9.size)).trans (hbB.mono (Nat.le_trans b9.size hbA.size))⟩
    · have hE1 : E = 1 := by omega
      have hob := HO1.out hE0
      subst hE1
      subst hob
      clear hE0 HO1 HO2 HE HMC
      go_wp2_with fail
      go_ret
      exact ⟨rfl, b9⟩
end Go.Proofs.YthkjigggfeejdaaDoor
