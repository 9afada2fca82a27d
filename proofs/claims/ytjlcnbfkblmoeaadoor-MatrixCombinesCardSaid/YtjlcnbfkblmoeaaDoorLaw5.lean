import Derived.Test.YtjlcnbfkblmoeaaDoorLaw3
namespace Go.Proofs.YtjlcnbfkblmoeaaDoor
open Go.RowKit

/-! Plain: what the program's Within and Equal say of the elements. -/
theorem sub_iff {N K : Nat} : N &&& K = N ↔ ∀ j, N.testBit j = true → K.testBit j = true := by
  constructor
  · intro h j hj
    have := congrArg (fun x => x.testBit j) h
    simp only [Nat.testBit_and, hj, Bool.true_and] at this
    exact this
  · intro h
    apply Nat.eq_of_testBit_eq
    intro j
    rw [Nat.testBit_and]
    cases hj : N.testBit j with
    | false => rfl
    | true => rw [h j hj]; rfl
theorem bit_out {C : Nat} {M : List (List Bool)} (hC : C ≤ 4096) {i j : Nat} (hi : i < M.length) (h : ((nsOf C M).getD i 0).testBit j = true) : j < C ∧ mget M i j = true := by
  rw [nsOf_get hi, testBit_rowN _ _ _ _ hC, hasR_nat] at h
  simp only [Bool.and_eq_true, decide_eq_true_eq] at h
  exact ⟨h.1.2, h.2⟩
theorem within_same {C D : Nat} {M P : List (List Bool)} (hC : C ≤ 4096) : decide (C = D ∧ (nsOf C M).length = (nsOf D P).length ∧ withinM (nsOf C M) (nsOf D P)) = withinB C D M P := by
  unfold withinB
  rw [nsTo_len, nsTo_len, Bool.eq_iff_iff, decide_eq_true_eq, decide_eq_true_eq]
  constructor
  · rintro ⟨rfl, hL, hw⟩
    refine ⟨⟨hL, rfl⟩, fun i hi j hj hm => ?_⟩
    have h1 := sub_iff.1 (hw i (by rw [nsTo_len]; exact hi)) j (by rw [bit_nsOf hC hi hj]; exact hm)
    rwa [bit_nsOf hC (by omega) hj] at h1
  · rintro ⟨⟨hL, rfl⟩, hw⟩
    refine ⟨rfl, hL, fun i hi => sub_iff.2 fun j hj => ?_⟩
    rw [nsTo_len] at hi
    obtain ⟨hjC, hm⟩ := bit_out hC hi hj
    rw [bit_nsOf hC (by omega) hjC]
    exact hw i hi j hjC hm
theorem equal_same {C D : Nat} {M P : List (List Bool)} (hC : C ≤ 4096) (hD : D ≤ 4096) : decide (C = D ∧ (nsOf C M).length = (nsOf D P).length ∧ withinM (nsOf C M) (nsOf D P) ∧ withinM (nsOf D P) (nsOf C M)) = sameB C D M P := by
  unfold sameB
  rw [← within_same hC, ← within_same hD, Bool.eq_iff_iff, Bool.and_eq_true, decide_eq_true_eq, decide_eq_true_eq, decide_eq_true_eq]
  constructor
  · rintro ⟨rfl, hL, h1, h2⟩; exact ⟨⟨rfl, hL, h1⟩, rfl, hL.symm, h2⟩
  · rintro ⟨⟨rfl, hL, h1⟩, _, _, h2⟩; exact ⟨rfl, hL, h1, h2⟩
set_option maxRecDepth 100000 in
set_option maxHeartbeats 40000000 in
theorem combines_walk (v v' : Value) (R C R' C' : Nat) (zs zs' : List Int) (w : World) (hT : Tab w) (h : IsRaw w v R C zs) (h' : IsRaw w v' R' C' zs') :
    Calls Tryd.prog 7 #[v, v'] w fun e w' => e = .returned (.bool true) ∧ Below w.heap.size w w' := by
  have hbd := h.bd
  have hbd' := h'.bd
  obtain ⟨r, c, A0, d0, hv, _⟩ := id h
  obtain ⟨r', c', A0', d0', hv', _⟩ := id h'
  subst hv; subst hv'
  have HIN := hideC h; clear h
  have HIN' := hideC h'; clear h'
  go_enter Tryd.func7, Tryd.ntmps7
  go_wp2_with fail
  refine absC2 fun W0 hX hX' hbel0 hz => ?_
  have HZ := Lib.hid hz; clear hz
  refine (awake_any W0 (hT.below hbel0)).mono ?_
  rintro e w1 ⟨rfl, hb1⟩
  have b1 := hbel0.trans (hb1.mono hbel0.size)
  have hX1 := hX.below hb1 hX.lt
  have hX1' := hX'.below hb1 hX'.lt
  have x0 := hX1.cell 0
  have x1 := hX1.cell 1
  have x2 := hX1.cell 2
  have y0 := hX1'.cell 0
  have y1 := hX1'.cell 1
  have y2 := hX1'.cell 2
  go_upto_region 3 with fail
  go_cut [5, 6] (fun s5 s6 wx => ∃ (g5 g6 : Nat) (A B : Option Addr) (c d : Nat), s5 = ptr g5 ∧ s6 = ptr g6 ∧ Blk wx g5 28 #[.int .i64 (C : Int), .slice A R c] ∧ Blk wx g6 28 #[.int .i64 (C' : Int), .slice B R' d] ∧ IsRef wx C A (rawM R C zs) ∧ IsRef wx C' B (rawM R' C' zs') ∧ Below w.heap.size w wx)
  case first =>
    refine wp_mix (fun V => Below w1.heap.size w1 V) 8 (by kernel_rfl) (by kernel_rfl) (Below.refl _ _).drew ?_
    (refine m_q 0 (v := ?_) (by kernel_rfl) rfl rfl (fun W hW => ?_) ?_; rotate_left; (have z0 := onB hW x0; have z1 := onB hW x1; have z2 := onB hW x2; have z3 := onB hW y0; have z4 := onB hW y1; have z5 := onB hW y2; go_simp; first | done | with_reducible rfl); simp only [Act.put, List.setIfInBounds_toArray, List.set_cons_zero, List.set_cons_succ]); (refine m_q 2 (v := ?_) (by kernel_rfl) rfl rfl (fun W hW => ?_) ?_; rotate_left; (have z0 := onB hW x0; have z1 := onB hW x1; have z2 := onB hW x2; have z3 := onB hW y0; have z4 := onB hW y1; have z5 := onB hW y2; go_simp; first | done | with_reducible rfl); simp only [Act.put, List.setIfInBounds_toArray, List.set_cons_zero, List.set_cons_succ])
    -- PAIR
    refine m_s3 1 4 5 (by kernel_rfl) rfl rfl rfl ?_ ?_ ?_
    · have b := b1.drew
      go_wp2_with fail
      refine (make_own _ R C zs _ (HIN.out.below b)).mono ?_
      rintro e wk1 ⟨A1, c1, gs1, rfl, hgs1, hO1, hb⟩
      have hbs := (Below.refl w1.heap.size w1).drew.trans hb
      replace b := b.trans (hb.mono b.size)
      go_wp2_with fail
      refine m_next hbs ?_
      clear hb hbs
      refine m_s3 3 4 5 (by kernel_rfl) rfl rfl rfl ?_ ?_ ?_
      · go_wp2_with fail
        refine (make_own _ R' C' zs' _ (HIN'.out.below b)).mono ?_
        rintro e wk2 ⟨A2, c2, gs2, rfl, hgs2, hO2, hb⟩
        replace b := b.trans (hb.mono b.size); replace hO1 := hO1.below hb
        go_wp2_with fail
        refine m_next hb ?_
        clear hb
        refine m_s2 4 5 (by kernel_rfl) rfl rfl ?_ ?_
        · go_wp2_with fail
          have hg5 := b.size
          refine absN fun wk3 hB5 hb hzq => ?_
          clear hzq
          replace b := b.trans (hb.mono b.size); replace hO1 := hO1.below hb; replace hO2 := hO2.below hb
          refine m_next hb ?_
          generalize wk2.heap.size = g5 at hB5 hg5 ⊢
          clear hb
          refine m_s1 5 (by kernel_rfl) rfl ?_
          go_wp2_with fail
          have hg6 := b.size
          have hne := Nat.ne_of_lt hB5.lt
          refine absN fun wk4 hB6 hb hzq => ?_
          clear hzq
          replace b := b.trans (hb.mono b.size); replace hO1 := hO1.below hb; replace hO2 := hO2.below hb; replace hB5 := hB5.below hb hB5.lt
          refine m_next hb ?_
          generalize wk3.heap.size = g6 at hB6 hg6 hne ⊢
          clear hb
          have e0 := hB5.cell 0; have e1 := hB5.cell 1; have f0 := hB5.frozen 0; have f1 := hB5.frozen 1
          have P5 := (hB5.set_ 0 (.int .i64 (C : Int))).set_ 1 (.slice A1 R c1)
          have P6 := (hB6.far (p := ⟨_, 0, none⟩) (Ne.symm hne) (.int .i64 (C : Int))).far (p := ⟨_, 1, none⟩) (Ne.symm hne) (.slice A1 R c1)
          have O1 := (hO1.far hB5 (by decide) (by decide) 0 (.int .i64 (C : Int))).far (hB5.set_ 0 (.int .i64 (C : Int))) (by decide) (by decide) 1 (.slice A1 R c1)
          have O2 := (hO2.far hB5 (by decide) (by decide) 0 (.int .i64 (C : Int))).far (hB5.set_ 0 (.int .i64 (C : Int))) (by decide) (by decide) 1 (.slice A1 R c1)
          have Pb := (b.setCell (p := ⟨_, 0, none⟩) hg5 (.int .i64 (C : Int))).setCell (p := ⟨_, 1, none⟩) hg5 (.slice A1 R c1)
          clear hB5 hB6 hO1 hO2 b
          refine m_s1 6 (by kernel_rfl) rfl ?_
          go_wp2_with fail
          refine m_clear (by kernel_rfl) ?_
          obtain ⟨W7, hW7⟩ : ∃ W7, W7 = (wk4.setCell ⟨g5, 0, none⟩ (.int .i64 (C : Int))).setCell ⟨g5, 1, none⟩ (.slice A1 R c1) := ⟨_, rfl⟩
          rw [← hW7] at P5 P6 O1 O2 Pb ⊢; clear hW7 e0 e1 f0 f1
          have e0 := P6.cell 0; have e1 := P6.cell 1; have f0 := P6.frozen 0; have f1 := P6.frozen 1
          have R6 := (P6.set_ 0 (.int .i64 (C' : Int))).set_ 1 (.slice A2 R' c2)
          have R5 := (P5.far (p := ⟨_, 0, none⟩) hne (.int .i64 (C' : Int))).far (p := ⟨_, 1, none⟩) hne (.slice A2 R' c2)
          have X1 := (O1.far P6 (by decide) (by decide) 0 (.int .i64 (C' : Int))).far (P6.set_ 0 (.int .i64 (C' : Int))) (by decide) (by decide) 1 (.slice A2 R' c2)
          have X2 := (O2.far P6 (by decide) (by decide) 0 (.int .i64 (C' : Int))).far (P6.set_ 0 (.int .i64 (C' : Int))) (by decide) (by decide) 1 (.slice A2 R' c2)
          have Xb := (Pb.setCell (p := ⟨_, 0, none⟩) hg6 (.int .i64 (C' : Int))).setCell (p := ⟨_, 1, none⟩) hg6 (.slice A2 R' c2)
          clear P5 P6 O1 O2 Pb
          refine m_s1 7 (by kernel_rfl) rfl ?_
          go_wp2_with fail
          refine m_clear (by kernel_rfl) ?_
          refine m_end (by kernel_rfl) ?_
          go_wp2_with fail
          go_meet
          exact ⟨_, _, A1, A2, c1, c2, rfl, rfl, R5, R6, own_ref X1 hgs1 (by omega) (by omega), own_ref X2 hgs2 (by omega) (by omega), Xb⟩
        · go_wp2_with fail
          have hg6 := b.size
          refine absN fun wk5 hB6 hb hzq => ?_
          clear hzq
          replace b := b.trans (hb.mono b.size); replace hO1 := hO1.below hb; replace hO2 := hO2.below hb
          refine m_next hb ?_
          generalize wk2.heap.size = g6 at hB6 hg6 ⊢
          clear hb
          refine m_s1 4 (by kernel_rfl) rfl ?_
          go_wp2_with fail
          have hg5 := b.size
          have hne := Nat.ne_of_gt hB6.lt
          refine absN fun wk6 hB5 hb hzq => ?_
          clear hzq
          replace b := b.trans (hb.mono b.size); replace hO1 := hO1.below hb; replace hO2 := hO2.below hb; replace hB6 := hB6.below hb hB6.lt
          refine m_next hb ?_
          generalize wk5.heap.size = g5 at hB5 hg5 hne ⊢
          clear hb
          have e0 := hB5.cell 0; have e1 := hB5.cell 1; have f0 := hB5.frozen 0; have f1 := hB5.frozen 1
          have P5 := (hB5.set_ 0 (.int .i64 (C : Int))).set_ 1 (.slice A1 R c1)
          have P6 := (hB6.far (p := ⟨_, 0, none⟩) (Ne.symm hne) (.int .i64 (C : Int))).far (p := ⟨_, 1, none⟩) (Ne.symm hne) (.slice A1 R c1)
          have O1 := (hO1.far hB5 (by decide) (by decide) 0 (.int .i64 (C : Int))).far (hB5.set_ 0 (.int .i64 (C : Int))) (by decide) (by decide) 1 (.slice A1 R c1)
          have O2 := (hO2.far hB5 (by decide) (by decide) 0 (.int .i64 (C : Int))).far (hB5.set_ 0 (.int .i64 (C : Int))) (by decide) (by decide) 1 (.slice A1 R c1)
          have Pb := (b.setCell (p := ⟨_, 0, none⟩) hg5 (.int .i64 (C : Int))).setCell (p := ⟨_, 1, none⟩) hg5 (.slice A1 R c1)
          clear hB5 hB6 hO1 hO2 b
          refine m_s1 6 (by kernel_rfl) rfl ?_
          go_wp2_with fail
          refine m_clear (by kernel_rfl) ?_
          obtain ⟨W7, hW7⟩ : ∃ W7, W7 = (wk6.setCell ⟨g5, 0, none⟩ (.int .i64 (C : Int))).setCell ⟨g5, 1, none⟩ (.slice A1 R c1) := ⟨_, rfl⟩
          rw [← hW7] at P5 P6 O1 O2 Pb ⊢; clear hW7 e0 e1 f0 f1
          have e0 := P6.cell 0; have e1 := P6.cell 1; have f0 := P6.frozen 0; have f1 := P6.frozen 1
          have R6 := (P6.set_ 0 (.int .i64 (C' : Int))).set_ 1 (.slice A2 R' c2)
          have R5 := (P5.far (p := ⟨_, 0, none⟩) hne (.int .i64 (C' : Int))).far (p := ⟨_, 1, none⟩) hne (.slice A2 R' c2)
          have X1 := (O1.far P6 (by decide) (by decide) 0 (.int .i64 (C' : Int))).far (P6.set_ 0 (.int .i64 (C' : Int))) (by decide) (by decide) 1 (.slice A2 R' c2)
          have X2 := (O2.far P6 (by decide) (by decide) 0 (.int .i64 (C' : Int))).far (P6.set_ 0 (.int .i64 (C' : Int))) (by decide) (by decide) 1 (.slice A2 R' c2)
          have Xb := (Pb.setCell (p := ⟨_, 0, none⟩) hg6 (.int .i64 (C' : Int))).setCell (p := ⟨_, 1, none⟩) hg6 (.slice A2 R' c2)
          clear P5 P6 O1 O2 Pb
          refine m_s1 7 (by kernel_rfl) rfl ?_
          go_wp2_with fail
          refine m_clear (by kernel_rfl) ?_
          refine m_end (by kernel_rfl) ?_
          go_wp2_with fail
          go_meet
          exact ⟨_, _, A1, A2, c1, c2, rfl, rfl, R5, R6, own_ref X1 hgs1 (by omega) (by omega), own_ref X2 hgs2 (by omega) (by omega), Xb⟩
      · go_wp2_with fail
        have hg5 := b.size
        refine absN fun wk7 hB5 hb hzq => ?_
        clear hzq
        replace b := b.trans (hb.mono b.size); replace hO1 := hO1.below hb
        refine m_next hb ?_
        generalize wk1.heap.size = g5 at hB5 hg5 ⊢
        clear hb
        refine m_s2 3 5 (by kernel_rfl) rfl rfl ?_ ?_
        · go_wp2_with fail
          refine (make_own _ R' C' zs' _ (HIN'.out.below b)).mono ?_
          rintro e wk8 ⟨A2, c2, gs2, rfl, hgs2, hO2, hb⟩
          replace b := b.trans (hb.mono b.size); replace hO1 := hO1.below hb; replace hB5 := hB5.below hb hB5.lt
          go_wp2_with fail
          refine m_next hb ?_
          clear hb
          refine m_s1 5 (by kernel_rfl) rfl ?_
          go_wp2_with fail
          have hg6 := b.size
          have hne := Nat.ne_of_lt hB5.lt
          refine absN fun wk9 hB6 hb hzq => ?_
          clear hzq
          replace b := b.trans (hb.mono b.size); replace hO1 := hO1.below hb; replace hO2 := hO2.below hb; replace hB5 := hB5.below hb hB5.lt
          refine m_next hb ?_
          generalize wk8.heap.size = g6 at hB6 hg6 hne ⊢
          clear hb
          have e0 := hB5.cell 0; have e1 := hB5.cell 1; have f0 := hB5.frozen 0; have f1 := hB5.frozen 1
          have P5 := (hB5.set_ 0 (.int .i64 (C : Int))).set_ 1 (.slice A1 R c1)
          have P6 := (hB6.far (p := ⟨_, 0, none⟩) (Ne.symm hne) (.int .i64 (C : Int))).far (p := ⟨_, 1, none⟩) (Ne.symm hne) (.slice A1 R c1)
          have O1 := (hO1.far hB5 (by decide) (by decide) 0 (.int .i64 (C : Int))).far (hB5.set_ 0 (.int .i64 (C : Int))) (by decide) (by decide) 1 (.slice A1 R c1)
          have O2 := (hO2.far hB5 (by decide) (by decide) 0 (.int .i64 (C : Int))).far (hB5.set_ 0 (.int .i64 (C : Int))) (by decide) (by decide) 1 (.slice A1 R c1)
          have Pb := (b.setCell (p := ⟨_, 0, none⟩) hg5 (.int .i64 (C : Int))).setCell (p := ⟨_, 1, none⟩) hg5 (.slice A1 R c1)
          clear hB5 hB6 hO1 hO2 b
          refine m_s1 6 (by kernel_rfl) rfl ?_
          go_wp2_with fail
          refine m_clear (by kernel_rfl) ?_
          obtain ⟨W7, hW7⟩ : ∃ W7, W7 = (wk9.setCell ⟨g5, 0, none⟩ (.int .i64 (C : Int))).setCell ⟨g5, 1, none⟩ (.slice A1 R c1) := ⟨_, rfl⟩
          rw [← hW7] at P5 P6 O1 O2 Pb ⊢; clear hW7 e0 e1 f0 f1
          have e0 := P6.cell 0; have e1 := P6.cell 1; have f0 := P6.frozen 0; have f1 := P6.frozen 1
          have R6 := (P6.set_ 0 (.int .i64 (C' : Int))).set_ 1 (.slice A2 R' c2)
          have R5 := (P5.far (p := ⟨_, 0, none⟩) hne (.int .i64 (C' : Int))).far (p := ⟨_, 1, none⟩) hne (.slice A2 R' c2)
          have X1 := (O1.far P6 (by decide) (by decide) 0 (.int .i64 (C' : Int))).far (P6.set_ 0 (.int .i64 (C' : Int))) (by decide) (by decide) 1 (.slice A2 R' c2)
          have X2 := (O2.far P6 (by decide) (by decide) 0 (.int .i64 (C' : Int))).far (P6.set_ 0 (.int .i64 (C' : Int))) (by decide) (by decide) 1 (.slice A2 R' c2)
          have Xb := (Pb.setCell (p := ⟨_, 0, none⟩) hg6 (.int .i64 (C' : Int))).setCell (p := ⟨_, 1, none⟩) hg6 (.slice A2 R' c2)
          clear P5 P6 O1 O2 Pb
          refine m_s1 7 (by kernel_rfl) rfl ?_
          go_wp2_with fail
          refine m_clear (by kernel_rfl) ?_
          refine m_end (by kernel_rfl) ?_
          go_wp2_with fail
          go_meet
          exact ⟨_, _, A1, A2, c1, c2, rfl, rfl, R5, R6, own_ref X1 hgs1 (by omega) (by omega), own_ref X2 hgs2 (by omega) (by omega), Xb⟩
        · go_wp2_with fail
          have hg6 := b.size
          have hne := Nat.ne_of_lt hB5.lt
          refine absN fun wk10 hB6 hb hzq => ?_
          clear hzq
          replace b := b.trans (hb.mono b.size); replace hO1 := hO1.below hb; replace hB5 := hB5.below hb hB5.lt
          refine m_next hb ?_
          generalize wk7.heap.size = g6 at hB6 hg6 hne ⊢
          clear hb
          refine m_s1 3 (by kernel_rfl) rfl ?_
          go_wp2_with fail
          refine (make_own _ R' C' zs' _ (HIN'.out.below b)).mono ?_
          rintro e wk11 ⟨A2, c2, gs2, rfl, hgs2, hO2, hb⟩
          replace b := b.trans (hb.mono b.size); replace hO1 := hO1.below hb; replace hB5 := hB5.below hb hB5.lt; replace hB6 := hB6.below hb hB6.lt
          go_wp2_with fail
          refine m_next hb ?_
          clear hb
          have e0 := hB5.cell 0; have e1 := hB5.cell 1; have f0 := hB5.frozen 0; have f1 := hB5.frozen 1
          have P5 := (hB5.set_ 0 (.int .i64 (C : Int))).set_ 1 (.slice A1 R c1)
          have P6 := (hB6.far (p := ⟨_, 0, none⟩) (Ne.symm hne) (.int .i64 (C : Int))).far (p := ⟨_, 1, none⟩) (Ne.symm hne) (.slice A1 R c1)
          have O1 := (hO1.far hB5 (by decide) (by decide) 0 (.int .i64 (C : Int))).far (hB5.set_ 0 (.int .i64 (C : Int))) (by decide) (by decide) 1 (.slice A1 R c1)
          have O2 := (hO2.far hB5 (by decide) (by decide) 0 (.int .i64 (C : Int))).far (hB5.set_ 0 (.int .i64 (C : Int))) (by decide) (by decide) 1 (.slice A1 R c1)
          have Pb := (b.setCell (p := ⟨_, 0, none⟩) hg5 (.int .i64 (C : Int))).setCell (p := ⟨_, 1, none⟩) hg5 (.slice A1 R c1)
          clear hB5 hB6 hO1 hO2 b
          refine m_s1 6 (by kernel_rfl) rfl ?_
          go_wp2_with fail
          refine m_clear (by kernel_rfl) ?_
          obtain ⟨W7, hW7⟩ : ∃ W7, W7 = (wk11.setCell ⟨g5, 0, none⟩ (.int .i64 (C : Int))).setCell ⟨g5, 1, none⟩ (.slice A1 R c1) := ⟨_, rfl⟩
          rw [← hW7] at P5 P6 O1 O2 Pb ⊢; clear hW7 e0 e1 f0 f1
          have e0 := P6.cell 0; have e1 := P6.cell 1; have f0 := P6.frozen 0; have f1 := P6.frozen 1
          have R6 := (P6.set_ 0 (.int .i64 (C' : Int))).set_ 1 (.slice A2 R' c2)
          have R5 := (P5.far (p := ⟨_, 0, none⟩) hne (.int .i64 (C' : Int))).far (p := ⟨_, 1, none⟩) hne (.slice A2 R' c2)
          have X1 := (O1.far P6 (by decide) (by decide) 0 (.int .i64 (C' : Int))).far (P6.set_ 0 (.int .i64 (C' : Int))) (by decide) (by decide) 1 (.slice A2 R' c2)
          have X2 := (O2.far P6 (by decide) (by decide) 0 (.int .i64 (C' : Int))).far (P6.set_ 0 (.int .i64 (C' : Int))) (by decide) (by decide) 1 (.slice A2 R' c2)
          have Xb := (Pb.setCell (p := ⟨_, 0, none⟩) hg6 (.int .i64 (C' : Int))).setCell (p := ⟨_, 1, none⟩) hg6 (.slice A2 R' c2)
          clear P5 P6 O1 O2 Pb
          refine m_s1 7 (by kernel_rfl) rfl ?_
          go_wp2_with fail
          refine m_clear (by kernel_rfl) ?_
          refine m_end (by kernel_rfl) ?_
          go_wp2_with fail
          go_meet
          exact ⟨_, _, A1, A2, c1, c2, rfl, rfl, R5, R6, own_ref X1 hgs1 (by omega) (by omega), own_ref X2 hgs2 (by omega) (by omega), Xb⟩
      · go_wp2_with fail
        have hg6 := b.size
        refine absN fun wk12 hB6 hb hzq => ?_
        clear hzq
        replace b := b.trans (hb.mono b.size); replace hO1 := hO1.below hb
        refine m_next hb ?_
        generalize wk1.heap.size = g6 at hB6 hg6 ⊢
        clear hb
        refine m_s2 3 4 (by kernel_rfl) rfl rfl ?_ ?_
        · go_wp2_with fail
          refine (make_own _ R' C' zs' _ (HIN'.out.below b)).mono ?_
          rintro e wk13 ⟨A2, c2, gs2, rfl, hgs2, hO2, hb⟩
          replace b := b.trans (hb.mono b.size); replace hO1 := hO1.below hb; replace hB6 := hB6.below hb hB6.lt
          go_wp2_with fail
          refine m_next hb ?_
          clear hb
          refine m_s1 4 (by kernel_rfl) rfl ?_
          go_wp2_with fail
          have hg5 := b.size
          have hne := Nat.ne_of_gt hB6.lt
          refine absN fun wk14 hB5 hb hzq => ?_
          clear hzq
          replace b := b.trans (hb.mono b.size); replace hO1 := hO1.below hb; replace hO2 := hO2.below hb; replace hB6 := hB6.below hb hB6.lt
          refine m_next hb ?_
          generalize wk13.heap.size = g5 at hB5 hg5 hne ⊢
          clear hb
          have e0 := hB5.cell 0; have e1 := hB5.cell 1; have f0 := hB5.frozen 0; have f1 := hB5.frozen 1
          have P5 := (hB5.set_ 0 (.int .i64 (C : Int))).set_ 1 (.slice A1 R c1)
          have P6 := (hB6.far (p := ⟨_, 0, none⟩) (Ne.symm hne) (.int .i64 (C : Int))).far (p := ⟨_, 1, none⟩) (Ne.symm hne) (.slice A1 R c1)
          have O1 := (hO1.far hB5 (by decide) (by decide) 0 (.int .i64 (C : Int))).far (hB5.set_ 0 (.int .i64 (C : Int))) (by decide) (by decide) 1 (.slice A1 R c1)
          have O2 := (hO2.far hB5 (by decide) (by decide) 0 (.int .i64 (C : Int))).far (hB5.set_ 0 (.int .i64 (C : Int))) (by decide) (by decide) 1 (.slice A1 R c1)
          have Pb := (b.setCell (p := ⟨_, 0, none⟩) hg5 (.int .i64 (C : Int))).setCell (p := ⟨_, 1, none⟩) hg5 (.slice A1 R c1)
          clear hB5 hB6 hO1 hO2 b
          refine m_s1 6 (by kernel_rfl) rfl ?_
          go_wp2_with fail
          refine m_clear (by kernel_rfl) ?_
          obtain ⟨W7, hW7⟩ : ∃ W7, W7 = (wk14.setCell ⟨g5, 0, none⟩ (.int .i64 (C : Int))).setCell ⟨g5, 1, none⟩ (.slice A1 R c1) := ⟨_, rfl⟩
          rw [← hW7] at P5 P6 O1 O2 Pb ⊢; clear hW7 e0 e1 f0 f1
          have e0 := P6.cell 0; have e1 := P6.cell 1; have f0 := P6.frozen 0; have f1 := P6.frozen 1
          have R6 := (P6.set_ 0 (.int .i64 (C' : Int))).set_ 1 (.slice A2 R' c2)
          have R5 := (P5.far (p := ⟨_, 0, none⟩) hne (.int .i64 (C' : Int))).far (p := ⟨_, 1, none⟩) hne (.slice A2 R' c2)
          have X1 := (O1.far P6 (by decide) (by decide) 0 (.int .i64 (C' : Int))).far (P6.set_ 0 (.int .i64 (C' : Int))) (by decide) (by decide) 1 (.slice A2 R' c2)
          have X2 := (O2.far P6 (by decide) (by decide) 0 (.int .i64 (C' : Int))).far (P6.set_ 0 (.int .i64 (C' : Int))) (by decide) (by decide) 1 (.slice A2 R' c2)
          have Xb := (Pb.setCell (p := ⟨_, 0, none⟩) hg6 (.int .i64 (C' : Int))).setCell (p := ⟨_, 1, none⟩) hg6 (.slice A2 R' c2)
          clear P5 P6 O1 O2 Pb
          refine m_s1 7 (by kernel_rfl) rfl ?_
          go_wp2_with fail
          refine m_clear (by kernel_rfl) ?_
          refine m_end (by kernel_rfl) ?_
          go_wp2_with fail
          go_meet
          exact ⟨_, _, A1, A2, c1, c2, rfl, rfl, R5, R6, own_ref X1 hgs1 (by omega) (by omega), own_ref X2 hgs2 (by omega) (by omega), Xb⟩
        · go_wp2_with fail
          have hg5 := b.size
          have hne := Nat.ne_of_gt hB6.lt
          refine absN fun wk15 hB5 hb hzq => ?_
          clear hzq
          replace b := b.trans (hb.mono b.size); replace hO1 := hO1.below hb; replace hB6 := hB6.below hb hB6.lt
          refine m_next hb ?_
          generalize wk12.heap.size = g5 at hB5 hg5 hne ⊢
          clear hb
          refine m_s1 3 (by kernel_rfl) rfl ?_
          go_wp2_with fail
          refine (make_own _ R' C' zs' _ (HIN'.out.below b)).mono ?_
          rintro e wk16 ⟨A2, c2, gs2, rfl, hgs2, hO2, hb⟩
          replace b := b.trans (hb.mono b.size); replace hO1 := hO1.below hb; replace hB5 := hB5.below hb hB5.lt; replace hB6 := hB6.below hb hB6.lt
          go_wp2_with fail
          refine m_next hb ?_
          clear hb
          have e0 := hB5.cell 0; have e1 := hB5.cell 1; have f0 := hB5.frozen 0; have f1 := hB5.frozen 1
          have P5 := (hB5.set_ 0 (.int .i64 (C : Int))).set_ 1 (.slice A1 R c1)
          have P6 := (hB6.far (p := ⟨_, 0, none⟩) (Ne.symm hne) (.int .i64 (C : Int))).far (p := ⟨_, 1, none⟩) (Ne.symm hne) (.slice A1 R c1)
          have O1 := (hO1.far hB5 (by decide) (by decide) 0 (.int .i64 (C : Int))).far (hB5.set_ 0 (.int .i64 (C : Int))) (by decide) (by decide) 1 (.slice A1 R c1)
          have O2 := (hO2.far hB5 (by decide) (by decide) 0 (.int .i64 (C : Int))).far (hB5.set_ 0 (.int .i64 (C : Int))) (by decide) (by decide) 1 (.slice A1 R c1)
          have Pb := (b.setCell (p := ⟨_, 0, none⟩) hg5 (.int .i64 (C : Int))).setCell (p := ⟨_, 1, none⟩) hg5 (.slice A1 R c1)
          clear hB5 hB6 hO1 hO2 b
          refine m_s1 6 (by kernel_rfl) rfl ?_
          go_wp2_with fail
          refine m_clear (by kernel_rfl) ?_
          obtain ⟨W7, hW7⟩ : ∃ W7, W7 = (wk16.setCell ⟨g5, 0, none⟩ (.int .i64 (C : Int))).setCell ⟨g5, 1, none⟩ (.slice A1 R c1) := ⟨_, rfl⟩
          rw [← hW7] at P5 P6 O1 O2 Pb ⊢; clear hW7 e0 e1 f0 f1
          have e0 := P6.cell 0; have e1 := P6.cell 1; have f0 := P6.frozen 0; have f1 := P6.frozen 1
          have R6 := (P6.set_ 0 (.int .i64 (C' : Int))).set_ 1 (.slice A2 R' c2)
          have R5 := (P5.far (p := ⟨_, 0, none⟩) hne (.int .i64 (C' : Int))).far (p := ⟨_, 1, none⟩) hne (.slice A2 R' c2)
          have X1 := (O1.far P6 (by decide) (by decide) 0 (.int .i64 (C' : Int))).far (P6.set_ 0 (.int .i64 (C' : Int))) (by decide) (by decide) 1 (.slice A2 R' c2)
          have X2 := (O2.far P6 (by decide) (by decide) 0 (.int .i64 (C' : Int))).far (P6.set_ 0 (.int .i64 (C' : Int))) (by decide) (by decide) 1 (.slice A2 R' c2)
          have Xb := (Pb.setCell (p := ⟨_, 0, none⟩) hg6 (.int .i64 (C' : Int))).setCell (p := ⟨_, 1, none⟩) hg6 (.slice A2 R' c2)
          clear P5 P6 O1 O2 Pb
          refine m_s1 7 (by kernel_rfl) rfl ?_
          go_wp2_with fail
          refine m_clear (by kernel_rfl) ?_
          refine m_end (by kernel_rfl) ?_
          go_wp2_with fail
          go_meet
          exact ⟨_, _, A1, A2, c1, c2, rfl, rfl, R5, R6, own_ref X1 hgs1 (by omega) (by omega), own_ref X2 hgs2 (by omega) (by omega), Xb⟩
    · have b := b1.drew
      go_wp2_with fail
      have hg5 := b1.size
      refine absND fun wk17 hB5 hb hzq => ?_
      clear hzq
      replace b := b1
      replace b := b.trans (hb.mono b.size)
      refine m_next hb ?_
      generalize w1.heap.size = g5 at hB5 hg5 ⊢
      clear hb
      refine m_s2 1 5 (by kernel_rfl) rfl rfl ?_ ?_
      · go_wp2_with fail
        refine (make_own _ R C zs _ (HIN.out.below b)).mono ?_
        rintro e wk18 ⟨A1, c1, gs1, rfl, hgs1, hO1, hb⟩
        replace b := b.trans (hb.mono b.size); replace hB5 := hB5.below hb hB5.lt
        go_wp2_with fail
        refine m_next hb ?_
        clear hb
        refine m_s2 3 5 (by kernel_rfl) rfl rfl ?_ ?_
        · go_wp2_with fail
          refine (make_own _ R' C' zs' _ (HIN'.out.below b)).mono ?_
          rintro e wk19 ⟨A2, c2, gs2, rfl, hgs2, hO2, hb⟩
          replace b := b.trans (hb.mono b.size); replace hO1 := hO1.below hb; replace hB5 := hB5.below hb hB5.lt
          go_wp2_with fail
          refine m_next hb ?_
          clear hb
          refine m_s1 5 (by kernel_rfl) rfl ?_
          go_wp2_with fail
          have hg6 := b.size
          have hne := Nat.ne_of_lt hB5.lt
          refine absN fun wk20 hB6 hb hzq => ?_
          clear hzq
          replace b := b.trans (hb.mono b.size); replace hO1 := hO1.below hb; replace hO2 := hO2.below hb; replace hB5 := hB5.below hb hB5.lt
          refine m_next hb ?_
          generalize wk19.heap.size = g6 at hB6 hg6 hne ⊢
          clear hb
          have e0 := hB5.cell 0; have e1 := hB5.cell 1; have f0 := hB5.frozen 0; have f1 := hB5.frozen 1
          have P5 := (hB5.set_ 0 (.int .i64 (C : Int))).set_ 1 (.slice A1 R c1)
          have P6 := (hB6.far (p := ⟨_, 0, none⟩) (Ne.symm hne) (.int .i64 (C : Int))).far (p := ⟨_, 1, none⟩) (Ne.symm hne) (.slice A1 R c1)
          have O1 := (hO1.far hB5 (by decide) (by decide) 0 (.int .i64 (C : Int))).far (hB5.set_ 0 (.int .i64 (C : Int))) (by decide) (by decide) 1 (.slice A1 R c1)
          have O2 := (hO2.far hB5 (by decide) (by decide) 0 (.int .i64 (C : Int))).far (hB5.set_ 0 (.int .i64 (C : Int))) (by decide) (by decide) 1 (.slice A1 R c1)
          have Pb := (b.setCell (p := ⟨_, 0, none⟩) hg5 (.int .i64 (C : Int))).setCell (p := ⟨_, 1, none⟩) hg5 (.slice A1 R c1)
          clear hB5 hB6 hO1 hO2 b
          refine m_s1 6 (by kernel_rfl) rfl ?_
          go_wp2_with fail
          refine m_clear (by kernel_rfl) ?_
          obtain ⟨W7, hW7⟩ : ∃ W7, W7 = (wk20.setCell ⟨g5, 0, none⟩ (.int .i64 (C : Int))).setCell ⟨g5, 1, none⟩ (.slice A1 R c1) := ⟨_, rfl⟩
          rw [← hW7] at P5 P6 O1 O2 Pb ⊢; clear hW7 e0 e1 f0 f1
          have e0 := P6.cell 0; have e1 := P6.cell 1; have f0 := P6.frozen 0; have f1 := P6.frozen 1
          have R6 := (P6.set_ 0 (.int .i64 (C' : Int))).set_ 1 (.slice A2 R' c2)
          have R5 := (P5.far (p := ⟨_, 0, none⟩) hne (.int .i64 (C' : Int))).far (p := ⟨_, 1, none⟩) hne (.slice A2 R' c2)
          have X1 := (O1.far P6 (by decide) (by decide) 0 (.int .i64 (C' : Int))).far (P6.set_ 0 (.int .i64 (C' : Int))) (by decide) (by decide) 1 (.slice A2 R' c2)
          have X2 := (O2.far P6 (by decide) (by decide) 0 (.int .i64 (C' : Int))).far (P6.set_ 0 (.int .i64 (C' : Int))) (by decide) (by decide) 1 (.slice A2 R' c2)
          have Xb := (Pb.setCell (p := ⟨_, 0, none⟩) hg6 (.int .i64 (C' : Int))).setCell (p := ⟨_, 1, none⟩) hg6 (.slice A2 R' c2)
          clear P5 P6 O1 O2 Pb
          refine m_s1 7 (by kernel_rfl) rfl ?_
          go_wp2_with fail
          refine m_clear (by kernel_rfl) ?_
          refine m_end (by kernel_rfl) ?_
          go_wp2_with fail
          go_meet
          exact ⟨_, _, A1, A2, c1, c2, rfl, rfl, R5, R6, own_ref X1 hgs1 (by omega) (by omega), own_ref X2 hgs2 (by omega) (by omega), Xb⟩
        · go_wp2_with fail
          have hg6 := b.size
          have hne := Nat.ne_of_lt hB5.lt
          refine absN fun wk21 hB6 hb hzq => ?_
          clear hzq
          replace b := b.trans (hb.mono b.size); replace hO1 := hO1.below hb; replace hB5 := hB5.below hb hB5.lt
          refine m_next hb ?_
          generalize wk18.heap.size = g6 at hB6 hg6 hne ⊢
          clear hb
          refine m_s1 3 (by kernel_rfl) rfl ?_
          go_wp2_with fail
          refine (make_own _ R' C' zs' _ (HIN'.out.below b)).mono ?_
          rintro e wk22 ⟨A2, c2, gs2, rfl, hgs2, hO2, hb⟩
          replace b := b.trans (hb.mono b.size); replace hO1 := hO1.below hb; replace hB5 := hB5.below hb hB5.lt; replace hB6 := hB6.below hb hB6.lt
          go_wp2_with fail
          refine m_next hb ?_
          clear hb
          have e0 := hB5.cell 0; have e1 := hB5.cell 1; have f0 := hB5.frozen 0; have f1 := hB5.frozen 1
          have P5 := (hB5.set_ 0 (.int .i64 (C : Int))).set_ 1 (.slice A1 R c1)
          have P6 := (hB6.far (p := ⟨_, 0, none⟩) (Ne.symm hne) (.int .i64 (C : Int))).far (p := ⟨_, 1, none⟩) (Ne.symm hne) (.slice A1 R c1)
          have O1 := (hO1.far hB5 (by decide) (by decide) 0 (.int .i64 (C : Int))).far (hB5.set_ 0 (.int .i64 (C : Int))) (by decide) (by decide) 1 (.slice A1 R c1)
          have O2 := (hO2.far hB5 (by decide) (by decide) 0 (.int .i64 (C : Int))).far (hB5.set_ 0 (.int .i64 (C : Int))) (by decide) (by decide) 1 (.slice A1 R c1)
          have Pb := (b.setCell (p := ⟨_, 0, none⟩) hg5 (.int .i64 (C : Int))).setCell (p := ⟨_, 1, none⟩) hg5 (.slice A1 R c1)
          clear hB5 hB6 hO1 hO2 b
          refine m_s1 6 (by kernel_rfl) rfl ?_
          go_wp2_with fail
          refine m_clear (by kernel_rfl) ?_
          obtain ⟨W7, hW7⟩ : ∃ W7, W7 = (wk22.setCell ⟨g5, 0, none⟩ (.int .i64 (C : Int))).setCell ⟨g5, 1, none⟩ (.slice A1 R c1) := ⟨_, rfl⟩
          rw [← hW7] at P5 P6 O1 O2 Pb ⊢; clear hW7 e0 e1 f0 f1
          have e0 := P6.cell 0; have e1 := P6.cell 1; have f0 := P6.frozen 0; have f1 := P6.frozen 1
          have R6 := (P6.set_ 0 (.int .i64 (C' : Int))).set_ 1 (.slice A2 R' c2)
          have R5 := (P5.far (p := ⟨_, 0, none⟩) hne (.int .i64 (C' : Int))).far (p := ⟨_, 1, none⟩) hne (.slice A2 R' c2)
          have X1 := (O1.far P6 (by decide) (by decide) 0 (.int .i64 (C' : Int))).far (P6.set_ 0 (.int .i64 (C' : Int))) (by decide) (by decide) 1 (.slice A2 R' c2)
          have X2 := (O2.far P6 (by decide) (by decide) 0 (.int .i64 (C' : Int))).far (P6.set_ 0 (.int .i64 (C' : Int))) (by decide) (by decide) 1 (.slice A2 R' c2)
          have Xb := (Pb.setCell (p := ⟨_, 0, none⟩) hg6 (.int .i64 (C' : Int))).setCell (p := ⟨_, 1, none⟩) hg6 (.slice A2 R' c2)
          clear P5 P6 O1 O2 Pb
          refine m_s1 7 (by kernel_rfl) rfl ?_
          go_wp2_with fail
          refine m_clear (by kernel_rfl) ?_
          refine m_end (by kernel_rfl) ?_
          go_wp2_with fail
          go_meet
          exact ⟨_, _, A1, A2, c1, c2, rfl, rfl, R5, R6, own_ref X1 hgs1 (by omega) (by omega), own_ref X2 hgs2 (by omega) (by omega), Xb⟩
      · go_wp2_with fail
        have hg6 := b.size
        have hne := Nat.ne_of_lt hB5.lt
        refine absN fun wk23 hB6 hb hzq => ?_
        clear hzq
        replace b := b.trans (hb.mono b.size); replace hB5 := hB5.below hb hB5.lt
        refine m_next hb ?_
        generalize wk17.heap.size = g6 at hB6 hg6 hne ⊢
        clear hb
        refine m_s1 1 (by kernel_rfl) rfl ?_
        go_wp2_with fail
        refine (make_own _ R C zs _ (HIN.out.below b)).mono ?_
        rintro e wk24 ⟨A1, c1, gs1, rfl, hgs1, hO1, hb⟩
        replace b := b.trans (hb.mono b.size); replace hB5 := hB5.below hb hB5.lt; replace hB6 := hB6.below hb hB6.lt
        go_wp2_with fail
        refine m_next hb ?_
        clear hb
        refine m_s1 3 (by kernel_rfl) rfl ?_
        go_wp2_with fail
        refine (make_own _ R' C' zs' _ (HIN'.out.below b)).mono ?_
        rintro e wk25 ⟨A2, c2, gs2, rfl, hgs2, hO2, hb⟩
        replace b := b.trans (hb.mono b.size); replace hO1 := hO1.below hb; replace hB5 := hB5.below hb hB5.lt; replace hB6 := hB6.below hb hB6.lt
        go_wp2_with fail
        refine m_next hb ?_
        clear hb
        have e0 := hB5.cell 0; have e1 := hB5.cell 1; have f0 := hB5.frozen 0; have f1 := hB5.frozen 1
        have P5 := (hB5.set_ 0 (.int .i64 (C : Int))).set_ 1 (.slice A1 R c1)
        have P6 := (hB6.far (p := ⟨_, 0, none⟩) (Ne.symm hne) (.int .i64 (C : Int))).far (p := ⟨_, 1, none⟩) (Ne.symm hne) (.slice A1 R c1)
        have O1 := (hO1.far hB5 (by decide) (by decide) 0 (.int .i64 (C : Int))).far (hB5.set_ 0 (.int .i64 (C : Int))) (by decide) (by decide) 1 (.slice A1 R c1)
        have O2 := (hO2.far hB5 (by decide) (by decide) 0 (.int .i64 (C : Int))).far (hB5.set_ 0 (.int .i64 (C : Int))) (by decide) (by decide) 1 (.slice A1 R c1)
        have Pb := (b.setCell (p := ⟨_, 0, none⟩) hg5 (.int .i64 (C : Int))).setCell (p := ⟨_, 1, none⟩) hg5 (.slice A1 R c1)
        clear hB5 hB6 hO1 hO2 b
        refine m_s1 6 (by kernel_rfl) rfl ?_
        go_wp2_with fail
        refine m_clear (by kernel_rfl) ?_
        obtain ⟨W7, hW7⟩ : ∃ W7, W7 = (wk25.setCell ⟨g5, 0, none⟩ (.int .i64 (C : Int))).setCell ⟨g5, 1, none⟩ (.slice A1 R c1) := ⟨_, rfl⟩
        rw [← hW7] at P5 P6 O1 O2 Pb ⊢; clear hW7 e0 e1 f0 f1
        have e0 := P6.cell 0; have e1 := P6.cell 1; have f0 := P6.frozen 0; have f1 := P6.frozen 1
        have R6 := (P6.set_ 0 (.int .i64 (C' : Int))).set_ 1 (.slice A2 R' c2)
        have R5 := (P5.far (p := ⟨_, 0, none⟩) hne (.int .i64 (C' : Int))).far (p := ⟨_, 1, none⟩) hne (.slice A2 R' c2)
        have X1 := (O1.far P6 (by decide) (by decide) 0 (.int .i64 (C' : Int))).far (P6.set_ 0 (.int .i64 (C' : Int))) (by decide) (by decide) 1 (.slice A2 R' c2)
        have X2 := (O2.far P6 (by decide) (by decide) 0 (.int .i64 (C' : Int))).far (P6.set_ 0 (.int .i64 (C' : Int))) (by decide) (by decide) 1 (.slice A2 R' c2)
        have Xb := (Pb.setCell (p := ⟨_, 0, none⟩) hg6 (.int .i64 (C' : Int))).setCell (p := ⟨_, 1, none⟩) hg6 (.slice A2 R' c2)
        clear P5 P6 O1 O2 Pb
        refine m_s1 7 (by kernel_rfl) rfl ?_
        go_wp2_with fail
        refine m_clear (by kernel_rfl) ?_
        refine m_end (by kernel_rfl) ?_
        go_wp2_with fail
        go_meet
        exact ⟨_, _, A1, A2, c1, c2, rfl, rfl, R5, R6, own_ref X1 hgs1 (by omega) (by omega), own_ref X2 hgs2 (by omega) (by omega), Xb⟩
    · have b := b1.drew
      go_wp2_with fail
      have hg6 := b1.size
      refine absND fun wk26 hB6 hb hzq => ?_
      clear hzq
      replace b := b1
      replace b := b.trans (hb.mono b.size)
      refine m_next hb ?_
      generalize w1.heap.size = g6 at hB6 hg6 ⊢
      clear hb
      refine m_s2 1 4 (by kernel_rfl) rfl rfl ?_ ?_
      · go_wp2_with fail
        refine (make_own _ R C zs _ (HIN.out.below b)).mono ?_
        rintro e wk27 ⟨A1, c1, gs1, rfl, hgs1, hO1, hb⟩
        replace b := b.trans (hb.mono b.size); replace hB6 := hB6.below hb hB6.lt
        go_wp2_with fail
        refine m_next hb ?_
        clear hb
        refine m_s2 3 4 (by kernel_rfl) rfl rfl ?_ ?_
        · go_wp2_with fail
          refine (make_own _ R' C' zs' _ (HIN'.out.below b)).mono ?_
          rintro e wk28 ⟨A2, c2, gs2, rfl, hgs2, hO2, hb⟩
          replace b := b.trans (hb.mono b.size); replace hO1 := hO1.below hb; replace hB6 := hB6.below hb hB6.lt
          go_wp2_with fail
          refine m_next hb ?_
          clear hb
          refine m_s1 4 (by kernel_rfl) rfl ?_
          go_wp2_with fail
          have hg5 := b.size
          have hne := Nat.ne_of_gt hB6.lt
          refine absN fun wk29 hB5 hb hzq => ?_
          clear hzq
          replace b := b.trans (hb.mono b.size); replace hO1 := hO1.below hb; replace hO2 := hO2.below hb; replace hB6 := hB6.below hb hB6.lt
          refine m_next hb ?_
          generalize wk28.heap.size = g5 at hB5 hg5 hne ⊢
          clear hb
          have e0 := hB5.cell 0; have e1 := hB5.cell 1; have f0 := hB5.frozen 0; have f1 := hB5.frozen 1
          have P5 := (hB5.set_ 0 (.int .i64 (C : Int))).set_ 1 (.slice A1 R c1)
          have P6 := (hB6.far (p := ⟨_, 0, none⟩) (Ne.symm hne) (.int .i64 (C : Int))).far (p := ⟨_, 1, none⟩) (Ne.symm hne) (.slice A1 R c1)
          have O1 := (hO1.far hB5 (by decide) (by decide) 0 (.int .i64 (C : Int))).far (hB5.set_ 0 (.int .i64 (C : Int))) (by decide) (by decide) 1 (.slice A1 R c1)
          have O2 := (hO2.far hB5 (by decide) (by decide) 0 (.int .i64 (C : Int))).far (hB5.set_ 0 (.int .i64 (C : Int))) (by decide) (by decide) 1 (.slice A1 R c1)
          have Pb := (b.setCell (p := ⟨_, 0, none⟩) hg5 (.int .i64 (C : Int))).setCell (p := ⟨_, 1, none⟩) hg5 (.slice A1 R c1)
          clear hB5 hB6 hO1 hO2 b
          refine m_s1 6 (by kernel_rfl) rfl ?_
          go_wp2_with fail
          refine m_clear (by kernel_rfl) ?_
          obtain ⟨W7, hW7⟩ : ∃ W7, W7 = (wk29.setCell ⟨g5, 0, none⟩ (.int .i64 (C : Int))).setCell ⟨g5, 1, none⟩ (.slice A1 R c1) := ⟨_, rfl⟩
          rw [← hW7] at P5 P6 O1 O2 Pb ⊢; clear hW7 e0 e1 f0 f1
          have e0 := P6.cell 0; have e1 := P6.cell 1; have f0 := P6.frozen 0; have f1 := P6.frozen 1
          have R6 := (P6.set_ 0 (.int .i64 (C' : Int))).set_ 1 (.slice A2 R' c2)
          have R5 := (P5.far (p := ⟨_, 0, none⟩) hne (.int .i64 (C' : Int))).far (p := ⟨_, 1, none⟩) hne (.slice A2 R' c2)
          have X1 := (O1.far P6 (by decide) (by decide) 0 (.int .i64 (C' : Int))).far (P6.set_ 0 (.int .i64 (C' : Int))) (by decide) (by decide) 1 (.slice A2 R' c2)
          have X2 := (O2.far P6 (by decide) (by decide) 0 (.int .i64 (C' : Int))).far (P6.set_ 0 (.int .i64 (C' : Int))) (by decide) (by decide) 1 (.slice A2 R' c2)
          have Xb := (Pb.setCell (p := ⟨_, 0, none⟩) hg6 (.int .i64 (C' : Int))).setCell (p := ⟨_, 1, none⟩) hg6 (.slice A2 R' c2)
          clear P5 P6 O1 O2 Pb
          refine m_s1 7 (by kernel_rfl) rfl ?_
          go_wp2_with fail
          refine m_clear (by kernel_rfl) ?_
          refine m_end (by kernel_rfl) ?_
          go_wp2_with fail
          go_meet
          exact ⟨_, _, A1, A2, c1, c2, rfl, rfl, R5, R6, own_ref X1 hgs1 (by omega) (by omega), own_ref X2 hgs2 (by omega) (by omega), Xb⟩
        · go_wp2_with fail
          have hg5 := b.size
          have hne := Nat.ne_of_gt hB6.lt
          refine absN fun wk30 hB5 hb hzq => ?_
          clear hzq
          replace b := b.trans (hb.mono b.size); replace hO1 := hO1.below hb; replace hB6 := hB6.below hb hB6.lt
          refine m_next hb ?_
          generalize wk27.heap.size = g5 at hB5 hg5 hne ⊢
          clear hb
          refine m_s1 3 (by kernel_rfl) rfl ?_
          go_wp2_with fail
          refine (make_own _ R' C' zs' _ (HIN'.out.below b)).mono ?_
          rintro e wk31 ⟨A2, c2, gs2, rfl, hgs2, hO2, hb⟩
          replace b := b.trans (hb.mono b.size); replace hO1 := hO1.below hb; replace hB5 := hB5.below hb hB5.lt; replace hB6 := hB6.below hb hB6.lt
          go_wp2_with fail
          refine m_next hb ?_
          clear hb
          have e0 := hB5.cell 0; have e1 := hB5.cell 1; have f0 := hB5.frozen 0; have f1 := hB5.frozen 1
          have P5 := (hB5.set_ 0 (.int .i64 (C : Int))).set_ 1 (.slice A1 R c1)
          have P6 := (hB6.far (p := ⟨_, 0, none⟩) (Ne.symm hne) (.int .i64 (C : Int))).far (p := ⟨_, 1, none⟩) (Ne.symm hne) (.slice A1 R c1)
          have O1 := (hO1.far hB5 (by decide) (by decide) 0 (.int .i64 (C : Int))).far (hB5.set_ 0 (.int .i64 (C : Int))) (by decide) (by decide) 1 (.slice A1 R c1)
          have O2 := (hO2.far hB5 (by decide) (by decide) 0 (.int .i64 (C : Int))).far (hB5.set_ 0 (.int .i64 (C : Int))) (by decide) (by decide) 1 (.slice A1 R c1)
          have Pb := (b.setCell (p := ⟨_, 0, none⟩) hg5 (.int .i64 (C : Int))).setCell (p := ⟨_, 1, none⟩) hg5 (.slice A1 R c1)
          clear hB5 hB6 hO1 hO2 b
          refine m_s1 6 (by kernel_rfl) rfl ?_
          go_wp2_with fail
          refine m_clear (by kernel_rfl) ?_
          obtain ⟨W7, hW7⟩ : ∃ W7, W7 = (wk31.setCell ⟨g5, 0, none⟩ (.int .i64 (C : Int))).setCell ⟨g5, 1, none⟩ (.slice A1 R c1) := ⟨_, rfl⟩
          rw [← hW7] at P5 P6 O1 O2 Pb ⊢; clear hW7 e0 e1 f0 f1
          have e0 := P6.cell 0; have e1 := P6.cell 1; have f0 := P6.frozen 0; have f1 := P6.frozen 1
          have R6 := (P6.set_ 0 (.int .i64 (C' : Int))).set_ 1 (.slice A2 R' c2)
          have R5 := (P5.far (p := ⟨_, 0, none⟩) hne (.int .i64 (C' : Int))).far (p := ⟨_, 1, none⟩) hne (.slice A2 R' c2)
          have X1 := (O1.far P6 (by decide) (by decide) 0 (.int .i64 (C' : Int))).far (P6.set_ 0 (.int .i64 (C' : Int))) (by decide) (by decide) 1 (.slice A2 R' c2)
          have X2 := (O2.far P6 (by decide) (by decide) 0 (.int .i64 (C' : Int))).far (P6.set_ 0 (.int .i64 (C' : Int))) (by decide) (by decide) 1 (.slice A2 R' c2)
          have Xb := (Pb.setCell (p := ⟨_, 0, none⟩) hg6 (.int .i64 (C' : Int))).setCell (p := ⟨_, 1, none⟩) hg6 (.slice A2 R' c2)
          clear P5 P6 O1 O2 Pb
          refine m_s1 7 (by kernel_rfl) rfl ?_
          go_wp2_with fail
          refine m_clear (by kernel_rfl) ?_
          refine m_end (by kernel_rfl) ?_
          go_wp2_with fail
          go_meet
          exact ⟨_, _, A1, A2, c1, c2, rfl, rfl, R5, R6, own_ref X1 hgs1 (by omega) (by omega), own_ref X2 hgs2 (by omega) (by omega), Xb⟩
      · go_wp2_with fail
        have hg5 := b.size
        have hne := Nat.ne_of_gt hB6.lt
        refine absN fun wk32 hB5 hb hzq => ?_
        clear hzq
        replace b := b.trans (hb.mono b.size); replace hB6 := hB6.below hb hB6.lt
        refine m_next hb ?_
        generalize wk26.heap.size = g5 at hB5 hg5 hne ⊢
        clear hb
        refine m_s1 1 (by kernel_rfl) rfl ?_
        go_wp2_with fail
        refine (make_own _ R C zs _ (HIN.out.below b)).mono ?_
        rintro e wk33 ⟨A1, c1, gs1, rfl, hgs1, hO1, hb⟩
        replace b := b.trans (hb.mono b.size); replace hB5 := hB5.below hb hB5.lt; replace hB6 := hB6.below hb hB6.lt
        go_wp2_with fail
        refine m_next hb ?_
        clear hb
        refine m_s1 3 (by kernel_rfl) rfl ?_
        go_wp2_with fail
        refine (make_own _ R' C' zs' _ (HIN'.out.below b)).mono ?_
        rintro e wk34 ⟨A2, c2, gs2, rfl, hgs2, hO2, hb⟩
        replace b := b.trans (hb.mono b.size); replace hO1 := hO1.below hb; replace hB5 := hB5.below hb hB5.lt; replace hB6 := hB6.below hb hB6.lt
        go_wp2_with fail
        refine m_next hb ?_
        clear hb
        have e0 := hB5.cell 0; have e1 := hB5.cell 1; have f0 := hB5.frozen 0; have f1 := hB5.frozen 1
        have P5 := (hB5.set_ 0 (.int .i64 (C : Int))).set_ 1 (.slice A1 R c1)
        have P6 := (hB6.far (p := ⟨_, 0, none⟩) (Ne.symm hne) (.int .i64 (C : Int))).far (p := ⟨_, 1, none⟩) (Ne.symm hne) (.slice A1 R c1)
        have O1 := (hO1.far hB5 (by decide) (by decide) 0 (.int .i64 (C : Int))).far (hB5.set_ 0 (.int .i64 (C : Int))) (by decide) (by decide) 1 (.slice A1 R c1)
        have O2 := (hO2.far hB5 (by decide) (by decide) 0 (.int .i64 (C : Int))).far (hB5.set_ 0 (.int .i64 (C : Int))) (by decide) (by decide) 1 (.slice A1 R c1)
        have Pb := (b.setCell (p := ⟨_, 0, none⟩) hg5 (.int .i64 (C : Int))).setCell (p := ⟨_, 1, none⟩) hg5 (.slice A1 R c1)
        clear hB5 hB6 hO1 hO2 b
        refine m_s1 6 (by kernel_rfl) rfl ?_
        go_wp2_with fail
        refine m_clear (by kernel_rfl) ?_
        obtain ⟨W7, hW7⟩ : ∃ W7, W7 = (wk34.setCell ⟨g5, 0, none⟩ (.int .i64 (C : Int))).setCell ⟨g5, 1, none⟩ (.slice A1 R c1) := ⟨_, rfl⟩
        rw [← hW7] at P5 P6 O1 O2 Pb ⊢; clear hW7 e0 e1 f0 f1
        have e0 := P6.cell 0; have e1 := P6.cell 1; have f0 := P6.frozen 0; have f1 := P6.frozen 1
        have R6 := (P6.set_ 0 (.int .i64 (C' : Int))).set_ 1 (.slice A2 R' c2)
        have R5 := (P5.far (p := ⟨_, 0, none⟩) hne (.int .i64 (C' : Int))).far (p := ⟨_, 1, none⟩) hne (.slice A2 R' c2)
        have X1 := (O1.far P6 (by decide) (by decide) 0 (.int .i64 (C' : Int))).far (P6.set_ 0 (.int .i64 (C' : Int))) (by decide) (by decide) 1 (.slice A2 R' c2)
        have X2 := (O2.far P6 (by decide) (by decide) 0 (.int .i64 (C' : Int))).far (P6.set_ 0 (.int .i64 (C' : Int))) (by decide) (by decide) 1 (.slice A2 R' c2)
        have Xb := (Pb.setCell (p := ⟨_, 0, none⟩) hg6 (.int .i64 (C' : Int))).setCell (p := ⟨_, 1, none⟩) hg6 (.slice A2 R' c2)
        clear P5 P6 O1 O2 Pb
        refine m_s1 7 (by kernel_rfl) rfl ?_
        go_wp2_with fail
        refine m_clear (by kernel_rfl) ?_
        refine m_end (by kernel_rfl) ?_
        go_wp2_with fail
        go_meet
        exact ⟨_, _, A1, A2, c1, c2, rfl, rfl, R5, R6, own_ref X1 hgs1 (by omega) (by omega), own_ref X2 hgs2 (by omega) (by omega), Xb⟩
    -- END PAIR
  case rest =>
    obtain ⟨g5, g6, A, B, c5, c6, rfl, rfl, hB5, hB6, hI1, hI2, b2⟩ := hcut
    clear hX1 hX1' x0 x1 x2 y0 y1 y2 HIN HIN' hX hX'
    obtain ⟨M, hM⟩ : ∃ M, M = rawM R C zs := ⟨_, rfl⟩
    have hML : M.length = R := by rw [hM, mat_len]
    obtain ⟨M', hM'⟩ : ∃ M', M' = rawM R' C' zs' := ⟨_, rfl⟩
    have hML' : M'.length = R' := by rw [hM', mat_len]
    rw [← hM] at hI1; rw [← hM'] at hI2
    subst hML; subst hML'
    clear hM hM'
    have e0 := hB5.cell 0
    have e1 := hB5.cell 1
    have f0 := hB6.cell 0
    have f1 := hB6.cell 1
    go_wp2_with fail
    have HA := hideC (matrixl_any C A c5 M wc.drew (hI1.below (Below.refl _ _).drew) (by omega) (by omega))
    refine wp_spine (fun W => Below wc.heap.size wc W) [0, 2] [1, 3, 4, 5] (by kernel_rfl) (by kernel_rfl) ?_
    iterate 2 (refine wpE_op (v := ?_) rfl rfl (fun W hW => ?_) ?_; rotate_left; (have z0 := onB hW e0; have z1 := onB hW e1; have z2 := onB hW f0; have z3 := onB hW f1; go_simp; first | done | with_reducible rfl); simp only [Act.put, List.setIfInBounds_toArray, List.set_cons_zero, List.set_cons_succ])
    refine wpE_nil ⟨fun h => (by cases h), wpSp_op rfl (Below.refl _ _).drew ?_⟩
    go_wp2_with fail
    refine HA.out.mono ?_
    rintro e wd ⟨q5, rfl, hm5, _, hb⟩
    have hbd := (Below.refl wc.heap.size wc).drew.trans hb
    have b3 := b2.trans (hbd.mono b2.size)
    have HB := hideC (matrixl_any C' B c6 M' wd (hI2.below hbd) (by omega) (by omega))
    go_wp2_with fail
    refine nxt_op rfl hbd ?_
    go_wp2_with fail
    refine HB.out.mono ?_
    rintro e we ⟨q6, rfl, hm6, _, hb2⟩
    have hbe := hbd.trans (hb2.mono hbd.size)
    have b4 := b2.trans (hbe.mono b2.size)
    go_wp2_with fail
    refine nxt_op rfl hbe ?_
    go_wp2_with fail
    refine nxt_op rfl hbe ?_
    go_wp2_with fail
    refine nxt_nil ?_
    have hm5e := hm5.below hb2
    have hI1e := hI1.below hbe
    have hI2e := hI2.below hbe
    have hB5e := hB5.below hbe hB5.lt
    have hB6e := hB6.below hbe hB6.lt
    have e0 := hB5e.cell 0
    have e1 := hB5e.cell 1
    have f0 := hB6e.cell 0
    have f1 := hB6e.cell 1
    clear hm5 hI1 hI2 hB5 hB6 hbd hbe hb hb2 b2 b3
    go_wp2_with fail
    obtain ⟨wq, hwq⟩ : ∃ wq, wq = we.drew := ⟨_, rfl⟩
    have hbq : Below we.heap.size we wq := by rw [hwq]; exact (Below.refl _ _).drew
    have HW1 := withinm_any q5 q6 C C' (nsOf C M) (nsOf C' M') wq (hm5e.below hbq) (hm6.below hbq)
    rw [within_same (by omega)] at HW1
    have HW1 := hideC HW1
    refine wp_mix (fun V => Below we.heap.size we V) 31 (by kernel_rfl) (by kernel_rfl) (Below.refl _ _).drew ?_
    rw [← hwq]
    clear hwq
    (refine m_q 0 (v := ?_) (by kernel_rfl) rfl rfl (fun W hW => ?_) ?_; rotate_left; (go_simp; first | done | with_reducible rfl); simp only [Act.put, List.setIfInBounds_toArray, List.set_cons_zero, List.set_cons_succ]); (refine m_q 1 (v := ?_) (by kernel_rfl) rfl rfl (fun W hW => ?_) ?_; rotate_left; (go_simp; first | done | with_reducible rfl); simp only [Act.put, List.setIfInBounds_toArray, List.set_cons_zero, List.set_cons_succ]); (refine m_q 2 (v := ?_) (by kernel_rfl) rfl rfl (fun W hW => ?_) ?_; rotate_left; (go_simp; first | done | with_reducible rfl); simp only [Act.put, List.setIfInBounds_toArray, List.set_cons_zero, List.set_cons_succ])
    (refine m_yes 3 (v := ?_) (by kernel_rfl) rfl (by rfl) (fun W hW => ?_) ?_; rotate_left; (go_simp; first | done | with_reducible rfl); simp only [Act.put, List.setIfInBounds_toArray, List.set_cons_zero, List.set_cons_succ]); (refine m_yes 4 (v := ?_) (by kernel_rfl) rfl (by rfl) (fun W hW => ?_) ?_; rotate_left; (go_simp; first | done | with_reducible rfl); simp only [Act.put, List.setIfInBounds_toArray, List.set_cons_zero, List.set_cons_succ])
    (refine m_q 5 (v := ?_) (by kernel_rfl) rfl rfl (fun W hW => ?_) ?_; rotate_left; (go_simp; first | done | with_reducible rfl); simp only [Act.put, List.setIfInBounds_toArray, List.set_cons_zero, List.set_cons_succ]); (refine m_q 6 (v := ?_) (by kernel_rfl) rfl rfl (fun W hW => ?_) ?_; rotate_left; (go_simp; first | done | with_reducible rfl); simp only [Act.put, List.setIfInBounds_toArray, List.set_cons_zero, List.set_cons_succ])
    (refine m_yes 7 (v := ?_) (by kernel_rfl) rfl (by rfl) (fun W hW => ?_) ?_; rotate_left; (have z0 := onB hW e0; have z1 := onB hW e1; have z2 := onB hW f0; have z3 := onB hW f1; go_simp; first | done | with_reducible rfl); simp only [Act.put, List.setIfInBounds_toArray, List.set_cons_zero, List.set_cons_succ]); (refine m_yes 8 (v := ?_) (by kernel_rfl) rfl (by rfl) (fun W hW => ?_) ?_; rotate_left; (have z0 := onB hW e0; have z1 := onB hW e1; have z2 := onB hW f0; have z3 := onB hW f1; go_simp; first | done | with_reducible rfl); simp only [Act.put, List.setIfInBounds_toArray, List.set_cons_zero, List.set_cons_succ]); (refine m_yes 10 (v := ?_) (by kernel_rfl) rfl (by rfl) (fun W hW => ?_) ?_; rotate_left; (have z0 := onB hW e0; have z1 := onB hW e1; have z2 := onB hW f0; have z3 := onB hW f1; go_simp; first | done | with_reducible rfl); simp only [Act.put, List.setIfInBounds_toArray, List.set_cons_zero, List.set_cons_succ]); (refine m_yes 11 (v := ?_) (by kernel_rfl) rfl (by rfl) (fun W hW => ?_) ?_; rotate_left; (have z0 := onB hW e0; have z1 := onB hW e1; have z2 := onB hW f0; have z3 := onB hW f1; go_simp; first | done | with_reducible rfl); simp only [Act.put, List.setIfInBounds_toArray, List.set_cons_zero, List.set_cons_succ])
    refine m_s1 9 (by kernel_rfl) rfl ?_
    go_wp2_with fail
    refine HW1.out.mono ?_
    rintro e wf ⟨rfl, hb7⟩
    have hbf := hbq.trans (hb7.mono hbq.size)
    have HW2 := hideC (withinr_any C C' A B c5 c6 M M' wf (hI1e.below hbf) (hI2e.below hbf))
    go_wp2_with fail
    refine m_next hbf ?_
    refine m_s1 12 (by kernel_rfl) rfl ?_
    go_wp2_with fail
    refine HW2.out.mono ?_
    rintro e wg ⟨rfl, hb8⟩
    have hbg := hbf.trans (hb8.mono hbf.size)
    go_wp2_with fail
    refine m_next hb8 ?_
    have hbb1 : (withinB C C' M M' != withinB C C' M M') = false := by simp
    have e0 := onB hbg e0
    have e1 := onB hbg e1
    have f0 := onB hbg f0
    have f1 := onB hbg f1
    (refine m_yes 13 (v := ?_) (by kernel_rfl) rfl (by rfl) (fun W hW => ?_) ?_; rotate_left; (go_simp; first | done | with_reducible rfl); simp only [Act.put, List.setIfInBounds_toArray, List.set_cons_zero, List.set_cons_succ])
    clear hbb1
    (refine m_q 14 (v := ?_) (by kernel_rfl) rfl rfl (fun W hW => ?_) ?_; rotate_left; (go_simp; first | done | with_reducible rfl); simp only [Act.put, List.setIfInBounds_toArray, List.set_cons_zero, List.set_cons_succ]); (refine m_q 15 (v := ?_) (by kernel_rfl) rfl rfl (fun W hW => ?_) ?_; rotate_left; (go_simp; first | done | with_reducible rfl); simp only [Act.put, List.setIfInBounds_toArray, List.set_cons_zero, List.set_cons_succ])
    (refine m_yes 16 (v := ?_) (by kernel_rfl) rfl (by rfl) (fun W hW => ?_) ?_; rotate_left; (have z0 := onB hW e0; have z1 := onB hW e1; have z2 := onB hW f0; have z3 := onB hW f1; go_simp; first | done | with_reducible rfl); simp only [Act.put, List.setIfInBounds_toArray, List.set_cons_zero, List.set_cons_succ]); (refine m_yes 17 (v := ?_) (by kernel_rfl) rfl (by rfl) (fun W hW => ?_) ?_; rotate_left; (have z0 := onB hW e0; have z1 := onB hW e1; have z2 := onB hW f0; have z3 := onB hW f1; go_simp; first | done | with_reducible rfl); simp only [Act.put, List.setIfInBounds_toArray, List.set_cons_zero, List.set_cons_succ]); (refine m_yes 19 (v := ?_) (by kernel_rfl) rfl (by rfl) (fun W hW => ?_) ?_; rotate_left; (have z0 := onB hW e0; have z1 := onB hW e1; have z2 := onB hW f0; have z3 := onB hW f1; go_simp; first | done | with_reducible rfl); simp only [Act.put, List.setIfInBounds_toArray, List.set_cons_zero, List.set_cons_succ]); (refine m_yes 20 (v := ?_) (by kernel_rfl) rfl (by rfl) (fun W hW => ?_) ?_; rotate_left; (have z0 := onB hW e0; have z1 := onB hW e1; have z2 := onB hW f0; have z3 := onB hW f1; go_simp; first | done | with_reducible rfl); simp only [Act.put, List.setIfInBounds_toArray, List.set_cons_zero, List.set_cons_succ])
    have HE1 := equalm_any q5 q6 C C' (nsOf C M) (nsOf C' M') wg (hm5e.below hbg) (hm6.below hbg)
    rw [equal_same (by omega) (by omega)] at HE1
    have HE1 := hideC HE1
    refine m_s1 18 (by kernel_rfl) rfl ?_
    go_wp2_with fail
    refine HE1.out.mono ?_
    rintro e wh ⟨rfl, hb9⟩
    have hbh := hbg.trans (hb9.mono hbg.size)
    have HE2 := hideC (samer_any C C' A B c5 c6 M M' wh (hI1e.below hbh) (hI2e.below hbh))
    go_wp2_with fail
    refine m_next hb9 ?_
    refine m_s1 21 (by kernel_rfl) rfl ?_
    go_wp2_with fail
    refine HE2.out.mono ?_
    rintro e wi ⟨rfl, hb10⟩
    have hbi := hbh.trans (hb10.mono hbh.size)
    go_wp2_with fail
    refine m_next hb10 ?_
    have hbb2 : (sameB C C' M M' != sameB C C' M M') = false := by simp
    have e0 := onB (hb9.trans (hb10.mono hb9.size)) e0
    have e1 := onB (hb9.trans (hb10.mono hb9.size)) e1
    (refine m_yes 22 (v := ?_) (by kernel_rfl) rfl (by rfl) (fun W hW => ?_) ?_; rotate_left; (go_simp; first | done | with_reducible rfl); simp only [Act.put, List.setIfInBounds_toArray, List.set_cons_zero, List.set_cons_succ])
    clear hbb2
    (refine m_q 23 (v := ?_) (by kernel_rfl) rfl rfl (fun W hW => ?_) ?_; rotate_left; (go_simp; first | done | with_reducible rfl); simp only [Act.put, List.setIfInBounds_toArray, List.set_cons_zero, List.set_cons_succ]); (refine m_q 24 (v := ?_) (by kernel_rfl) rfl rfl (fun W hW => ?_) ?_; rotate_left; (go_simp; first | done | with_reducible rfl); simp only [Act.put, List.setIfInBounds_toArray, List.set_cons_zero, List.set_cons_succ])
    (refine m_yes 25 (v := ?_) (by kernel_rfl) rfl (by rfl) (fun W hW => ?_) ?_; rotate_left; (have z0 := onB hW e0; have z1 := onB hW e1; go_simp; first | done | with_reducible rfl); simp only [Act.put, List.setIfInBounds_toArray, List.set_cons_zero, List.set_cons_succ]); (refine m_yes 26 (v := ?_) (by kernel_rfl) rfl (by rfl) (fun W hW => ?_) ?_; rotate_left; (have z0 := onB hW e0; have z1 := onB hW e1; go_simp; first | done | with_reducible rfl); simp only [Act.put, List.setIfInBounds_toArray, List.set_cons_zero, List.set_cons_succ])
    have HMM := hideC (matrixl_any C A c5 M wi (hI1e.below hbi) (by omega) (by omega))
    refine m_s1 27 (by kernel_rfl) rfl ?_
    go_wp2_with fail
    refine HMM.out.mono ?_
    rintro e wj ⟨q9, rfl, hm9, _, hb11⟩
    have hbj := hbi.trans (hb11.mono hbi.size)
    have HE3 := equalm_any q5 q9 C C (nsOf C M) (nsOf C M) wj (hm5e.below hbj) hm9
    rw [equal_same (by omega) (by omega), sameB_refl] at HE3
    have HE3 := hideC HE3
    go_wp2_with fail
    refine m_next hb11 ?_
    refine m_s1 28 (by kernel_rfl) rfl ?_
    go_wp2_with fail
    refine HE3.out.mono ?_
    rintro e wk ⟨rfl, hb12⟩
    have hbk := hbj.trans (hb12.mono hbj.size)
    go_wp2_with fail
    refine m_next hb12 ?_
    (refine m_yes 29 (v := ?_) (by kernel_rfl) rfl (by rfl) (fun W hW => ?_) ?_; rotate_left; (go_simp; first | done | with_reducible rfl); simp only [Act.put, List.setIfInBounds_toArray, List.set_cons_zero, List.set_cons_succ])
    (refine m_q 30 (v := ?_) (by kernel_rfl) rfl rfl (fun W hW => ?_) ?_; rotate_left; (go_simp; first | done | with_reducible rfl); simp only [Act.put, List.setIfInBounds_toArray, List.set_cons_zero, List.set_cons_succ])
    refine m_end (by kernel_rfl) ?_
    have b5 := b4.trans (hbk.mono b4.size)
    have hm5k := hm5e.below hbk
    have hm6k := hm6.below hbk
    have hI1k := hI1e.below hbk
    have hI2k := hI2e.below hbk
    have hB5k := hB5e.below hbk hB5e.lt
    have hB6k := hB6e.below hbk hB6e.lt
    clear e0 e1 f0 f1 hbq hbf hbg hbh hbi hbj hbk hb7 hb8 hb9 hb10 hb11 hb12 hm9 hm5e hm6 hI1e hI2e hB5e hB6e b4
    by_cases hfit : M.length = M'.length ∧ C = C'
    · obtain ⟨hL, rfl⟩ := hfit
      have HO := orm_any q5 q6 C (nsOf C M) (nsOf C M') wk hm5k hm6k (by rw [nsTo_len, nsTo_len]; exact hL)
      rw [nsTo_len] at HO
      have HO := hideC HO
      have HL := Lib.hid hL; clear hL
      go_wp2_with fail
      refine HO.out.mono ?_
      rintro e wl ⟨q10, rfl, hm10, hb13⟩
      have HN := andm_any q5 q6 C (nsOf C M) (nsOf C M') wl (hm5k.below hb13) (hm6k.below hb13) (by rw [nsTo_len, nsTo_len]; exact HL.out)
      rw [nsTo_len] at HN
      have HN := hideC HN
      go_wp2_with fail
      refine HN.out.mono ?_
      rintro e wm ⟨q11, rfl, hm11, hb14⟩
      have hbm := hb13.trans (hb14.mono hb13.size)
      have hB5m := hB5k.below hbm hB5k.lt
      have hB6m := hB6k.below hbm hB6k.lt
      have e0 := hB5m.cell 0
      have e1 := hB5m.cell 1
      have f0 := hB6m.cell 0
      have f1 := hB6m.cell 1
      have HF := fitsr_any C C M.length M'.length A B c5 c6 wm
      rw [decide_eq_true ⟨HL.out, rfl⟩] at HF
      have HF := hideC HF
      go_wp2_with fail
      refine HF.out.mono ?_
      rintro e wn ⟨rfl, hb15⟩
      have hbn := hbm.trans (hb15.mono hbm.size)
      have hB5n := hB5k.below hbn hB5k.lt
      have hB6n := hB6k.below hbn hB6k.lt
      have e0 := hB5n.cell 0
      have e1 := hB5n.cell 1
      have f0 := hB6n.cell 0
      have f1 := hB6n.cell 1
      have HOR := hideC (orr_any C A B c5 c6 M M' wn (hI1k.below hbn) (hI2k.below hbn) HL.out)
      go_wp2_with fail
      refine HOR.out.mono ?_
      rintro e wo ⟨A16, c16, rfl, hI16, hb16⟩
      have hbo := hbn.trans (hb16.mono hbn.size)
      have hsm := samel_any q10 C C (mzip (· ||| ·) (nsOf C M) (nsOf C M') M.length) A16 c16 (mat M.length C (orF M M')) wo ((hm10.below (hb14.trans (hb15.mono hb14.size))).below hb16) (by omega) (by rw [mzip_len]; omega) hI16
      rw [same_of (mzip_len _ _ _ _) (or_has (by omega) HL.out), mat_len] at hsm
      have HSM := hideC hsm; clear hsm
      go_wp2_with fail
      refine HSM.out.mono ?_
      rintro e wp ⟨rfl, hb17⟩
      have hbp := hbo.trans (hb17.mono hbo.size)
      have hB5p := hB5k.below hbp hB5k.lt
      have hB6p := hB6k.below hbp hB6k.lt
      have e0 := hB5p.cell 0
      have e1 := hB5p.cell 1
      have f0 := hB6p.cell 0
      have f1 := hB6p.cell 1
      have HAND := hideC (andr_any C A B c5 c6 M M' wp (hI1k.below hbp) (hI2k.below hbp) HL.out)
      go_wp2_with fail
      refine HAND.out.mono ?_
      rintro e wq2 ⟨A18, c18, rfl, hI18, hb18⟩
      have hbq2 := hbp.trans (hb18.mono hbp.size)
      have hb1418 := hb15.trans ((hb16.trans ((hb17.trans (hb18.mono hb17.size)).mono hb16.size)).mono hb15.size)
      have hsm := samel_any q11 C C (mzip (· &&& ·) (nsOf C M) (nsOf C M') M.length) A18 c18 (mat M.length C (andF M M')) wq2 (hm11.below hb1418) (by omega) (by rw [mzip_len]; omega) hI18
      rw [same_of (mzip_len _ _ _ _) (and_has (by omega) HL.out), mat_len] at hsm
      have HSM := hideC hsm; clear hsm
      go_wp2_with fail
      refine HSM.out.mono ?_
      rintro e wr2 ⟨rfl, hb19⟩
      go_wp2_with fail
      go_ret
      exact ⟨rfl, b5.trans ((hbq2.trans (hb19.mono hbq2.size)).mono b5.size)⟩
    · have hno : decide (C = C' ∧ (nsOf C M).length = (nsOf C' M').length) = false := by
        rw [nsTo_len, nsTo_len, decide_eq_false_iff_not]; exact fun h => hfit ⟨h.2, h.1⟩
      have HF1 := fits_any q5 q6 C C' (nsOf C M) (nsOf C' M') wk hm5k hm6k
      rw [hno] at HF1
      have HO := hideC (orm_no _ _ wk HF1)
      have HF3 := hideC (fun W => by have := fitsr_any C C' M.length M'.length A B c5 c6 W; rwa [decide_eq_false hfit] at this)
      have HNO := Lib.hid hno
      clear hno hfit HF1
      go_wp2_with fail
      refine HO.out.mono ?_
      rintro e wl ⟨rfl, hb13⟩
      have HF2 := fits_any q5 q6 C C' (nsOf C M) (nsOf C' M') wl (hm5k.below hb13) (hm6k.below hb13)
      rw [HNO.out] at HF2
      have HN := hideC (andm_no _ _ wl HF2)
      clear HF2
      go_wp2_with fail
      refine HN.out.mono ?_
      rintro e wm ⟨rfl, hb14⟩
      have hbm := hb13.trans (hb14.mono hb13.size)
      have hB5m := hB5k.below hbm hB5k.lt
      have hB6m := hB6k.below hbm hB6k.lt
      have e0 := hB5m.cell 0
      have e1 := hB5m.cell 1
      have f0 := hB6m.cell 0
      have f1 := hB6m.cell 1
      go_wp2_with fail
      refine (HF3.out _).mono ?_
      rintro e wn ⟨rfl, hb15⟩
      go_wp2_with fail
      go_ret
      exact ⟨rfl, b5.trans ((hbm.trans (hb15.mono hbm.size)).mono b5.size)⟩
end Go.Proofs.YtjlcnbfkblmoeaaDoor
