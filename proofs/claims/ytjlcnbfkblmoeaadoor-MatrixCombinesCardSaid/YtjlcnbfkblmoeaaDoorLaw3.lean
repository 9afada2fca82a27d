import Derived.Test.YtjlcnbfkblmoeaaDoorLaw
import Derived.Test.YtjlcnbfkblmoeaaDoorBits
import Derived.Deep.DeepCutAuto
namespace Go.Proofs.YtjlcnbfkblmoeaaDoor
open Go.RowKit

theorem absN {K : Act → World → Prop} {a : Act} {w : World} {c1 : Array Value} {t1 : TypeId} (h : ∀ W, Blk W w.heap.size t1 c1 → Below w.heap.size w W → W.heap.size = w.heap.size + 1 → nxt K .normal a W) : nxt K .normal a (w.alloc (.cells c1 t1)) :=
  h _ (Blk.new _ _ _) ((Below.refl _ _).alloc (Nat.le_refl _) _) (by simp)
theorem absND {K : Act → World → Prop} {a : Act} {w : World} {c1 : Array Value} {t1 : TypeId} (h : ∀ W, Blk W w.heap.size t1 c1 → Below w.heap.size w W → W.heap.size = w.heap.size + 1 → nxt K .normal a W) : nxt K .normal a (w.alloc (.cells c1 t1)).drew :=
  h _ (Blk.new _ _ _).drew ((Below.refl _ _).alloc (Nat.le_refl _) _).drew (by simp)
theorem make_own (v : Value) (R C : Nat) (zs : List Int) (w : World) (h : IsRaw w v R C zs) :
    Calls Tryd.prog 14 #[v] w fun e w' => ∃ A c gs, e = .returned (refV C A R c) ∧ gs.length = R ∧ OwnRef w' 0 C (.slice A R c) gs (rawF C zs) ∧ Below w.heap.size w w' := by
  obtain ⟨r, c, A, d, rfl, h2, h3, h4, h5, h6, h7, h8⟩ := h
  refine (maker_any r c R C A d zs w h2 h3 h4 h5 h6 h7 h8).mono ?_
  rintro e w' ⟨A', c', gs, rfl, hgs, hO, hb⟩
  exact ⟨_, _, gs, rfl, hgs, ⟨hO.1.mono (Nat.zero_le _), hO.2.1, fun g _ => Nat.zero_le g, hO.2.2.2⟩, hb⟩
set_option maxRecDepth 100000 in
set_option maxHeartbeats 40000000 in
theorem products_walk (v v' : Value) (R C R' C' : Nat) (zs zs' : List Int) (w : World) (hT : Tab w) (h : IsRaw w v R C zs) (h' : IsRaw w v' R' C' zs') :
    Calls Tryd.prog 4 #[v, v'] w fun e w' => e = .returned (.bool true) ∧ Below w.heap.size w w' := by
  have hbd := h.bd
  have hbd' := h'.bd
  obtain ⟨r, c, A0, d0, hv, _⟩ := id h
  obtain ⟨r', c', A0', d0', hv', _⟩ := id h'
  subst hv; subst hv'
  have HIN := hideC h; clear h
  have HIN' := hideC h'; clear h'
  go_enter Tryd.func4, Tryd.ntmps4
  go_wp2_with fail
  refine absC2 fun W0 hX hX' hbel0 hz => ?_
  have HZ := Lib.hid hz; clear hz
  refine (awake_any W0 (hT.below hbel0)).mono ?_
  rintro e w1 ⟨rfl, hb1⟩
  have b1 := hbel0.trans (hb1.mono hbel0.size)
  have hX1 := hX.below hb1 hX.lt
  have hX1' := hX'.below hb1 hX'.lt
  have x0 := hX1.cell 0
  have x1 := hX1.cell 1
  have x2 := hX1.cell 2
  have y0 := hX1'.cell 0
  have y1 := hX1'.cell 1
  have y2 := hX1'.cell 2
  go_upto_region 3 with fail
  go_cut [5, 6] (fun s5 s6 wx => ∃ (g5 g6 : Nat) (A B : Option Addr) (c d : Nat), s5 = ptr g5 ∧ s6 = ptr g6 ∧ Blk wx g5 28 #[.int .i64 (C : Int), .slice A R c] ∧ Blk wx g6 28 #[.int .i64 (C' : Int), .slice B R' d] ∧ IsRef wx C A (rawM R C zs) ∧ IsRef wx C' B (rawM R' C' zs') ∧ Below w.heap.size w wx)
  case first =>
    refine wp_mix (fun V => Below w1.heap.size w1 V) 8 (by kernel_rfl) (by kernel_rfl) (Below.refl _ _).drew ?_
    (refine m_q 0 (v := ?_) (by kernel_rfl) rfl rfl (fun W hW => ?_) ?_; rotate_left; (have z0 := onB hW x0; have z1 := onB hW x1; have z2 := onB hW x2; have z3 := onB hW y0; have z4 := onB hW y1; have z5 := onB hW y2; go_simp; first | done | with_reducible rfl); simp only [Act.put, List.setIfInBounds_toArray, List.set_cons_zero, List.set_cons_succ]); (refine m_q 2 (v := ?_) (by kernel_rfl) rfl rfl (fun W hW => ?_) ?_; rotate_left; (have z0 := onB hW x0; have z1 := onB hW x1; have z2 := onB hW x2; have z3 := onB hW y0; have z4 := onB hW y1; have z5 := onB hW y2; go_simp; first | done | with_reducible rfl); simp only [Act.put, List.setIfInBounds_toArray, List.set_cons_zero, List.set_cons_succ])
    -- PAIR
    refine m_s3 1 4 5 (by kernel_rfl) rfl rfl rfl ?_ ?_ ?_
    · have b := b1.drew
      go_wp2_with fail
      refine (make_own _ R C zs _ (HIN.out.below b)).mono ?_
      rintro e wk1 ⟨A1, c1, gs1, rfl, hgs1, hO1, hb⟩
      have hbs := (Below.refl w1.heap.size w1).drew.trans hb
      replace b := b.trans (hb.mono b.size)
      go_wp2_with fail
      refine m_next hbs ?_
      clear hb hbs
      refine m_s3 3 4 5 (by kernel_rfl) rfl rfl rfl ?_ ?_ ?_
      · go_wp2_with fail
        refine (make_own _ R' C' zs' _ (HIN'.out.below b)).mono ?_
        rintro e wk2 ⟨A2, c2, gs2, rfl, hgs2, hO2, hb⟩
        replace b := b.trans (hb.mono b.size); replace hO1 := hO1.below hb
        go_wp2_with fail
        refine m_next hb ?_
        clear hb
        refine m_s2 4 5 (by kernel_rfl) rfl rfl ?_ ?_
        · go_wp2_with fail
          have hg5 := b.size
          refine absN fun wk3 hB5 hb hzq => ?_
          clear hzq
          replace b := b.trans (hb.mono b.size); replace hO1 := hO1.below hb; replace hO2 := hO2.below hb
          refine m_next hb ?_
          generalize wk2.heap.size = g5 at hB5 hg5 ⊢
          clear hb
          refine m_s1 5 (by kernel_rfl) rfl ?_
          go_wp2_with fail
          have hg6 := b.size
          have hne := Nat.ne_of_lt hB5.lt
          refine absN fun wk4 hB6 hb hzq => ?_
          clear hzq
          replace b := b.trans (hb.mono b.size); replace hO1 := hO1.below hb; replace hO2 := hO2.below hb; replace hB5 := hB5.below hb hB5.lt
          refine m_next hb ?_
          generalize wk3.heap.size = g6 at hB6 hg6 hne ⊢
          clear hb
          have e0 := hB5.cell 0; have e1 := hB5.cell 1; have f0 := hB5.frozen 0; have f1 := hB5.frozen 1
          have P5 := (hB5.set_ 0 (.int .i64 (C : Int))).set_ 1 (.slice A1 R c1)
          have P6 := (hB6.far (p := ⟨_, 0, none⟩) (Ne.symm hne) (.int .i64 (C : Int))).far (p := ⟨_, 1, none⟩) (Ne.symm hne) (.slice A1 R c1)
          have O1 := (hO1.far hB5 (by decide) (by decide) 0 (.int .i64 (C : Int))).far (hB5.set_ 0 (.int .i64 (C : Int))) (by decide) (by decide) 1 (.slice A1 R c1)
          have O2 := (hO2.far hB5 (by decide) (by decide) 0 (.int .i64 (C : Int))).far (hB5.set_ 0 (.int .i64 (C : Int))) (by decide) (by decide) 1 (.slice A1 R c1)
          have Pb := (b.setCell (p := ⟨_, 0, none⟩) hg5 (.int .i64 (C : Int))).setCell (p := ⟨_, 1, none⟩) hg5 (.slice A1 R c1)
          clear hB5 hB6 hO1 hO2 b
          refine m_s1 6 (by kernel_rfl) rfl ?_
          go_wp2_with fail
          refine m_clear (by kernel_rfl) ?_
          obtain ⟨W7, hW7⟩ : ∃ W7, W7 = (wk4.setCell ⟨g5, 0, none⟩ (.int .i64 (C : Int))).setCell ⟨g5, 1, none⟩ (.slice A1 R c1) := ⟨_, rfl⟩
          rw [← hW7] at P5 P6 O1 O2 Pb ⊢; clear hW7 e0 e1 f0 f1
          have e0 := P6.cell 0; have e1 := P6.cell 1; have f0 := P6.frozen 0; have f1 := P6.frozen 1
          have R6 := (P6.set_ 0 (.int .i64 (C' : Int))).set_ 1 (.slice A2 R' c2)
          have R5 := (P5.far (p := ⟨_, 0, none⟩) hne (.int .i64 (C' : Int))).far (p := ⟨_, 1, none⟩) hne (.slice A2 R' c2)
          have X1 := (O1.far P6 (by decide) (by decide) 0 (.int .i64 (C' : Int))).far (P6.set_ 0 (.int .i64 (C' : Int))) (by decide) (by decide) 1 (.slice A2 R' c2)
          have X2 := (O2.far P6 (by decide) (by decide) 0 (.int .i64 (C' : Int))).far (P6.set_ 0 (.int .i64 (C' : Int))) (by decide) (by decide) 1 (.slice A2 R' c2)
          have Xb := (Pb.setCell (p := ⟨_, 0, none⟩) hg6 (.int .i64 (C' : Int))).setCell (p := ⟨_, 1, none⟩) hg6 (.slice A2 R' c2)
          clear P5 P6 O1 O2 Pb
          refine m_s1 7 (by kernel_rfl) rfl ?_
          go_wp2_with fail
          refine m_clear (by kernel_rfl) ?_
          refine m_end (by kernel_rfl) ?_
          go_wp2_with fail
          go_meet
          exact ⟨_, _, A1, A2, c1, c2, rfl, rfl, R5, R6, own_ref X1 hgs1 (by omega) (by omega), own_ref X2 hgs2 (by omega) (by omega), Xb⟩
        · go_wp2_with fail
          have hg6 := b.size
          refine absN fun wk5 hB6 hb hzq => ?_
          clear hzq
          replace b := b.trans (hb.mono b.size); replace hO1 := hO1.below hb; replace hO2 := hO2.below hb
          refine m_next hb ?_
          generalize wk2.heap.size = g6 at hB6 hg6 ⊢
          clear hb
          refine m_s1 4 (by kernel_rfl) rfl ?_
          go_wp2_with fail
          have hg5 := b.size
          have hne := Nat.ne_of_gt hB6.lt
          refine absN fun wk6 hB5 hb hzq => ?_
          clear hzq
          replace b := b.trans (hb.mono b.size); replace hO1 := hO1.below hb; replace hO2 := hO2.below hb; replace hB6 := hB6.below hb hB6.lt
          refine m_next hb ?_
          generalize wk5.heap.size = g5 at hB5 hg5 hne ⊢
          clear hb
          have e0 := hB5.cell 0; have e1 := hB5.cell 1; have f0 := hB5.frozen 0; have f1 := hB5.frozen 1
          have P5 := (hB5.set_ 0 (.int .i64 (C : Int))).set_ 1 (.slice A1 R c1)
          have P6 := (hB6.far (p := ⟨_, 0, none⟩) (Ne.symm hne) (.int .i64 (C : Int))).far (p := ⟨_, 1, none⟩) (Ne.symm hne) (.slice A1 R c1)
          have O1 := (hO1.far hB5 (by decide) (by decide) 0 (.int .i64 (C : Int))).far (hB5.set_ 0 (.int .i64 (C : Int))) (by decide) (by decide) 1 (.slice A1 R c1)
          have O2 := (hO2.far hB5 (by decide) (by decide) 0 (.int .i64 (C : Int))).far (hB5.set_ 0 (.int .i64 (C : Int))) (by decide) (by decide) 1 (.slice A1 R c1)
          have Pb := (b.setCell (p := ⟨_, 0, none⟩) hg5 (.int .i64 (C : Int))).setCell (p := ⟨_, 1, none⟩) hg5 (.slice A1 R c1)
          clear hB5 hB6 hO1 hO2 b
          refine m_s1 6 (by kernel_rfl) rfl ?_
          go_wp2_with fail
          refine m_clear (by kernel_rfl) ?_
          obtain ⟨W7, hW7⟩ : ∃ W7, W7 = (wk6.setCell ⟨g5, 0, none⟩ (.int .i64 (C : Int))).setCell ⟨g5, 1, none⟩ (.slice A1 R c1) := ⟨_, rfl⟩
          rw [← hW7] at P5 P6 O1 O2 Pb ⊢; clear hW7 e0 e1 f0 f1
          have e0 := P6.cell 0; have e1 := P6.cell 1; have f0 := P6.frozen 0; have f1 := P6.frozen 1
          have R6 := (P6.set_ 0 (.int .i64 (C' : Int))).set_ 1 (.slice A2 R' c2)
          have R5 := (P5.far (p := ⟨_, 0, none⟩) hne (.int .i64 (C' : Int))).far (p := ⟨_, 1, none⟩) hne (.slice A2 R' c2)
          have X1 := (O1.far P6 (by decide) (by decide) 0 (.int .i64 (C' : Int))).far (P6.set_ 0 (.int .i64 (C' : Int))) (by decide) (by decide) 1 (.slice A2 R' c2)
          have X2 := (O2.far P6 (by decide) (by decide) 0 (.int .i64 (C' : Int))).far (P6.set_ 0 (.int .i64 (C' : Int))) (by decide) (by decide) 1 (.slice A2 R' c2)
          have Xb := (Pb.setCell (p := ⟨_, 0, none⟩) hg6 (.int .i64 (C' : Int))).setCell (p := ⟨_, 1, none⟩) hg6 (.slice A2 R' c2)
          clear P5 P6 O1 O2 Pb
          refine m_s1 7 (by kernel_rfl) rfl ?_
          go_wp2_with fail
          refine m_clear (by kernel_rfl) ?_
          refine m_end (by kernel_rfl) ?_
          go_wp2_with fail
          go_meet
          exact ⟨_, _, A1, A2, c1, c2, rfl, rfl, R5, R6, own_ref X1 hgs1 (by omega) (by omega), own_ref X2 hgs2 (by omega) (by omega), Xb⟩
      · go_wp2_with fail
        have hg5 := b.size
        refine absN fun wk7 hB5 hb hzq => ?_
        clear hzq
        replace b := b.trans (hb.mono b.size); replace hO1 := hO1.below hb
        refine m_next hb ?_
        generalize wk1.heap.size = g5 at hB5 hg5 ⊢
        clear hb
        refine m_s2 3 5 (by kernel_rfl) rfl rfl ?_ ?_
        · go_wp2_with fail
          refine (make_own _ R' C' zs' _ (HIN'.out.below b)).mono ?_
          rintro e wk8 ⟨A2, c2, gs2, rfl, hgs2, hO2, hb⟩
          replace b := b.trans (hb.mono b.size); replace hO1 := hO1.below hb; replace hB5 := hB5.below hb hB5.lt
          go_wp2_with fail
          refine m_next hb ?_
          clear hb
          refine m_s1 5 (by kernel_rfl) rfl ?_
          go_wp2_with fail
          have hg6 := b.size
          have hne := Nat.ne_of_lt hB5.lt
          refine absN fun wk9 hB6 hb hzq => ?_
          clear hzq
          replace b := b.trans (hb.mono b.size); replace hO1 := hO1.below hb; replace hO2 := hO2.below hb; replace hB5 := hB5.below hb hB5.lt
          refine m_next hb ?_
          generalize wk8.heap.size = g6 at hB6 hg6 hne ⊢
          clear hb
          have e0 := hB5.cell 0; have e1 := hB5.cell 1; have f0 := hB5.frozen 0; have f1 := hB5.frozen 1
          have P5 := (hB5.set_ 0 (.int .i64 (C : Int))).set_ 1 (.slice A1 R c1)
          have P6 := (hB6.far (p := ⟨_, 0, none⟩) (Ne.symm hne) (.int .i64 (C : Int))).far (p := ⟨_, 1, none⟩) (Ne.symm hne) (.slice A1 R c1)
          have O1 := (hO1.far hB5 (by decide) (by decide) 0 (.int .i64 (C : Int))).far (hB5.set_ 0 (.int .i64 (C : Int))) (by decide) (by decide) 1 (.slice A1 R c1)
          have O2 := (hO2.far hB5 (by decide) (by decide) 0 (.int .i64 (C : Int))).far (hB5.set_ 0 (.int .i64 (C : Int))) (by decide) (by decide) 1 (.slice A1 R c1)
          have Pb := (b.setCell (p := ⟨_, 0, none⟩) hg5 (.int .i64 (C : Int))).setCell (p := ⟨_, 1, none⟩) hg5 (.slice A1 R c1)
          clear hB5 hB6 hO1 hO2 b
          refine m_s1 6 (by kernel_rfl) rfl ?_
          go_wp2_with fail
          refine m_clear (by kernel_rfl) ?_
          obtain ⟨W7, hW7⟩ : ∃ W7, W7 = (wk9.setCell ⟨g5, 0, none⟩ (.int .i64 (C : Int))).setCell ⟨g5, 1, none⟩ (.slice A1 R c1) := ⟨_, rfl⟩
          rw [← hW7] at P5 P6 O1 O2 Pb ⊢; clear hW7 e0 e1 f0 f1
          have e0 := P6.cell 0; have e1 := P6.cell 1; have f0 := P6.frozen 0; have f1 := P6.frozen 1
          have R6 := (P6.set_ 0 (.int .i64 (C' : Int))).set_ 1 (.slice A2 R' c2)
          have R5 := (P5.far (p := ⟨_, 0, none⟩) hne (.int .i64 (C' : Int))).far (p := ⟨_, 1, none⟩) hne (.slice A2 R' c2)
          have X1 := (O1.far P6 (by decide) (by decide) 0 (.int .i64 (C' : Int))).far (P6.set_ 0 (.int .i64 (C' : Int))) (by decide) (by decide) 1 (.slice A2 R' c2)
          have X2 := (O2.far P6 (by decide) (by decide) 0 (.int .i64 (C' : Int))).far (P6.set_ 0 (.int .i64 (C' : Int))) (by decide) (by decide) 1 (.slice A2 R' c2)
          have Xb := (Pb.setCell (p := ⟨_, 0, none⟩) hg6 (.int .i64 (C' : Int))).setCell (p := ⟨_, 1, none⟩) hg6 (.slice A2 R' c2)
          clear P5 P6 O1 O2 Pb
          refine m_s1 7 (by kernel_rfl) rfl ?_
          go_wp2_with fail
          refine m_clear (by kernel_rfl) ?_
          refine m_end (by kernel_rfl) ?_
          go_wp2_with fail
          go_meet
          exact ⟨_, _, A1, A2, c1, c2, rfl, rfl, R5, R6, own_ref X1 hgs1 (by omega) (by omega), own_ref X2 hgs2 (by omega) (by omega), Xb⟩
        · go_wp2_with fail
          have hg6 := b.size
          have hne := Nat.ne_of_lt hB5.lt
          refine absN fun wk10 hB6 hb hzq => ?_
          clear hzq
          replace b := b.trans (hb.mono b.size); replace hO1 := hO1.below hb; replace hB5 := hB5.below hb hB5.lt
          refine m_next hb ?_
          generalize wk7.heap.size = g6 at hB6 hg6 hne ⊢
          clear hb
          refine m_s1 3 (by kernel_rfl) rfl ?_
          go_wp2_with fail
          refine (make_own _ R' C' zs' _ (HIN'.out.below b)).mono ?_
          rintro e wk11 ⟨A2, c2, gs2, rfl, hgs2, hO2, hb⟩
          replace b := b.trans (hb.mono b.size); replace hO1 := hO1.below hb; replace hB5 := hB5.below hb hB5.lt; replace hB6 := hB6.below hb hB6.lt
          go_wp2_with fail
          refine m_next hb ?_
          clear hb
          have e0 := hB5.cell 0; have e1 := hB5.cell 1; have f0 := hB5.frozen 0; have f1 := hB5.frozen 1
          have P5 := (hB5.set_ 0 (.int .i64 (C : Int))).set_ 1 (.slice A1 R c1)
          have P6 := (hB6.far (p := ⟨_, 0, none⟩) (Ne.symm hne) (.int .i64 (C : Int))).far (p := ⟨_, 1, none⟩) (Ne.symm hne) (.slice A1 R c1)
          have O1 := (hO1.far hB5 (by decide) (by decide) 0 (.int .i64 (C : Int))).far (hB5.set_ 0 (.int .i64 (C : Int))) (by decide) (by decide) 1 (.slice A1 R c1)
          have O2 := (hO2.far hB5 (by decide) (by decide) 0 (.int .i64 (C : Int))).far (hB5.set_ 0 (.int .i64 (C : Int))) (by decide) (by decide) 1 (.slice A1 R c1)
          have Pb := (b.setCell (p := ⟨_, 0, none⟩) hg5 (.int .i64 (C : Int))).setCell (p := ⟨_, 1, none⟩) hg5 (.slice A1 R c1)
          clear hB5 hB6 hO1 hO2 b
          refine m_s1 6 (by kernel_rfl) rfl ?_
          go_wp2_with fail
          refine m_clear (by kernel_rfl) ?_
          obtain ⟨W7, hW7⟩ : ∃ W7, W7 = (wk11.setCell ⟨g5, 0, none⟩ (.int .i64 (C : Int))).setCell ⟨g5, 1, none⟩ (.slice A1 R c1) := ⟨_, rfl⟩
          rw [← hW7] at P5 P6 O1 O2 Pb ⊢; clear hW7 e0 e1 f0 f1
          have e0 := P6.cell 0; have e1 := P6.cell 1; have f0 := P6.frozen 0; have f1 := P6.frozen 1
          have R6 := (P6.set_ 0 (.int .i64 (C' : Int))).set_ 1 (.slice A2 R' c2)
          have R5 := (P5.far (p := ⟨_, 0, none⟩) hne (.int .i64 (C' : Int))).far (p := ⟨_, 1, none⟩) hne (.slice A2 R' c2)
          have X1 := (O1.far P6 (by decide) (by decide) 0 (.int .i64 (C' : Int))).far (P6.set_ 0 (.int .i64 (C' : Int))) (by decide) (by decide) 1 (.slice A2 R' c2)
          have X2 := (O2.far P6 (by decide) (by decide) 0 (.int .i64 (C' : Int))).far (P6.set_ 0 (.int .i64 (C' : Int))) (by decide) (by decide) 1 (.slice A2 R' c2)
          have Xb := (Pb.setCell (p := ⟨_, 0, none⟩) hg6 (.int .i64 (C' : Int))).setCell (p := ⟨_, 1, none⟩) hg6 (.slice A2 R' c2)
          clear P5 P6 O1 O2 Pb
          refine m_s1 7 (by kernel_rfl) rfl ?_
          go_wp2_with fail
          refine m_clear (by kernel_rfl) ?_
          refine m_end (by kernel_rfl) ?_
          go_wp2_with fail
          go_meet
          exact ⟨_, _, A1, A2, c1, c2, rfl, rfl, R5, R6, own_ref X1 hgs1 (by omega) (by omega), own_ref X2 hgs2 (by omega) (by omega), Xb⟩
      · go_wp2_with fail
        have hg6 := b.size
        refine absN fun wk12 hB6 hb hzq => ?_
        clear hzq
        replace b := b.trans (hb.mono b.size); replace hO1 := hO1.below hb
        refine m_next hb ?_
        generalize wk1.heap.size = g6 at hB6 hg6 ⊢
        clear hb
        refine m_s2 3 4 (by kernel_rfl) rfl rfl ?_ ?_
        · go_wp2_with fail
          refine (make_own _ R' C' zs' _ (HIN'.out.below b)).mono ?_
          rintro e wk13 ⟨A2, c2, gs2, rfl, hgs2, hO2, hb⟩
          replace b := b.trans (hb.mono b.size); replace hO1 := hO1.below hb; replace hB6 := hB6.below hb hB6.lt
          go_wp2_with fail
          refine m_next hb ?_
          clear hb
          refine m_s1 4 (by kernel_rfl) rfl ?_
          go_wp2_with fail
          have hg5 := b.size
          have hne := Nat.ne_of_gt hB6.lt
          refine absN fun wk14 hB5 hb hzq => ?_
          clear hzq
          replace b := b.trans (hb.mono b.size); replace hO1 := hO1.below hb; replace hO2 := hO2.below hb; replace hB6 := hB6.below hb hB6.lt
          refine m_next hb ?_
          generalize wk13.heap.size = g5 at hB5 hg5 hne ⊢
          clear hb
          have e0 := hB5.cell 0; have e1 := hB5.cell 1; have f0 := hB5.frozen 0; have f1 := hB5.frozen 1
          have P5 := (hB5.set_ 0 (.int .i64 (C : Int))).set_ 1 (.slice A1 R c1)
          have P6 := (hB6.far (p := ⟨_, 0, none⟩) (Ne.symm hne) (.int .i64 (C : Int))).far (p := ⟨_, 1, none⟩) (Ne.symm hne) (.slice A1 R c1)
          have O1 := (hO1.far hB5 (by decide) (by decide) 0 (.int .i64 (C : Int))).far (hB5.set_ 0 (.int .i64 (C : Int))) (by decide) (by decide) 1 (.slice A1 R c1)
          have O2 := (hO2.far hB5 (by decide) (by decide) 0 (.int .i64 (C : Int))).far (hB5.set_ 0 (.int .i64 (C : Int))) (by decide) (by decide) 1 (.slice A1 R c1)
          have Pb := (b.setCell (p := ⟨_, 0, none⟩) hg5 (.int .i64 (C : Int))).setCell (p := ⟨_, 1, none⟩) hg5 (.slice A1 R c1)
          clear hB5 hB6 hO1 hO2 b
          refine m_s1 6 (by kernel_rfl) rfl ?_
          go_wp2_with fail
          refine m_clear (by kernel_rfl) ?_
          obtain ⟨W7, hW7⟩ : ∃ W7, W7 = (wk14.setCell ⟨g5, 0, none⟩ (.int .i64 (C : Int))).setCell ⟨g5, 1, none⟩ (.slice A1 R c1) := ⟨_, rfl⟩
          rw [← hW7] at P5 P6 O1 O2 Pb ⊢; clear hW7 e0 e1 f0 f1
          have e0 := P6.cell 0; have e1 := P6.cell 1; have f0 := P6.frozen 0; have f1 := P6.frozen 1
          have R6 := (P6.set_ 0 (.int .i64 (C' : Int))).set_ 1 (.slice A2 R' c2)
          have R5 := (P5.far (p := ⟨_, 0, none⟩) hne (.int .i64 (C' : Int))).far (p := ⟨_, 1, none⟩) hne (.slice A2 R' c2)
          have X1 := (O1.far P6 (by decide) (by decide) 0 (.int .i64 (C' : Int))).far (P6.set_ 0 (.int .i64 (C' : Int))) (by decide) (by decide) 1 (.slice A2 R' c2)
          have X2 := (O2.far P6 (by decide) (by decide) 0 (.int .i64 (C' : Int))).far (P6.set_ 0 (.int .i64 (C' : Int))) (by decide) (by decide) 1 (.slice A2 R' c2)
          have Xb := (Pb.setCell (p := ⟨_, 0, none⟩) hg6 (.int .i64 (C' : Int))).setCell (p := ⟨_, 1, none⟩) hg6 (.slice A2 R' c2)
          clear P5 P6 O1 O2 Pb
          refine m_s1 7 (by kernel_rfl) rfl ?_
          go_wp2_with fail
          refine m_clear (by kernel_rfl) ?_
          refine m_end (by kernel_rfl) ?_
          go_wp2_with fail
          go_meet
          exact ⟨_, _, A1, A2, c1, c2, rfl, rfl, R5, R6, own_ref X1 hgs1 (by omega) (by omega), own_ref X2 hgs2 (by omega) (by omega), Xb⟩
        · go_wp2_with fail
          have hg5 := b.size
          have hne := Nat.ne_of_gt hB6.lt
          refine absN fun wk15 hB5 hb hzq => ?_
          clear hzq
          replace b := b.trans (hb.mono b.size); replace hO1 := hO1.below hb; replace hB6 := hB6.below hb hB6.lt
          refine m_next hb ?_
          generalize wk12.heap.size = g5 at hB5 hg5 hne ⊢
          clear hb
          refine m_s1 3 (by kernel_rfl) rfl ?_
          go_wp2_with fail
          refine (make_own _ R' C' zs' _ (HIN'.out.below b)).mono ?_
          rintro e wk16 ⟨A2, c2, gs2, rfl, hgs2, hO2, hb⟩
          replace b := b.trans (hb.mono b.size); replace hO1 := hO1.below hb; replace hB5 := hB5.below hb hB5.lt; replace hB6 := hB6.below hb hB6.lt
          go_wp2_with fail
          refine m_next hb ?_
          clear hb
          have e0 := hB5.cell 0; have e1 := hB5.cell 1; have f0 := hB5.frozen 0; have f1 := hB5.frozen 1
          have P5 := (hB5.set_ 0 (.int .i64 (C : Int))).set_ 1 (.slice A1 R c1)
          have P6 := (hB6.far (p := ⟨_, 0, none⟩) (Ne.symm hne) (.int .i64 (C : Int))).far (p := ⟨_, 1, none⟩) (Ne.symm hne) (.slice A1 R c1)
          have O1 := (hO1.far hB5 (by decide) (by decide) 0 (.int .i64 (C : Int))).far (hB5.set_ 0 (.int .i64 (C : Int))) (by decide) (by decide) 1 (.slice A1 R c1)
          have O2 := (hO2.far hB5 (by decide) (by decide) 0 (.int .i64 (C : Int))).far (hB5.set_ 0 (.int .i64 (C : Int))) (by decide) (by decide) 1 (.slice A1 R c1)
          have Pb := (b.setCell (p := ⟨_, 0, none⟩) hg5 (.int .i64 (C : Int))).setCell (p := ⟨_, 1, none⟩) hg5 (.slice A1 R c1)
          clear hB5 hB6 hO1 hO2 b
          refine m_s1 6 (by kernel_rfl) rfl ?_
          go_wp2_with fail
          refine m_clear (by kernel_rfl) ?_
          obtain ⟨W7, hW7⟩ : ∃ W7, W7 = (wk16.setCell ⟨g5, 0, none⟩ (.int .i64 (C : Int))).setCell ⟨g5, 1, none⟩ (.slice A1 R c1) := ⟨_, rfl⟩
          rw [← hW7] at P5 P6 O1 O2 Pb ⊢; clear hW7 e0 e1 f0 f1
          have e0 := P6.cell 0; have e1 := P6.cell 1; have f0 := P6.frozen 0; have f1 := P6.frozen 1
          have R6 := (P6.set_ 0 (.int .i64 (C' : Int))).set_ 1 (.slice A2 R' c2)
          have R5 := (P5.far (p := ⟨_, 0, none⟩) hne (.int .i64 (C' : Int))).far (p := ⟨_, 1, none⟩) hne (.slice A2 R' c2)
          have X1 := (O1.far P6 (by decide) (by decide) 0 (.int .i64 (C' : Int))).far (P6.set_ 0 (.int .i64 (C' : Int))) (by decide) (by decide) 1 (.slice A2 R' c2)
          have X2 := (O2.far P6 (by decide) (by decide) 0 (.int .i64 (C' : Int))).far (P6.set_ 0 (.int .i64 (C' : Int))) (by decide) (by decide) 1 (.slice A2 R' c2)
          have Xb := (Pb.setCell (p := ⟨_, 0, none⟩) hg6 (.int .i64 (C' : Int))).setCell (p := ⟨_, 1, none⟩) hg6 (.slice A2 R' c2)
          clear P5 P6 O1 O2 Pb
          refine m_s1 7 (by kernel_rfl) rfl ?_
          go_wp2_with fail
          refine m_clear (by kernel_rfl) ?_
          refine m_end (by kernel_rfl) ?_
          go_wp2_with fail
          go_meet
          exact ⟨_, _, A1, A2, c1, c2, rfl, rfl, R5, R6, own_ref X1 hgs1 (by omega) (by omega), own_ref X2 hgs2 (by omega) (by omega), Xb⟩
    · have b := b1.drew
      go_wp2_with fail
      have hg5 := b1.size
      refine absND fun wk17 hB5 hb hzq => ?_
      clear hzq
      replace b := b1
      replace b := b.trans (hb.mono b.size)
      refine m_next hb ?_
      generalize w1.heap.size = g5 at hB5 hg5 ⊢
      clear hb
      refine m_s2 1 5 (by kernel_rfl) rfl rfl ?_ ?_
      · go_wp2_with fail
        refine (make_own _ R C zs _ (HIN.out.below b)).mono ?_
        rintro e wk18 ⟨A1, c1, gs1, rfl, hgs1, hO1, hb⟩
        replace b := b.trans (hb.mono b.size); replace hB5 := hB5.below hb hB5.lt
        go_wp2_with fail
        refine m_next hb ?_
        clear hb
        refine m_s2 3 5 (by kernel_rfl) rfl rfl ?_ ?_
        · go_wp2_with fail
          refine (make_own _ R' C' zs' _ (HIN'.out.below b)).mono ?_
          rintro e wk19 ⟨A2, c2, gs2, rfl, hgs2, hO2, hb⟩
          replace b := b.trans (hb.mono b.size); replace hO1 := hO1.below hb; replace hB5 := hB5.below hb hB5.lt
          go_wp2_with fail
          refine m_next hb ?_
          clear hb
          refine m_s1 5 (by kernel_rfl) rfl ?_
          go_wp2_with fail
          have hg6 := b.size
          have hne := Nat.ne_of_lt hB5.lt
          refine absN fun wk20 hB6 hb hzq => ?_
          clear hzq
          replace b := b.trans (hb.mono b.size); replace hO1 := hO1.below hb; replace hO2 := hO2.below hb; replace hB5 := hB5.below hb hB5.lt
          refine m_next hb ?_
          generalize wk19.heap.size = g6 at hB6 hg6 hne ⊢
          clear hb
          have e0 := hB5.cell 0; have e1 := hB5.cell 1; have f0 := hB5.frozen 0; have f1 := hB5.frozen 1
          have P5 := (hB5.set_ 0 (.int .i64 (C : Int))).set_ 1 (.slice A1 R c1)
          have P6 := (hB6.far (p := ⟨_, 0, none⟩) (Ne.symm hne) (.int .i64 (C : Int))).far (p := ⟨_, 1, none⟩) (Ne.symm hne) (.slice A1 R c1)
          have O1 := (hO1.far hB5 (by decide) (by decide) 0 (.int .i64 (C : Int))).far (hB5.set_ 0 (.int .i64 (C : Int))) (by decide) (by decide) 1 (.slice A1 R c1)
          have O2 := (hO2.far hB5 (by decide) (by decide) 0 (.int .i64 (C : Int))).far (hB5.set_ 0 (.int .i64 (C : Int))) (by decide) (by decide) 1 (.slice A1 R c1)
          have Pb := (b.setCell (p := ⟨_, 0, none⟩) hg5 (.int .i64 (C : Int))).setCell (p := ⟨_, 1, none⟩) hg5 (.slice A1 R c1)
          clear hB5 hB6 hO1 hO2 b
          refine m_s1 6 (by kernel_rfl) rfl ?_
          go_wp2_with fail
          refine m_clear (by kernel_rfl) ?_
          obtain ⟨W7, hW7⟩ : ∃ W7, W7 = (wk20.setCell ⟨g5, 0, none⟩ (.int .i64 (C : Int))).setCell ⟨g5, 1, none⟩ (.slice A1 R c1) := ⟨_, rfl⟩
          rw [← hW7] at P5 P6 O1 O2 Pb ⊢; clear hW7 e0 e1 f0 f1
          have e0 := P6.cell 0; have e1 := P6.cell 1; have f0 := P6.frozen 0; have f1 := P6.frozen 1
          have R6 := (P6.set_ 0 (.int .i64 (C' : Int))).set_ 1 (.slice A2 R' c2)
          have R5 := (P5.far (p := ⟨_, 0, none⟩) hne (.int .i64 (C' : Int))).far (p := ⟨_, 1, none⟩) hne (.slice A2 R' c2)
          have X1 := (O1.far P6 (by decide) (by decide) 0 (.int .i64 (C' : Int))).far (P6.set_ 0 (.int .i64 (C' : Int))) (by decide) (by decide) 1 (.slice A2 R' c2)
          have X2 := (O2.far P6 (by decide) (by decide) 0 (.int .i64 (C' : Int))).far (P6.set_ 0 (.int .i64 (C' : Int))) (by decide) (by decide) 1 (.slice A2 R' c2)
          have Xb := (Pb.setCell (p := ⟨_, 0, none⟩) hg6 (.int .i64 (C' : Int))).setCell (p := ⟨_, 1, none⟩) hg6 (.slice A2 R' c2)
          clear P5 P6 O1 O2 Pb
          refine m_s1 7 (by kernel_rfl) rfl ?_
          go_wp2_with fail
          refine m_clear (by kernel_rfl) ?_
          refine m_end (by kernel_rfl) ?_
          go_wp2_with fail
          go_meet
          exact ⟨_, _, A1, A2, c1, c2, rfl, rfl, R5, R6, own_ref X1 hgs1 (by omega) (by omega), own_ref X2 hgs2 (by omega) (by omega), Xb⟩
        · go_wp2_with fail
          have hg6 := b.size
          have hne := Nat.ne_of_lt hB5.lt
          refine absN fun wk21 hB6 hb hzq => ?_
          clear hzq
          replace b := b.trans (hb.mono b.size); replace hO1 := hO1.below hb; replace hB5 := hB5.below hb hB5.lt
          refine m_next hb ?_
          generalize wk18.heap.size = g6 at hB6 hg6 hne ⊢
          clear hb
          refine m_s1 3 (by kernel_rfl) rfl ?_
          go_wp2_with fail
          refine (make_own _ R' C' zs' _ (HIN'.out.below b)).mono ?_
          rintro e wk22 ⟨A2, c2, gs2, rfl, hgs2, hO2, hb⟩
          replace b := b.trans (hb.mono b.size); replace hO1 := hO1.below hb; replace hB5 := hB5.below hb hB5.lt; replace hB6 := hB6.below hb hB6.lt
          go_wp2_with fail
          refine m_next hb ?_
          clear hb
          have e0 := hB5.cell 0; have e1 := hB5.cell 1; have f0 := hB5.frozen 0; have f1 := hB5.frozen 1
          have P5 := (hB5.set_ 0 (.int .i64 (C : Int))).set_ 1 (.slice A1 R c1)
          have P6 := (hB6.far (p := ⟨_, 0, none⟩) (Ne.symm hne) (.int .i64 (C : Int))).far (p := ⟨_, 1, none⟩) (Ne.symm hne) (.slice A1 R c1)
          have O1 := (hO1.far hB5 (by decide) (by decide) 0 (.int .i64 (C : Int))).far (hB5.set_ 0 (.int .i64 (C : Int))) (by decide) (by decide) 1 (.slice A1 R c1)
          have O2 := (hO2.far hB5 (by decide) (by decide) 0 (.int .i64 (C : Int))).far (hB5.set_ 0 (.int .i64 (C : Int))) (by decide) (by decide) 1 (.slice A1 R c1)
          have Pb := (b.setCell (p := ⟨_, 0, none⟩) hg5 (.int .i64 (C : Int))).setCell (p := ⟨_, 1, none⟩) hg5 (.slice A1 R c1)
          clear hB5 hB6 hO1 hO2 b
          refine m_s1 6 (by kernel_rfl) rfl ?_
          go_wp2_with fail
          refine m_clear (by kernel_rfl) ?_
          obtain ⟨W7, hW7⟩ : ∃ W7, W7 = (wk22.setCell ⟨g5, 0, none⟩ (.int .i64 (C : Int))).setCell ⟨g5, 1, none⟩ (.slice A1 R c1) := ⟨_, rfl⟩
          rw [← hW7] at P5 P6 O1 O2 Pb ⊢; clear hW7 e0 e1 f0 f1
          have e0 := P6.cell 0; have e1 := P6.cell 1; have f0 := P6.frozen 0; have f1 := P6.frozen 1
          have R6 := (P6.set_ 0 (.int .i64 (C' : Int))).set_ 1 (.slice A2 R' c2)
          have R5 := (P5.far (p := ⟨_, 0, none⟩) hne (.int .i64 (C' : Int))).far (p := ⟨_, 1, none⟩) hne (.slice A2 R' c2)
          have X1 := (O1.far P6 (by decide) (by decide) 0 (.int .i64 (C' : Int))).far (P6.set_ 0 (.int .i64 (C' : Int))) (by decide) (by decide) 1 (.slice A2 R' c2)
          have X2 := (O2.far P6 (by decide) (by decide) 0 (.int .i64 (C' : Int))).far (P6.set_ 0 (.int .i64 (C' : Int))) (by decide) (by decide) 1 (.slice A2 R' c2)
          have Xb := (Pb.setCell (p := ⟨_, 0, none⟩) hg6 (.int .i64 (C' : Int))).setCell (p := ⟨_, 1, none⟩) hg6 (.slice A2 R' c2)
          clear P5 P6 O1 O2 Pb
          refine m_s1 7 (by kernel_rfl) rfl ?_
          go_wp2_with fail
          refine m_clear (by kernel_rfl) ?_
          refine m_end (by kernel_rfl) ?_
          go_wp2_with fail
          go_meet
          exact ⟨_, _, A1, A2, c1, c2, rfl, rfl, R5, R6, own_ref X1 hgs1 (by omega) (by omega), own_ref X2 hgs2 (by omega) (by omega), Xb⟩
      · go_wp2_with fail
        have hg6 := b.size
        have hne := Nat.ne_of_lt hB5.lt
        refine absN fun wk23 hB6 hb hzq => ?_
        clear hzq
        replace b := b.trans (hb.mono b.size); replace hB5 := hB5.below hb hB5.lt
        refine m_next hb ?_
        generalize wk17.heap.size = g6 at hB6 hg6 hne ⊢
        clear hb
        refine m_s1 1 (by kernel_rfl) rfl ?_
        go_wp2_with fail
        refine (make_own _ R C zs _ (HIN.out.below b)).mono ?_
        rintro e wk24 ⟨A1, c1, gs1, rfl, hgs1, hO1, hb⟩
        replace b := b.trans (hb.mono b.size); replace hB5 := hB5.below hb hB5.lt; replace hB6 := hB6.below hb hB6.lt
        go_wp2_with fail
        refine m_next hb ?_
        clear hb
        refine m_s1 3 (by kernel_rfl) rfl ?_
        go_wp2_with fail
        refine (make_own _ R' C' zs' _ (HIN'.out.below b)).mono ?_
        rintro e wk25 ⟨A2, c2, gs2, rfl, hgs2, hO2, hb⟩
        replace b := b.trans (hb.mono b.size); replace hO1 := hO1.below hb; replace hB5 := hB5.below hb hB5.lt; replace hB6 := hB6.below hb hB6.lt
        go_wp2_with fail
        refine m_next hb ?_
        clear hb
        have e0 := hB5.cell 0; have e1 := hB5.cell 1; have f0 := hB5.frozen 0; have f1 := hB5.frozen 1
        have P5 := (hB5.set_ 0 (.int .i64 (C : Int))).set_ 1 (.slice A1 R c1)
        have P6 := (hB6.far (p := ⟨_, 0, none⟩) (Ne.symm hne) (.int .i64 (C : Int))).far (p := ⟨_, 1, none⟩) (Ne.symm hne) (.slice A1 R c1)
        have O1 := (hO1.far hB5 (by decide) (by decide) 0 (.int .i64 (C : Int))).far (hB5.set_ 0 (.int .i64 (C : Int))) (by decide) (by decide) 1 (.slice A1 R c1)
        have O2 := (hO2.far hB5 (by decide) (by decide) 0 (.int .i64 (C : Int))).far (hB5.set_ 0 (.int .i64 (C : Int))) (by decide) (by decide) 1 (.slice A1 R c1)
        have Pb := (b.setCell (p := ⟨_, 0, none⟩) hg5 (.int .i64 (C : Int))).setCell (p := ⟨_, 1, none⟩) hg5 (.slice A1 R c1)
        clear hB5 hB6 hO1 hO2 b
        refine m_s1 6 (by kernel_rfl) rfl ?_
        go_wp2_with fail
        refine m_clear (by kernel_rfl) ?_
        obtain ⟨W7, hW7⟩ : ∃ W7, W7 = (wk25.setCell ⟨g5, 0, none⟩ (.int .i64 (C : Int))).setCell ⟨g5, 1, none⟩ (.slice A1 R c1) := ⟨_, rfl⟩
        rw [← hW7] at P5 P6 O1 O2 Pb ⊢; clear hW7 e0 e1 f0 f1
        have e0 := P6.cell 0; have e1 := P6.cell 1; have f0 := P6.frozen 0; have f1 := P6.frozen 1
        have R6 := (P6.set_ 0 (.int .i64 (C' : Int))).set_ 1 (.slice A2 R' c2)
        have R5 := (P5.far (p := ⟨_, 0, none⟩) hne (.int .i64 (C' : Int))).far (p := ⟨_, 1, none⟩) hne (.slice A2 R' c2)
        have X1 := (O1.far P6 (by decide) (by decide) 0 (.int .i64 (C' : Int))).far (P6.set_ 0 (.int .i64 (C' : Int))) (by decide) (by decide) 1 (.slice A2 R' c2)
        have X2 := (O2.far P6 (by decide) (by decide) 0 (.int .i64 (C' : Int))).far (P6.set_ 0 (.int .i64 (C' : Int))) (by decide) (by decide) 1 (.slice A2 R' c2)
        have Xb := (Pb.setCell (p := ⟨_, 0, none⟩) hg6 (.int .i64 (C' : Int))).setCell (p := ⟨_, 1, none⟩) hg6 (.slice A2 R' c2)
        clear P5 P6 O1 O2 Pb
        refine m_s1 7 (by kernel_rfl) rfl ?_
        go_wp2_with fail
        refine m_clear (by kernel_rfl) ?_
        refine m_end (by kernel_rfl) ?_
        go_wp2_with fail
        go_meet
        exact ⟨_, _, A1, A2, c1, c2, rfl, rfl, R5, R6, own_ref X1 hgs1 (by omega) (by omega), own_ref X2 hgs2 (by omega) (by omega), Xb⟩
    · have b := b1.drew
      go_wp2_with fail
      have hg6 := b1.size
      refine absND fun wk26 hB6 hb hzq => ?_
      clear hzq
      replace b := b1
      replace b := b.trans (hb.mono b.size)
      refine m_next hb ?_
      generalize w1.heap.size = g6 at hB6 hg6 ⊢
      clear hb
      refine m_s2 1 4 (by kernel_rfl) rfl rfl ?_ ?_
      · go_wp2_with fail
        refine (make_own _ R C zs _ (HIN.out.below b)).mono ?_
        rintro e wk27 ⟨A1, c1, gs1, rfl, hgs1, hO1, hb⟩
        replace b := b.trans (hb.mono b.size); replace hB6 := hB6.below hb hB6.lt
        go_wp2_with fail
        refine m_next hb ?_
        clear hb
        refine m_s2 3 4 (by kernel_rfl) rfl rfl ?_ ?_
        · go_wp2_with fail
          refine (make_own _ R' C' zs' _ (HIN'.out.below b)).mono ?_
          rintro e wk28 ⟨A2, c2, gs2, rfl, hgs2, hO2, hb⟩
          replace b := b.trans (hb.mono b.size); replace hO1 := hO1.below hb; replace hB6 := hB6.below hb hB6.lt
          go_wp2_with fail
          refine m_next hb ?_
          clear hb
          refine m_s1 4 (by kernel_rfl) rfl ?_
          go_wp2_with fail
          have hg5 := b.size
          have hne := Nat.ne_of_gt hB6.lt
          refine absN fun wk29 hB5 hb hzq => ?_
          clear hzq
          replace b := b.trans (hb.mono b.size); replace hO1 := hO1.below hb; replace hO2 := hO2.below hb; replace hB6 := hB6.below hb hB6.lt
          refine m_next hb ?_
          generalize wk28.heap.size = g5 at hB5 hg5 hne ⊢
          clear hb
          have e0 := hB5.cell 0; have e1 := hB5.cell 1; have f0 := hB5.frozen 0; have f1 := hB5.frozen 1
          have P5 := (hB5.set_ 0 (.int .i64 (C : Int))).set_ 1 (.slice A1 R c1)
          have P6 := (hB6.far (p := ⟨_, 0, none⟩) (Ne.symm hne) (.int .i64 (C : Int))).far (p := ⟨_, 1, none⟩) (Ne.symm hne) (.slice A1 R c1)
          have O1 := (hO1.far hB5 (by decide) (by decide) 0 (.int .i64 (C : Int))).far (hB5.set_ 0 (.int .i64 (C : Int))) (by decide) (by decide) 1 (.slice A1 R c1)
          have O2 := (hO2.far hB5 (by decide) (by decide) 0 (.int .i64 (C : Int))).far (hB5.set_ 0 (.int .i64 (C : Int))) (by decide) (by decide) 1 (.slice A1 R c1)
          have Pb := (b.setCell (p := ⟨_, 0, none⟩) hg5 (.int .i64 (C : Int))).setCell (p := ⟨_, 1, none⟩) hg5 (.slice A1 R c1)
          clear hB5 hB6 hO1 hO2 b
          refine m_s1 6 (by kernel_rfl) rfl ?_
          go_wp2_with fail
          refine m_clear (by kernel_rfl) ?_
          obtain ⟨W7, hW7⟩ : ∃ W7, W7 = (wk29.setCell ⟨g5, 0, none⟩ (.int .i64 (C : Int))).setCell ⟨g5, 1, none⟩ (.slice A1 R c1) := ⟨_, rfl⟩
          rw [← hW7] at P5 P6 O1 O2 Pb ⊢; clear hW7 e0 e1 f0 f1
          have e0 := P6.cell 0; have e1 := P6.cell 1; have f0 := P6.frozen 0; have f1 := P6.frozen 1
          have R6 := (P6.set_ 0 (.int .i64 (C' : Int))).set_ 1 (.slice A2 R' c2)
          have R5 := (P5.far (p := ⟨_, 0, none⟩) hne (.int .i64 (C' : Int))).far (p := ⟨_, 1, none⟩) hne (.slice A2 R' c2)
          have X1 := (O1.far P6 (by decide) (by decide) 0 (.int .i64 (C' : Int))).far (P6.set_ 0 (.int .i64 (C' : Int))) (by decide) (by decide) 1 (.slice A2 R' c2)
          have X2 := (O2.far P6 (by decide) (by decide) 0 (.int .i64 (C' : Int))).far (P6.set_ 0 (.int .i64 (C' : Int))) (by decide) (by decide) 1 (.slice A2 R' c2)
          have Xb := (Pb.setCell (p := ⟨_, 0, none⟩) hg6 (.int .i64 (C' : Int))).setCell (p := ⟨_, 1, none⟩) hg6 (.slice A2 R' c2)
          clear P5 P6 O1 O2 Pb
          refine m_s1 7 (by kernel_rfl) rfl ?_
          go_wp2_with fail
          refine m_clear (by kernel_rfl) ?_
          refine m_end (by kernel_rfl) ?_
          go_wp2_with fail
          go_meet
          exact ⟨_, _, A1, A2, c1, c2, rfl, rfl, R5, R6, own_ref X1 hgs1 (by omega) (by omega), own_ref X2 hgs2 (by omega) (by omega), Xb⟩
        · go_wp2_with fail
          have hg5 := b.size
          have hne := Nat.ne_of_gt hB6.lt
          refine absN fun wk30 hB5 hb hzq => ?_
          clear hzq
          replace b := b.trans (hb.mono b.size); replace hO1 := hO1.below hb; replace hB6 := hB6.below hb hB6.lt
          refine m_next hb ?_
          generalize wk27.heap.size = g5 at hB5 hg5 hne ⊢
          clear hb
          refine m_s1 3 (by kernel_rfl) rfl ?_
          go_wp2_with fail
          refine (make_own _ R' C' zs' _ (HIN'.out.below b)).mono ?_
          rintro e wk31 ⟨A2, c2, gs2, rfl, hgs2, hO2, hb⟩
          replace b := b.trans (hb.mono b.size); replace hO1 := hO1.below hb; replace hB5 := hB5.below hb hB5.lt; replace hB6 := hB6.below hb hB6.lt
          go_wp2_with fail
          refine m_next hb ?_
          clear hb
          have e0 := hB5.cell 0; have e1 := hB5.cell 1; have f0 := hB5.frozen 0; have f1 := hB5.frozen 1
          have P5 := (hB5.set_ 0 (.int .i64 (C : Int))).set_ 1 (.slice A1 R c1)
          have P6 := (hB6.far (p := ⟨_, 0, none⟩) (Ne.symm hne) (.int .i64 (C : Int))).far (p := ⟨_, 1, none⟩) (Ne.symm hne) (.slice A1 R c1)
          have O1 := (hO1.far hB5 (by decide) (by decide) 0 (.int .i64 (C : Int))).far (hB5.set_ 0 (.int .i64 (C : Int))) (by decide) (by decide) 1 (.slice A1 R c1)
          have O2 := (hO2.far hB5 (by decide) (by decide) 0 (.int .i64 (C : Int))).far (hB5.set_ 0 (.int .i64 (C : Int))) (by decide) (by decide) 1 (.slice A1 R c1)
          have Pb := (b.setCell (p := ⟨_, 0, none⟩) hg5 (.int .i64 (C : Int))).setCell (p := ⟨_, 1, none⟩) hg5 (.slice A1 R c1)
          clear hB5 hB6 hO1 hO2 b
          refine m_s1 6 (by kernel_rfl) rfl ?_
          go_wp2_with fail
          refine m_clear (by kernel_rfl) ?_
          obtain ⟨W7, hW7⟩ : ∃ W7, W7 = (wk31.setCell ⟨g5, 0, none⟩ (.int .i64 (C : Int))).setCell ⟨g5, 1, none⟩ (.slice A1 R c1) := ⟨_, rfl⟩
          rw [← hW7] at P5 P6 O1 O2 Pb ⊢; clear hW7 e0 e1 f0 f1
          have e0 := P6.cell 0; have e1 := P6.cell 1; have f0 := P6.frozen 0; have f1 := P6.frozen 1
          have R6 := (P6.set_ 0 (.int .i64 (C' : Int))).set_ 1 (.slice A2 R' c2)
          have R5 := (P5.far (p := ⟨_, 0, none⟩) hne (.int .i64 (C' : Int))).far (p := ⟨_, 1, none⟩) hne (.slice A2 R' c2)
          have X1 := (O1.far P6 (by decide) (by decide) 0 (.int .i64 (C' : Int))).far (P6.set_ 0 (.int .i64 (C' : Int))) (by decide) (by decide) 1 (.slice A2 R' c2)
          have X2 := (O2.far P6 (by decide) (by decide) 0 (.int .i64 (C' : Int))).far (P6.set_ 0 (.int .i64 (C' : Int))) (by decide) (by decide) 1 (.slice A2 R' c2)
          have Xb := (Pb.setCell (p := ⟨_, 0, none⟩) hg6 (.int .i64 (C' : Int))).setCell (p := ⟨_, 1, none⟩) hg6 (.slice A2 R' c2)
          clear P5 P6 O1 O2 Pb
          refine m_s1 7 (by kernel_rfl) rfl ?_
          go_wp2_with fail
          refine m_clear (by kernel_rfl) ?_
          refine m_end (by kernel_rfl) ?_
          go_wp2_with fail
          go_meet
          exact ⟨_, _, A1, A2, c1, c2, rfl, rfl, R5, R6, own_ref X1 hgs1 (by omega) (by omega), own_ref X2 hgs2 (by omega) (by omega), Xb⟩
      · go_wp2_with fail
        have hg5 := b.size
        have hne := Nat.ne_of_gt hB6.lt
        refine absN fun wk32 hB5 hb hzq => ?_
        clear hzq
        replace b := b.trans (hb.mono b.size); replace hB6 := hB6.below hb hB6.lt
        refine m_next hb ?_
        generalize wk26.heap.size = g5 at hB5 hg5 hne ⊢
        clear hb
        refine m_s1 1 (by kernel_rfl) rfl ?_
        go_wp2_with fail
        refine (make_own _ R C zs _ (HIN.out.below b)).mono ?_
        rintro e wk33 ⟨A1, c1, gs1, rfl, hgs1, hO1, hb⟩
        replace b := b.trans (hb.mono b.size); replace hB5 := hB5.below hb hB5.lt; replace hB6 := hB6.below hb hB6.lt
        go_wp2_with fail
        refine m_next hb ?_
        clear hb
        refine m_s1 3 (by kernel_rfl) rfl ?_
        go_wp2_with fail
        refine (make_own _ R' C' zs' _ (HIN'.out.below b)).mono ?_
        rintro e wk34 ⟨A2, c2, gs2, rfl, hgs2, hO2, hb⟩
        replace b := b.trans (hb.mono b.size); replace hO1 := hO1.below hb; replace hB5 := hB5.below hb hB5.lt; replace hB6 := hB6.below hb hB6.lt
        go_wp2_with fail
        refine m_next hb ?_
        clear hb
        have e0 := hB5.cell 0; have e1 := hB5.cell 1; have f0 := hB5.frozen 0; have f1 := hB5.frozen 1
        have P5 := (hB5.set_ 0 (.int .i64 (C : Int))).set_ 1 (.slice A1 R c1)
        have P6 := (hB6.far (p := ⟨_, 0, none⟩) (Ne.symm hne) (.int .i64 (C : Int))).far (p := ⟨_, 1, none⟩) (Ne.symm hne) (.slice A1 R c1)
        have O1 := (hO1.far hB5 (by decide) (by decide) 0 (.int .i64 (C : Int))).far (hB5.set_ 0 (.int .i64 (C : Int))) (by decide) (by decide) 1 (.slice A1 R c1)
        have O2 := (hO2.far hB5 (by decide) (by decide) 0 (.int .i64 (C : Int))).far (hB5.set_ 0 (.int .i64 (C : Int))) (by decide) (by decide) 1 (.slice A1 R c1)
        have Pb := (b.setCell (p := ⟨_, 0, none⟩) hg5 (.int .i64 (C : Int))).setCell (p := ⟨_, 1, none⟩) hg5 (.slice A1 R c1)
        clear hB5 hB6 hO1 hO2 b
        refine m_s1 6 (by kernel_rfl) rfl ?_
        go_wp2_with fail
        refine m_clear (by kernel_rfl) ?_
        obtain ⟨W7, hW7⟩ : ∃ W7, W7 = (wk34.setCell ⟨g5, 0, none⟩ (.int .i64 (C : Int))).setCell ⟨g5, 1, none⟩ (.slice A1 R c1) := ⟨_, rfl⟩
        rw [← hW7] at P5 P6 O1 O2 Pb ⊢; clear hW7 e0 e1 f0 f1
        have e0 := P6.cell 0; have e1 := P6.cell 1; have f0 := P6.frozen 0; have f1 := P6.frozen 1
        have R6 := (P6.set_ 0 (.int .i64 (C' : Int))).set_ 1 (.slice A2 R' c2)
        have R5 := (P5.far (p := ⟨_, 0, none⟩) hne (.int .i64 (C' : Int))).far (p := ⟨_, 1, none⟩) hne (.slice A2 R' c2)
        have X1 := (O1.far P6 (by decide) (by decide) 0 (.int .i64 (C' : Int))).far (P6.set_ 0 (.int .i64 (C' : Int))) (by decide) (by decide) 1 (.slice A2 R' c2)
        have X2 := (O2.far P6 (by decide) (by decide) 0 (.int .i64 (C' : Int))).far (P6.set_ 0 (.int .i64 (C' : Int))) (by decide) (by decide) 1 (.slice A2 R' c2)
        have Xb := (Pb.setCell (p := ⟨_, 0, none⟩) hg6 (.int .i64 (C' : Int))).setCell (p := ⟨_, 1, none⟩) hg6 (.slice A2 R' c2)
        clear P5 P6 O1 O2 Pb
        refine m_s1 7 (by kernel_rfl) rfl ?_
        go_wp2_with fail
        refine m_clear (by kernel_rfl) ?_
        refine m_end (by kernel_rfl) ?_
        go_wp2_with fail
        go_meet
        exact ⟨_, _, A1, A2, c1, c2, rfl, rfl, R5, R6, own_ref X1 hgs1 (by omega) (by omega), own_ref X2 hgs2 (by omega) (by omega), Xb⟩
    -- END PAIR
  case rest =>
    obtain ⟨g5, g6, A, B, c5, c6, rfl, rfl, hB5, hB6, hI1, hI2, b2⟩ := hcut
    clear hX1 hX1' x0 x1 x2 y0 y1 y2 HIN HIN' hX hX'
    obtain ⟨M, hM⟩ : ∃ M, M = rawM R C zs := ⟨_, rfl⟩
    have hML : M.length = R := by rw [hM, mat_len]
    obtain ⟨M', hM'⟩ : ∃ M', M' = rawM R' C' zs' := ⟨_, rfl⟩
    have hML' : M'.length = R' := by rw [hM', mat_len]
    rw [← hM] at hI1; rw [← hM'] at hI2
    subst hML; subst hML'
    clear hM hM'
    have e0 := hB5.cell 0
    have e1 := hB5.cell 1
    have f0 := hB6.cell 0
    have f1 := hB6.cell 1
    go_wp2_with fail
    have HA := hideC (matrixl_any C A c5 M wc.drew (hI1.below (Below.refl _ _).drew) (by omega) (by omega))
    refine wp_spine (fun W => Below wc.heap.size wc W) [0, 2] [1, 3, 4, 5] (by kernel_rfl) (by kernel_rfl) ?_
    iterate 2 (refine wpE_op (v := ?_) rfl rfl (fun W hW => ?_) ?_; rotate_left; (have z0 := onB hW e0; have z1 := onB hW e1; have z2 := onB hW f0; have z3 := onB hW f1; go_simp; first | done | with_reducible rfl); simp only [Act.put, List.setIfInBounds_toArray, List.set_cons_zero, List.set_cons_succ])
    refine wpE_nil ⟨fun h => (by cases h), wpSp_op rfl (Below.refl _ _).drew ?_⟩
    go_wp2_with fail
    refine HA.out.mono ?_
    rintro e wd ⟨q5, rfl, hm5, _, hb⟩
    have hbd := (Below.refl wc.heap.size wc).drew.trans hb
    have b3 := b2.trans (hbd.mono b2.size)
    have HB := hideC (matrixl_any C' B c6 M' wd (hI2.below hbd) (by omega) (by omega))
    go_wp2_with fail
    refine nxt_op rfl hbd ?_
    go_wp2_with fail
    refine HB.out.mono ?_
    rintro e we ⟨q6, rfl, hm6, _, hb2⟩
    have hbe := hbd.trans (hb2.mono hbd.size)
    have b4 := b2.trans (hbe.mono b2.size)
    go_wp2_with fail
    refine nxt_op rfl hbe ?_
    go_wp2_with fail
    refine nxt_op rfl hbe ?_
    go_wp2_with fail
    refine nxt_nil ?_
    have hm5e := hm5.below hb2
    have hI1e := hI1.below hbe
    have hI2e := hI2.below hbe
    have hB5e := hB5.below hbe hB5.lt
    have hB6e := hB6.below hbe hB6.lt
    have e0 := hB5e.cell 0
    have e1 := hB5e.cell 1
    have f0 := hB6e.cell 0
    have f1 := hB6e.cell 1
    clear hm5 hI1 hI2 hB5 hB6 hbd hbe hb hb2 b2 b3
    go_wp2_with fail
    have HT1 := hideC (trans_any q5 C (nsOf C M) we.drew (hm5e.below (Below.refl _ _).drew))
    refine wp_spine (fun W => Below we.heap.size we W) [0, 1, 2, 3, 4, 5, 6, 7, 9] [8, 10, 11, 12, 13] (by kernel_rfl) (by kernel_rfl) ?_
    iterate 3 (refine wpE_op (v := ?_) rfl rfl (fun W hW => ?_) ?_; rotate_left; (go_simp; first | done | with_reducible rfl); simp only [Act.put, List.setIfInBounds_toArray, List.set_cons_zero, List.set_cons_succ])
    iterate 2 (refine wpE_yes (v := ?_) rfl (by rfl) (fun W hW => ?_) ?_; rotate_left; (go_simp; first | done | with_reducible rfl); simp only [Act.put, List.setIfInBounds_toArray, List.set_cons_zero, List.set_cons_succ])
    iterate 2 (refine wpE_op (v := ?_) rfl rfl (fun W hW => ?_) ?_; rotate_left; (go_simp; first | done | with_reducible rfl); simp only [Act.put, List.setIfInBounds_toArray, List.set_cons_zero, List.set_cons_succ])
    iterate 1 (refine wpE_yes (v := ?_) rfl (by rfl) (fun W hW => ?_) ?_; rotate_left; (go_simp; first | done | with_reducible rfl); simp only [Act.put, List.setIfInBounds_toArray, List.set_cons_zero, List.set_cons_succ])
    iterate 1 (refine wpE_yes (v := ?_) rfl (by rfl) (fun W hW => ?_) ?_; rotate_left; (have z0 := onB hW e0; have z1 := onB hW e1; go_simp; first | done | with_reducible rfl); simp only [Act.put, List.setIfInBounds_toArray, List.set_cons_zero, List.set_cons_succ])
    refine wpE_nil ⟨fun h => (by cases h), wpSp_op rfl (Below.refl _ _).drew ?_⟩
    go_wp2_with fail
    refine HT1.out.mono ?_
    rintro e wf ⟨q7, rfl, hm7, hb7⟩
    rw [nsTo_len] at hm7
    have hbf := (Below.refl we.heap.size we).drew.trans hb7
    have HT2 := hideC (transr_any C A c5 M wf (hI1e.below hbf))
    go_wp2_with fail
    refine nxt_op rfl hbf ?_
    go_wp2_with fail
    refine HT2.out.mono ?_
    rintro e wg ⟨A8, c8, rfl, hI8, hb8⟩
    have hbg := hbf.trans (hb8.mono hbf.size)
    have hsm := samel_any q7 M.length M.length (mtrans C (nsOf C M) C) A8 c8 (mat C M.length (transF M)) wg (hm7.below hb8) (by omega) (by rw [mtrans_len]; omega) hI8
    rw [same_of (mtrans_len _ _ _) (mtrans_has (by omega) (by omega)), mat_len] at hsm
    have HS := hideC hsm; clear hsm
    go_wp2_with fail
    refine nxt_op rfl hbg ?_
    go_wp2_with fail
    refine HS.out.mono ?_
    rintro e wh ⟨rfl, hb9⟩
    have hbh := hbg.trans (hb9.mono hbg.size)
    have b5 := b4.trans (hbh.mono b4.size)
    go_wp2_with fail
    refine nxt_op rfl hbh ?_
    go_wp2_with fail
    refine nxt_op rfl hbh ?_
    go_wp2_with fail
    refine nxt_nil ?_
    have hm5h := hm5e.below hbh
    have hm6h := hm6.below hbh
    have hI1h := hI1e.below hbh
    have hI2h := hI2e.below hbh
    have hB5h := hB5e.below hbh hB5e.lt
    have hB6h := hB6e.below hbh hB6e.lt
    have e0 := hB5h.cell 0
    have e1 := hB5h.cell 1
    have f0 := hB6h.cell 0
    have f1 := hB6h.cell 1
    have hTh := hT.below b5
    clear hm5e hm6 hI1e hI2e hB5e hB6e hbh hbg hbf hb7 hb8 hb9 b4 hm7 hI8
    by_cases hfit : C = M'.length
    · have hP := prod_any q5 q6 C C' (nsOf C M) (nsOf C' M') wh hm5h hm6h (by rw [nsTo_len]; exact hfit) (rowsIn_nsOf C M (by omega)) hTh
      rw [nsTo_len] at hP
      have HP := hideC hP; clear hP
      have hne : ((C : Int) != (M'.length : Int)) = false := by rw [hfit]; simp
      have HFIT := Lib.hid hfit; clear hfit
      go_wp2_with fail
      refine HP.out.mono ?_
      rintro e wi ⟨q9, rfl, hm9, hb9⟩
      have hB5i := hB5h.below hb9 hB5h.lt
      have hB6i := hB6h.below hb9 hB6h.lt
      have e0 := hB5i.cell 0
      have e1 := hB5i.cell 1
      have f0 := hB6i.cell 0
      have f1 := hB6i.cell 1
      have HR := hideC (prodr_any C C' A B c5 c6 M M' wi (hI1h.below hb9) (hI2h.below hb9) HFIT.out)
      go_wp2_with fail
      refine HR.out.mono ?_
      rintro e wj ⟨A10, c10, rfl, hI10, hb10⟩
      have hsm := samel_any q9 C' C' (mprod (nsOf C M) (nsOf C' M') M.length) A10 c10 (mat M.length C' (prodF M M' C)) wj (hm9.below hb10) (by omega) (by rw [mprod_len]; omega) hI10
      rw [same_of (mprod_len _ _ _) (mprod_has (by omega) (by omega) HFIT.out), mat_len] at hsm
      have HS := hideC hsm; clear hsm
      go_wp2_with fail
      refine HS.out.mono ?_
      rintro e wk ⟨rfl, hb11⟩
      go_wp2_with fail
      go_ret
      exact ⟨rfl, b5.trans ((hb9.trans ((hb10.trans (hb11.mono hb10.size)).mono hb9.size)).mono b5.size)⟩
    · have HP := hideC (prod_ne q5 q6 C C' (nsOf C M) (nsOf C' M') wh hm5h hm6h (by rw [nsTo_len]; exact hfit))
      have hne : ((C : Int) != (M'.length : Int)) = true := by simp; omega
      clear hfit
      go_wp2_with fail
      refine HP.out.mono ?_
      rintro e wi ⟨rfl, hb9⟩
      have hB5i := hB5h.below hb9 hB5h.lt
      have hB6i := hB6h.below hb9 hB6h.lt
      have e0 := hB5i.cell 0
      have e1 := hB5i.cell 1
      have f0 := hB6i.cell 0
      have f1 := hB6i.cell 1
      go_wp2_with fail
      go_ret
      exact ⟨rfl, b5.trans (hb9.mono b5.size)⟩
end Go.Proofs.YtjlcnbfkblmoeaaDoor
