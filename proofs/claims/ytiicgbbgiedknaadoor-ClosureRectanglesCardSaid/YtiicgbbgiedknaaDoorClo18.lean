/-
  The laws ClosureImplies and ClosureRectangles.
-/
import Derived.Test.YtiicgbbgiedknaaDoorClo16
namespace Go.Proofs.YtiicgbbgiedknaaDoor
open Go.RowKit

namespace Mix2
set_option maxRecDepth 100000 in
set_option maxHeartbeats 8000000 in
theorem implies_walk (v : Value) (R C : Nat) (zs : List Int) (a b : Nat) (w : World) (hT : Tab w) (h : IsRaw w v R C zs) (ha : a ≤ 255) (hb0 : b ≤ 255) :
    Calls Tryd.prog 10 #[v, .int .u8 a, .int .u8 b] w fun e w' => e = .returned (.bool true) ∧ Below w.heap.size w w' := by
  have hbd := h.bd
  obtain ⟨r, c, A0, d0, hv, _⟩ := id h
  subst hv
  have HIN := hideC h; clear h
  go_enter Tryd.func10, Tryd.ntmps10
  go_wp2_with fail
  refine absC1 fun W0 hX hbel0 hz => ?_
  clear hz
  refine (Mix2.awake_any45 W0 (hT.below hbel0)).mono ?_
  rintro e w1 ⟨rfl, hb1⟩
  have b1 := hbel0.trans (hb1.mono hbel0.size)
  have hX1 := hX.below hb1 hX.lt
  have x0 := hX1.cell 0
  have x1 := hX1.cell 1
  have x2 := hX1.cell 2
  have HM := hideC (make_raw _ R C zs w1 (HIN.out.below b1))
  go_wp2_with fail
  refine HM.out.mono ?_
  rintro e w2 ⟨A2, c2, rfl, hI, hb2⟩
  have b2 := b1.trans (hb2.mono b1.size)
  obtain ⟨M, hMd⟩ : ∃ M, M = rawM R C zs := ⟨_, rfl⟩
  have hML : M.length = R := by rw [hMd, mat_len]
  rw [← hMd] at hI
  subst hML
  obtain ⟨hR5, hC5⟩ := hbd
  have hl : (nsOf C M).length ≤ 4096 := by rw [nsTo_len]; omega
  clear hMd HM HIN hX hX1 hbel0 hb1 hb2 b1 x0 x1 x2
  replace hT := hT.below b2
  go_wp2_with fail
  refine (matrixl_any C A2 c2 M w2 hI (by omega) (by omega)).mono ?_
  rintro e u1 ⟨q, rfl, hm, _, hb⟩
  replace hT := hT.below hb; replace b2 := b2.trans (hb.mono b2.size)
  clear hb
  go_wp2_with fail
  refine (res3 (rfl) (set_any45 a (by omega) _)).mono ?_
  rintro e u2 ⟨As1, ns1, cs1, rfl, s1, hb⟩
  replace hT := hT.below hb; replace b2 := b2.trans (hb.mono b2.size); replace hm := hm.below hb
  clear hb
  go_wp2_with fail
  refine (cols_any q C (nsOf C M) _ hm).mono ?_
  rintro e w' ⟨rfl, rfl⟩
  go_wp2_with fail
  refine (res3 (rfl) (below_N (by omega))).mono ?_
  rintro e u3 ⟨Als, nls, cls, rfl, ls, hb⟩
  replace hT := hT.below hb; replace b2 := b2.trans (hb.mono b2.size); replace hm := hm.below hb; replace s1 := s1.below hb
  clear hb
  go_wp2_with fail
  refine (res3 (rfl) (and_any _ _ _ _ _ s1 ls)).mono ?_
  rintro e u4 ⟨As, ns, cs, rfl, s, hb⟩
  replace hT := hT.below hb; replace b2 := b2.trans (hb.mono b2.size); replace hm := hm.below hb; replace s1 := s1.below hb; replace ls := ls.below hb
  clear hb
  go_wp2_with fail
  refine (res3 (rfl) (set_any45 b (by omega) _)).mono ?_
  rintro e u5 ⟨As2, ns2, cs2, rfl, s2, hb⟩
  replace hT := hT.below hb; replace b2 := b2.trans (hb.mono b2.size); replace hm := hm.below hb; replace s1 := s1.below hb; replace ls := ls.below hb; replace s := s.below hb
  clear hb
  go_wp2_with fail
  refine (cols_any q C (nsOf C M) _ hm).mono ?_
  rintro e w' ⟨rfl, rfl⟩
  go_wp2_with fail
  refine (res3 (rfl) (below_N (by omega))).mono ?_
  rintro e u6 ⟨Alt, nlt, clt, rfl, lt, hb⟩
  replace hT := hT.below hb; replace b2 := b2.trans (hb.mono b2.size); replace hm := hm.below hb; replace s1 := s1.below hb; replace ls := ls.below hb; replace s := s.below hb; replace s2 := s2.below hb
  clear hb
  go_wp2_with fail
  refine (res3 (rfl) (and_any _ _ _ _ _ s2 lt)).mono ?_
  rintro e u7 ⟨At, nt, ct, rfl, t, hb⟩
  replace hT := hT.below hb; replace b2 := b2.trans (hb.mono b2.size); replace hm := hm.below hb; replace s1 := s1.below hb; replace ls := ls.below hb; replace s := s.below hb; replace s2 := s2.below hb; replace lt := lt.below hb
  clear hb
  have hsc : ∀ j, (a &&& lowN C).testBit j = true → j < C := fun j => low_lt
  have htc : ∀ j, (b &&& lowN C).testBit j = true → j < C := fun j => low_lt
  generalize a &&& lowN C = S at s hsc
  generalize b &&& lowN C = T at t htc
  have hall := impTo_all hl hsc htc
  rw [nsTo_len] at hall
  have HALL := Lib.hid hall; have HTC := Lib.hid htc
  clear hsc htc hall
  go_wp2_with fail
  refine absC2 fun w6 h8 h9 hb hz => ?_
  clear hz
  replace hT := hT.below hb; replace b2 := b2.trans (hb.mono b2.size); replace hm := hm.below hb; replace s := s.below hb; replace t := t.below hb
  clear hb
  refine (rows_M hm).mono ?_
  rintro e w' ⟨rfl, rfl⟩
  obtain ⟨g8, hg⟩ : ∃ g, g = u7.heap.size := ⟨_, rfl⟩
  rw [← hg] at h8 h9 ⊢
  clear hg
  go_wp2_with fail
  refine wp_loopF (β := Nat) (fun i f => #[f 0, f 1, f 2, f 3, f 4, f 5, f 6, ptr q, .pointer (some ⟨g8, 0, none⟩), .pointer (some ⟨g8 + 1, 0, none⟩), .bool (impTo (nsOf C M) S T i), f 11, f 12, f 13, f 14, f 15, f 16, f 17, f 18, f 19, f 20, f 21, f 22, f 23, f 24, f 25, f 26, f 27, f 28, f 29, f 30, f 31, f 32, f 33, .int .i64 (M.length : Int), .int .i64 (i : Int), f 36, f 37, f 38, f 39, f 40, f 41, f 42, f 43, f 44, f 45, f 46, f 47, f 48, f 49, f 50, f 51, f 52, f 53, f 54, f 55, f 56, f 57, f 58, f 59, f 60, f 61, f 62, f 63, f 64, f 65, f 66, f 67, f 68, f 69, f 70, f 71, f 72, f 73, f 74, f 75, f 76, f 77, f 78, f 79])
    (fun i ds V => i ≤ M.length ∧ ds = [] ∧ Below w6.heap.size w6 V) (fun i => M.length - i) 0 (by rw [impTo_zero]; rfl) ⟨Nat.zero_le _, rfl, Below.refl _ _⟩ ?_
  rintro i f ds v9 ⟨hi, rfl, hv⟩
  dsimp only at hi ⊢
  have hb := hv
  replace hT := hT.below hb; replace b2 := b2.trans (hb.mono b2.size); replace hm := hm.below hb; replace s := s.below hb; replace t := t.below hb; replace h8 := h8.below hb h8.lt; replace h9 := h9.below hb h9.lt
  clear hb
  by_cases hlt : i < M.length
  · cases hw : impTo (nsOf C M) S T i
    · have HN := Lib.hid (impTo_no hw)
      clear hw
      go_wp2_with fail
      refine wp_mix (fun V => Below v9.heap.size v9 V) 17 (by kernel_rfl) (by kernel_rfl) (Below.refl _ _).drew ?_
      have hr : Below v9.heap.size v9 v9.drew := (Below.refl _ _).drew
      obtain ⟨u8, hw⟩ : ∃ V, V = v9.drew := ⟨_, rfl⟩
      rw [← hw] at hr ⊢; clear hw
      have hb := hr
      have z8 := h8.cell 0
      have z9 := h9.cell 0
      replace hT := hT.below hb; replace b2 := b2.trans (hb.mono b2.size); replace hm := hm.below hb; replace s := s.below hb; replace t := t.below hb; replace h8 := h8.below hb h8.lt; replace h9 := h9.below hb h9.lt; replace hv := hv.trans (hb.mono hv.size)
      clear hb
      (refine m_q 0 (v := ?_) (by kernel_rfl) rfl rfl (fun W hW => ?_) ?_; rotate_left; (go_simp; first | done | with_reducible rfl); simp only [Act.put, List.setIfInBounds_toArray, List.set_cons_zero, List.set_cons_succ]); (refine m_q 1 (v := ?_) (by kernel_rfl) rfl rfl (fun W hW => ?_) ?_; rotate_left; (go_simp; first | done | with_reducible rfl); simp only [Act.put, List.setIfInBounds_toArray, List.set_cons_zero, List.set_cons_succ])
      (refine m_no 2 (by kernel_rfl) rfl (by rfl) ?_; simp only [Act.put, List.setIfInBounds_toArray, List.set_cons_zero, List.set_cons_succ]); (refine m_no 3 (by kernel_rfl) rfl (by rfl) ?_; simp only [Act.put, List.setIfInBounds_toArray, List.set_cons_zero, List.set_cons_succ]); (refine m_no 4 (by kernel_rfl) rfl (by rfl) ?_; simp only [Act.put, List.setIfInBounds_toArray, List.set_cons_zero, List.set_cons_succ]); (refine m_no 5 (by kernel_rfl) rfl (by rfl) ?_; simp only [Act.put, List.setIfInBounds_toArray, List.set_cons_zero, List.set_cons_succ]); (refine m_no 6 (by kernel_rfl) rfl (by rfl) ?_; simp only [Act.put, List.setIfInBounds_toArray, List.set_cons_zero, List.set_cons_succ]); (refine m_no 7 (by kernel_rfl) rfl (by rfl) ?_; simp only [Act.put, List.setIfInBounds_toArray, List.set_cons_zero, List.set_cons_succ]); (refine m_no 8 (by kernel_rfl) rfl (by rfl) ?_; simp only [Act.put, List.setIfInBounds_toArray, List.set_cons_zero, List.set_cons_succ]); (refine m_no 9 (by kernel_rfl) rfl (by rfl) ?_; simp only [Act.put, List.setIfInBounds_toArray, List.set_cons_zero, List.set_cons_succ]); (refine m_no 10 (by kernel_rfl) rfl (by rfl) ?_; simp only [Act.put, List.setIfInBounds_toArray, List.set_cons_zero, List.set_cons_succ]); (refine m_no 11 (by kernel_rfl) rfl (by rfl) ?_; simp only [Act.put, List.setIfInBounds_toArray, List.set_cons_zero, List.set_cons_succ]); (refine m_no 12 (by kernel_rfl) rfl (by rfl) ?_; simp only [Act.put, List.setIfInBounds_toArray, List.set_cons_zero, List.set_cons_succ]); (refine m_no 13 (by kernel_rfl) rfl (by rfl) ?_; simp only [Act.put, List.setIfInBounds_toArray, List.set_cons_zero, List.set_cons_succ]); (refine m_no 14 (by kernel_rfl) rfl (by rfl) ?_; simp only [Act.put, List.setIfInBounds_toArray, List.set_cons_zero, List.set_cons_succ])
      (refine m_q 15 (v := ?_) (by kernel_rfl) rfl rfl (fun W hW => ?_) ?_; rotate_left; (go_simp; first | done | with_reducible rfl); simp only [Act.put, List.setIfInBounds_toArray, List.set_cons_zero, List.set_cons_succ])
      refine m_s1 16 (by kernel_rfl) rfl ?_
      go_wp2_with fail
      refine m_keep hr ?_
      refine m_end (by kernel_rfl) ?_
      clear z8 z9
      go_wp2_with fail
      exact ⟨i + 1, by rw [HN.out]; rfl, ⟨by omega, by first | rfl | trivial, hv⟩, by omega⟩
    · have hn := impTo_yes hw
      clear hw
      by_cases h1 : S &&& mrow (nsOf C M) (i : Nat) = S
      · rw [decide_eq_true h1, Bool.not_true, Bool.false_or] at hn
        have HN := Lib.hid hn; have H1 := Lib.hid (decide_eq_true h1)
        clear hn h1
        go_wp2_with fail
        refine wp_mix (fun V => Below v9.heap.size v9 V) 17 (by kernel_rfl) (by kernel_rfl) (Below.refl _ _).drew ?_
        have hr : Below v9.heap.size v9 v9.drew := (Below.refl _ _).drew
        obtain ⟨u8, hw⟩ : ∃ V, V = v9.drew := ⟨_, rfl⟩
        rw [← hw] at hr ⊢; clear hw
        have hb := hr
        have z8 := h8.cell 0
        have z9 := h9.cell 0
        replace hT := hT.below hb; replace b2 := b2.trans (hb.mono b2.size); replace hm := hm.below hb; replace s := s.below hb; replace t := t.below hb; replace h8 := h8.below hb h8.lt; replace h9 := h9.below hb h9.lt; replace hv := hv.trans (hb.mono hv.size)
        clear hb
        (refine m_q 0 (v := ?_) (by kernel_rfl) rfl rfl (fun W hW => ?_) ?_; rotate_left; (go_simp; first | done | with_reducible rfl); simp only [Act.put, List.setIfInBounds_toArray, List.set_cons_zero, List.set_cons_succ]); (refine m_q 1 (v := ?_) (by kernel_rfl) rfl rfl (fun W hW => ?_) ?_; rotate_left; (go_simp; first | done | with_reducible rfl); simp only [Act.put, List.setIfInBounds_toArray, List.set_cons_zero, List.set_cons_succ])
        (refine m_yes 2 (v := ?_) (by kernel_rfl) rfl (by rfl) (fun W hW => ?_) ?_; rotate_left; (have zz8 := onB hW z8; have zz9 := onB hW z9; go_simp; first | done | with_reducible rfl); simp only [Act.put, List.setIfInBounds_toArray, List.set_cons_zero, List.set_cons_succ]); (refine m_yes 3 (v := ?_) (by kernel_rfl) rfl (by rfl) (fun W hW => ?_) ?_; rotate_left; (have zz8 := onB hW z8; have zz9 := onB hW z9; go_simp; first | done | with_reducible rfl); simp only [Act.put, List.setIfInBounds_toArray, List.set_cons_zero, List.set_cons_succ]); (refine m_yes 4 (v := ?_) (by kernel_rfl) rfl (by rfl) (fun W hW => ?_) ?_; rotate_left; (have zz8 := onB hW z8; have zz9 := onB hW z9; go_simp; first | done | with_reducible rfl); simp only [Act.put, List.setIfInBounds_toArray, List.set_cons_zero, List.set_cons_succ])
        refine m_s1 5 (by kernel_rfl) rfl ?_
        go_wp2_with fail
        refine (res3 (rfl) (row_any q C (nsOf C M) _ _ hm)).mono ?_
        rintro e u9 ⟨At5, nt5, ct5, rfl, t5, hb⟩
        replace hT := hT.below hb; replace b2 := b2.trans (hb.mono b2.size); replace hm := hm.below hb; replace s := s.below hb; replace t := t.below hb; replace h8 := h8.below hb h8.lt; replace h9 := h9.below hb h9.lt; replace hv := hv.trans (hb.mono hv.size); replace hr := hr.trans (hb.mono hr.size)
        clear hb
        go_wp2_with fail
        refine m_keep hr ?_
        refine m_s1 6 (by kernel_rfl) rfl ?_
        go_wp2_with fail
        refine (within_is H1.out s t5).mono ?_
        rintro e u10 ⟨rfl, hb⟩
        replace hT := hT.below hb; replace b2 := b2.trans (hb.mono b2.size); replace hm := hm.below hb; replace s := s.below hb; replace t := t.below hb; replace h8 := h8.below hb h8.lt; replace h9 := h9.below hb h9.lt; replace hv := hv.trans (hb.mono hv.size); replace hr := hr.trans (hb.mono hr.size); replace t5 := t5.below hb
        clear hb
        go_wp2_with fail
        refine m_keep hr ?_
        (refine m_yes 7 (v := ?_) (by kernel_rfl) rfl (by rfl) (fun W hW => ?_) ?_; rotate_left; (go_simp; first | done | with_reducible rfl); simp only [Act.put, List.setIfInBounds_toArray, List.set_cons_zero, List.set_cons_succ]); (refine m_yes 8 (v := ?_) (by kernel_rfl) rfl (by rfl) (fun W hW => ?_) ?_; rotate_left; (go_simp; first | done | with_reducible rfl); simp only [Act.put, List.setIfInBounds_toArray, List.set_cons_zero, List.set_cons_succ])
        (refine m_yes 9 (v := ?_) (by kernel_rfl) rfl (by rfl) (fun W hW => ?_) ?_; rotate_left; (have zz8 := onB hW z8; have zz9 := onB hW z9; go_simp; first | done | with_reducible rfl); simp only [Act.put, List.setIfInBounds_toArray, List.set_cons_zero, List.set_cons_succ]); (refine m_yes 10 (v := ?_) (by kernel_rfl) rfl (by rfl) (fun W hW => ?_) ?_; rotate_left; (have zz8 := onB hW z8; have zz9 := onB hW z9; go_simp; first | done | with_reducible rfl); simp only [Act.put, List.setIfInBounds_toArray, List.set_cons_zero, List.set_cons_succ]); (refine m_yes 11 (v := ?_) (by kernel_rfl) rfl (by rfl) (fun W hW => ?_) ?_; rotate_left; (have zz8 := onB hW z8; have zz9 := onB hW z9; go_simp; first | done | with_reducible rfl); simp only [Act.put, List.setIfInBounds_toArray, List.set_cons_zero, List.set_cons_succ])
        refine m_s1 12 (by kernel_rfl) rfl ?_
        go_wp2_with fail
        refine (res3 (rfl) (row_any q C (nsOf C M) _ _ hm)).mono ?_
        rintro e u11 ⟨At12, nt12, ct12, rfl, t12, hb⟩
        replace hT := hT.below hb; replace b2 := b2.trans (hb.mono b2.size); replace hm := hm.below hb; replace s := s.below hb; replace t := t.below hb; replace h8 := h8.below hb h8.lt; replace h9 := h9.below hb h9.lt; replace hv := hv.trans (hb.mono hv.size); replace hr := hr.trans (hb.mono hr.size); replace t5 := t5.below hb
        clear hb
        go_wp2_with fail
        refine m_keep hr ?_
        refine m_s1 13 (by kernel_rfl) rfl ?_
        go_wp2_with fail
        refine (within_is HN.out.symm t t12).mono ?_
        rintro e u12 ⟨rfl, hb⟩
        replace hT := hT.below hb; replace b2 := b2.trans (hb.mono b2.size); replace hm := hm.below hb; replace s := s.below hb; replace t := t.below hb; replace h8 := h8.below hb h8.lt; replace h9 := h9.below hb h9.lt; replace hv := hv.trans (hb.mono hv.size); replace hr := hr.trans (hb.mono hr.size); replace t5 := t5.below hb; replace t12 := t12.below hb
        clear hb
        go_wp2_with fail
        refine m_keep hr ?_
        (refine m_yes 14 (v := ?_) (by kernel_rfl) rfl (by rfl) (fun W hW => ?_) ?_; rotate_left; (go_simp; first | done | with_reducible rfl); simp only [Act.put, List.setIfInBounds_toArray, List.set_cons_zero, List.set_cons_succ])
        (refine m_q 15 (v := ?_) (by kernel_rfl) rfl rfl (fun W hW => ?_) ?_; rotate_left; (go_simp; first | done | with_reducible rfl); simp only [Act.put, List.setIfInBounds_toArray, List.set_cons_zero, List.set_cons_succ])
        refine m_s1 16 (by kernel_rfl) rfl ?_
        go_wp2_with fail
        refine m_keep hr ?_
        refine m_end (by kernel_rfl) ?_
        clear z8 z9
        go_wp2_with fail
        exact ⟨i + 1, rfl, ⟨by omega, by first | rfl | trivial, hv⟩, by omega⟩
      · rw [decide_eq_false h1, Bool.not_false, Bool.true_or] at hn
        have HN := Lib.hid hn; have H1 := Lib.hid (decide_eq_false h1)
        clear hn h1
        go_wp2_with fail
        refine wp_mix (fun V => Below v9.heap.size v9 V) 17 (by kernel_rfl) (by kernel_rfl) (Below.refl _ _).drew ?_
        have hr : Below v9.heap.size v9 v9.drew := (Below.refl _ _).drew
        obtain ⟨u8, hw⟩ : ∃ V, V = v9.drew := ⟨_, rfl⟩
        rw [← hw] at hr ⊢; clear hw
        have hb := hr
        have z8 := h8.cell 0
        have z9 := h9.cell 0
        replace hT := hT.below hb; replace b2 := b2.trans (hb.mono b2.size); replace hm := hm.below hb; replace s := s.below hb; replace t := t.below hb; replace h8 := h8.below hb h8.lt; replace h9 := h9.below hb h9.lt; replace hv := hv.trans (hb.mono hv.size)
        clear hb
        (refine m_q 0 (v := ?_) (by kernel_rfl) rfl rfl (fun W hW => ?_) ?_; rotate_left; (go_simp; first | done | with_reducible rfl); simp only [Act.put, List.setIfInBounds_toArray, List.set_cons_zero, List.set_cons_succ]); (refine m_q 1 (v := ?_) (by kernel_rfl) rfl rfl (fun W hW => ?_) ?_; rotate_left; (go_simp; first | done | with_reducible rfl); simp only [Act.put, List.setIfInBounds_toArray, List.set_cons_zero, List.set_cons_succ])
        (refine m_yes 2 (v := ?_) (by kernel_rfl) rfl (by rfl) (fun W hW => ?_) ?_; rotate_left; (have zz8 := onB hW z8; have zz9 := onB hW z9; go_simp; first | done | with_reducible rfl); simp only [Act.put, List.setIfInBounds_toArray, List.set_cons_zero, List.set_cons_succ]); (refine m_yes 3 (v := ?_) (by kernel_rfl) rfl (by rfl) (fun W hW => ?_) ?_; rotate_left; (have zz8 := onB hW z8; have zz9 := onB hW z9; go_simp; first | done | with_reducible rfl); simp only [Act.put, List.setIfInBounds_toArray, List.set_cons_zero, List.set_cons_succ]); (refine m_yes 4 (v := ?_) (by kernel_rfl) rfl (by rfl) (fun W hW => ?_) ?_; rotate_left; (have zz8 := onB hW z8; have zz9 := onB hW z9; go_simp; first | done | with_reducible rfl); simp only [Act.put, List.setIfInBounds_toArray, List.set_cons_zero, List.set_cons_succ])
        refine m_s1 5 (by kernel_rfl) rfl ?_
        go_wp2_with fail
        refine (res3 (rfl) (row_any q C (nsOf C M) _ _ hm)).mono ?_
        rintro e u9 ⟨At5, nt5, ct5, rfl, t5, hb⟩
        replace hT := hT.below hb; replace b2 := b2.trans (hb.mono b2.size); replace hm := hm.below hb; replace s := s.below hb; replace t := t.below hb; replace h8 := h8.below hb h8.lt; replace h9 := h9.below hb h9.lt; replace hv := hv.trans (hb.mono hv.size); replace hr := hr.trans (hb.mono hr.size)
        clear hb
        go_wp2_with fail
        refine m_keep hr ?_
        refine m_s1 6 (by kernel_rfl) rfl ?_
        go_wp2_with fail
        refine (within_is H1.out s t5).mono ?_
        rintro e u10 ⟨rfl, hb⟩
        replace hT := hT.below hb; replace b2 := b2.trans (hb.mono b2.size); replace hm := hm.below hb; replace s := s.below hb; replace t := t.below hb; replace h8 := h8.below hb h8.lt; replace h9 := h9.below hb h9.lt; replace hv := hv.trans (hb.mono hv.size); replace hr := hr.trans (hb.mono hr.size); replace t5 := t5.below hb
        clear hb
        go_wp2_with fail
        refine m_keep hr ?_
        (refine m_yes 7 (v := ?_) (by kernel_rfl) rfl (by rfl) (fun W hW => ?_) ?_; rotate_left; (go_simp; first | done | with_reducible rfl); simp only [Act.put, List.setIfInBounds_toArray, List.set_cons_zero, List.set_cons_succ]); (refine m_yes 8 (v := ?_) (by kernel_rfl) rfl (by rfl) (fun W hW => ?_) ?_; rotate_left; (go_simp; first | done | with_reducible rfl); simp only [Act.put, List.setIfInBounds_toArray, List.set_cons_zero, List.set_cons_succ])
        (refine m_no 9 (by kernel_rfl) rfl (by rfl) ?_; simp only [Act.put, List.setIfInBounds_toArray, List.set_cons_zero, List.set_cons_succ]); (refine m_no 10 (by kernel_rfl) rfl (by rfl) ?_; simp only [Act.put, List.setIfInBounds_toArray, List.set_cons_zero, List.set_cons_succ]); (refine m_no 11 (by kernel_rfl) rfl (by rfl) ?_; simp only [Act.put, List.setIfInBounds_toArray, List.set_cons_zero, List.set_cons_succ]); (refine m_no 12 (by kernel_rfl) rfl (by rfl) ?_; simp only [Act.put, List.setIfInBounds_toArray, List.set_cons_zero, List.set_cons_succ]); (refine m_no 13 (by kernel_rfl) rfl (by rfl) ?_; simp only [Act.put, List.setIfInBounds_toArray, List.set_cons_zero, List.set_cons_succ])
        (refine m_yes 14 (v := ?_) (by kernel_rfl) rfl (by rfl) (fun W hW => ?_) ?_; rotate_left; (go_simp; first | done | with_reducible rfl); simp only [Act.put, List.setIfInBounds_toArray, List.set_cons_zero, List.set_cons_succ])
        (refine m_q 15 (v := ?_) (by kernel_rfl) rfl rfl (fun W hW => ?_) ?_; rotate_left; (go_simp; first | done | with_reducible rfl); simp only [Act.put, List.setIfInBounds_toArray, List.set_cons_zero, List.set_cons_succ])
        refine m_s1 16 (by kernel_rfl) rfl ?_
        go_wp2_with fail
        refine m_keep hr ?_
        refine m_end (by kernel_rfl) ?_
        clear z8 z9
        go_wp2_with fail
        exact ⟨i + 1, by rw [HN.out]; rfl, ⟨by omega, by first | rfl | trivial, hv⟩, by omega⟩
  · obtain rfl : i = M.length := by omega
    have hx := HALL.out
    obtain ⟨x, hxx⟩ : ∃ x, x = impTo (nsOf C M) S T M.length := ⟨_, rfl⟩
    rw [← hxx] at hx ⊢
    have HX := Lib.hid hx
    clear hx hxx hi hlt
    have hw7 : ∀ j, j < C → (withB S 700).testBit j = S.testBit j := fun j hj => withB_low (by omega) j (by omega)
    have hw9 : ∀ j, j < C → (withB T 900).testBit j = T.testBit j := fun j hj => withB_low (by omega) j (by omega)
    have HW7 := Lib.hid hw7; have HW9 := Lib.hid hw9
    clear hw7 hw9
    cases x
    · go_wp2_with fail
      refine wp_mix (fun V => Below v9.heap.size v9 V) 26 (by kernel_rfl) (by kernel_rfl) (Below.refl _ _).drew ?_
      have hr : Below v9.heap.size v9 v9.drew := (Below.refl _ _).drew
      obtain ⟨u8, hw⟩ : ∃ V, V = v9.drew := ⟨_, rfl⟩
      rw [← hw] at hr ⊢; clear hw
      have hb := hr
      have z8 := h8.cell 0
      have z9 := h9.cell 0
      replace hT := hT.below hb; replace b2 := b2.trans (hb.mono b2.size); replace hm := hm.below hb; replace s := s.below hb; replace t := t.below hb; replace h8 := h8.below hb h8.lt; replace h9 := h9.below hb h9.lt; replace hv := hv.trans (hb.mono hv.size)
      clear hb
      (refine m_q 0 (v := ?_) (by kernel_rfl) rfl rfl (fun W hW => ?_) ?_; rotate_left; (have zz8 := onB hW z8; have zz9 := onB hW z9; go_simp; first | done | with_reducible rfl); simp only [Act.put, List.setIfInBounds_toArray, List.set_cons_zero, List.set_cons_succ]); (refine m_q 1 (v := ?_) (by kernel_rfl) rfl rfl (fun W hW => ?_) ?_; rotate_left; (have zz8 := onB hW z8; have zz9 := onB hW z9; go_simp; first | done | with_reducible rfl); simp only [Act.put, List.setIfInBounds_toArray, List.set_cons_zero, List.set_cons_succ]); (refine m_q 2 (v := ?_) (by kernel_rfl) rfl rfl (fun W hW => ?_) ?_; rotate_left; (have zz8 := onB hW z8; have zz9 := onB hW z9; go_simp; first | done | with_reducible rfl); simp only [Act.put, List.setIfInBounds_toArray, List.set_cons_zero, List.set_cons_succ]); (refine m_q 4 (v := ?_) (by kernel_rfl) rfl rfl (fun W hW => ?_) ?_; rotate_left; (have zz8 := onB hW z8; have zz9 := onB hW z9; go_simp; first | done | with_reducible rfl); simp only [Act.put, List.setIfInBounds_toArray, List.set_cons_zero, List.set_cons_succ])
      refine m_s1 3 (by kernel_rfl) rfl ?_
      go_wp2_with fail
      refine (implies_is HX.out hl (fun _ _ => rfl) (fun _ _ => rfl) HTC.out hm s t hT).mono ?_
      rintro e u9 ⟨rfl, hb⟩
      replace hT := hT.below hb; replace b2 := b2.trans (hb.mono b2.size); replace hm := hm.below hb; replace s := s.below hb; replace t := t.below hb; replace h8 := h8.below hb h8.lt; replace h9 := h9.below hb h9.lt; replace hv := hv.trans (hb.mono hv.size); replace hr := hr.trans (hb.mono hr.size)
      clear hb
      go_wp2_with fail
      refine m_keep hr ?_
      (refine m_q 5 (v := ?_) (by kernel_rfl) rfl rfl (fun W hW => ?_) ?_; rotate_left; (go_simp; first | done | with_reducible rfl); simp only [Act.put, List.setIfInBounds_toArray, List.set_cons_zero, List.set_cons_succ]); (refine m_q 6 (v := ?_) (by kernel_rfl) rfl rfl (fun W hW => ?_) ?_; rotate_left; (go_simp; first | done | with_reducible rfl); simp only [Act.put, List.setIfInBounds_toArray, List.set_cons_zero, List.set_cons_succ])
      (refine m_yes 7 (v := ?_) (by kernel_rfl) rfl (by rfl) (fun W hW => ?_) ?_; rotate_left; (have zz8 := onB hW z8; have zz9 := onB hW z9; go_simp; first | done | with_reducible rfl); simp only [Act.put, List.setIfInBounds_toArray, List.set_cons_zero, List.set_cons_succ]); (refine m_yes 8 (v := ?_) (by kernel_rfl) rfl (by rfl) (fun W hW => ?_) ?_; rotate_left; (have zz8 := onB hW z8; have zz9 := onB hW z9; go_simp; first | done | with_reducible rfl); simp only [Act.put, List.setIfInBounds_toArray, List.set_cons_zero, List.set_cons_succ]); (refine m_yes 9 (v := ?_) (by kernel_rfl) rfl (by rfl) (fun W hW => ?_) ?_; rotate_left; (have zz8 := onB hW z8; have zz9 := onB hW z9; go_simp; first | done | with_reducible rfl); simp only [Act.put, List.setIfInBounds_toArray, List.set_cons_zero, List.set_cons_succ]); (refine m_yes 10 (v := ?_) (by kernel_rfl) rfl (by rfl) (fun W hW => ?_) ?_; rotate_left; (have zz8 := onB hW z8; have zz9 := onB hW z9; go_simp; first | done | with_reducible rfl); simp only [Act.put, List.setIfInBounds_toArray, List.set_cons_zero, List.set_cons_succ])
      refine m_s1 11 (by kernel_rfl) rfl ?_
      go_wp2_with fail
      refine (res3 (rfl) (close_any _ C (nsOf C M) _ S _ hm.mv s hT)).mono ?_
      rintro e u10 ⟨At11, nt11, ct11, rfl, t11, hb⟩
      replace hT := hT.below hb; replace b2 := b2.trans (hb.mono b2.size); replace hm := hm.below hb; replace s := s.below hb; replace t := t.below hb; replace h8 := h8.below hb h8.lt; replace h9 := h9.below hb h9.lt; replace hv := hv.trans (hb.mono hv.size); replace hr := hr.trans (hb.mono hr.size)
      clear hb
      go_wp2_with fail
      refine m_keep hr ?_
      refine m_s1 12 (by kernel_rfl) rfl ?_
      go_wp2_with fail
      refine (within_is HX.out t t11).mono ?_
      rintro e u11 ⟨rfl, hb⟩
      replace hT := hT.below hb; replace b2 := b2.trans (hb.mono b2.size); replace hm := hm.below hb; replace s := s.below hb; replace t := t.below hb; replace h8 := h8.below hb h8.lt; replace h9 := h9.below hb h9.lt; replace hv := hv.trans (hb.mono hv.size); replace hr := hr.trans (hb.mono hr.size); replace t11 := t11.below hb
      clear hb
      go_wp2_with fail
      refine m_keep hr ?_
      (refine m_yes 13 (v := ?_) (by kernel_rfl) rfl (by rfl) (fun W hW => ?_) ?_; rotate_left; (go_simp; first | done | with_reducible rfl); simp only [Act.put, List.setIfInBounds_toArray, List.set_cons_zero, List.set_cons_succ])
      (refine m_q 14 (v := ?_) (by kernel_rfl) rfl rfl (fun W hW => ?_) ?_; rotate_left; (go_simp; first | done | with_reducible rfl); simp only [Act.put, List.setIfInBounds_toArray, List.set_cons_zero, List.set_cons_succ]); (refine m_q 15 (v := ?_) (by kernel_rfl) rfl rfl (fun W hW => ?_) ?_; rotate_left; (go_simp; first | done | with_reducible rfl); simp only [Act.put, List.setIfInBounds_toArray, List.set_cons_zero, List.set_cons_succ])
      (refine m_yes 16 (v := ?_) (by kernel_rfl) rfl (by rfl) (fun W hW => ?_) ?_; rotate_left; (have zz8 := onB hW z8; have zz9 := onB hW z9; go_simp; first | done | with_reducible rfl); simp only [Act.put, List.setIfInBounds_toArray, List.set_cons_zero, List.set_cons_succ]); (refine m_yes 17 (v := ?_) (by kernel_rfl) rfl (by rfl) (fun W hW => ?_) ?_; rotate_left; (have zz8 := onB hW z8; have zz9 := onB hW z9; go_simp; first | done | with_reducible rfl); simp only [Act.put, List.setIfInBounds_toArray, List.set_cons_zero, List.set_cons_succ]); (refine m_yes 19 (v := ?_) (by kernel_rfl) rfl (by rfl) (fun W hW => ?_) ?_; rotate_left; (have zz8 := onB hW z8; have zz9 := onB hW z9; go_simp; first | done | with_reducible rfl); simp only [Act.put, List.setIfInBounds_toArray, List.set_cons_zero, List.set_cons_succ]); (refine m_yes 22 (v := ?_) (by kernel_rfl) rfl (by rfl) (fun W hW => ?_) ?_; rotate_left; (have zz8 := onB hW z8; have zz9 := onB hW z9; go_simp; first | done | with_reducible rfl); simp only [Act.put, List.setIfInBounds_toArray, List.set_cons_zero, List.set_cons_succ])
      refine m_s1 18 (by kernel_rfl) rfl ?_
      go_wp2_with fail
      refine (res3 (rfl) (with_any _ S 700 _ s)).mono ?_
      rintro e u12 ⟨At18, nt18, ct18, rfl, t18, hb⟩
      replace hT := hT.below hb; replace b2 := b2.trans (hb.mono b2.size); replace hm := hm.below hb; replace s := s.below hb; replace t := t.below hb; replace h8 := h8.below hb h8.lt; replace h9 := h9.below hb h9.lt; replace hv := hv.trans (hb.mono hv.size); replace hr := hr.trans (hb.mono hr.size); replace t11 := t11.below hb
      clear hb
      go_wp2_with fail
      refine m_keep hr ?_
      refine m_s1 20 (by kernel_rfl) rfl ?_
      go_wp2_with fail
      refine (res3 (rfl) (with_any _ T 900 _ t)).mono ?_
      rintro e u13 ⟨At20, nt20, ct20, rfl, t20, hb⟩
      replace hT := hT.below hb; replace b2 := b2.trans (hb.mono b2.size); replace hm := hm.below hb; replace s := s.below hb; replace t := t.below hb; replace h8 := h8.below hb h8.lt; replace h9 := h9.below hb h9.lt; replace hv := hv.trans (hb.mono hv.size); replace hr := hr.trans (hb.mono hr.size); replace t11 := t11.below hb; replace t18 := t18.below hb
      clear hb
      go_wp2_with fail
      refine m_keep hr ?_
      refine m_s1 21 (by kernel_rfl) rfl ?_
      go_wp2_with fail
      refine (implies_is HX.out hl HW7.out HW9.out HTC.out hm t18 t20 hT).mono ?_
      rintro e u14 ⟨rfl, hb⟩
      replace hT := hT.below hb; replace b2 := b2.trans (hb.mono b2.size); replace hm := hm.below hb; replace s := s.below hb; replace t := t.below hb; replace h8 := h8.below hb h8.lt; replace h9 := h9.below hb h9.lt; replace hv := hv.trans (hb.mono hv.size); replace hr := hr.trans (hb.mono hr.size); replace t11 := t11.below hb; replace t18 := t18.below hb; replace t20 := t20.below hb
      clear hb
      go_wp2_with fail
      refine m_keep hr ?_
      (refine m_yes 23 (v := ?_) (by kernel_rfl) rfl (by rfl) (fun W hW => ?_) ?_; rotate_left; (go_simp; first | done | with_reducible rfl); simp only [Act.put, List.setIfInBounds_toArray, List.set_cons_zero, List.set_cons_succ])
      (refine m_q 24 (v := ?_) (by kernel_rfl) rfl rfl (fun W hW => ?_) ?_; rotate_left; (go_simp; first | done | with_reducible rfl); simp only [Act.put, List.setIfInBounds_toArray, List.set_cons_zero, List.set_cons_succ]); (refine m_q 25 (v := ?_) (by kernel_rfl) rfl rfl (fun W hW => ?_) ?_; rotate_left; (go_simp; first | done | with_reducible rfl); simp only [Act.put, List.setIfInBounds_toArray, List.set_cons_zero, List.set_cons_succ])
      refine m_end (by kernel_rfl) ?_
      clear z8 z9
      go_wp2_with fail
      go_ret
      exact ⟨rfl, b2⟩
    · go_wp2_with fail
      refine wp_mix (fun V => Below v9.heap.size v9 V) 26 (by kernel_rfl) (by kernel_rfl) (Below.refl _ _).drew ?_
      have hr : Below v9.heap.size v9 v9.drew := (Below.refl _ _).drew
      obtain ⟨u8, hw⟩ : ∃ V, V = v9.drew := ⟨_, rfl⟩
      rw [← hw] at hr ⊢; clear hw
      have hb := hr
      have z8 := h8.cell 0
      have z9 := h9.cell 0
      replace hT := hT.below hb; replace b2 := b2.trans (hb.mono b2.size); replace hm := hm.below hb; replace s := s.below hb; replace t := t.below hb; replace h8 := h8.below hb h8.lt; replace h9 := h9.below hb h9.lt; replace hv := hv.trans (hb.mono hv.size)
      clear hb
      (refine m_q 0 (v := ?_) (by kernel_rfl) rfl rfl (fun W hW => ?_) ?_; rotate_left; (have zz8 := onB hW z8; have zz9 := onB hW z9; go_simp; first | done | with_reducible rfl); simp only [Act.put, List.setIfInBounds_toArray, List.set_cons_zero, List.set_cons_succ]); (refine m_q 1 (v := ?_) (by kernel_rfl) rfl rfl (fun W hW => ?_) ?_; rotate_left; (have zz8 := onB hW z8; have zz9 := onB hW z9; go_simp; first | done | with_reducible rfl); simp only [Act.put, List.setIfInBounds_toArray, List.set_cons_zero, List.set_cons_succ]); (refine m_q 2 (v := ?_) (by kernel_rfl) rfl rfl (fun W hW => ?_) ?_; rotate_left; (have zz8 := onB hW z8; have zz9 := onB hW z9; go_simp; first | done | with_reducible rfl); simp only [Act.put, List.setIfInBounds_toArray, List.set_cons_zero, List.set_cons_succ]); (refine m_q 4 (v := ?_) (by kernel_rfl) rfl rfl (fun W hW => ?_) ?_; rotate_left; (have zz8 := onB hW z8; have zz9 := onB hW z9; go_simp; first | done | with_reducible rfl); simp only [Act.put, List.setIfInBounds_toArray, List.set_cons_zero, List.set_cons_succ])
      refine m_s1 3 (by kernel_rfl) rfl ?_
      go_wp2_with fail
      refine (implies_is HX.out hl (fun _ _ => rfl) (fun _ _ => rfl) HTC.out hm s t hT).mono ?_
      rintro e u9 ⟨rfl, hb⟩
      replace hT := hT.below hb; replace b2 := b2.trans (hb.mono b2.size); replace hm := hm.below hb; replace s := s.below hb; replace t := t.below hb; replace h8 := h8.below hb h8.lt; replace h9 := h9.below hb h9.lt; replace hv := hv.trans (hb.mono hv.size); replace hr := hr.trans (hb.mono hr.size)
      clear hb
      go_wp2_with fail
      refine m_keep hr ?_
      (refine m_q 5 (v := ?_) (by kernel_rfl) rfl rfl (fun W hW => ?_) ?_; rotate_left; (go_simp; first | done | with_reducible rfl); simp only [Act.put, List.setIfInBounds_toArray, List.set_cons_zero, List.set_cons_succ]); (refine m_q 6 (v := ?_) (by kernel_rfl) rfl rfl (fun W hW => ?_) ?_; rotate_left; (go_simp; first | done | with_reducible rfl); simp only [Act.put, List.setIfInBounds_toArray, List.set_cons_zero, List.set_cons_succ])
      (refine m_yes 7 (v := ?_) (by kernel_rfl) rfl (by rfl) (fun W hW => ?_) ?_; rotate_left; (have zz8 := onB hW z8; have zz9 := onB hW z9; go_simp; first | done | with_reducible rfl); simp only [Act.put, List.setIfInBounds_toArray, List.set_cons_zero, List.set_cons_succ]); (refine m_yes 8 (v := ?_) (by kernel_rfl) rfl (by rfl) (fun W hW => ?_) ?_; rotate_left; (have zz8 := onB hW z8; have zz9 := onB hW z9; go_simp; first | done | with_reducible rfl); simp only [Act.put, List.setIfInBounds_toArray, List.set_cons_zero, List.set_cons_succ]); (refine m_yes 9 (v := ?_) (by kernel_rfl) rfl (by rfl) (fun W hW => ?_) ?_; rotate_left; (have zz8 := onB hW z8; have zz9 := onB hW z9; go_simp; first | done | with_reducible rfl); simp only [Act.put, List.setIfInBounds_toArray, List.set_cons_zero, List.set_cons_succ]); (refine m_yes 10 (v := ?_) (by kernel_rfl) rfl (by rfl) (fun W hW => ?_) ?_; rotate_left; (have zz8 := onB hW z8; have zz9 := onB hW z9; go_simp; first | done | with_reducible rfl); simp only [Act.put, List.setIfInBounds_toArray, List.set_cons_zero, List.set_cons_succ])
      refine m_s1 11 (by kernel_rfl) rfl ?_
      go_wp2_with fail
      refine (res3 (rfl) (close_any _ C (nsOf C M) _ S _ hm.mv s hT)).mono ?_
      rintro e u10 ⟨At11, nt11, ct11, rfl, t11, hb⟩
      replace hT := hT.below hb; replace b2 := b2.trans (hb.mono b2.size); replace hm := hm.below hb; replace s := s.below hb; replace t := t.below hb; replace h8 := h8.below hb h8.lt; replace h9 := h9.below hb h9.lt; replace hv := hv.trans (hb.mono hv.size); replace hr := hr.trans (hb.mono hr.size)
      clear hb
      go_wp2_with fail
      refine m_keep hr ?_
      refine m_s1 12 (by kernel_rfl) rfl ?_
      go_wp2_with fail
      refine (within_is HX.out t t11).mono ?_
      rintro e u11 ⟨rfl, hb⟩
      replace hT := hT.below hb; replace b2 := b2.trans (hb.mono b2.size); replace hm := hm.below hb; replace s := s.below hb; replace t := t.below hb; replace h8 := h8.below hb h8.lt; replace h9 := h9.below hb h9.lt; replace hv := hv.trans (hb.mono hv.size); replace hr := hr.trans (hb.mono hr.size); replace t11 := t11.below hb
      clear hb
      go_wp2_with fail
      refine m_keep hr ?_
      (refine m_yes 13 (v := ?_) (by kernel_rfl) rfl (by rfl) (fun W hW => ?_) ?_; rotate_left; (go_simp; first | done | with_reducible rfl); simp only [Act.put, List.setIfInBounds_toArray, List.set_cons_zero, List.set_cons_succ])
      (refine m_q 14 (v := ?_) (by kernel_rfl) rfl rfl (fun W hW => ?_) ?_; rotate_left; (go_simp; first | done | with_reducible rfl); simp only [Act.put, List.setIfInBounds_toArray, List.set_cons_zero, List.set_cons_succ]); (refine m_q 15 (v := ?_) (by kernel_rfl) rfl rfl (fun W hW => ?_) ?_; rotate_left; (go_simp; first | done | with_reducible rfl); simp only [Act.put, List.setIfInBounds_toArray, List.set_cons_zero, List.set_cons_succ])
      (refine m_yes 16 (v := ?_) (by kernel_rfl) rfl (by rfl) (fun W hW => ?_) ?_; rotate_left; (have zz8 := onB hW z8; have zz9 := onB hW z9; go_simp; first | done | with_reducible rfl); simp only [Act.put, List.setIfInBounds_toArray, List.set_cons_zero, List.set_cons_succ]); (refine m_yes 17 (v := ?_) (by kernel_rfl) rfl (by rfl) (fun W hW => ?_) ?_; rotate_left; (have zz8 := onB hW z8; have zz9 := onB hW z9; go_simp; first | done | with_reducible rfl); simp only [Act.put, List.setIfInBounds_toArray, List.set_cons_zero, List.set_cons_succ]); (refine m_yes 19 (v := ?_) (by kernel_rfl) rfl (by rfl) (fun W hW => ?_) ?_; rotate_left; (have zz8 := onB hW z8; have zz9 := onB hW z9; go_simp; first | done | with_reducible rfl); simp only [Act.put, List.setIfInBounds_toArray, List.set_cons_zero, List.set_cons_succ]); (refine m_yes 22 (v := ?_) (by kernel_rfl) rfl (by rfl) (fun W hW => ?_) ?_; rotate_left; (have zz8 := onB hW z8; have zz9 := onB hW z9; go_simp; first | done | with_reducible rfl); simp only [Act.put, List.setIfInBounds_toArray, List.set_cons_zero, List.set_cons_succ])
      refine m_s1 18 (by kernel_rfl) rfl ?_
      go_wp2_with fail
      refine (res3 (rfl) (with_any _ S 700 _ s)).mono ?_
      rintro e u12 ⟨At18, nt18, ct18, rfl, t18, hb⟩
      replace hT := hT.below hb; replace b2 := b2.trans (hb.mono b2.size); replace hm := hm.below hb; replace s := s.below hb; replace t := t.below hb; replace h8 := h8.below hb h8.lt; replace h9 := h9.below hb h9.lt; replace hv := hv.trans (hb.mono hv.size); replace hr := hr.trans (hb.mono hr.size); replace t11 := t11.below hb
      clear hb
      go_wp2_with fail
      refine m_keep hr ?_
      refine m_s1 20 (by kernel_rfl) rfl ?_
      go_wp2_with fail
      refine (res3 (rfl) (with_any _ T 900 _ t)).mono ?_
      rintro e u13 ⟨At20, nt20, ct20, rfl, t20, hb⟩
      replace hT := hT.below hb; replace b2 := b2.trans (hb.mono b2.size); replace hm := hm.below hb; replace s := s.below hb; replace t := t.below hb; replace h8 := h8.below hb h8.lt; replace h9 := h9.below hb h9.lt; replace hv := hv.trans (hb.mono hv.size); replace hr := hr.trans (hb.mono hr.size); replace t11 := t11.below hb; replace t18 := t18.below hb
      clear hb
      go_wp2_with fail
      refine m_keep hr ?_
      refine m_s1 21 (by kernel_rfl) rfl ?_
      go_wp2_with fail
      refine (implies_is HX.out hl HW7.out HW9.out HTC.out hm t18 t20 hT).mono ?_
      rintro e u14 ⟨rfl, hb⟩
      replace hT := hT.below hb; replace b2 := b2.trans (hb.mono b2.size); replace hm := hm.below hb; replace s := s.below hb; replace t := t.below hb; replace h8 := h8.below hb h8.lt; replace h9 := h9.below hb h9.lt; replace hv := hv.trans (hb.mono hv.size); replace hr := hr.trans (hb.mono hr.size); replace t11 := t11.below hb; replace t18 := t18.below hb; replace t20 := t20.below hb
      clear hb
      go_wp2_with fail
      refine m_keep hr ?_
      (refine m_yes 23 (v := ?_) (by kernel_rfl) rfl (by rfl) (fun W hW => ?_) ?_; rotate_left; (go_simp; first | done | with_reducible rfl); simp only [Act.put, List.setIfInBounds_toArray, List.set_cons_zero, List.set_cons_succ])
      (refine m_q 24 (v := ?_) (by kernel_rfl) rfl rfl (fun W hW => ?_) ?_; rotate_left; (go_simp; first | done | with_reducible rfl); simp only [Act.put, List.setIfInBounds_toArray, List.set_cons_zero, List.set_cons_succ]); (refine m_q 25 (v := ?_) (by kernel_rfl) rfl rfl (fun W hW => ?_) ?_; rotate_left; (go_simp; first | done | with_reducible rfl); simp only [Act.put, List.setIfInBounds_toArray, List.set_cons_zero, List.set_cons_succ])
      refine m_end (by kernel_rfl) ?_
      clear z8 z9
      go_wp2_with fail
      go_ret
      exact ⟨rfl, b2⟩
set_option maxRecDepth 100000 in
set_option maxHeartbeats 8000000 in
theorem rectangles_walk (v : Value) (R C : Nat) (zs : List Int) (a : Nat) (w : World) (hT : Tab w) (h : IsRaw w v R C zs) (ha : a ≤ 255) :
    Calls Tryd.prog 9 #[v, .int .u8 a] w fun e w' => e = .returned (.bool true) ∧ Below w.heap.size w w' := by
  have hbd := h.bd
  obtain ⟨r, c, A0, d0, hv, _⟩ := id h
  subst hv
  have HIN := hideC h; clear h
  go_enter Tryd.func9, Tryd.ntmps9
  go_wp2_with fail
  refine absC1 fun W0 hX hbel0 hz => ?_
  clear hz
  refine (Mix2.awake_any45 W0 (hT.below hbel0)).mono ?_
  rintro e w1 ⟨rfl, hb1⟩
  have b1 := hbel0.trans (hb1.mono hbel0.size)
  have hX1 := hX.below hb1 hX.lt
  have x0 := hX1.cell 0
  have x1 := hX1.cell 1
  have x2 := hX1.cell 2
  have HM := hideC (make_raw _ R C zs w1 (HIN.out.below b1))
  go_wp2_with fail
  refine HM.out.mono ?_
  rintro e w2 ⟨A2, c2, rfl, hI, hb2⟩
  have b2 := b1.trans (hb2.mono b1.size)
  obtain ⟨M, hMd⟩ : ∃ M, M = rawM R C zs := ⟨_, rfl⟩
  have hML : M.length = R := by rw [hMd, mat_len]
  rw [← hMd] at hI
  subst hML
  obtain ⟨hR5, hC5⟩ := hbd
  have hl : (nsOf C M).length ≤ 4096 := by rw [nsTo_len]; omega
  clear hMd HM HIN hX hX1 hbel0 hb1 hb2 b1 x0 x1 x2
  replace hT := hT.below b2
  go_wp2_with fail
  refine (matrixl_any C A2 c2 M w2 hI (by omega) (by omega)).mono ?_
  rintro e u1 ⟨q, rfl, hm, _, hb⟩
  replace hT := hT.below hb; replace b2 := b2.trans (hb.mono b2.size)
  clear hb
  go_wp2_with fail
  refine (res3 (rfl) (set_any45 a (by omega) _)).mono ?_
  rintro e u2 ⟨As1, ns1, cs1, rfl, s1, hb⟩
  replace hT := hT.below hb; replace b2 := b2.trans (hb.mono b2.size); replace hm := hm.below hb
  clear hb
  go_wp2_with fail
  refine (of_is rfl rfl hm.mv s1 hT).mono ?_
  rintro e u3 ⟨Ax, nx, cx, Bx, kx, dx, rfl, xr, xc, hb⟩
  replace hT := hT.below hb; replace b2 := b2.trans (hb.mono b2.size); replace hm := hm.below hb; replace s1 := s1.below hb
  clear hb
  go_wp2_with fail
  refine absC1 fun w6 h6 hb hz => ?_
  clear hz
  replace hT := hT.below hb; replace b2 := b2.trans (hb.mono b2.size); replace hm := hm.below hb; replace s1 := s1.below hb; replace xr := xr.below hb; replace xc := xc.below hb
  clear hb
  refine (rows_M hm).mono ?_
  rintro e w' ⟨rfl, rfl⟩
  obtain ⟨g, hg⟩ : ∃ g, g = u3.heap.size := ⟨_, rfl⟩
  rw [← hg] at h6 ⊢
  clear hg
  have hrow : ∀ i, i < M.length → ((havN C (nsOf C M) a).testBit i = decide (cloN C (nsOf C M) a &&& mrow (nsOf C M) (i : Nat) = cloN C (nsOf C M) a)) := fun i hi => by
    rw [Bool.eq_iff_iff, decide_eq_true_eq, and_sub, mrow, if_pos (by omega), Int.toNat_natCast, ← hav_clo hl, testBit_havN C _ hl, nsTo_len]
    exact ⟨fun h j hj => h.2 j hj (comN_lt hj), fun h => ⟨hi, fun j hj _ => h j hj⟩⟩
  have hcol : ∀ j, j < C → ((cloN C (nsOf C M) a).testBit j = decide (havN C (nsOf C M) a &&& mcol C (nsOf C M) (j : Nat) = havN C (nsOf C M) a)) := fun j hj => by
    rw [Bool.eq_iff_iff, decide_eq_true_eq, and_sub, cloN, testBit_comN]
    refine ⟨fun h i hi => ?_, fun h => ⟨hj, fun i hi hil => ?_⟩⟩
    · rw [testBit_mcol _ _ _ _ hl, mhas_at (havN_lt hl hi) hj]; exact h.2 i hi (havN_lt hl hi)
    · have := h i hi
      rwa [testBit_mcol _ _ _ _ hl, mhas_at hil hj] at this
  have HROW := Lib.hid hrow; have HCOL := Lib.hid hcol
  clear hrow hcol
  go_wp2_with fail
  refine wp_loopF (β := Nat) (fun i f => #[f 0, f 1, f 2, f 3, f 4, ptr q, .pointer (some ⟨g, 0, none⟩), f 7, f 8, f 9, f 10, f 11, f 12, f 13, f 14, f 15, f 16, f 17, f 18, f 19, f 20, f 21, .int .i64 (M.length : Int), .int .i64 (i : Int), f 24, f 25, f 26, f 27, f 28, f 29, f 30, f 31, f 32, f 33, f 34, f 35, f 36, f 37, f 38, f 39, f 40, f 41, f 42, f 43, f 44, f 45, f 46, f 47, f 48, f 49, f 50, f 51, f 52, f 53, f 54])
    (fun i ds V => i ≤ M.length ∧ ds = [] ∧ Below w6.heap.size w6 V) (fun i => M.length - i) 0 rfl ⟨Nat.zero_le _, rfl, Below.refl _ _⟩ ?_
  rintro i f ds v9 ⟨hi, rfl, hv⟩
  dsimp only at hi ⊢
  have hb := hv
  replace hT := hT.below hb; replace b2 := b2.trans (hb.mono b2.size); replace hm := hm.below hb; replace xr := xr.below hb; replace xc := xc.below hb; replace h6 := h6.below hb h6.lt
  clear hb
  by_cases hlt : i < M.length
  · have hx := HROW.out i hlt
    obtain ⟨x, hxx⟩ : ∃ x, x = (havN C (nsOf C M) a).testBit i := ⟨_, rfl⟩
    rw [← hxx] at hx
    have HX := Lib.hid hx.symm
    have HXX := Lib.hid hxx.symm
    clear hx hxx
    go_wp2_with fail
    refine wp_mix (fun V => Below v9.heap.size v9 V) 11 (by kernel_rfl) (by kernel_rfl) (Below.refl _ _).drew ?_
    have hr : Below v9.heap.size v9 v9.drew := (Below.refl _ _).drew
    obtain ⟨u4, hw⟩ : ∃ V, V = v9.drew := ⟨_, rfl⟩
    rw [← hw] at hr ⊢; clear hw
    have hb := hr
    have z0 := h6.cell 0
    have z1 := h6.cell 1
    replace hT := hT.below hb; replace b2 := b2.trans (hb.mono b2.size); replace hm := hm.below hb; replace xr := xr.below hb; replace xc := xc.below hb; replace h6 := h6.below hb h6.lt; replace hv := hv.trans (hb.mono hv.size)
    clear hb
    (refine m_q 0 (v := ?_) (by kernel_rfl) rfl rfl (fun W hW => ?_) ?_; rotate_left; (have zz0 := onB hW z0; have zz1 := onB hW z1; go_simp; first | done | with_reducible rfl); simp only [Act.put, List.setIfInBounds_toArray, List.set_cons_zero, List.set_cons_succ]); (refine m_q 1 (v := ?_) (by kernel_rfl) rfl rfl (fun W hW => ?_) ?_; rotate_left; (have zz0 := onB hW z0; have zz1 := onB hW z1; go_simp; first | done | with_reducible rfl); simp only [Act.put, List.setIfInBounds_toArray, List.set_cons_zero, List.set_cons_succ]); (refine m_q 2 (v := ?_) (by kernel_rfl) rfl rfl (fun W hW => ?_) ?_; rotate_left; (have zz0 := onB hW z0; have zz1 := onB hW z1; go_simp; first | done | with_reducible rfl); simp only [Act.put, List.setIfInBounds_toArray, List.set_cons_zero, List.set_cons_succ]); (refine m_q 4 (v := ?_) (by kernel_rfl) rfl rfl (fun W hW => ?_) ?_; rotate_left; (have zz0 := onB hW z0; have zz1 := onB hW z1; go_simp; first | done | with_reducible rfl); simp only [Act.put, List.setIfInBounds_toArray, List.set_cons_zero, List.set_cons_succ]); (refine m_q 5 (v := ?_) (by kernel_rfl) rfl rfl (fun W hW => ?_) ?_; rotate_left; (have zz0 := onB hW z0; have zz1 := onB hW z1; go_simp; first | done | with_reducible rfl); simp only [Act.put, List.setIfInBounds_toArray, List.set_cons_zero, List.set_cons_succ]); (refine m_q 6 (v := ?_) (by kernel_rfl) rfl rfl (fun W hW => ?_) ?_; rotate_left; (have zz0 := onB hW z0; have zz1 := onB hW z1; go_simp; first | done | with_reducible rfl); simp only [Act.put, List.setIfInBounds_toArray, List.set_cons_zero, List.set_cons_succ]); (refine m_q 7 (v := ?_) (by kernel_rfl) rfl rfl (fun W hW => ?_) ?_; rotate_left; (have zz0 := onB hW z0; have zz1 := onB hW z1; go_simp; first | done | with_reducible rfl); simp only [Act.put, List.setIfInBounds_toArray, List.set_cons_zero, List.set_cons_succ])
    have hh := has_any _ _ (i : Int) _ xr
    rw [hasB_nat, HXX.out] at hh
    have HH := hideC hh
    clear hh
    refine m_s1 3 (by kernel_rfl) rfl ?_
    go_wp2_with fail
    refine (HH.out).mono ?_
    rintro e u5 ⟨rfl, hb⟩
    replace hT := hT.below hb; replace b2 := b2.trans (hb.mono b2.size); replace hm := hm.below hb; replace xr := xr.below hb; replace xc := xc.below hb; replace h6 := h6.below hb h6.lt; replace hv := hv.trans (hb.mono hv.size); replace hr := hr.trans (hb.mono hr.size)
    clear hb
    go_wp2_with fail
    refine m_keep hr ?_
    clear HH
    refine m_s1 8 (by kernel_rfl) rfl ?_
    go_wp2_with fail
    refine (res3 (rfl) (row_any q C (nsOf C M) _ _ hm)).mono ?_
    rintro e u6 ⟨At8, nt8, ct8, rfl, t8, hb⟩
    replace hT := hT.below hb; replace b2 := b2.trans (hb.mono b2.size); replace hm := hm.below hb; replace xr := xr.below hb; replace xc := xc.below hb; replace h6 := h6.below hb h6.lt; replace hv := hv.trans (hb.mono hv.size); replace hr := hr.trans (hb.mono hr.size)
    clear hb
    go_wp2_with fail
    refine m_keep hr ?_
    refine m_s1 9 (by kernel_rfl) rfl ?_
    go_wp2_with fail
    refine (within_is HX.out xc t8).mono ?_
    rintro e u7 ⟨rfl, hb⟩
    replace hT := hT.below hb; replace b2 := b2.trans (hb.mono b2.size); replace hm := hm.below hb; replace xr := xr.below hb; replace xc := xc.below hb; replace h6 := h6.below hb h6.lt; replace hv := hv.trans (hb.mono hv.size); replace hr := hr.trans (hb.mono hr.size); replace t8 := t8.below hb
    clear hb
    go_wp2_with fail
    refine m_keep hr ?_
    (refine m_q 10 (v := ?_) (by kernel_rfl) rfl rfl (fun W hW => ?_) ?_; rotate_left; (go_simp; first | done | with_reducible rfl); simp only [Act.put, List.setIfInBounds_toArray, List.set_cons_zero, List.set_cons_succ])
    refine m_end (by kernel_rfl) ?_
    clear z0 z1
    go_wp2_with fail
    exact ⟨i + 1, rfl, ⟨by omega, by first | rfl | trivial, hv⟩, by omega⟩
  · obtain rfl : i = M.length := by omega
    go_wp2_with fail
    refine (cols_any q C (nsOf C M) _ hm).mono ?_
    rintro e w' ⟨rfl, rfl⟩
    go_wp2_with fail
    refine wp_loopF (β := Nat) (fun i f => #[f 0, f 1, f 2, f 3, f 4, ptr q, .pointer (some ⟨g, 0, none⟩), f 7, f 8, f 9, f 10, f 11, f 12, f 13, f 14, f 15, f 16, f 17, f 18, f 19, f 20, f 21, f 22, f 23, f 24, f 25, f 26, f 27, f 28, f 29, f 30, f 31, f 32, f 33, f 34, f 35, f 36, f 37, f 38, .int .i64 (C : Int), .int .i64 (i : Int), f 41, f 42, f 43, f 44, f 45, f 46, f 47, f 48, f 49, f 50, f 51, f 52, f 53, f 54])
      (fun i ds V => i ≤ C ∧ ds = [] ∧ Below v9.heap.size v9 V) (fun i => C - i) 0 rfl ⟨Nat.zero_le _, rfl, Below.refl _ _⟩ ?_
    clear hi hlt hv
    rintro i f ds y9 ⟨hi, rfl, hv⟩
    dsimp only at hi ⊢
    have hb := hv
    replace hT := hT.below hb; replace b2 := b2.trans (hb.mono b2.size); replace hm := hm.below hb; replace xr := xr.below hb; replace xc := xc.below hb; replace h6 := h6.below hb h6.lt
    clear hb
    by_cases hlt : i < C
    · have hx := HCOL.out i hlt
      obtain ⟨x, hxx⟩ : ∃ x, x = (cloN C (nsOf C M) a).testBit i := ⟨_, rfl⟩
      rw [← hxx] at hx
      have HX := Lib.hid hx.symm
      have HXX := Lib.hid hxx.symm
      clear hx hxx
      go_wp2_with fail
      refine wp_mix (fun V => Below y9.heap.size y9 V) 11 (by kernel_rfl) (by kernel_rfl) (Below.refl _ _).drew ?_
      have hr : Below y9.heap.size y9 y9.drew := (Below.refl _ _).drew
      obtain ⟨u4, hw⟩ : ∃ V, V = y9.drew := ⟨_, rfl⟩
      rw [← hw] at hr ⊢; clear hw
      have hb := hr
      have z0 := h6.cell 0
      have z1 := h6.cell 1
      replace hT := hT.below hb; replace b2 := b2.trans (hb.mono b2.size); replace hm := hm.below hb; replace xr := xr.below hb; replace xc := xc.below hb; replace h6 := h6.below hb h6.lt; replace hv := hv.trans (hb.mono hv.size)
      clear hb
      (refine m_q 0 (v := ?_) (by kernel_rfl) rfl rfl (fun W hW => ?_) ?_; rotate_left; (have zz0 := onB hW z0; have zz1 := onB hW z1; go_simp; first | done | with_reducible rfl); simp only [Act.put, List.setIfInBounds_toArray, List.set_cons_zero, List.set_cons_succ]); (refine m_q 1 (v := ?_) (by kernel_rfl) rfl rfl (fun W hW => ?_) ?_; rotate_left; (have zz0 := onB hW z0; have zz1 := onB hW z1; go_simp; first | done | with_reducible rfl); simp only [Act.put, List.setIfInBounds_toArray, List.set_cons_zero, List.set_cons_succ]); (refine m_q 2 (v := ?_) (by kernel_rfl) rfl rfl (fun W hW => ?_) ?_; rotate_left; (have zz0 := onB hW z0; have zz1 := onB hW z1; go_simp; first | done | with_reducible rfl); simp only [Act.put, List.setIfInBounds_toArray, List.set_cons_zero, List.set_cons_succ]); (refine m_q 4 (v := ?_) (by kernel_rfl) rfl rfl (fun W hW => ?_) ?_; rotate_left; (have zz0 := onB hW z0; have zz1 := onB hW z1; go_simp; first | done | with_reducible rfl); simp only [Act.put, List.setIfInBounds_toArray, List.set_cons_zero, List.set_cons_succ]); (refine m_q 5 (v := ?_) (by kernel_rfl) rfl rfl (fun W hW => ?_) ?_; rotate_left; (have zz0 := onB hW z0; have zz1 := onB hW z1; go_simp; first | done | with_reducible rfl); simp only [Act.put, List.setIfInBounds_toArray, List.set_cons_zero, List.set_cons_succ]); (refine m_q 6 (v := ?_) (by kernel_rfl) rfl rfl (fun W hW => ?_) ?_; rotate_left; (have zz0 := onB hW z0; have zz1 := onB hW z1; go_simp; first | done | with_reducible rfl); simp only [Act.put, List.setIfInBounds_toArray, List.set_cons_zero, List.set_cons_succ]); (refine m_q 7 (v := ?_) (by kernel_rfl) rfl rfl (fun W hW => ?_) ?_; rotate_left; (have zz0 := onB hW z0; have zz1 := onB hW z1; go_simp; first | done | with_reducible rfl); simp only [Act.put, List.setIfInBounds_toArray, List.set_cons_zero, List.set_cons_succ])
      have hh := has_any _ _ (i : Int) _ xc
      rw [hasB_nat, HXX.out] at hh
      have HH := hideC hh
      clear hh
      refine m_s1 3 (by kernel_rfl) rfl ?_
      go_wp2_with fail
      refine (HH.out).mono ?_
      rintro e u5 ⟨rfl, hb⟩
      replace hT := hT.below hb; replace b2 := b2.trans (hb.mono b2.size); replace hm := hm.below hb; replace xr := xr.below hb; replace xc := xc.below hb; replace h6 := h6.below hb h6.lt; replace hv := hv.trans (hb.mono hv.size); replace hr := hr.trans (hb.mono hr.size)
      clear hb
      go_wp2_with fail
      refine m_keep hr ?_
      clear HH
      refine m_s1 8 (by kernel_rfl) rfl ?_
      go_wp2_with fail
      refine (res3 (rfl) (col_any q C (nsOf C M) _ _ hm)).mono ?_
      rintro e u6 ⟨At8, nt8, ct8, rfl, t8, hb⟩
      replace hT := hT.below hb; replace b2 := b2.trans (hb.mono b2.size); replace hm := hm.below hb; replace xr := xr.below hb; replace xc := xc.below hb; replace h6 := h6.below hb h6.lt; replace hv := hv.trans (hb.mono hv.size); replace hr := hr.trans (hb.mono hr.size)
      clear hb
      go_wp2_with fail
      refine m_keep hr ?_
      refine m_s1 9 (by kernel_rfl) rfl ?_
      go_wp2_with fail
      refine (within_is HX.out xr t8).mono ?_
      rintro e u7 ⟨rfl, hb⟩
      replace hT := hT.below hb; replace b2 := b2.trans (hb.mono b2.size); replace hm := hm.below hb; replace xr := xr.below hb; replace xc := xc.below hb; replace h6 := h6.below hb h6.lt; replace hv := hv.trans (hb.mono hv.size); replace hr := hr.trans (hb.mono hr.size); replace t8 := t8.below hb
      clear hb
      go_wp2_with fail
      refine m_keep hr ?_
      (refine m_q 10 (v := ?_) (by kernel_rfl) rfl rfl (fun W hW => ?_) ?_; rotate_left; (go_simp; first | done | with_reducible rfl); simp only [Act.put, List.setIfInBounds_toArray, List.set_cons_zero, List.set_cons_succ])
      refine m_end (by kernel_rfl) ?_
      clear z0 z1
      go_wp2_with fail
      exact ⟨i + 1, rfl, ⟨by omega, by first | rfl | trivial, hv⟩, by omega⟩
    · obtain rfl : i = C := by omega
      go_wp2_with fail
      go_ret
      exact ⟨rfl, b2⟩
end Mix2
end Go.Proofs.YtiicgbbgiedknaaDoor
