import Derived.Test.YtjlcnbfkblmoeaaDoorLaw
namespace Go.Proofs.YtjlcnbfkblmoeaaDoor
open Go.RowKit

/-! Plain: products, transposed matrices and their bits. -/
/-- Bit j of row i. -/
def B (Ns : List Nat) (i j : Nat) : Bool := (Ns.getD i 0).testBit j
theorem B_out {Ns : List Nat} {i j : Nat} (h : B Ns i j = true) : i < Ns.length := by
  rcases Nat.lt_or_ge i Ns.length with h' | h'
  · exact h'
  · unfold B at h
    rw [List.getD_eq_getElem?_getD, List.getElem?_eq_none h'] at h
    simp at h
theorem B_ext {Ns Ms : List Nat} (hl : Ns.length = Ms.length) (h : ∀ i, i < Ns.length → ∀ j, B Ns i j = true ↔ B Ms i j = true) : Ns = Ms := by
  apply List.ext_getElem hl
  intro i h1 h2
  apply Nat.eq_of_testBit_eq
  intro j
  have := h i h1 j
  unfold B at this
  rw [getD_at h1, getD_at h2] at this
  exact Bool.eq_iff_iff.2 this
theorem B_prod {Ns Ms : List Nat} {R i j : Nat} : B (mprod Ns Ms R) i j = true ↔ i < R ∧ ∃ k, B Ns i k = true ∧ B Ms k j = true := by
  constructor
  · intro h
    have hi : i < R := by have := B_out h; rwa [mprod_len] at this
    exact ⟨hi, (mprod_bit hi).1 h⟩
  · rintro ⟨hi, h⟩; exact (mprod_bit hi).2 h
theorem B_in {C : Nat} {Ns : List Nat} (hin : rowsIn C Ns) {i j : Nat} (h : B Ns i j = true) : j < C := by
  have h1 := hin i (B_out h)
  unfold B at h
  have h2 := congrArg (fun x => x.testBit j) h1
  simp only [Nat.testBit_and, h, Bool.true_and, testBit_lowN, decide_eq_true_eq] at h2
  exact h2
theorem rowsIn_of {C : Nat} {Ns : List Nat} (h : ∀ i j, B Ns i j = true → j < C) : rowsIn C Ns := fun k _ => by
  apply Nat.eq_of_testBit_eq
  intro j
  rw [Nat.testBit_and, testBit_lowN]
  cases hj : (Ns.getD k 0).testBit j with
  | false => rfl
  | true => rw [decide_eq_true (h k j hj)]; rfl
theorem rowsIn_prod {C : Nat} {Ns Ms : List Nat} {R : Nat} (h : rowsIn C Ms) : rowsIn C (mprod Ns Ms R) := rowsIn_of fun i j hb => by
  obtain ⟨_, k, _, h2⟩ := B_prod.1 hb
  exact B_in h h2
theorem B_trans {C : Nat} {Ns : List Nat} (hR : Ns.length ≤ 4096) {i j : Nat} : B (mtrans C Ns C) i j = true ↔ i < C ∧ B Ns j i = true := by
  constructor
  · intro h
    have hi : i < C := by have := B_out h; rwa [mtrans_len] at this
    unfold B mtrans at h
    rw [getD_map_range hi, testBit_mcol _ _ _ _ hR] at h
    refine ⟨hi, ?_⟩
    unfold mhas at h
    rw [Bool.and_eq_true] at h
    simpa [B] using h.2
  · rintro ⟨hi, h⟩
    unfold B mtrans
    rw [getD_map_range hi, testBit_mcol _ _ _ _ hR, mhas_in (B_out h) hi]
    exact h
theorem rowsIn_trans {C : Nat} {Ns : List Nat} (hR : Ns.length ≤ 4096) : rowsIn Ns.length (mtrans C Ns C) := rowsIn_of fun _ _ h => B_out ((B_trans hR).1 h).2
theorem prod_assoc {Na Nb Nc : List Nat} {R C : Nat} (hb : Nb.length = C) : mprod (mprod Na Nb R) Nc R = mprod Na (mprod Nb Nc C) R := by
  apply B_ext (by rw [mprod_len, mprod_len])
  intro i hi j
  rw [B_prod, B_prod]
  constructor
  · rintro ⟨h0, k, h1, h2⟩
    obtain ⟨_, l, h3, h4⟩ := B_prod.1 h1
    exact ⟨h0, l, h3, B_prod.2 ⟨by rw [← hb]; exact B_out h4, k, h4, h2⟩⟩
  · rintro ⟨h0, l, h3, h4⟩
    obtain ⟨_, k, h1, h2⟩ := B_prod.1 h4
    exact ⟨h0, k, B_prod.2 ⟨h0, l, h3, h1⟩, h2⟩
theorem prod_turn {Na Nb : List Nat} {Cb Ca : Nat} (hA : Na.length ≤ 4096) (hB : Nb.length ≤ 4096) (ha : rowsIn Ca Na) : mprod (mtrans Cb Nb Cb) (mtrans Ca Na Ca) Cb = mtrans Cb (mprod Na Nb Na.length) Cb := by
  apply B_ext (by rw [mprod_len, mtrans_len])
  intro j hj i
  rw [B_prod, B_trans (by rw [mprod_len]; exact hA), B_prod]
  constructor
  · rintro ⟨h0, k, h1, h2⟩
    obtain ⟨_, h3⟩ := (B_trans hB).1 h1
    obtain ⟨_, h4⟩ := (B_trans hA).1 h2
    exact ⟨h0, B_out h4, k, h4, h3⟩
  · rintro ⟨h0, _, k, h4, h3⟩
    exact ⟨h0, k, (B_trans hB).2 ⟨h0, h3⟩, (B_trans hA).2 ⟨B_in ha h4, h4⟩⟩
theorem trans_trans {Ns : List Nat} {C : Nat} (hR : Ns.length ≤ 4096) (hC : C ≤ 4096) (hin : rowsIn C Ns) : mtrans Ns.length (mtrans C Ns C) Ns.length = Ns := by
  apply B_ext (by rw [mtrans_len])
  intro i hi j
  rw [mtrans_len] at hi
  rw [B_trans (by rw [mtrans_len]; exact hC), B_trans hR]
  constructor
  · rintro ⟨_, _, h⟩; exact h
  · intro h; exact ⟨hi, B_in hin h, h⟩
theorem or_self {Ns : List Nat} : mzip (· ||| ·) Ns Ns Ns.length = Ns := by
  apply B_ext (by rw [mzip_len])
  intro i hi j
  rw [mzip_len] at hi
  unfold B
  rw [mzip_get hi, Nat.testBit_or, Bool.or_self]
theorem within_refl (Ns : List Nat) : withinM Ns Ns := fun _ _ => Nat.and_self _
theorem equal_true (C : Nat) (Ns : List Nat) : decide (C = C ∧ Ns.length = Ns.length ∧ withinM Ns Ns ∧ withinM Ns Ns) = true := decide_eq_true ⟨rfl, rfl, within_refl _, within_refl _⟩
theorem within_true (C : Nat) (Ns : List Nat) : decide (C = C ∧ Ns.length = Ns.length ∧ withinM Ns Ns) = true := decide_eq_true ⟨rfl, rfl, within_refl _⟩

set_option maxRecDepth 100000 in
set_option maxHeartbeats 40000000 in
theorem algebra_walk (v v' v'' : Value) (R C R' C' R'' C'' : Nat) (zs zs' zs'' : List Int) (w : World) (hT : Tab w) (h : IsRaw w v R C zs) (h' : IsRaw w v' R' C' zs') (h'' : IsRaw w v'' R'' C'' zs'') :
    Calls Tryd.prog 9 #[v, v', v''] w fun e w' => e = .returned (.bool true) ∧ Below w.heap.size w w' := by
  have hbd := h.bd
  have hbd' := h'.bd
  have hbd'' := h''.bd
  have HIN := hideC h
  obtain ⟨r, c, A0, d0, hv, p1, p2, p3, p4, p5, p6, p7⟩ := id h
  obtain ⟨r', c', A0', d0', hv', p1', p2', p3', p4', p5', p6', p7'⟩ := id h'
  obtain ⟨r'', c'', A0'', d0'', hv'', p1'', p2'', p3'', p4'', p5'', p6'', p7''⟩ := id h''
  subst hv; subst hv'; subst hv''
  have HIN2 : Hid (IsRaw w (.agg #[.int .u8 c, .int .u8 c', .slice A0' zs'.length d0']) C C' zs') := hideC ⟨c, c', A0', d0', rfl, p2, p2', p4, p4', p5', p6', p7'⟩
  have HIN3 : Hid (IsRaw w (.agg #[.int .u8 c', .int .u8 c'', .slice A0'' zs''.length d0'']) C' C'' zs'') := hideC ⟨c', c'', A0'', d0'', rfl, p2', p2'', p4', p4'', p5'', p6'', p7''⟩
  clear h h' h'' p1 p2 p3 p4 p5 p6 p7 p1' p2' p3' p4' p5' p6' p7' p1'' p2'' p3'' p4'' p5'' p6'' p7''
  go_enter Tryd.func9, Tryd.ntmps9
  go_wp2_with fail
  refine absC3 fun W0 hX hY hZ hbel0 hz => ?_
  have HZ := Lib.hid hz; clear hz
  refine (awake_any W0 (hT.below hbel0)).mono ?_
  rintro e w1 ⟨rfl, hb1⟩
  have b1 := hbel0.trans (hb1.mono hbel0.size)
  have hX1 := hX.below hb1 hX.lt
  have hY1 := hY.below hb1 hY.lt
  have hZ1 := hZ.below hb1 hZ.lt
  have x1 := hX1.cell 1
  have y0 := hY1.cell 0
  have y1 := hY1.cell 1
  have z0 := hZ1.cell 0
  have fy := hY1.frozen 0
  have fz := hZ1.frozen 0
  clear hX hY hZ
  go_wp2_with fail
  have X2 := (hX1.far (p := ⟨w.heap.size + 1, 0, none⟩) (by show w.heap.size ≠ w.heap.size + 1; omega) (.int .u8 (c : Int))).far (p := ⟨w.heap.size + 1 + 1, 0, none⟩) (by show w.heap.size ≠ w.heap.size + 1 + 1; omega) (.int .u8 (c' : Int))
  have Y2 := (hY1.set_ 0 (.int .u8 (c : Int))).far (p := ⟨w.heap.size + 1 + 1, 0, none⟩) (by show w.heap.size + 1 ≠ w.heap.size + 1 + 1; omega) (.int .u8 (c' : Int))
  have Z2 := (hZ1.far (p := ⟨w.heap.size + 1, 0, none⟩) (by show w.heap.size + 2 ≠ w.heap.size + 1; omega) (.int .u8 (c : Int))).set_ 0 (.int .u8 (c' : Int))
  have b2 := (b1.setCell (p := ⟨w.heap.size + 1, 0, none⟩) (by show w.heap.size ≤ w.heap.size + 1; omega) (.int .u8 (c : Int))).setCell (p := ⟨w.heap.size + 1 + 1, 0, none⟩) (by show w.heap.size ≤ w.heap.size + 1 + 1; omega) (.int .u8 (c' : Int))
  obtain ⟨w2, hw2⟩ : ∃ w2, w2 = (w1.setCell ⟨w.heap.size + 1, 0, none⟩ (.int .u8 (c : Int))).setCell ⟨w.heap.size + 1 + 1, 0, none⟩ (.int .u8 (c' : Int)) := ⟨_, rfl⟩
  have X2 : Blk w2 w.heap.size 24 #[.int .u8 r, .int .u8 c, .slice A0 zs.length d0] := by rw [hw2]; exact X2
  have Y2 : Blk w2 (w.heap.size + 1) 24 #[.int .u8 c, .int .u8 c', .slice A0' zs'.length d0'] := by rw [hw2]; exact Y2
  have Z2 : Blk w2 (w.heap.size + 1 + 1) 24 #[.int .u8 c', .int .u8 c'', .slice A0'' zs''.length d0''] := by rw [hw2]; exact Z2
  rw [← hw2] at b2 ⊢
  clear hw2 x1 y0 y1 z0 fy fz hX1 hY1 hZ1 hb1 b1
  have x0 := X2.cell 0
  have x1 := X2.cell 1
  have x2 := X2.cell 2
  have y0 := Y2.cell 0
  have y1 := Y2.cell 1
  have y2 := Y2.cell 2
  have z0 := Z2.cell 0
  have z1 := Z2.cell 1
  have z2 := Z2.cell 2
  have HM1 := hideC (make_raw _ R C zs w2.drew (HIN.out.below b2.drew))
  refine wp_spine (fun W => Below w2.heap.size w2 W) [0, 3, 6] [1, 2, 4, 5, 7, 8, 9, 10, 11] (by kernel_rfl) (by kernel_rfl) ?_
  iterate 3 (refine wpE_op (v := ?_) rfl rfl (fun W hW => ?_) ?_; rotate_left; (have a1 := onB hW x0; have a2 := onB hW x1; have a3 := onB hW x2; have a4 := onB hW y0; have a5 := onB hW y1; have a6 := onB hW y2; have a7 := onB hW z0; have a8 := onB hW z1; have a9 := onB hW z2; go_simp; first | done | with_reducible rfl); simp only [Act.put, List.setIfInBounds_toArray, List.set_cons_zero, List.set_cons_succ])
  refine wpE_nil ⟨fun h => (by cases h), wpSp_op rfl (Below.refl _ _).drew ?_⟩
  go_wp2_with fail
  refine HM1.out.mono ?_
  rintro e w3 ⟨A3, c3, rfl, hI3, hb3⟩
  have k3 := (Below.refl w2.heap.size w2).drew.trans hb3
  have HL1 := hideC (matrix_raw C R A3 c3 _ w3 hI3 (by omega) (by omega))
  go_wp2_with fail
  refine nxt_op rfl k3 ?_
  go_wp2_with fail
  refine HL1.out.mono ?_
  rintro e w4 ⟨q1, rfl, hm1, _, hb4⟩
  have k4 := k3.trans (hb4.mono k3.size)
  have HM2 := hideC (make_raw _ C C' zs' w4 (HIN2.out.below (b2.trans (k4.mono b2.size))))
  go_wp2_with fail
  refine nxt_op rfl k4 ?_
  go_wp2_with fail
  refine HM2.out.mono ?_
  rintro e w5 ⟨A5, c5, rfl, hI5, hb5⟩
  have k5 := k4.trans (hb5.mono k4.size)
  have HL2 := hideC (matrix_raw C' C A5 c5 _ w5 hI5 (by omega) (by omega))
  go_wp2_with fail
  refine nxt_op rfl k5 ?_
  go_wp2_with fail
  refine HL2.out.mono ?_
  rintro e w6 ⟨q2, rfl, hm2, _, hb6⟩
  have k6 := k5.trans (hb6.mono k5.size)
  have HM3 := hideC (make_raw _ C' C'' zs'' w6 (HIN3.out.below (b2.trans (k6.mono b2.size))))
  go_wp2_with fail
  refine nxt_op rfl k6 ?_
  go_wp2_with fail
  refine HM3.out.mono ?_
  rintro e w7 ⟨A7, c7, rfl, hI7, hb7⟩
  have k7 := k6.trans (hb7.mono k6.size)
  have HL3 := hideC (matrix_raw C'' C' A7 c7 _ w7 hI7 (by omega) (by omega))
  go_wp2_with fail
  refine nxt_op rfl k7 ?_
  go_wp2_with fail
  refine HL3.out.mono ?_
  rintro e w8 ⟨q3, rfl, hm3, _, hb8⟩
  have k8 := k7.trans (hb8.mono k7.size)
  go_wp2_with fail
  refine nxt_op rfl k8 ?_
  go_wp2_with fail
  refine nxt_op rfl k8 ?_
  go_wp2_with fail
  refine nxt_op rfl k8 ?_
  go_wp2_with fail
  refine nxt_nil ?_
  have b8 := b2.trans (k8.mono b2.size)
  replace hm1 := hm1.below (hb5.trans ((hb6.trans ((hb7.trans (hb8.mono hb7.size)).mono hb6.size)).mono hb5.size))
  replace hm2 := hm2.below (hb7.trans (hb8.mono hb7.size))
  have hT8 := hT.below b8
  obtain ⟨Na, hNa⟩ : ∃ N, N = nsOf C (mat R C (rawF C zs)) := ⟨_, rfl⟩
  obtain ⟨Nb, hNb⟩ : ∃ N, N = nsOf C' (mat C C' (rawF C' zs')) := ⟨_, rfl⟩
  obtain ⟨Nc, hNc⟩ : ∃ N, N = nsOf C'' (mat C' C'' (rawF C'' zs'')) := ⟨_, rfl⟩
  have ra : rowsIn C Na := by rw [hNa]; exact rowsIn_nsOf _ _ (by omega)
  have rb' : rowsIn C' Nb := by rw [hNb]; exact rowsIn_nsOf _ _ (by omega)
  have la : Na.length = R := by rw [hNa, nsTo_len, mat_len]
  have lb : Nb.length = C := by rw [hNb, nsTo_len, mat_len]
  have lc : Nc.length = C' := by rw [hNc, nsTo_len, mat_len]
  rw [← hNa] at hm1; rw [← hNb] at hm2; rw [← hNc] at hm3
  subst la; subst lb; subst lc
  clear hNa hNb hNc hI3 hI5 hI7 k3 k4 k5 k6 k7 k8 hb3 hb4 hb5 hb6 hb7 hb8 HM1 HM2 HM3 HL1 HL2 HL3 x0 x1 x2 y0 y1 y2 z0 z1 z2 X2 Y2 Z2 b2 HIN HIN2 HIN3
  have HP1 := hideC (prod_any q1 q2 Nb.length Nc.length Na Nb w8 hm1 hm2 rfl ra hT8)
  go_wp2_with fail
  refine HP1.out.mono ?_
  rintro e v1 ⟨q4, rfl, hm4, c1'⟩
  have j1 := c1'
  have HP2 := hideC (prod_any q2 q3 Nc.length C'' Nb Nc v1 (hm2.below c1') (hm3.below c1') rfl rb' (hT8.below c1'))
  go_wp2_with fail
  refine HP2.out.mono ?_
  rintro e v2 ⟨q5, rfl, hm5, c2'⟩
  have j2 := j1.trans (c2'.mono j1.size)
  have HP3 := hideC (prod_any q4 q3 Nc.length C'' (mprod Na Nb Na.length) Nc v2 (hm4.below c2') (hm3.below j2) rfl (rowsIn_prod rb') (hT8.below j2))
  go_wp2_with fail
  refine HP3.out.mono ?_
  rintro e v3 ⟨q6, rfl, hm6, c3'⟩
  rw [mprod_len] at hm6
  have j3 := j2.trans (c3'.mono j2.size)
  have HP4 := hideC (prod_any q1 q5 Nb.length C'' Na (mprod Nb Nc Nb.length) v3 (hm1.below j3) (hm5.below c3') (by rw [mprod_len]) ra (hT8.below j3))
  go_wp2_with fail
  refine HP4.out.mono ?_
  rintro e v4 ⟨q7, rfl, hm7, c4'⟩
  have j4 := j3.trans (c4'.mono j3.size)
  have HT1 := hideC (trans_any q2 Nc.length Nb v4 (hm2.below j4))
  go_wp2_with fail
  refine HT1.out.mono ?_
  rintro e v5 ⟨q8, rfl, hm8, c5'⟩
  have j5 := j4.trans (c5'.mono j4.size)
  have HT2 := hideC (trans_any q1 Nb.length Na v5 (hm1.below j5))
  go_wp2_with fail
  refine HT2.out.mono ?_
  rintro e v6 ⟨q9, rfl, hm9, c6'⟩
  have j6 := j5.trans (c6'.mono j5.size)
  have HP5 := prod_any q8 q9 Nb.length Na.length (mtrans Nc.length Nb Nc.length) (mtrans Nb.length Na Nb.length) v6 (hm8.below c6') hm9 (by rw [mtrans_len]) (rowsIn_trans (by omega)) (hT8.below j6)
  rw [mtrans_len, prod_turn (by omega) (by omega) ra] at HP5
  have HP5 := hideC HP5
  go_wp2_with fail
  refine HP5.out.mono ?_
  rintro e v7 ⟨q10, rfl, hm10, c7'⟩
  have j7 := j6.trans (c7'.mono j6.size)
  have HO := orm_any q1 q1 Nb.length Na Na v7 (hm1.below j7) (hm1.below j7) rfl
  rw [or_self] at HO
  have HO := hideC HO
  go_wp2_with fail
  refine HO.out.mono ?_
  rintro e v8 ⟨q11, rfl, hm11, c8'⟩
  have j8 := j7.trans (c8'.mono j7.size)
  have HP6 := hideC (prod_any q11 q2 Nb.length Nc.length Na Nb v8 hm11 (hm2.below j8) rfl ra (hT8.below j8))
  go_wp2_with fail
  refine HP6.out.mono ?_
  rintro e v9 ⟨q12, rfl, hm12, c9'⟩
  have j9 := j8.trans (c9'.mono j8.size)
  have m6 := hm6.below (c4'.trans ((c5'.trans ((c6'.trans ((c7'.trans ((c8'.trans (c9'.mono c8'.size)).mono c7'.size)).mono c6'.size)).mono c5'.size)).mono c4'.size))
  have m7 := hm7.below (c5'.trans ((c6'.trans ((c7'.trans ((c8'.trans (c9'.mono c8'.size)).mono c7'.size)).mono c6'.size)).mono c5'.size))
  rw [prod_assoc rfl] at m6
  have HE1 := equalm_any q6 q7 C'' C'' _ _ v9 m6 m7
  rw [equal_true] at HE1
  have HE1 := hideC HE1
  go_wp2_with fail
  refine HE1.out.mono ?_
  rintro e v10 ⟨rfl, c10⟩
  have j10 := j9.trans (c10.mono j9.size)
  have m4 := hm4.below (c2'.trans ((c3'.trans ((c4'.trans ((c5'.trans ((c6'.trans ((c7'.trans ((c8'.trans ((c9'.trans (c10.mono c9'.size)).mono c8'.size)).mono c7'.size)).mono c6'.size)).mono c5'.size)).mono c4'.size)).mono c3'.size)).mono c2'.size))
  have HT3 := trans_any q4 Nc.length (mprod Na Nb Na.length) v10 m4
  rw [mprod_len] at HT3
  have HT3 := hideC HT3
  go_wp2_with fail
  refine HT3.out.mono ?_
  rintro e v11 ⟨q13, rfl, hm13, c11⟩
  have j11 := j10.trans (c11.mono j10.size)
  have m10 := hm10.below (c8'.trans ((c9'.trans ((c10.trans (c11.mono c10.size)).mono c9'.size)).mono c8'.size))
  have HE2 := equalm_any q10 q13 Na.length Na.length _ _ v11 m10 hm13
  rw [equal_true] at HE2
  have HE2 := hideC HE2
  go_wp2_with fail
  refine HE2.out.mono ?_
  rintro e v12 ⟨rfl, c12⟩
  have j12 := j11.trans (c12.mono j11.size)
  have HW := withinm_any q4 q12 Nc.length Nc.length _ _ v12 (m4.below (c11.trans (c12.mono c11.size))) (hm12.below (c10.trans ((c11.trans (c12.mono c11.size)).mono c10.size)))
  rw [within_true] at HW
  have HW := hideC HW
  go_wp2_with fail
  refine HW.out.mono ?_
  rintro e v13 ⟨rfl, c13⟩
  have j13 := j12.trans (c13.mono j12.size)
  have HT4 := hideC (trans_any q1 Nb.length Na v13 (hm1.below j13))
  go_wp2_with fail
  refine HT4.out.mono ?_
  rintro e v14 ⟨q14, rfl, hm14, c14⟩
  have j14 := j13.trans (c14.mono j13.size)
  have HT5 := trans_any q14 Na.length (mtrans Nb.length Na Nb.length) v14 hm14
  rw [mtrans_len, trans_trans (by omega) (by omega) ra] at HT5
  have HT5 := hideC HT5
  go_wp2_with fail
  refine HT5.out.mono ?_
  rintro e v15 ⟨q15, rfl, hm15, c15⟩
  have j15 := j14.trans (c15.mono j14.size)
  have HE3 := equalm_any q15 q1 Nb.length Nb.length _ _ v15 hm15 (hm1.below j15)
  rw [equal_true] at HE3
  have HE3 := hideC HE3
  go_wp2_with fail
  refine HE3.out.mono ?_
  rintro e v16 ⟨rfl, c16⟩
  go_wp2_with fail
  go_ret
  exact ⟨rfl, b8.trans ((j15.trans (c16.mono j15.size)).mono b8.size)⟩
end Go.Proofs.YtjlcnbfkblmoeaaDoor
