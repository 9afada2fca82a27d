/-
  The laws ClosureCloses and ClosureConcepts.
-/
import Derived.Test.YtiicgbbgiedknaaDoorClo16
namespace Go.Proofs.YtiicgbbgiedknaaDoor
open Go.RowKit

namespace Mix2
set_option maxRecDepth 100000 in
set_option maxHeartbeats 8000000 in
theorem closes_walk (v : Value) (R C : Nat) (zs : List Int) (a b : Nat) (w : World) (hT : Tab w) (h : IsRaw w v R C zs) (ha : a ≤ 255) (hb0 : b ≤ 255) :
    Calls Tryd.prog 6 #[v, .int .u8 a, .int .u8 b] w fun e w' => e = .returned (.bool true) ∧ Below w.heap.size w w' := by
  have hbd := h.bd
  obtain ⟨r, c, A0, d0, hv, _⟩ := id h
  subst hv
  have HIN := hideC h; clear h
  go_enter Tryd.func6, Tryd.ntmps6
  go_wp2_with fail
  refine absC1 fun W0 hX hbel0 hz => ?_
  clear hz
  refine (Mix2.awake_any45 W0 (hT.below hbel0)).mono ?_
  rintro e w1 ⟨rfl, hb1⟩
  have b1 := hbel0.trans (hb1.mono hbel0.size)
  have hX1 := hX.below hb1 hX.lt
  have x0 := hX1.cell 0
  have x1 := hX1.cell 1
  have x2 := hX1.cell 2
  have HM := hideC (make_raw _ R C zs w1 (HIN.out.below b1))
  go_wp2_with fail
  refine HM.out.mono ?_
  rintro e w2 ⟨A2, c2, rfl, hI, hb2⟩
  have b2 := b1.trans (hb2.mono b1.size)
  obtain ⟨M, hMd⟩ : ∃ M, M = rawM R C zs := ⟨_, rfl⟩
  have hML : M.length = R := by rw [hMd, mat_len]
  rw [← hMd] at hI
  subst hML
  obtain ⟨hR5, hC5⟩ := hbd
  have hl : (nsOf C M).length ≤ 4096 := by rw [nsTo_len]; omega
  clear hMd HM HIN hX hX1 hbel0 hb1 hb2 b1 x0 x1 x2
  replace hT := hT.below b2
  go_wp2_with fail
  refine absC1 fun w3 hY hb hz => ?_
  clear hz
  replace hI := hI.below hb; replace hT := hT.below hb; replace b2 := b2.trans (hb.mono b2.size)
  clear hb
  refine (matrixl_any C A2 c2 M w3 hI (by omega) (by omega)).mono ?_
  rintro e u1 ⟨q, rfl, hm, _, hb⟩
  replace hI := hI.below hb; replace hT := hT.below hb; replace b2 := b2.trans (hb.mono b2.size); replace hY := hY.below hb hY.lt
  clear hb
  have hor := u8_or_nat a b (by omega) (by omega)
  have hab : a ||| b < 2 ^ 64 := Nat.or_lt_two_pow (by omega) (by omega)
  go_wp2_with fail
  refine (res3 (rfl) (set_any45 a (by omega) _)).mono ?_
  rintro e u2 ⟨As1, ns1, cs1, rfl, s1, hb⟩
  replace hI := hI.below hb; replace hT := hT.below hb; replace b2 := b2.trans (hb.mono b2.size); replace hY := hY.below hb hY.lt; replace hm := hm.below hb
  clear hb
  go_wp2_with fail
  refine (res3 (rfl) (set_any45 (a ||| b) hab _)).mono ?_
  rintro e u3 ⟨As2, ns2, cs2, rfl, s2, hb⟩
  replace hI := hI.below hb; replace hT := hT.below hb; replace b2 := b2.trans (hb.mono b2.size); replace hY := hY.below hb hY.lt; replace hm := hm.below hb; replace s1 := s1.below hb
  clear hb
  have e1 : decide ((a &&& lowN C) &&& cloN C (nsOf C M) a = (a &&& lowN C)) = true := decide_eq_true (and_sub.2 fun j hj => clo_sup hl (low_lt hj) (by rw [Nat.testBit_and, Bool.and_eq_true] at hj; exact hj.1))
  have e2 : decide (cloN C (nsOf C M) a &&& cloN C (nsOf C M) (a ||| b) = cloN C (nsOf C M) a) = true := decide_eq_true (and_sub.2 fun j hj => clo_mono hl (fun i _ hi => by rw [Nat.testBit_or, hi, Bool.true_or]) hj)
  have H1 := Lib.hid e1; have H2 := Lib.hid e2
  clear e1 e2 hor
  go_wp2_with fail
  refine abs2 fun w9 h9 h10 hb hz => ?_
  clear hz
  replace hI := hI.below hb; replace hT := hT.below hb; replace b2 := b2.trans (hb.mono b2.size); replace hY := hY.below hb hY.lt; replace hm := hm.below hb; replace s1 := s1.below hb; replace s2 := s2.below hb
  clear hb
  go_wp2_with fail
  refine wp_mix (fun V => Below w9.heap.size w9 V) 10 (by kernel_rfl) (by kernel_rfl) (Below.refl _ _).drew ?_
  have hr : Below w9.heap.size w9 w9.drew := (Below.refl _ _).drew
  obtain ⟨u4, hw⟩ : ∃ V, V = w9.drew := ⟨_, rfl⟩
  rw [← hw] at hr ⊢; clear hw
  have hb := hr
  have z9 := h9.cell 0
  have z10 := h10.cell 0
  replace hI := hI.below hb; replace hT := hT.below hb; replace b2 := b2.trans (hb.mono b2.size); replace hY := hY.below hb hY.lt; replace hm := hm.below hb; replace s1 := s1.below hb; replace s2 := s2.below hb; replace h9 := h9.below hb h9.lt; replace h10 := h10.below hb h10.lt
  clear hb
  (refine m_q 0 (v := ?_) (by kernel_rfl) rfl rfl (fun W hW => ?_) ?_; rotate_left; (have zz9 := onB hW z9; have zz10 := onB hW z10; go_simp; first | done | with_reducible rfl); simp only [Act.put, List.setIfInBounds_toArray, List.set_cons_zero, List.set_cons_succ]); (refine m_q 1 (v := ?_) (by kernel_rfl) rfl rfl (fun W hW => ?_) ?_; rotate_left; (have zz9 := onB hW z9; have zz10 := onB hW z10; go_simp; first | done | with_reducible rfl); simp only [Act.put, List.setIfInBounds_toArray, List.set_cons_zero, List.set_cons_succ]); (refine m_q 3 (v := ?_) (by kernel_rfl) rfl rfl (fun W hW => ?_) ?_; rotate_left; (have zz9 := onB hW z9; have zz10 := onB hW z10; go_simp; first | done | with_reducible rfl); simp only [Act.put, List.setIfInBounds_toArray, List.set_cons_zero, List.set_cons_succ]); (refine m_q 4 (v := ?_) (by kernel_rfl) rfl rfl (fun W hW => ?_) ?_; rotate_left; (have zz9 := onB hW z9; have zz10 := onB hW z10; go_simp; first | done | with_reducible rfl); simp only [Act.put, List.setIfInBounds_toArray, List.set_cons_zero, List.set_cons_succ])
  have hu := Below.refl u4.heap.size u4
  refine m_join (β := Nat × Nat × Option Addr × Nat × Nat × Option Addr × Nat × Nat) #[true, true, true, true, true, true, true, true, false, false] 2
    (fun x f => #[f 0, .int .u8 (a : Int), .int .u8 (b : Int), f 3, f 4, f 5, f 6, .pointer (some ⟨w2.heap.size, 0, none⟩), ptr q, .pointer (some ⟨u3.heap.size, 0, none⟩), .pointer (some ⟨u3.heap.size + 1, 0, none⟩), .pointer (some ⟨x.1, 0, none⟩), .pointer (some ⟨x.2.1, 0, none⟩), f 13, f 14, f 15, f 16, f 17, f 18, f 19, f 20, f 21, f 22, f 23, f 24, f 25, f 26, f 27, f 28, f 29, f 30, .agg #[.slice x.2.2.1 x.2.2.2.1 x.2.2.2.2.1], f 32, f 33, .agg #[.slice x.2.2.2.2.2.1 x.2.2.2.2.2.2.1 x.2.2.2.2.2.2.2], f 35, f 36, f 37, f 38, f 39, f 40, f 41, f 42, f 43, f 44, f 45, f 46, f 47, f 48, f 49, f 50, f 51, f 52, f 53, f 54, f 55, f 56, f 57, f 58, f 59, f 60, f 61, f 62])
    (fun x ds V => ds = [] ∧ Below w9.heap.size w9 V ∧ Below u4.heap.size u4 V ∧ u4.heap.size ≤ x.1 ∧ u4.heap.size ≤ x.2.1 ∧ x.1 ≠ x.2.1 ∧ Blk V x.1 25 #[.slice none 0 0] ∧ Blk V x.2.1 25 #[.slice none 0 0] ∧ IsSet V (.slice x.2.2.1 x.2.2.2.1 x.2.2.2.2.1) (cloN C (nsOf C M) a) ∧ IsSet V (.slice x.2.2.2.2.2.1 x.2.2.2.2.2.2.1 x.2.2.2.2.2.2.2) (cloN C (nsOf C M) (a ||| b))) ?lf1 ?tr1
  case tr1 =>
    intro HL
    refine m_s3 2 6 7 (by kernel_rfl) rfl rfl rfl ?_ ?_ ?_
    · go_wp2_with fail
      refine (res3 (rfl) (close_any _ C (nsOf C M) _ a _ hm.mv s1 hT)).mono ?_
      rintro e u1021 ⟨At2, nt2, ct2, rfl, t2, hb⟩
      replace hI := hI.below hb; replace hT := hT.below hb; replace b2 := b2.trans (hb.mono b2.size); replace hY := hY.below hb hY.lt; replace hm := hm.below hb; replace s1 := s1.below hb; replace s2 := s2.below hb; replace h9 := h9.below hb h9.lt; replace h10 := h10.below hb h10.lt; replace hr := hr.trans (hb.mono hr.size); replace hu := hu.trans (hb.mono hu.size)
      clear hb
      go_wp2_with fail
      refine m_keep hr ?_
      refine m_s3 5 6 7 (by kernel_rfl) rfl rfl rfl ?_ ?_ ?_
      · go_wp2_with fail
        refine (res3 (rfl) (close_any _ C (nsOf C M) _ (a ||| b) _ hm.mv s2 hT)).mono ?_
        rintro e u1041 ⟨At5, nt5, ct5, rfl, t5, hb⟩
        replace hI := hI.below hb; replace hT := hT.below hb; replace b2 := b2.trans (hb.mono b2.size); replace hY := hY.below hb hY.lt; replace hm := hm.below hb; replace s1 := s1.below hb; replace s2 := s2.below hb; replace h9 := h9.below hb h9.lt; replace h10 := h10.below hb h10.lt; replace hr := hr.trans (hb.mono hr.size); replace hu := hu.trans (hb.mono hu.size); replace t2 := t2.below hb
        clear hb
        go_wp2_with fail
        refine m_keep hr ?_
        refine m_s2 6 7 (by kernel_rfl) rfl rfl ?_ ?_
        · go_wp2_with fail
          have lo_B6 := hu.size
          refine absN fun u1061 B6 hb hz => ?_
          clear hz
          replace hI := hI.below hb; replace hT := hT.below hb; replace b2 := b2.trans (hb.mono b2.size); replace hY := hY.below hb hY.lt; replace hm := hm.below hb; replace s1 := s1.below hb; replace s2 := s2.below hb; replace h9 := h9.below hb h9.lt; replace h10 := h10.below hb h10.lt; replace hr := hr.trans (hb.mono hr.size); replace hu := hu.trans (hb.mono hu.size); replace t2 := t2.below hb; replace t5 := t5.below hb
          clear hb
          refine m_keep hr ?_
          obtain ⟨g6, hg6⟩ : ∃ g, g = u1041.heap.size := ⟨_, rfl⟩; replace lo_B6 : u4.heap.size ≤ g6 := by rw [hg6]; exact lo_B6
          rw [← hg6] at B6  ⊢; clear hg6
          refine m_s1 7 (by kernel_rfl) rfl ?_
          go_wp2_with fail
          have lo_B7 := hu.size
          have lt_B6_B7 := B6.lt
          refine absN fun u1081 B7 hb hz => ?_
          clear hz
          replace hI := hI.below hb; replace hT := hT.below hb; replace b2 := b2.trans (hb.mono b2.size); replace hY := hY.below hb hY.lt; replace hm := hm.below hb; replace s1 := s1.below hb; replace s2 := s2.below hb; replace h9 := h9.below hb h9.lt; replace h10 := h10.below hb h10.lt; replace hr := hr.trans (hb.mono hr.size); replace hu := hu.trans (hb.mono hu.size); replace t2 := t2.below hb; replace t5 := t5.below hb; replace B6 := B6.below hb B6.lt
          clear hb
          refine m_keep hr ?_
          obtain ⟨g7, hg7⟩ : ∃ g, g = u1061.heap.size := ⟨_, rfl⟩; replace lo_B7 : u4.heap.size ≤ g7 := by rw [hg7]; exact lo_B7
          rw [← hg7] at B7 lt_B6_B7 ⊢; clear hg7
          exact HL ⟨g6, g7, At2, nt2, ct2, At5, nt5, ct5⟩ _ _ _ (by kernel_rfl) rfl ⟨by first | rfl | trivial, hr, hu, lo_B6, lo_B7, by show g6 ≠ g7; omega, B6, B7, t2, t5⟩
        · go_wp2_with fail
          have lo_B7 := hu.size
          refine absN fun u1101 B7 hb hz => ?_
          clear hz
          replace hI := hI.below hb; replace hT := hT.below hb; replace b2 := b2.trans (hb.mono b2.size); replace hY := hY.below hb hY.lt; replace hm := hm.below hb; replace s1 := s1.below hb; replace s2 := s2.below hb; replace h9 := h9.below hb h9.lt; replace h10 := h10.below hb h10.lt; replace hr := hr.trans (hb.mono hr.size); replace hu := hu.trans (hb.mono hu.size); replace t2 := t2.below hb; replace t5 := t5.below hb
          clear hb
          refine m_keep hr ?_
          obtain ⟨g7, hg7⟩ : ∃ g, g = u1041.heap.size := ⟨_, rfl⟩; replace lo_B7 : u4.heap.size ≤ g7 := by rw [hg7]; exact lo_B7
          rw [← hg7] at B7  ⊢; clear hg7
          refine m_s1 6 (by kernel_rfl) rfl ?_
          go_wp2_with fail
          have lo_B6 := hu.size
          have lt_B7_B6 := B7.lt
          refine absN fun u1121 B6 hb hz => ?_
          clear hz
          replace hI := hI.below hb; replace hT := hT.below hb; replace b2 := b2.trans (hb.mono b2.size); replace hY := hY.below hb hY.lt; replace hm := hm.below hb; replace s1 := s1.below hb; replace s2 := s2.below hb; replace h9 := h9.below hb h9.lt; replace h10 := h10.below hb h10.lt; replace hr := hr.trans (hb.mono hr.size); replace hu := hu.trans (hb.mono hu.size); replace t2 := t2.below hb; replace t5 := t5.below hb; replace B7 := B7.below hb B7.lt
          clear hb
          refine m_keep hr ?_
          obtain ⟨g6, hg6⟩ : ∃ g, g = u1101.heap.size := ⟨_, rfl⟩; replace lo_B6 : u4.heap.size ≤ g6 := by rw [hg6]; exact lo_B6
          rw [← hg6] at B6 lt_B7_B6 ⊢; clear hg6
          exact HL ⟨g6, g7, At2, nt2, ct2, At5, nt5, ct5⟩ _ _ _ (by kernel_rfl) rfl ⟨by first | rfl | trivial, hr, hu, lo_B6, lo_B7, by show g6 ≠ g7; omega, B6, B7, t2, t5⟩
      · go_wp2_with fail
        have lo_B6 := hu.size
        refine absN fun u1141 B6 hb hz => ?_
        clear hz
        replace hI := hI.below hb; replace hT := hT.below hb; replace b2 := b2.trans (hb.mono b2.size); replace hY := hY.below hb hY.lt; replace hm := hm.below hb; replace s1 := s1.below hb; replace s2 := s2.below hb; replace h9 := h9.below hb h9.lt; replace h10 := h10.below hb h10.lt; replace hr := hr.trans (hb.mono hr.size); replace hu := hu.trans (hb.mono hu.size); replace t2 := t2.below hb
        clear hb
        refine m_keep hr ?_
        obtain ⟨g6, hg6⟩ : ∃ g, g = u1021.heap.size := ⟨_, rfl⟩; replace lo_B6 : u4.heap.size ≤ g6 := by rw [hg6]; exact lo_B6
        rw [← hg6] at B6  ⊢; clear hg6
        refine m_s2 5 7 (by kernel_rfl) rfl rfl ?_ ?_
        · go_wp2_with fail
          refine (res3 (rfl) (close_any _ C (nsOf C M) _ (a ||| b) _ hm.mv s2 hT)).mono ?_
          rintro e u1161 ⟨At5, nt5, ct5, rfl, t5, hb⟩
          replace hI := hI.below hb; replace hT := hT.below hb; replace b2 := b2.trans (hb.mono b2.size); replace hY := hY.below hb hY.lt; replace hm := hm.below hb; replace s1 := s1.below hb; replace s2 := s2.below hb; replace h9 := h9.below hb h9.lt; replace h10 := h10.below hb h10.lt; replace hr := hr.trans (hb.mono hr.size); replace hu := hu.trans (hb.mono hu.size); replace t2 := t2.below hb; replace B6 := B6.below hb B6.lt
          clear hb
          go_wp2_with fail
          refine m_keep hr ?_
          refine m_s1 7 (by kernel_rfl) rfl ?_
          go_wp2_with fail
          have lo_B7 := hu.size
          have lt_B6_B7 := B6.lt
          refine absN fun u1181 B7 hb hz => ?_
          clear hz
          replace hI := hI.below hb; replace hT := hT.below hb; replace b2 := b2.trans (hb.mono b2.size); replace hY := hY.below hb hY.lt; replace hm := hm.below hb; replace s1 := s1.below hb; replace s2 := s2.below hb; replace h9 := h9.below hb h9.lt; replace h10 := h10.below hb h10.lt; replace hr := hr.trans (hb.mono hr.size); replace hu := hu.trans (hb.mono hu.size); replace t2 := t2.below hb; replace B6 := B6.below hb B6.lt; replace t5 := t5.below hb
          clear hb
          refine m_keep hr ?_
          obtain ⟨g7, hg7⟩ : ∃ g, g = u1161.heap.size := ⟨_, rfl⟩; replace lo_B7 : u4.heap.size ≤ g7 := by rw [hg7]; exact lo_B7
          rw [← hg7] at B7 lt_B6_B7 ⊢; clear hg7
          exact HL ⟨g6, g7, At2, nt2, ct2, At5, nt5, ct5⟩ _ _ _ (by kernel_rfl) rfl ⟨by first | rfl | trivial, hr, hu, lo_B6, lo_B7, by show g6 ≠ g7; omega, B6, B7, t2, t5⟩
        · go_wp2_with fail
          have lo_B7 := hu.size
          have lt_B6_B7 := B6.lt
          refine absN fun u1201 B7 hb hz => ?_
          clear hz
          replace hI := hI.below hb; replace hT := hT.below hb; replace b2 := b2.trans (hb.mono b2.size); replace hY := hY.below hb hY.lt; replace hm := hm.below hb; replace s1 := s1.below hb; replace s2 := s2.below hb; replace h9 := h9.below hb h9.lt; replace h10 := h10.below hb h10.lt; replace hr := hr.trans (hb.mono hr.size); replace hu := hu.trans (hb.mono hu.size); replace t2 := t2.below hb; replace B6 := B6.below hb B6.lt
          clear hb
          refine m_keep hr ?_
          obtain ⟨g7, hg7⟩ : ∃ g, g = u1141.heap.size := ⟨_, rfl⟩; replace lo_B7 : u4.heap.size ≤ g7 := by rw [hg7]; exact lo_B7
          rw [← hg7] at B7 lt_B6_B7 ⊢; clear hg7
          refine m_s1 5 (by kernel_rfl) rfl ?_
          go_wp2_with fail
          refine (res3 (rfl) (close_any _ C (nsOf C M) _ (a ||| b) _ hm.mv s2 hT)).mono ?_
          rintro e u1221 ⟨At5, nt5, ct5, rfl, t5, hb⟩
          replace hI := hI.below hb; replace hT := hT.below hb; replace b2 := b2.trans (hb.mono b2.size); replace hY := hY.below hb hY.lt; replace hm := hm.below hb; replace s1 := s1.below hb; replace s2 := s2.below hb; replace h9 := h9.below hb h9.lt; replace h10 := h10.below hb h10.lt; replace hr := hr.trans (hb.mono hr.size); replace hu := hu.trans (hb.mono hu.size); replace t2 := t2.below hb; replace B6 := B6.below hb B6.lt; replace B7 := B7.below hb B7.lt
          clear hb
          go_wp2_with fail
          refine m_keep hr ?_
          exact HL ⟨g6, g7, At2, nt2, ct2, At5, nt5, ct5⟩ _ _ _ (by kernel_rfl) rfl ⟨by first | rfl | trivial, hr, hu, lo_B6, lo_B7, by show g6 ≠ g7; omega, B6, B7, t2, t5⟩
      · go_wp2_with fail
        have lo_B7 := hu.size
        refine absN fun u1241 B7 hb hz => ?_
        clear hz
        replace hI := hI.below hb; replace hT := hT.below hb; replace b2 := b2.trans (hb.mono b2.size); replace hY := hY.below hb hY.lt; replace hm := hm.below hb; replace s1 := s1.below hb; replace s2 := s2.below hb; replace h9 := h9.below hb h9.lt; replace h10 := h10.below hb h10.lt; replace hr := hr.trans (hb.mono hr.size); replace hu := hu.trans (hb.mono hu.size); replace t2 := t2.below hb
        clear hb
        refine m_keep hr ?_
        obtain ⟨g7, hg7⟩ : ∃ g, g = u1021.heap.size := ⟨_, rfl⟩; replace lo_B7 : u4.heap.size ≤ g7 := by rw [hg7]; exact lo_B7
        rw [← hg7] at B7  ⊢; clear hg7
        refine m_s2 5 6 (by kernel_rfl) rfl rfl ?_ ?_
        · go_wp2_with fail
          refine (res3 (rfl) (close_any _ C (nsOf C M) _ (a ||| b) _ hm.mv s2 hT)).mono ?_
          rintro e u1261 ⟨At5, nt5, ct5, rfl, t5, hb⟩
          replace hI := hI.below hb; replace hT := hT.below hb; replace b2 := b2.trans (hb.mono b2.size); replace hY := hY.below hb hY.lt; replace hm := hm.below hb; replace s1 := s1.below hb; replace s2 := s2.below hb; replace h9 := h9.below hb h9.lt; replace h10 := h10.below hb h10.lt; replace hr := hr.trans (hb.mono hr.size); replace hu := hu.trans (hb.mono hu.size); replace t2 := t2.below hb; replace B7 := B7.below hb B7.lt
          clear hb
          go_wp2_with fail
          refine m_keep hr ?_
          refine m_s1 6 (by kernel_rfl) rfl ?_
          go_wp2_with fail
          have lo_B6 := hu.size
          have lt_B7_B6 := B7.lt
          refine absN fun u1281 B6 hb hz => ?_
          clear hz
          replace hI := hI.below hb; replace hT := hT.below hb; replace b2 := b2.trans (hb.mono b2.size); replace hY := hY.below hb hY.lt; replace hm := hm.below hb; replace s1 := s1.below hb; replace s2 := s2.below hb; replace h9 := h9.below hb h9.lt; replace h10 := h10.below hb h10.lt; replace hr := hr.trans (hb.mono hr.size); replace hu := hu.trans (hb.mono hu.size); replace t2 := t2.below hb; replace B7 := B7.below hb B7.lt; replace t5 := t5.below hb
          clear hb
          refine m_keep hr ?_
          obtain ⟨g6, hg6⟩ : ∃ g, g = u1261.heap.size := ⟨_, rfl⟩; replace lo_B6 : u4.heap.size ≤ g6 := by rw [hg6]; exact lo_B6
          rw [← hg6] at B6 lt_B7_B6 ⊢; clear hg6
          exact HL ⟨g6, g7, At2, nt2, ct2, At5, nt5, ct5⟩ _ _ _ (by kernel_rfl) rfl ⟨by first | rfl | trivial, hr, hu, lo_B6, lo_B7, by show g6 ≠ g7; omega, B6, B7, t2, t5⟩
        · go_wp2_with fail
          have lo_B6 := hu.size
          have lt_B7_B6 := B7.lt
          refine absN fun u1301 B6 hb hz => ?_
          clear hz
          replace hI := hI.below hb; replace hT := hT.below hb; replace b2 := b2.trans (hb.mono b2.size); replace hY := hY.below hb hY.lt; replace hm := hm.below hb; replace s1 := s1.below hb; replace s2 := s2.below hb; replace h9 := h9.below hb h9.lt; replace h10 := h10.below hb h10.lt; replace hr := hr.trans (hb.mono hr.size); replace hu := hu.trans (hb.mono hu.size); replace t2 := t2.below hb; replace B7 := B7.below hb B7.lt
          clear hb
          refine m_keep hr ?_
          obtain ⟨g6, hg6⟩ : ∃ g, g = u1241.heap.size := ⟨_, rfl⟩; replace lo_B6 : u4.heap.size ≤ g6 := by rw [hg6]; exact lo_B6
          rw [← hg6] at B6 lt_B7_B6 ⊢; clear hg6
          refine m_s1 5 (by kernel_rfl) rfl ?_
          go_wp2_with fail
          refine (res3 (rfl) (close_any _ C (nsOf C M) _ (a ||| b) _ hm.mv s2 hT)).mono ?_
          rintro e u1321 ⟨At5, nt5, ct5, rfl, t5, hb⟩
          replace hI := hI.below hb; replace hT := hT.below hb; replace b2 := b2.trans (hb.mono b2.size); replace hY := hY.below hb hY.lt; replace hm := hm.below hb; replace s1 := s1.below hb; replace s2 := s2.below hb; replace h9 := h9.below hb h9.lt; replace h10 := h10.below hb h10.lt; replace hr := hr.trans (hb.mono hr.size); replace hu := hu.trans (hb.mono hu.size); replace t2 := t2.below hb; replace B7 := B7.below hb B7.lt; replace B6 := B6.below hb B6.lt
          clear hb
          go_wp2_with fail
          refine m_keep hr ?_
          exact HL ⟨g6, g7, At2, nt2, ct2, At5, nt5, ct5⟩ _ _ _ (by kernel_rfl) rfl ⟨by first | rfl | trivial, hr, hu, lo_B6, lo_B7, by show g6 ≠ g7; omega, B6, B7, t2, t5⟩
    · go_wp2_with fail
      have lo_B6 := hu.size
      refine absN fun u1341 B6 hb hz => ?_
      clear hz
      replace hI := hI.below hb; replace hT := hT.below hb; replace b2 := b2.trans (hb.mono b2.size); replace hY := hY.below hb hY.lt; replace hm := hm.below hb; replace s1 := s1.below hb; replace s2 := s2.below hb; replace h9 := h9.below hb h9.lt; replace h10 := h10.below hb h10.lt; replace hr := hr.trans (hb.mono hr.size); replace hu := hu.trans (hb.mono hu.size)
      clear hb
      refine m_keep hr ?_
      obtain ⟨g6, hg6⟩ : ∃ g, g = u4.heap.size := ⟨_, rfl⟩; replace lo_B6 : u4.heap.size ≤ g6 := by rw [hg6]; exact lo_B6
      rw [← hg6] at B6  ⊢; clear hg6
      refine m_s2 2 7 (by kernel_rfl) rfl rfl ?_ ?_
      · go_wp2_with fail
        refine (res3 (rfl) (close_any _ C (nsOf C M) _ a _ hm.mv s1 hT)).mono ?_
        rintro e u1361 ⟨At2, nt2, ct2, rfl, t2, hb⟩
        replace hI := hI.below hb; replace hT := hT.below hb; replace b2 := b2.trans (hb.mono b2.size); replace hY := hY.below hb hY.lt; replace hm := hm.below hb; replace s1 := s1.below hb; replace s2 := s2.below hb; replace h9 := h9.below hb h9.lt; replace h10 := h10.below hb h10.lt; replace hr := hr.trans (hb.mono hr.size); replace hu := hu.trans (hb.mono hu.size); replace B6 := B6.below hb B6.lt
        clear hb
        go_wp2_with fail
        refine m_keep hr ?_
        refine m_s2 5 7 (by kernel_rfl) rfl rfl ?_ ?_
        · go_wp2_with fail
          refine (res3 (rfl) (close_any _ C (nsOf C M) _ (a ||| b) _ hm.mv s2 hT)).mono ?_
          rintro e u1381 ⟨At5, nt5, ct5, rfl, t5, hb⟩
          replace hI := hI.below hb; replace hT := hT.below hb; replace b2 := b2.trans (hb.mono b2.size); replace hY := hY.below hb hY.lt; replace hm := hm.below hb; replace s1 := s1.below hb; replace s2 := s2.below hb; replace h9 := h9.below hb h9.lt; replace h10 := h10.below hb h10.lt; replace hr := hr.trans (hb.mono hr.size); replace hu := hu.trans (hb.mono hu.size); replace B6 := B6.below hb B6.lt; replace t2 := t2.below hb
          clear hb
          go_wp2_with fail
          refine m_keep hr ?_
          refine m_s1 7 (by kernel_rfl) rfl ?_
          go_wp2_with fail
          have lo_B7 := hu.size
          have lt_B6_B7 := B6.lt
          refine absN fun u1401 B7 hb hz => ?_
          clear hz
          replace hI := hI.below hb; replace hT := hT.below hb; replace b2 := b2.trans (hb.mono b2.size); replace hY := hY.below hb hY.lt; replace hm := hm.below hb; replace s1 := s1.below hb; replace s2 := s2.below hb; replace h9 := h9.below hb h9.lt; replace h10 := h10.below hb h10.lt; replace hr := hr.trans (hb.mono hr.size); replace hu := hu.trans (hb.mono hu.size); replace B6 := B6.below hb B6.lt; replace t2 := t2.below hb; replace t5 := t5.below hb
          clear hb
          refine m_keep hr ?_
          obtain ⟨g7, hg7⟩ : ∃ g, g = u1381.heap.size := ⟨_, rfl⟩; replace lo_B7 : u4.heap.size ≤ g7 := by rw [hg7]; exact lo_B7
          rw [← hg7] at B7 lt_B6_B7 ⊢; clear hg7
          exact HL ⟨g6, g7, At2, nt2, ct2, At5, nt5, ct5⟩ _ _ _ (by kernel_rfl) rfl ⟨by first | rfl | trivial, hr, hu, lo_B6, lo_B7, by show g6 ≠ g7; omega, B6, B7, t2, t5⟩
        · go_wp2_with fail
          have lo_B7 := hu.size
          have lt_B6_B7 := B6.lt
          refine absN fun u1421 B7 hb hz => ?_
          clear hz
          replace hI := hI.below hb; replace hT := hT.below hb; replace b2 := b2.trans (hb.mono b2.size); replace hY := hY.below hb hY.lt; replace hm := hm.below hb; replace s1 := s1.below hb; replace s2 := s2.below hb; replace h9 := h9.below hb h9.lt; replace h10 := h10.below hb h10.lt; replace hr := hr.trans (hb.mono hr.size); replace hu := hu.trans (hb.mono hu.size); replace B6 := B6.below hb B6.lt; replace t2 := t2.below hb
          clear hb
          refine m_keep hr ?_
          obtain ⟨g7, hg7⟩ : ∃ g, g = u1361.heap.size := ⟨_, rfl⟩; replace lo_B7 : u4.heap.size ≤ g7 := by rw [hg7]; exact lo_B7
          rw [← hg7] at B7 lt_B6_B7 ⊢; clear hg7
          refine m_s1 5 (by kernel_rfl) rfl ?_
          go_wp2_with fail
          refine (res3 (rfl) (close_any _ C (nsOf C M) _ (a ||| b) _ hm.mv s2 hT)).mono ?_
          rintro e u1441 ⟨At5, nt5, ct5, rfl, t5, hb⟩
          replace hI := hI.below hb; replace hT := hT.below hb; replace b2 := b2.trans (hb.mono b2.size); replace hY := hY.below hb hY.lt; replace hm := hm.below hb; replace s1 := s1.below hb; replace s2 := s2.below hb; replace h9 := h9.below hb h9.lt; replace h10 := h10.below hb h10.lt; replace hr := hr.trans (hb.mono hr.size); replace hu := hu.trans (hb.mono hu.size); replace B6 := B6.below hb B6.lt; replace t2 := t2.below hb; replace B7 := B7.below hb B7.lt
          clear hb
          go_wp2_with fail
          refine m_keep hr ?_
          exact HL ⟨g6, g7, At2, nt2, ct2, At5, nt5, ct5⟩ _ _ _ (by kernel_rfl) rfl ⟨by first | rfl | trivial, hr, hu, lo_B6, lo_B7, by show g6 ≠ g7; omega, B6, B7, t2, t5⟩
      · go_wp2_with fail
        have lo_B7 := hu.size
        have lt_B6_B7 := B6.lt
        refine absN fun u1461 B7 hb hz => ?_
        clear hz
        replace hI := hI.below hb; replace hT := hT.below hb; replace b2 := b2.trans (hb.mono b2.size); replace hY := hY.below hb hY.lt; replace hm := hm.below hb; replace s1 := s1.below hb; replace s2 := s2.below hb; replace h9 := h9.below hb h9.lt; replace h10 := h10.below hb h10.lt; replace hr := hr.trans (hb.mono hr.size); replace hu := hu.trans (hb.mono hu.size); replace B6 := B6.below hb B6.lt
        clear hb
        refine m_keep hr ?_
        obtain ⟨g7, hg7⟩ : ∃ g, g = u1341.heap.size := ⟨_, rfl⟩; replace lo_B7 : u4.heap.size ≤ g7 := by rw [hg7]; exact lo_B7
        rw [← hg7] at B7 lt_B6_B7 ⊢; clear hg7
        refine m_s1 2 (by kernel_rfl) rfl ?_
        go_wp2_with fail
        refine (res3 (rfl) (close_any _ C (nsOf C M) _ a _ hm.mv s1 hT)).mono ?_
        rintro e u1481 ⟨At2, nt2, ct2, rfl, t2, hb⟩
        replace hI := hI.below hb; replace hT := hT.below hb; replace b2 := b2.trans (hb.mono b2.size); replace hY := hY.below hb hY.lt; replace hm := hm.below hb; replace s1 := s1.below hb; replace s2 := s2.below hb; replace h9 := h9.below hb h9.lt; replace h10 := h10.below hb h10.lt; replace hr := hr.trans (hb.mono hr.size); replace hu := hu.trans (hb.mono hu.size); replace B6 := B6.below hb B6.lt; replace B7 := B7.below hb B7.lt
        clear hb
        go_wp2_with fail
        refine m_keep hr ?_
        refine m_s1 5 (by kernel_rfl) rfl ?_
        go_wp2_with fail
        refine (res3 (rfl) (close_any _ C (nsOf C M) _ (a ||| b) _ hm.mv s2 hT)).mono ?_
        rintro e u1501 ⟨At5, nt5, ct5, rfl, t5, hb⟩
        replace hI := hI.below hb; replace hT := hT.below hb; replace b2 := b2.trans (hb.mono b2.size); replace hY := hY.below hb hY.lt; replace hm := hm.below hb; replace s1 := s1.below hb; replace s2 := s2.below hb; replace h9 := h9.below hb h9.lt; replace h10 := h10.below hb h10.lt; replace hr := hr.trans (hb.mono hr.size); replace hu := hu.trans (hb.mono hu.size); replace B6 := B6.below hb B6.lt; replace B7 := B7.below hb B7.lt; replace t2 := t2.below hb
        clear hb
        go_wp2_with fail
        refine m_keep hr ?_
        exact HL ⟨g6, g7, At2, nt2, ct2, At5, nt5, ct5⟩ _ _ _ (by kernel_rfl) rfl ⟨by first | rfl | trivial, hr, hu, lo_B6, lo_B7, by show g6 ≠ g7; omega, B6, B7, t2, t5⟩
    · go_wp2_with fail
      have lo_B7 := hu.size
      refine absN fun u1521 B7 hb hz => ?_
      clear hz
      replace hI := hI.below hb; replace hT := hT.below hb; replace b2 := b2.trans (hb.mono b2.size); replace hY := hY.below hb hY.lt; replace hm := hm.below hb; replace s1 := s1.below hb; replace s2 := s2.below hb; replace h9 := h9.below hb h9.lt; replace h10 := h10.below hb h10.lt; replace hr := hr.trans (hb.mono hr.size); replace hu := hu.trans (hb.mono hu.size)
      clear hb
      refine m_keep hr ?_
      obtain ⟨g7, hg7⟩ : ∃ g, g = u4.heap.size := ⟨_, rfl⟩; replace lo_B7 : u4.heap.size ≤ g7 := by rw [hg7]; exact lo_B7
      rw [← hg7] at B7  ⊢; clear hg7
      refine m_s2 2 6 (by kernel_rfl) rfl rfl ?_ ?_
      · go_wp2_with fail
        refine (res3 (rfl) (close_any _ C (nsOf C M) _ a _ hm.mv s1 hT)).mono ?_
        rintro e u1541 ⟨At2, nt2, ct2, rfl, t2, hb⟩
        replace hI := hI.below hb; replace hT := hT.below hb; replace b2 := b2.trans (hb.mono b2.size); replace hY := hY.below hb hY.lt; replace hm := hm.below hb; replace s1 := s1.below hb; replace s2 := s2.below hb; replace h9 := h9.below hb h9.lt; replace h10 := h10.below hb h10.lt; replace hr := hr.trans (hb.mono hr.size); replace hu := hu.trans (hb.mono hu.size); replace B7 := B7.below hb B7.lt
        clear hb
        go_wp2_with fail
        refine m_keep hr ?_
        refine m_s2 5 6 (by kernel_rfl) rfl rfl ?_ ?_
        · go_wp2_with fail
          refine (res3 (rfl) (close_any _ C (nsOf C M) _ (a ||| b) _ hm.mv s2 hT)).mono ?_
          rintro e u1561 ⟨At5, nt5, ct5, rfl, t5, hb⟩
          replace hI := hI.below hb; replace hT := hT.below hb; replace b2 := b2.trans (hb.mono b2.size); replace hY := hY.below hb hY.lt; replace hm := hm.below hb; replace s1 := s1.below hb; replace s2 := s2.below hb; replace h9 := h9.below hb h9.lt; replace h10 := h10.below hb h10.lt; replace hr := hr.trans (hb.mono hr.size); replace hu := hu.trans (hb.mono hu.size); replace B7 := B7.below hb B7.lt; replace t2 := t2.below hb
          clear hb
          go_wp2_with fail
          refine m_keep hr ?_
          refine m_s1 6 (by kernel_rfl) rfl ?_
          go_wp2_with fail
          have lo_B6 := hu.size
          have lt_B7_B6 := B7.lt
          refine absN fun u1581 B6 hb hz => ?_
          clear hz
          replace hI := hI.below hb; replace hT := hT.below hb; replace b2 := b2.trans (hb.mono b2.size); replace hY := hY.below hb hY.lt; replace hm := hm.below hb; replace s1 := s1.below hb; replace s2 := s2.below hb; replace h9 := h9.below hb h9.lt; replace h10 := h10.below hb h10.lt; replace hr := hr.trans (hb.mono hr.size); replace hu := hu.trans (hb.mono hu.size); replace B7 := B7.below hb B7.lt; replace t2 := t2.below hb; replace t5 := t5.below hb
          clear hb
          refine m_keep hr ?_
          obtain ⟨g6, hg6⟩ : ∃ g, g = u1561.heap.size := ⟨_, rfl⟩; replace lo_B6 : u4.heap.size ≤ g6 := by rw [hg6]; exact lo_B6
          rw [← hg6] at B6 lt_B7_B6 ⊢; clear hg6
          exact HL ⟨g6, g7, At2, nt2, ct2, At5, nt5, ct5⟩ _ _ _ (by kernel_rfl) rfl ⟨by first | rfl | trivial, hr, hu, lo_B6, lo_B7, by show g6 ≠ g7; omega, B6, B7, t2, t5⟩
        · go_wp2_with fail
          have lo_B6 := hu.size
          have lt_B7_B6 := B7.lt
          refine absN fun u1601 B6 hb hz => ?_
          clear hz
          replace hI := hI.below hb; replace hT := hT.below hb; replace b2 := b2.trans (hb.mono b2.size); replace hY := hY.below hb hY.lt; replace hm := hm.below hb; replace s1 := s1.below hb; replace s2 := s2.below hb; replace h9 := h9.below hb h9.lt; replace h10 := h10.below hb h10.lt; replace hr := hr.trans (hb.mono hr.size); replace hu := hu.trans (hb.mono hu.size); replace B7 := B7.below hb B7.lt; replace t2 := t2.below hb
          clear hb
          refine m_keep hr ?_
          obtain ⟨g6, hg6⟩ : ∃ g, g = u1541.heap.size := ⟨_, rfl⟩; replace lo_B6 : u4.heap.size ≤ g6 := by rw [hg6]; exact lo_B6
          rw [← hg6] at B6 lt_B7_B6 ⊢; clear hg6
          refine m_s1 5 (by kernel_rfl) rfl ?_
          go_wp2_with fail
          refine (res3 (rfl) (close_any _ C (nsOf C M) _ (a ||| b) _ hm.mv s2 hT)).mono ?_
          rintro e u1621 ⟨At5, nt5, ct5, rfl, t5, hb⟩
          replace hI := hI.below hb; replace hT := hT.below hb; replace b2 := b2.trans (hb.mono b2.size); replace hY := hY.below hb hY.lt; replace hm := hm.below hb; replace s1 := s1.below hb; replace s2 := s2.below hb; replace h9 := h9.below hb h9.lt; replace h10 := h10.below hb h10.lt; replace hr := hr.trans (hb.mono hr.size); replace hu := hu.trans (hb.mono hu.size); replace B7 := B7.below hb B7.lt; replace t2 := t2.below hb; replace B6 := B6.below hb B6.lt
          clear hb
          go_wp2_with fail
          refine m_keep hr ?_
          exact HL ⟨g6, g7, At2, nt2, ct2, At5, nt5, ct5⟩ _ _ _ (by kernel_rfl) rfl ⟨by first | rfl | trivial, hr, hu, lo_B6, lo_B7, by show g6 ≠ g7; omega, B6, B7, t2, t5⟩
      · go_wp2_with fail
        have lo_B6 := hu.size
        have lt_B7_B6 := B7.lt
        refine absN fun u1641 B6 hb hz => ?_
        clear hz
        replace hI := hI.below hb; replace hT := hT.below hb; replace b2 := b2.trans (hb.mono b2.size); replace hY := hY.below hb hY.lt; replace hm := hm.below hb; replace s1 := s1.below hb; replace s2 := s2.below hb; replace h9 := h9.below hb h9.lt; replace h10 := h10.below hb h10.lt; replace hr := hr.trans (hb.mono hr.size); replace hu := hu.trans (hb.mono hu.size); replace B7 := B7.below hb B7.lt
        clear hb
        refine m_keep hr ?_
        obtain ⟨g6, hg6⟩ : ∃ g, g = u1521.heap.size := ⟨_, rfl⟩; replace lo_B6 : u4.heap.size ≤ g6 := by rw [hg6]; exact lo_B6
        rw [← hg6] at B6 lt_B7_B6 ⊢; clear hg6
        refine m_s1 2 (by kernel_rfl) rfl ?_
        go_wp2_with fail
        refine (res3 (rfl) (close_any _ C (nsOf C M) _ a _ hm.mv s1 hT)).mono ?_
        rintro e u1661 ⟨At2, nt2, ct2, rfl, t2, hb⟩
        replace hI := hI.below hb; replace hT := hT.below hb; replace b2 := b2.trans (hb.mono b2.size); replace hY := hY.below hb hY.lt; replace hm := hm.below hb; replace s1 := s1.below hb; replace s2 := s2.below hb; replace h9 := h9.below hb h9.lt; replace h10 := h10.below hb h10.lt; replace hr := hr.trans (hb.mono hr.size); replace hu := hu.trans (hb.mono hu.size); replace B7 := B7.below hb B7.lt; replace B6 := B6.below hb B6.lt
        clear hb
        go_wp2_with fail
        refine m_keep hr ?_
        refine m_s1 5 (by kernel_rfl) rfl ?_
        go_wp2_with fail
        refine (res3 (rfl) (close_any _ C (nsOf C M) _ (a ||| b) _ hm.mv s2 hT)).mono ?_
        rintro e u1681 ⟨At5, nt5, ct5, rfl, t5, hb⟩
        replace hI := hI.below hb; replace hT := hT.below hb; replace b2 := b2.trans (hb.mono b2.size); replace hY := hY.below hb hY.lt; replace hm := hm.below hb; replace s1 := s1.below hb; replace s2 := s2.below hb; replace h9 := h9.below hb h9.lt; replace h10 := h10.below hb h10.lt; replace hr := hr.trans (hb.mono hr.size); replace hu := hu.trans (hb.mono hu.size); replace B7 := B7.below hb B7.lt; replace B6 := B6.below hb B6.lt; replace t2 := t2.below hb
        clear hb
        go_wp2_with fail
        refine m_keep hr ?_
        exact HL ⟨g6, g7, At2, nt2, ct2, At5, nt5, ct5⟩ _ _ _ (by kernel_rfl) rfl ⟨by first | rfl | trivial, hr, hu, lo_B6, lo_B7, by show g6 ≠ g7; omega, B6, B7, t2, t5⟩
  clear hu
  rintro ⟨g6, g7, At2, nt2, ct2, At5, nt5, ct5⟩ f ds V ⟨rfl, hr2, hu, l6, l7, hne, B6, B7, t2, t5⟩
  dsimp only at hr2 hu l6 l7 hne B6 B7 t2 t5 ⊢
  have x6 := Nat.le_trans hr.size l6
  have x7 := Nat.le_trans hr.size l7
  have e0 := B6.cell 0; have f0 := B6.frozen 0
  replace hr2 := hr2.setCell (p := ⟨g6, 0, none⟩) x6 (.slice At2 nt2 ct2)
  replace hu := hu.setCell (p := ⟨g6, 0, none⟩) l6 (.slice At2 nt2 ct2)
  replace t2 := t2.put B6 (by decide) 0 (.slice At2 nt2 ct2)
  replace t5 := t5.put B6 (by decide) 0 (.slice At2 nt2 ct2)
  replace B7 := B7.far (p := ⟨g6, 0, none⟩) (Ne.symm hne) (.slice At2 nt2 ct2)
  replace B6 := B6.set_ 0 (.slice At2 nt2 ct2)
  refine m_s1 8 (by kernel_rfl) rfl ?_
  go_wp2_with fail
  refine m_keep hr2 ?_
  obtain ⟨v1, hv1⟩ : ∃ W, W = V.setCell ⟨g6, 0, none⟩ (.slice At2 nt2 ct2) := ⟨_, rfl⟩
  rw [← hv1] at hr2 hu t2 t5 B6 B7 ⊢
  clear hv1 e0 f0
  have e0 := B7.cell 0; have f0 := B7.frozen 0
  replace hr2 := hr2.setCell (p := ⟨g7, 0, none⟩) x7 (.slice At5 nt5 ct5)
  replace hu := hu.setCell (p := ⟨g7, 0, none⟩) l7 (.slice At5 nt5 ct5)
  replace t2 := t2.put B7 (by decide) 0 (.slice At5 nt5 ct5)
  replace t5 := t5.put B7 (by decide) 0 (.slice At5 nt5 ct5)
  replace B6 := B6.far (p := ⟨g7, 0, none⟩) hne (.slice At5 nt5 ct5)
  replace B7 := B7.set_ 0 (.slice At5 nt5 ct5)
  refine m_s1 9 (by kernel_rfl) rfl ?_
  go_wp2_with fail
  refine m_keep hr2 ?_
  obtain ⟨v2, hv2⟩ : ∃ W, W = v1.setCell ⟨g7, 0, none⟩ (.slice At5 nt5 ct5) := ⟨_, rfl⟩
  rw [← hv2] at hr2 hu t2 t5 B6 B7 ⊢
  clear hv2 e0 f0 x6 x7
  refine m_end (by kernel_rfl) ?_
  have hb := hu
  clear hu hr hr2 z9 z10
  replace hI := hI.below hb; replace hT := hT.below hb; replace b2 := b2.trans (hb.mono b2.size); replace hY := hY.below hb hY.lt; replace hm := hm.below hb; replace s1 := s1.below hb; replace s2 := s2.below hb; replace h9 := h9.below hb h9.lt; replace h10 := h10.below hb h10.lt
  clear hb
  go_wp2_with fail
  refine wp_mix (fun V => Below v2.heap.size v2 V) 29 (by kernel_rfl) (by kernel_rfl) (Below.refl _ _).drew ?_
  have hr : Below v2.heap.size v2 v2.drew := (Below.refl _ _).drew
  obtain ⟨u5, hw⟩ : ∃ V, V = v2.drew := ⟨_, rfl⟩
  rw [← hw] at hr ⊢; clear hw
  have hb := hr
  have z6 := B6.cell 0
  have z7 := B7.cell 0
  have z9 := h9.cell 0
  have y0 := hY.cell 0
  have y1 := hY.cell 1
  replace hI := hI.below hb; replace hT := hT.below hb; replace b2 := b2.trans (hb.mono b2.size); replace hY := hY.below hb hY.lt; replace hm := hm.below hb; replace s1 := s1.below hb; replace s2 := s2.below hb; replace h9 := h9.below hb h9.lt; replace h10 := h10.below hb h10.lt; replace t2 := t2.below hb; replace t5 := t5.below hb; replace B6 := B6.below hb B6.lt; replace B7 := B7.below hb B7.lt
  clear hb
  (refine m_q 0 (v := ?_) (by kernel_rfl) rfl rfl (fun W hW => ?_) ?_; rotate_left; (have zz6 := onB hW z6; have zz7 := onB hW z7; have zz9 := onB hW z9; have zy0 := onB hW y0; have zy1 := onB hW y1; go_simp; first | done | with_reducible rfl); simp only [Act.put, List.setIfInBounds_toArray, List.set_cons_zero, List.set_cons_succ]); (refine m_q 1 (v := ?_) (by kernel_rfl) rfl rfl (fun W hW => ?_) ?_; rotate_left; (have zz6 := onB hW z6; have zz7 := onB hW z7; have zz9 := onB hW z9; have zy0 := onB hW y0; have zy1 := onB hW y1; go_simp; first | done | with_reducible rfl); simp only [Act.put, List.setIfInBounds_toArray, List.set_cons_zero, List.set_cons_succ]); (refine m_q 2 (v := ?_) (by kernel_rfl) rfl rfl (fun W hW => ?_) ?_; rotate_left; (have zz6 := onB hW z6; have zz7 := onB hW z7; have zz9 := onB hW z9; have zy0 := onB hW y0; have zy1 := onB hW y1; go_simp; first | done | with_reducible rfl); simp only [Act.put, List.setIfInBounds_toArray, List.set_cons_zero, List.set_cons_succ]); (refine m_q 3 (v := ?_) (by kernel_rfl) rfl rfl (fun W hW => ?_) ?_; rotate_left; (have zz6 := onB hW z6; have zz7 := onB hW z7; have zz9 := onB hW z9; have zy0 := onB hW y0; have zy1 := onB hW y1; go_simp; first | done | with_reducible rfl); simp only [Act.put, List.setIfInBounds_toArray, List.set_cons_zero, List.set_cons_succ])
  refine m_s1 4 (by kernel_rfl) rfl ?_
  go_wp2_with fail
  refine (closer_any C A2 c2 M a _ hI (by omega) (by omega)).mono ?_
  rintro e u6 ⟨rfl, hb⟩
  replace hI := hI.below hb; replace hT := hT.below hb; replace b2 := b2.trans (hb.mono b2.size); replace hY := hY.below hb hY.lt; replace hm := hm.below hb; replace s1 := s1.below hb; replace s2 := s2.below hb; replace h9 := h9.below hb h9.lt; replace h10 := h10.below hb h10.lt; replace t2 := t2.below hb; replace t5 := t5.below hb; replace B6 := B6.below hb B6.lt; replace B7 := B7.below hb B7.lt; replace hr := hr.trans (hb.mono hr.size)
  clear hb
  go_wp2_with fail
  refine m_keep hr ?_
  refine m_s1 5 (by kernel_rfl) rfl ?_
  go_wp2_with fail
  refine (res3 (rfl) (set_any45 _ (comN_64 (by omega) _) _)).mono ?_
  rintro e u7 ⟨Ar5, nr5, cr5, rfl, r5, hb⟩
  replace hI := hI.below hb; replace hT := hT.below hb; replace b2 := b2.trans (hb.mono b2.size); replace hY := hY.below hb hY.lt; replace hm := hm.below hb; replace s1 := s1.below hb; replace s2 := s2.below hb; replace h9 := h9.below hb h9.lt; replace h10 := h10.below hb h10.lt; replace t2 := t2.below hb; replace t5 := t5.below hb; replace B6 := B6.below hb B6.lt; replace B7 := B7.below hb B7.lt; replace hr := hr.trans (hb.mono hr.size)
  clear hb
  go_wp2_with fail
  refine m_keep hr ?_
  refine m_s1 6 (by kernel_rfl) rfl ?_
  go_wp2_with fail
  refine (eq_same t2 r5).mono ?_
  rintro e u8 ⟨rfl, hb⟩
  replace hI := hI.below hb; replace hT := hT.below hb; replace b2 := b2.trans (hb.mono b2.size); replace hY := hY.below hb hY.lt; replace hm := hm.below hb; replace s1 := s1.below hb; replace s2 := s2.below hb; replace h9 := h9.below hb h9.lt; replace h10 := h10.below hb h10.lt; replace t2 := t2.below hb; replace t5 := t5.below hb; replace B6 := B6.below hb B6.lt; replace B7 := B7.below hb B7.lt; replace hr := hr.trans (hb.mono hr.size); replace r5 := r5.below hb
  clear hb
  go_wp2_with fail
  refine m_keep hr ?_
  (refine m_q 7 (v := ?_) (by kernel_rfl) rfl rfl (fun W hW => ?_) ?_; rotate_left; (go_simp; first | done | with_reducible rfl); simp only [Act.put, List.setIfInBounds_toArray, List.set_cons_zero, List.set_cons_succ])
  (refine m_yes 8 (v := ?_) (by kernel_rfl) rfl (by rfl) (fun W hW => ?_) ?_; rotate_left; (have zz6 := onB hW z6; have zz7 := onB hW z7; have zz9 := onB hW z9; have zy0 := onB hW y0; have zy1 := onB hW y1; go_simp; first | done | with_reducible rfl); simp only [Act.put, List.setIfInBounds_toArray, List.set_cons_zero, List.set_cons_succ]); (refine m_yes 9 (v := ?_) (by kernel_rfl) rfl (by rfl) (fun W hW => ?_) ?_; rotate_left; (have zz6 := onB hW z6; have zz7 := onB hW z7; have zz9 := onB hW z9; have zy0 := onB hW y0; have zy1 := onB hW y1; go_simp; first | done | with_reducible rfl); simp only [Act.put, List.setIfInBounds_toArray, List.set_cons_zero, List.set_cons_succ]); (refine m_yes 13 (v := ?_) (by kernel_rfl) rfl (by rfl) (fun W hW => ?_) ?_; rotate_left; (have zz6 := onB hW z6; have zz7 := onB hW z7; have zz9 := onB hW z9; have zy0 := onB hW y0; have zy1 := onB hW y1; go_simp; first | done | with_reducible rfl); simp only [Act.put, List.setIfInBounds_toArray, List.set_cons_zero, List.set_cons_succ])
  refine m_s1 10 (by kernel_rfl) rfl ?_
  go_wp2_with fail
  refine (cols_any q C (nsOf C M) _ hm).mono ?_
  rintro e w' ⟨rfl, rfl⟩
  go_wp2_with fail
  refine m_keep hr ?_
  refine m_s1 11 (by kernel_rfl) rfl ?_
  go_wp2_with fail
  refine (res3 (rfl) (below_N (by omega))).mono ?_
  rintro e u9 ⟨Ar11, nr11, cr11, rfl, r11, hb⟩
  replace hI := hI.below hb; replace hT := hT.below hb; replace b2 := b2.trans (hb.mono b2.size); replace hY := hY.below hb hY.lt; replace hm := hm.below hb; replace s1 := s1.below hb; replace s2 := s2.below hb; replace h9 := h9.below hb h9.lt; replace h10 := h10.below hb h10.lt; replace t2 := t2.below hb; replace t5 := t5.below hb; replace B6 := B6.below hb B6.lt; replace B7 := B7.below hb B7.lt; replace hr := hr.trans (hb.mono hr.size); replace r5 := r5.below hb
  clear hb
  go_wp2_with fail
  refine m_keep hr ?_
  refine m_s1 12 (by kernel_rfl) rfl ?_
  go_wp2_with fail
  refine (res3 (rfl) (and_any _ _ a (lowN C) _ s1 r11)).mono ?_
  rintro e u10 ⟨Ar12, nr12, cr12, rfl, r12, hb⟩
  replace hI := hI.below hb; replace hT := hT.below hb; replace b2 := b2.trans (hb.mono b2.size); replace hY := hY.below hb hY.lt; replace hm := hm.below hb; replace s1 := s1.below hb; replace s2 := s2.below hb; replace h9 := h9.below hb h9.lt; replace h10 := h10.below hb h10.lt; replace t2 := t2.below hb; replace t5 := t5.below hb; replace B6 := B6.below hb B6.lt; replace B7 := B7.below hb B7.lt; replace hr := hr.trans (hb.mono hr.size); replace r5 := r5.below hb; replace r11 := r11.below hb
  clear hb
  go_wp2_with fail
  refine m_keep hr ?_
  refine m_s1 14 (by kernel_rfl) rfl ?_
  go_wp2_with fail
  refine (within_is H1.out r12 t2).mono ?_
  rintro e u11 ⟨rfl, hb⟩
  replace hI := hI.below hb; replace hT := hT.below hb; replace b2 := b2.trans (hb.mono b2.size); replace hY := hY.below hb hY.lt; replace hm := hm.below hb; replace s1 := s1.below hb; replace s2 := s2.below hb; replace h9 := h9.below hb h9.lt; replace h10 := h10.below hb h10.lt; replace t2 := t2.below hb; replace t5 := t5.below hb; replace B6 := B6.below hb B6.lt; replace B7 := B7.below hb B7.lt; replace hr := hr.trans (hb.mono hr.size); replace r5 := r5.below hb; replace r11 := r11.below hb; replace r12 := r12.below hb
  clear hb
  go_wp2_with fail
  refine m_keep hr ?_
  (refine m_q 15 (v := ?_) (by kernel_rfl) rfl rfl (fun W hW => ?_) ?_; rotate_left; (go_simp; first | done | with_reducible rfl); simp only [Act.put, List.setIfInBounds_toArray, List.set_cons_zero, List.set_cons_succ]); (refine m_q 16 (v := ?_) (by kernel_rfl) rfl rfl (fun W hW => ?_) ?_; rotate_left; (go_simp; first | done | with_reducible rfl); simp only [Act.put, List.setIfInBounds_toArray, List.set_cons_zero, List.set_cons_succ])
  (refine m_yes 17 (v := ?_) (by kernel_rfl) rfl (by rfl) (fun W hW => ?_) ?_; rotate_left; (have zz6 := onB hW z6; have zz7 := onB hW z7; have zz9 := onB hW z9; have zy0 := onB hW y0; have zy1 := onB hW y1; go_simp; first | done | with_reducible rfl); simp only [Act.put, List.setIfInBounds_toArray, List.set_cons_zero, List.set_cons_succ]); (refine m_yes 18 (v := ?_) (by kernel_rfl) rfl (by rfl) (fun W hW => ?_) ?_; rotate_left; (have zz6 := onB hW z6; have zz7 := onB hW z7; have zz9 := onB hW z9; have zy0 := onB hW y0; have zy1 := onB hW y1; go_simp; first | done | with_reducible rfl); simp only [Act.put, List.setIfInBounds_toArray, List.set_cons_zero, List.set_cons_succ])
  refine m_s1 19 (by kernel_rfl) rfl ?_
  go_wp2_with fail
  refine (within_is H2.out t2 t5).mono ?_
  rintro e u12 ⟨rfl, hb⟩
  replace hI := hI.below hb; replace hT := hT.below hb; replace b2 := b2.trans (hb.mono b2.size); replace hY := hY.below hb hY.lt; replace hm := hm.below hb; replace s1 := s1.below hb; replace s2 := s2.below hb; replace h9 := h9.below hb h9.lt; replace h10 := h10.below hb h10.lt; replace t2 := t2.below hb; replace t5 := t5.below hb; replace B6 := B6.below hb B6.lt; replace B7 := B7.below hb B7.lt; replace hr := hr.trans (hb.mono hr.size); replace r5 := r5.below hb; replace r11 := r11.below hb; replace r12 := r12.below hb
  clear hb
  go_wp2_with fail
  refine m_keep hr ?_
  (refine m_q 20 (v := ?_) (by kernel_rfl) rfl rfl (fun W hW => ?_) ?_; rotate_left; (go_simp; first | done | with_reducible rfl); simp only [Act.put, List.setIfInBounds_toArray, List.set_cons_zero, List.set_cons_succ]); (refine m_q 21 (v := ?_) (by kernel_rfl) rfl rfl (fun W hW => ?_) ?_; rotate_left; (go_simp; first | done | with_reducible rfl); simp only [Act.put, List.setIfInBounds_toArray, List.set_cons_zero, List.set_cons_succ])
  (refine m_yes 22 (v := ?_) (by kernel_rfl) rfl (by rfl) (fun W hW => ?_) ?_; rotate_left; (have zz6 := onB hW z6; have zz7 := onB hW z7; have zz9 := onB hW z9; have zy0 := onB hW y0; have zy1 := onB hW y1; go_simp; first | done | with_reducible rfl); simp only [Act.put, List.setIfInBounds_toArray, List.set_cons_zero, List.set_cons_succ]); (refine m_yes 23 (v := ?_) (by kernel_rfl) rfl (by rfl) (fun W hW => ?_) ?_; rotate_left; (have zz6 := onB hW z6; have zz7 := onB hW z7; have zz9 := onB hW z9; have zy0 := onB hW y0; have zy1 := onB hW y1; go_simp; first | done | with_reducible rfl); simp only [Act.put, List.setIfInBounds_toArray, List.set_cons_zero, List.set_cons_succ]); (refine m_yes 25 (v := ?_) (by kernel_rfl) rfl (by rfl) (fun W hW => ?_) ?_; rotate_left; (have zz6 := onB hW z6; have zz7 := onB hW z7; have zz9 := onB hW z9; have zy0 := onB hW y0; have zy1 := onB hW y1; go_simp; first | done | with_reducible rfl); simp only [Act.put, List.setIfInBounds_toArray, List.set_cons_zero, List.set_cons_succ])
  refine m_s1 24 (by kernel_rfl) rfl ?_
  go_wp2_with fail
  refine (res3 (clo_clo hl _) (close_any _ C (nsOf C M) _ _ _ hm.mv t2 hT)).mono ?_
  rintro e u13 ⟨Ar24, nr24, cr24, rfl, r24, hb⟩
  replace hI := hI.below hb; replace hT := hT.below hb; replace b2 := b2.trans (hb.mono b2.size); replace hY := hY.below hb hY.lt; replace hm := hm.below hb; replace s1 := s1.below hb; replace s2 := s2.below hb; replace h9 := h9.below hb h9.lt; replace h10 := h10.below hb h10.lt; replace t2 := t2.below hb; replace t5 := t5.below hb; replace B6 := B6.below hb B6.lt; replace B7 := B7.below hb B7.lt; replace hr := hr.trans (hb.mono hr.size); replace r5 := r5.below hb; replace r11 := r11.below hb; replace r12 := r12.below hb
  clear hb
  go_wp2_with fail
  refine m_keep hr ?_
  refine m_s1 26 (by kernel_rfl) rfl ?_
  go_wp2_with fail
  refine (eq_same r24 t2).mono ?_
  rintro e u14 ⟨rfl, hb⟩
  replace hI := hI.below hb; replace hT := hT.below hb; replace b2 := b2.trans (hb.mono b2.size); replace hY := hY.below hb hY.lt; replace hm := hm.below hb; replace s1 := s1.below hb; replace s2 := s2.below hb; replace h9 := h9.below hb h9.lt; replace h10 := h10.below hb h10.lt; replace t2 := t2.below hb; replace t5 := t5.below hb; replace B6 := B6.below hb B6.lt; replace B7 := B7.below hb B7.lt; replace hr := hr.trans (hb.mono hr.size); replace r5 := r5.below hb; replace r11 := r11.below hb; replace r12 := r12.below hb; replace r24 := r24.below hb
  clear hb
  go_wp2_with fail
  refine m_keep hr ?_
  (refine m_q 27 (v := ?_) (by kernel_rfl) rfl rfl (fun W hW => ?_) ?_; rotate_left; (go_simp; first | done | with_reducible rfl); simp only [Act.put, List.setIfInBounds_toArray, List.set_cons_zero, List.set_cons_succ]); (refine m_q 28 (v := ?_) (by kernel_rfl) rfl rfl (fun W hW => ?_) ?_; rotate_left; (go_simp; first | done | with_reducible rfl); simp only [Act.put, List.setIfInBounds_toArray, List.set_cons_zero, List.set_cons_succ])
  refine m_end (by kernel_rfl) ?_
  clear z6 z7 z9 y0 y1
  go_wp2_with fail
  go_ret
  exact ⟨rfl, b2⟩
set_option maxRecDepth 100000 in
set_option maxHeartbeats 8000000 in
theorem concepts_walk (v : Value) (R C : Nat) (zs : List Int) (a : Nat) (w : World) (hT : Tab w) (h : IsRaw w v R C zs) (ha : a ≤ 255) :
    Calls Tryd.prog 11 #[v, .int .u8 a] w fun e w' => e = .returned (.bool true) ∧ Below w.heap.size w w' := by
  have hbd := h.bd
  obtain ⟨r, c, A0, d0, hv, _⟩ := id h
  subst hv
  have HIN := hideC h; clear h
  go_enter Tryd.func11, Tryd.ntmps11
  go_wp2_with fail
  refine absC1 fun W0 hX hbel0 hz => ?_
  clear hz
  refine (Mix2.awake_any45 W0 (hT.below hbel0)).mono ?_
  rintro e w1 ⟨rfl, hb1⟩
  have b1 := hbel0.trans (hb1.mono hbel0.size)
  have hX1 := hX.below hb1 hX.lt
  have x0 := hX1.cell 0
  have x1 := hX1.cell 1
  have x2 := hX1.cell 2
  have HM := hideC (make_raw _ R C zs w1 (HIN.out.below b1))
  go_wp2_with fail
  refine HM.out.mono ?_
  rintro e w2 ⟨A2, c2, rfl, hI, hb2⟩
  have b2 := b1.trans (hb2.mono b1.size)
  obtain ⟨M, hMd⟩ : ∃ M, M = rawM R C zs := ⟨_, rfl⟩
  have hML : M.length = R := by rw [hMd, mat_len]
  rw [← hMd] at hI
  subst hML
  obtain ⟨hR5, hC5⟩ := hbd
  have hl : (nsOf C M).length ≤ 4096 := by rw [nsTo_len]; omega
  clear hMd HM HIN hX hX1 hbel0 hb1 hb2 b1 x0 x1 x2
  replace hT := hT.below b2
  go_wp2_with fail
  refine absC1 fun w3 hY hb hz => ?_
  clear hz
  replace hI := hI.below hb; replace hT := hT.below hb; replace b2 := b2.trans (hb.mono b2.size)
  clear hb
  refine (matrixl_any C A2 c2 M w3 hI (by omega) (by omega)).mono ?_
  rintro e u1 ⟨q, rfl, hm, _, hb⟩
  replace hI := hI.below hb; replace hT := hT.below hb; replace b2 := b2.trans (hb.mono b2.size); replace hY := hY.below hb hY.lt
  clear hb
  go_wp2_with fail
  refine (res3 (rfl) (set_any45 a (by omega) _)).mono ?_
  rintro e u2 ⟨As1, ns1, cs1, rfl, s1, hb⟩
  replace hI := hI.below hb; replace hT := hT.below hb; replace b2 := b2.trans (hb.mono b2.size); replace hY := hY.below hb hY.lt; replace hm := hm.below hb
  clear hb
  go_wp2_with fail
  refine absC1 fun w7 h7 hb hz => ?_
  clear hz
  replace hI := hI.below hb; replace hT := hT.below hb; replace b2 := b2.trans (hb.mono b2.size); replace hY := hY.below hb hY.lt; replace hm := hm.below hb; replace s1 := s1.below hb
  clear hb
  refine (of_is rfl rfl hm.mv s1 hT).mono ?_
  rintro e u3 ⟨Ax, nx, cx, Bx, kx, dx, rfl, xr, xc, hb⟩
  replace hI := hI.below hb; replace hT := hT.below hb; replace b2 := b2.trans (hb.mono b2.size); replace hY := hY.below hb hY.lt; replace hm := hm.below hb; replace s1 := s1.below hb; replace h7 := h7.below hb h7.lt
  clear hb
  have hmask := mask_and a C (by omega) (by omega)
  obtain ⟨k, hk⟩ : ∃ k, k = a &&& lowN C := ⟨_, rfl⟩
  rw [← hk] at hmask
  have hk64 : k < 2 ^ 64 := by rw [hk]; exact Nat.lt_of_le_of_lt Nat.and_le_left (by omega)
  have hck : cloN C (nsOf C M) k = cloN C (nsOf C M) a := by rw [hk]; exact clo_in hl a
  have HK := Lib.hid hk
  clear hk
  have y0 := hY.cell 0; have lY := hY.lt
  go_wp2_with fail
  refine abs1 fun w8 h8 hb hz => ?_
  clear hz
  replace hI := hI.below hb; replace hT := hT.below hb; replace b2 := b2.trans (hb.mono b2.size); replace hY := hY.below hb hY.lt; replace hm := hm.below hb; replace s1 := s1.below hb; replace h7 := h7.below hb h7.lt; replace xr := xr.below hb; replace xc := xc.below hb
  clear hb
  clear y0 lY hmask
  by_cases hx : cloN C (nsOf C M) a = k
  · have HX := Lib.hid (show decide (cloN C (nsOf C M) a = a &&& lowN C) = true by rw [← HK.out]; exact decide_eq_true hx)
    have HCK := Lib.hid (hck.trans hx)
    clear hx hck
    go_wp2_with fail
    refine wp_mix (fun V => Below w8.heap.size w8 V) 16 (by kernel_rfl) (by kernel_rfl) (Below.refl _ _).drew ?_
    have hr : Below w8.heap.size w8 w8.drew := (Below.refl _ _).drew
    obtain ⟨u4, hw⟩ : ∃ V, V = w8.drew := ⟨_, rfl⟩
    rw [← hw] at hr ⊢; clear hw
    have hb := hr
    have z7 := h7.cell 0
    have z80 := h8.cell 0
    have z81 := h8.cell 1
    have y0 := hY.cell 0
    have y1 := hY.cell 1
    replace hI := hI.below hb; replace hT := hT.below hb; replace b2 := b2.trans (hb.mono b2.size); replace hY := hY.below hb hY.lt; replace hm := hm.below hb; replace s1 := s1.below hb; replace h7 := h7.below hb h7.lt; replace xr := xr.below hb; replace xc := xc.below hb; replace h8 := h8.below hb h8.lt
    clear hb
    (refine m_q 0 (v := ?_) (by kernel_rfl) rfl rfl (fun W hW => ?_) ?_; rotate_left; (have zz7 := onB hW z7; have zz80 := onB hW z80; have zz81 := onB hW z81; have zy0 := onB hW y0; have zy1 := onB hW y1; go_simp; first | done | with_reducible rfl); simp only [Act.put, List.setIfInBounds_toArray, List.set_cons_zero, List.set_cons_succ]); (refine m_q 1 (v := ?_) (by kernel_rfl) rfl rfl (fun W hW => ?_) ?_; rotate_left; (have zz7 := onB hW z7; have zz80 := onB hW z80; have zz81 := onB hW z81; have zy0 := onB hW y0; have zy1 := onB hW y1; go_simp; first | done | with_reducible rfl); simp only [Act.put, List.setIfInBounds_toArray, List.set_cons_zero, List.set_cons_succ]); (refine m_q 3 (v := ?_) (by kernel_rfl) rfl rfl (fun W hW => ?_) ?_; rotate_left; (have zz7 := onB hW z7; have zz80 := onB hW z80; have zz81 := onB hW z81; have zy0 := onB hW y0; have zy1 := onB hW y1; go_simp; first | done | with_reducible rfl); simp only [Act.put, List.setIfInBounds_toArray, List.set_cons_zero, List.set_cons_succ]); (refine m_q 4 (v := ?_) (by kernel_rfl) rfl rfl (fun W hW => ?_) ?_; rotate_left; (have zz7 := onB hW z7; have zz80 := onB hW z80; have zz81 := onB hW z81; have zy0 := onB hW y0; have zy1 := onB hW y1; go_simp; first | done | with_reducible rfl); simp only [Act.put, List.setIfInBounds_toArray, List.set_cons_zero, List.set_cons_succ]); (refine m_q 6 (v := ?_) (by kernel_rfl) rfl rfl (fun W hW => ?_) ?_; rotate_left; (have zz7 := onB hW z7; have zz80 := onB hW z80; have zz81 := onB hW z81; have zy0 := onB hW y0; have zy1 := onB hW y1; go_simp; first | done | with_reducible rfl); simp only [Act.put, List.setIfInBounds_toArray, List.set_cons_zero, List.set_cons_succ])
    refine m_s1 2 (by kernel_rfl) rfl ?_
    go_wp2_with fail
    refine (closed_is HX.out hm s1 hT).mono ?_
    rintro e u5 ⟨rfl, hb⟩
    replace hI := hI.below hb; replace hT := hT.below hb; replace b2 := b2.trans (hb.mono b2.size); replace hY := hY.below hb hY.lt; replace hm := hm.below hb; replace s1 := s1.below hb; replace h7 := h7.below hb h7.lt; replace xr := xr.below hb; replace xc := xc.below hb; replace h8 := h8.below hb h8.lt; replace hr := hr.trans (hb.mono hr.size)
    clear hb
    go_wp2_with fail
    refine m_keep hr ?_
    have hcr := closer_any C A2 c2 M k _ hI (by omega) (by omega)
    rw [HCK.out] at hcr
    have HCR := hideC hcr
    clear hcr
    refine m_s1 5 (by kernel_rfl) rfl ?_
    go_wp2_with fail
    refine (HCR.out).mono ?_
    rintro e u6 ⟨rfl, hb⟩
    replace hI := hI.below hb; replace hT := hT.below hb; replace b2 := b2.trans (hb.mono b2.size); replace hY := hY.below hb hY.lt; replace hm := hm.below hb; replace s1 := s1.below hb; replace h7 := h7.below hb h7.lt; replace xr := xr.below hb; replace xc := xc.below hb; replace h8 := h8.below hb h8.lt; replace hr := hr.trans (hb.mono hr.size)
    clear hb
    go_wp2_with fail
    refine m_keep hr ?_
    clear HCR
    (refine m_q 7 (v := ?_) (by kernel_rfl) rfl rfl (fun W hW => ?_) ?_; rotate_left; (go_simp; first | done | with_reducible rfl); simp only [Act.put, List.setIfInBounds_toArray, List.set_cons_zero, List.set_cons_succ])
    (refine m_q 8 (v := ?_) (by kernel_rfl) rfl rfl (fun W hW => ?_) ?_; rotate_left; (go_simp; first | done | with_reducible rfl); simp only [Act.put, List.setIfInBounds_toArray, List.set_cons_zero, List.set_cons_succ]); (refine m_q 9 (v := ?_) (by kernel_rfl) rfl rfl (fun W hW => ?_) ?_; rotate_left; (go_simp; first | done | with_reducible rfl); simp only [Act.put, List.setIfInBounds_toArray, List.set_cons_zero, List.set_cons_succ])
    (refine m_yes 10 (v := ?_) (by kernel_rfl) rfl (by rfl) (fun W hW => ?_) ?_; rotate_left; (have zz7 := onB hW z7; have zz80 := onB hW z80; have zz81 := onB hW z81; have zy0 := onB hW y0; have zy1 := onB hW y1; go_simp; first | done | with_reducible rfl); simp only [Act.put, List.setIfInBounds_toArray, List.set_cons_zero, List.set_cons_succ]); (refine m_yes 11 (v := ?_) (by kernel_rfl) rfl (by rfl) (fun W hW => ?_) ?_; rotate_left; (have zz7 := onB hW z7; have zz80 := onB hW z80; have zz81 := onB hW z81; have zy0 := onB hW y0; have zy1 := onB hW y1; go_simp; first | done | with_reducible rfl); simp only [Act.put, List.setIfInBounds_toArray, List.set_cons_zero, List.set_cons_succ]); (refine m_yes 12 (v := ?_) (by kernel_rfl) rfl (by rfl) (fun W hW => ?_) ?_; rotate_left; (have zz7 := onB hW z7; have zz80 := onB hW z80; have zz81 := onB hW z81; have zy0 := onB hW y0; have zy1 := onB hW y1; go_simp; first | done | with_reducible rfl); simp only [Act.put, List.setIfInBounds_toArray, List.set_cons_zero, List.set_cons_succ])
    refine m_s1 13 (by kernel_rfl) rfl ?_
    go_wp2_with fail
    refine (closed_is (decide_eq_true ((clo_clo hl _).trans (clo_low _).symm)) hm xc hT).mono ?_
    rintro e u7 ⟨rfl, hb⟩
    replace hI := hI.below hb; replace hT := hT.below hb; replace b2 := b2.trans (hb.mono b2.size); replace hY := hY.below hb hY.lt; replace hm := hm.below hb; replace s1 := s1.below hb; replace h7 := h7.below hb h7.lt; replace xr := xr.below hb; replace xc := xc.below hb; replace h8 := h8.below hb h8.lt; replace hr := hr.trans (hb.mono hr.size)
    clear hb
    go_wp2_with fail
    refine m_keep hr ?_
    (refine m_yes 14 (v := ?_) (by kernel_rfl) rfl (by rfl) (fun W hW => ?_) ?_; rotate_left; (go_simp; first | done | with_reducible rfl); simp only [Act.put, List.setIfInBounds_toArray, List.set_cons_zero, List.set_cons_succ])
    (refine m_q 15 (v := ?_) (by kernel_rfl) rfl rfl (fun W hW => ?_) ?_; rotate_left; (go_simp; first | done | with_reducible rfl); simp only [Act.put, List.setIfInBounds_toArray, List.set_cons_zero, List.set_cons_succ])
    refine m_end (by kernel_rfl) ?_
    clear z7 z80 z81 y0 y1
    go_wp2_with fail
    refine wp_mix (fun V => Below u7.heap.size u7 V) 37 (by kernel_rfl) (by kernel_rfl) (Below.refl _ _).drew ?_
    have hr : Below u7.heap.size u7 u7.drew := (Below.refl _ _).drew
    obtain ⟨u8, hw⟩ : ∃ V, V = u7.drew := ⟨_, rfl⟩
    rw [← hw] at hr ⊢; clear hw
    have hb := hr
    have z80 := h8.cell 0
    have z81 := h8.cell 1
    have y0 := hY.cell 0
    have y1 := hY.cell 1
    replace hI := hI.below hb; replace hT := hT.below hb; replace b2 := b2.trans (hb.mono b2.size); replace hY := hY.below hb hY.lt; replace hm := hm.below hb; replace s1 := s1.below hb; replace h7 := h7.below hb h7.lt; replace xr := xr.below hb; replace xc := xc.below hb; replace h8 := h8.below hb h8.lt
    clear hb
    (refine m_q 0 (v := ?_) (by kernel_rfl) rfl rfl (fun W hW => ?_) ?_; rotate_left; (have zz80 := onB hW z80; have zz81 := onB hW z81; have zy0 := onB hW y0; have zy1 := onB hW y1; go_simp; first | done | with_reducible rfl); simp only [Act.put, List.setIfInBounds_toArray, List.set_cons_zero, List.set_cons_succ]); (refine m_q 1 (v := ?_) (by kernel_rfl) rfl rfl (fun W hW => ?_) ?_; rotate_left; (have zz80 := onB hW z80; have zz81 := onB hW z81; have zy0 := onB hW y0; have zy1 := onB hW y1; go_simp; first | done | with_reducible rfl); simp only [Act.put, List.setIfInBounds_toArray, List.set_cons_zero, List.set_cons_succ]); (refine m_q 2 (v := ?_) (by kernel_rfl) rfl rfl (fun W hW => ?_) ?_; rotate_left; (have zz80 := onB hW z80; have zz81 := onB hW z81; have zy0 := onB hW y0; have zy1 := onB hW y1; go_simp; first | done | with_reducible rfl); simp only [Act.put, List.setIfInBounds_toArray, List.set_cons_zero, List.set_cons_succ]); (refine m_q 3 (v := ?_) (by kernel_rfl) rfl rfl (fun W hW => ?_) ?_; rotate_left; (have zz80 := onB hW z80; have zz81 := onB hW z81; have zy0 := onB hW y0; have zy1 := onB hW y1; go_simp; first | done | with_reducible rfl); simp only [Act.put, List.setIfInBounds_toArray, List.set_cons_zero, List.set_cons_succ]); (refine m_q 4 (v := ?_) (by kernel_rfl) rfl rfl (fun W hW => ?_) ?_; rotate_left; (have zz80 := onB hW z80; have zz81 := onB hW z81; have zy0 := onB hW y0; have zy1 := onB hW y1; go_simp; first | done | with_reducible rfl); simp only [Act.put, List.setIfInBounds_toArray, List.set_cons_zero, List.set_cons_succ])
    refine m_s1 5 (by kernel_rfl) rfl ?_
    go_wp2_with fail
    refine (closer_any C A2 c2 M a _ hI (by omega) (by omega)).mono ?_
    rintro e u9 ⟨rfl, hb⟩
    replace hI := hI.below hb; replace hT := hT.below hb; replace b2 := b2.trans (hb.mono b2.size); replace hY := hY.below hb hY.lt; replace hm := hm.below hb; replace s1 := s1.below hb; replace h7 := h7.below hb h7.lt; replace xr := xr.below hb; replace xc := xc.below hb; replace h8 := h8.below hb h8.lt; replace hr := hr.trans (hb.mono hr.size)
    clear hb
    go_wp2_with fail
    refine m_keep hr ?_
    refine m_s1 6 (by kernel_rfl) rfl ?_
    go_wp2_with fail
    refine (res3 (rfl) (set_any45 _ (comN_64 (by omega) _) _)).mono ?_
    rintro e u10 ⟨At6, nt6, ct6, rfl, t6, hb⟩
    replace hI := hI.below hb; replace hT := hT.below hb; replace b2 := b2.trans (hb.mono b2.size); replace hY := hY.below hb hY.lt; replace hm := hm.below hb; replace s1 := s1.below hb; replace h7 := h7.below hb h7.lt; replace xr := xr.below hb; replace xc := xc.below hb; replace h8 := h8.below hb h8.lt; replace hr := hr.trans (hb.mono hr.size)
    clear hb
    go_wp2_with fail
    refine m_keep hr ?_
    refine m_s1 7 (by kernel_rfl) rfl ?_
    go_wp2_with fail
    refine (eq_same xc t6).mono ?_
    rintro e u11 ⟨rfl, hb⟩
    replace hI := hI.below hb; replace hT := hT.below hb; replace b2 := b2.trans (hb.mono b2.size); replace hY := hY.below hb hY.lt; replace hm := hm.below hb; replace s1 := s1.below hb; replace h7 := h7.below hb h7.lt; replace xr := xr.below hb; replace xc := xc.below hb; replace h8 := h8.below hb h8.lt; replace hr := hr.trans (hb.mono hr.size); replace t6 := t6.below hb
    clear hb
    go_wp2_with fail
    refine m_keep hr ?_
    (refine m_q 8 (v := ?_) (by kernel_rfl) rfl rfl (fun W hW => ?_) ?_; rotate_left; (go_simp; first | done | with_reducible rfl); simp only [Act.put, List.setIfInBounds_toArray, List.set_cons_zero, List.set_cons_succ])
    (refine m_yes 9 (v := ?_) (by kernel_rfl) rfl (by rfl) (fun W hW => ?_) ?_; rotate_left; (have zz80 := onB hW z80; have zz81 := onB hW z81; have zy0 := onB hW y0; have zy1 := onB hW y1; go_simp; first | done | with_reducible rfl); simp only [Act.put, List.setIfInBounds_toArray, List.set_cons_zero, List.set_cons_succ]); (refine m_yes 10 (v := ?_) (by kernel_rfl) rfl (by rfl) (fun W hW => ?_) ?_; rotate_left; (have zz80 := onB hW z80; have zz81 := onB hW z81; have zy0 := onB hW y0; have zy1 := onB hW y1; go_simp; first | done | with_reducible rfl); simp only [Act.put, List.setIfInBounds_toArray, List.set_cons_zero, List.set_cons_succ]); (refine m_yes 11 (v := ?_) (by kernel_rfl) rfl (by rfl) (fun W hW => ?_) ?_; rotate_left; (have zz80 := onB hW z80; have zz81 := onB hW z81; have zy0 := onB hW y0; have zy1 := onB hW y1; go_simp; first | done | with_reducible rfl); simp only [Act.put, List.setIfInBounds_toArray, List.set_cons_zero, List.set_cons_succ]); (refine m_yes 12 (v := ?_) (by kernel_rfl) rfl (by rfl) (fun W hW => ?_) ?_; rotate_left; (have zz80 := onB hW z80; have zz81 := onB hW z81; have zy0 := onB hW y0; have zy1 := onB hW y1; go_simp; first | done | with_reducible rfl); simp only [Act.put, List.setIfInBounds_toArray, List.set_cons_zero, List.set_cons_succ]); (refine m_yes 13 (v := ?_) (by kernel_rfl) rfl (by rfl) (fun W hW => ?_) ?_; rotate_left; (have zz80 := onB hW z80; have zz81 := onB hW z81; have zy0 := onB hW y0; have zy1 := onB hW y1; go_simp; first | done | with_reducible rfl); simp only [Act.put, List.setIfInBounds_toArray, List.set_cons_zero, List.set_cons_succ])
    refine m_s1 14 (by kernel_rfl) rfl ?_
    go_wp2_with fail
    refine (havr_any C A2 c2 M a _ hI (by omega) (by omega)).mono ?_
    rintro e u12 ⟨rfl, hb⟩
    replace hI := hI.below hb; replace hT := hT.below hb; replace b2 := b2.trans (hb.mono b2.size); replace hY := hY.below hb hY.lt; replace hm := hm.below hb; replace s1 := s1.below hb; replace h7 := h7.below hb h7.lt; replace xr := xr.below hb; replace xc := xc.below hb; replace h8 := h8.below hb h8.lt; replace hr := hr.trans (hb.mono hr.size); replace t6 := t6.below hb
    clear hb
    go_wp2_with fail
    refine m_keep hr ?_
    refine m_s1 15 (by kernel_rfl) rfl ?_
    go_wp2_with fail
    refine (res3 (rfl) (set_any45 _ (havN_64 (by rw [nsTo_len]; omega) _) _)).mono ?_
    rintro e u13 ⟨At15, nt15, ct15, rfl, t15, hb⟩
    replace hI := hI.below hb; replace hT := hT.below hb; replace b2 := b2.trans (hb.mono b2.size); replace hY := hY.below hb hY.lt; replace hm := hm.below hb; replace s1 := s1.below hb; replace h7 := h7.below hb h7.lt; replace xr := xr.below hb; replace xc := xc.below hb; replace h8 := h8.below hb h8.lt; replace hr := hr.trans (hb.mono hr.size); replace t6 := t6.below hb
    clear hb
    go_wp2_with fail
    refine m_keep hr ?_
    refine m_s1 16 (by kernel_rfl) rfl ?_
    go_wp2_with fail
    refine (eq_same xr t15).mono ?_
    rintro e u14 ⟨rfl, hb⟩
    replace hI := hI.below hb; replace hT := hT.below hb; replace b2 := b2.trans (hb.mono b2.size); replace hY := hY.below hb hY.lt; replace hm := hm.below hb; replace s1 := s1.below hb; replace h7 := h7.below hb h7.lt; replace xr := xr.below hb; replace xc := xc.below hb; replace h8 := h8.below hb h8.lt; replace hr := hr.trans (hb.mono hr.size); replace t6 := t6.below hb; replace t15 := t15.below hb
    clear hb
    go_wp2_with fail
    refine m_keep hr ?_
    (refine m_q 17 (v := ?_) (by kernel_rfl) rfl rfl (fun W hW => ?_) ?_; rotate_left; (go_simp; first | done | with_reducible rfl); simp only [Act.put, List.setIfInBounds_toArray, List.set_cons_zero, List.set_cons_succ]); (refine m_q 18 (v := ?_) (by kernel_rfl) rfl rfl (fun W hW => ?_) ?_; rotate_left; (go_simp; first | done | with_reducible rfl); simp only [Act.put, List.setIfInBounds_toArray, List.set_cons_zero, List.set_cons_succ])
    (refine m_yes 19 (v := ?_) (by kernel_rfl) rfl (by rfl) (fun W hW => ?_) ?_; rotate_left; (have zz80 := onB hW z80; have zz81 := onB hW z81; have zy0 := onB hW y0; have zy1 := onB hW y1; go_simp; first | done | with_reducible rfl); simp only [Act.put, List.setIfInBounds_toArray, List.set_cons_zero, List.set_cons_succ]); (refine m_yes 20 (v := ?_) (by kernel_rfl) rfl (by rfl) (fun W hW => ?_) ?_; rotate_left; (have zz80 := onB hW z80; have zz81 := onB hW z81; have zy0 := onB hW y0; have zy1 := onB hW y1; go_simp; first | done | with_reducible rfl); simp only [Act.put, List.setIfInBounds_toArray, List.set_cons_zero, List.set_cons_succ]); (refine m_yes 21 (v := ?_) (by kernel_rfl) rfl (by rfl) (fun W hW => ?_) ?_; rotate_left; (have zz80 := onB hW z80; have zz81 := onB hW z81; have zy0 := onB hW y0; have zy1 := onB hW y1; go_simp; first | done | with_reducible rfl); simp only [Act.put, List.setIfInBounds_toArray, List.set_cons_zero, List.set_cons_succ]); (refine m_yes 23 (v := ?_) (by kernel_rfl) rfl (by rfl) (fun W hW => ?_) ?_; rotate_left; (have zz80 := onB hW z80; have zz81 := onB hW z81; have zy0 := onB hW y0; have zy1 := onB hW y1; go_simp; first | done | with_reducible rfl); simp only [Act.put, List.setIfInBounds_toArray, List.set_cons_zero, List.set_cons_succ]); (refine m_yes 24 (v := ?_) (by kernel_rfl) rfl (by rfl) (fun W hW => ?_) ?_; rotate_left; (have zz80 := onB hW z80; have zz81 := onB hW z81; have zy0 := onB hW y0; have zy1 := onB hW y1; go_simp; first | done | with_reducible rfl); simp only [Act.put, List.setIfInBounds_toArray, List.set_cons_zero, List.set_cons_succ])
    refine m_s1 22 (by kernel_rfl) rfl ?_
    go_wp2_with fail
    refine (res3 (hav_clo hl _) (having_any _ C (nsOf C M) _ _ _ hm.mv xc hT)).mono ?_
    rintro e u15 ⟨At22, nt22, ct22, rfl, t22, hb⟩
    replace hI := hI.below hb; replace hT := hT.below hb; replace b2 := b2.trans (hb.mono b2.size); replace hY := hY.below hb hY.lt; replace hm := hm.below hb; replace s1 := s1.below hb; replace h7 := h7.below hb h7.lt; replace xr := xr.below hb; replace xc := xc.below hb; replace h8 := h8.below hb h8.lt; replace hr := hr.trans (hb.mono hr.size); replace t6 := t6.below hb; replace t15 := t15.below hb
    clear hb
    go_wp2_with fail
    refine m_keep hr ?_
    refine m_s1 25 (by kernel_rfl) rfl ?_
    go_wp2_with fail
    refine (eq_same t22 xr).mono ?_
    rintro e u16 ⟨rfl, hb⟩
    replace hI := hI.below hb; replace hT := hT.below hb; replace b2 := b2.trans (hb.mono b2.size); replace hY := hY.below hb hY.lt; replace hm := hm.below hb; replace s1 := s1.below hb; replace h7 := h7.below hb h7.lt; replace xr := xr.below hb; replace xc := xc.below hb; replace h8 := h8.below hb h8.lt; replace hr := hr.trans (hb.mono hr.size); replace t6 := t6.below hb; replace t15 := t15.below hb; replace t22 := t22.below hb
    clear hb
    go_wp2_with fail
    refine m_keep hr ?_
    (refine m_q 26 (v := ?_) (by kernel_rfl) rfl rfl (fun W hW => ?_) ?_; rotate_left; (go_simp; first | done | with_reducible rfl); simp only [Act.put, List.setIfInBounds_toArray, List.set_cons_zero, List.set_cons_succ]); (refine m_q 27 (v := ?_) (by kernel_rfl) rfl rfl (fun W hW => ?_) ?_; rotate_left; (go_simp; first | done | with_reducible rfl); simp only [Act.put, List.setIfInBounds_toArray, List.set_cons_zero, List.set_cons_succ])
    (refine m_yes 28 (v := ?_) (by kernel_rfl) rfl (by rfl) (fun W hW => ?_) ?_; rotate_left; (have zz80 := onB hW z80; have zz81 := onB hW z81; have zy0 := onB hW y0; have zy1 := onB hW y1; go_simp; first | done | with_reducible rfl); simp only [Act.put, List.setIfInBounds_toArray, List.set_cons_zero, List.set_cons_succ]); (refine m_yes 29 (v := ?_) (by kernel_rfl) rfl (by rfl) (fun W hW => ?_) ?_; rotate_left; (have zz80 := onB hW z80; have zz81 := onB hW z81; have zy0 := onB hW y0; have zy1 := onB hW y1; go_simp; first | done | with_reducible rfl); simp only [Act.put, List.setIfInBounds_toArray, List.set_cons_zero, List.set_cons_succ]); (refine m_yes 30 (v := ?_) (by kernel_rfl) rfl (by rfl) (fun W hW => ?_) ?_; rotate_left; (have zz80 := onB hW z80; have zz81 := onB hW z81; have zy0 := onB hW y0; have zy1 := onB hW y1; go_simp; first | done | with_reducible rfl); simp only [Act.put, List.setIfInBounds_toArray, List.set_cons_zero, List.set_cons_succ]); (refine m_yes 32 (v := ?_) (by kernel_rfl) rfl (by rfl) (fun W hW => ?_) ?_; rotate_left; (have zz80 := onB hW z80; have zz81 := onB hW z81; have zy0 := onB hW y0; have zy1 := onB hW y1; go_simp; first | done | with_reducible rfl); simp only [Act.put, List.setIfInBounds_toArray, List.set_cons_zero, List.set_cons_succ]); (refine m_yes 33 (v := ?_) (by kernel_rfl) rfl (by rfl) (fun W hW => ?_) ?_; rotate_left; (have zz80 := onB hW z80; have zz81 := onB hW z81; have zy0 := onB hW y0; have zy1 := onB hW y1; go_simp; first | done | with_reducible rfl); simp only [Act.put, List.setIfInBounds_toArray, List.set_cons_zero, List.set_cons_succ])
    refine m_s1 31 (by kernel_rfl) rfl ?_
    go_wp2_with fail
    refine (res3 (rfl) (common_any _ C (nsOf C M) _ _ _ hm.mv xr hT)).mono ?_
    rintro e u17 ⟨At31, nt31, ct31, rfl, t31, hb⟩
    replace hI := hI.below hb; replace hT := hT.below hb; replace b2 := b2.trans (hb.mono b2.size); replace hY := hY.below hb hY.lt; replace hm := hm.below hb; replace s1 := s1.below hb; replace h7 := h7.below hb h7.lt; replace xr := xr.below hb; replace xc := xc.below hb; replace h8 := h8.below hb h8.lt; replace hr := hr.trans (hb.mono hr.size); replace t6 := t6.below hb; replace t15 := t15.below hb; replace t22 := t22.below hb
    clear hb
    go_wp2_with fail
    refine m_keep hr ?_
    refine m_s1 34 (by kernel_rfl) rfl ?_
    go_wp2_with fail
    refine (eq_same t31 xc).mono ?_
    rintro e u18 ⟨rfl, hb⟩
    replace hI := hI.below hb; replace hT := hT.below hb; replace b2 := b2.trans (hb.mono b2.size); replace hY := hY.below hb hY.lt; replace hm := hm.below hb; replace s1 := s1.below hb; replace h7 := h7.below hb h7.lt; replace xr := xr.below hb; replace xc := xc.below hb; replace h8 := h8.below hb h8.lt; replace hr := hr.trans (hb.mono hr.size); replace t6 := t6.below hb; replace t15 := t15.below hb; replace t22 := t22.below hb; replace t31 := t31.below hb
    clear hb
    go_wp2_with fail
    refine m_keep hr ?_
    (refine m_q 35 (v := ?_) (by kernel_rfl) rfl rfl (fun W hW => ?_) ?_; rotate_left; (go_simp; first | done | with_reducible rfl); simp only [Act.put, List.setIfInBounds_toArray, List.set_cons_zero, List.set_cons_succ]); (refine m_q 36 (v := ?_) (by kernel_rfl) rfl rfl (fun W hW => ?_) ?_; rotate_left; (go_simp; first | done | with_reducible rfl); simp only [Act.put, List.setIfInBounds_toArray, List.set_cons_zero, List.set_cons_succ])
    refine m_end (by kernel_rfl) ?_
    clear z80 z81 y0 y1
    go_wp2_with fail
    go_ret
    exact ⟨rfl, b2⟩
  · have HX := Lib.hid (show decide (cloN C (nsOf C M) a = a &&& lowN C) = false by rw [← HK.out]; exact decide_eq_false hx)
    obtain ⟨u, hu⟩ : ∃ u, u = cloN C (nsOf C M) a := ⟨_, rfl⟩
    have HCK := Lib.hid (hck.trans hu.symm)
    rw [← hu] at hx
    have hne : ((u : Int) == (k : Int)) = false := by rw [beq_eq_false_iff_ne]; omega
    clear hx hck hu
    go_wp2_with fail
    refine wp_mix (fun V => Below w8.heap.size w8 V) 16 (by kernel_rfl) (by kernel_rfl) (Below.refl _ _).drew ?_
    have hr : Below w8.heap.size w8 w8.drew := (Below.refl _ _).drew
    obtain ⟨u4, hw⟩ : ∃ V, V = w8.drew := ⟨_, rfl⟩
    rw [← hw] at hr ⊢; clear hw
    have hb := hr
    have z7 := h7.cell 0
    have z80 := h8.cell 0
    have z81 := h8.cell 1
    have y0 := hY.cell 0
    have y1 := hY.cell 1
    replace hI := hI.below hb; replace hT := hT.below hb; replace b2 := b2.trans (hb.mono b2.size); replace hY := hY.below hb hY.lt; replace hm := hm.below hb; replace s1 := s1.below hb; replace h7 := h7.below hb h7.lt; replace xr := xr.below hb; replace xc := xc.below hb; replace h8 := h8.below hb h8.lt
    clear hb
    (refine m_q 0 (v := ?_) (by kernel_rfl) rfl rfl (fun W hW => ?_) ?_; rotate_left; (have zz7 := onB hW z7; have zz80 := onB hW z80; have zz81 := onB hW z81; have zy0 := onB hW y0; have zy1 := onB hW y1; go_simp; first | done | with_reducible rfl); simp only [Act.put, List.setIfInBounds_toArray, List.set_cons_zero, List.set_cons_succ]); (refine m_q 1 (v := ?_) (by kernel_rfl) rfl rfl (fun W hW => ?_) ?_; rotate_left; (have zz7 := onB hW z7; have zz80 := onB hW z80; have zz81 := onB hW z81; have zy0 := onB hW y0; have zy1 := onB hW y1; go_simp; first | done | with_reducible rfl); simp only [Act.put, List.setIfInBounds_toArray, List.set_cons_zero, List.set_cons_succ]); (refine m_q 3 (v := ?_) (by kernel_rfl) rfl rfl (fun W hW => ?_) ?_; rotate_left; (have zz7 := onB hW z7; have zz80 := onB hW z80; have zz81 := onB hW z81; have zy0 := onB hW y0; have zy1 := onB hW y1; go_simp; first | done | with_reducible rfl); simp only [Act.put, List.setIfInBounds_toArray, List.set_cons_zero, List.set_cons_succ]); (refine m_q 4 (v := ?_) (by kernel_rfl) rfl rfl (fun W hW => ?_) ?_; rotate_left; (have zz7 := onB hW z7; have zz80 := onB hW z80; have zz81 := onB hW z81; have zy0 := onB hW y0; have zy1 := onB hW y1; go_simp; first | done | with_reducible rfl); simp only [Act.put, List.setIfInBounds_toArray, List.set_cons_zero, List.set_cons_succ]); (refine m_q 6 (v := ?_) (by kernel_rfl) rfl rfl (fun W hW => ?_) ?_; rotate_left; (have zz7 := onB hW z7; have zz80 := onB hW z80; have zz81 := onB hW z81; have zy0 := onB hW y0; have zy1 := onB hW y1; go_simp; first | done | with_reducible rfl); simp only [Act.put, List.setIfInBounds_toArray, List.set_cons_zero, List.set_cons_succ])
    refine m_s1 2 (by kernel_rfl) rfl ?_
    go_wp2_with fail
    refine (closed_is HX.out hm s1 hT).mono ?_
    rintro e u5 ⟨rfl, hb⟩
    replace hI := hI.below hb; replace hT := hT.below hb; replace b2 := b2.trans (hb.mono b2.size); replace hY := hY.below hb hY.lt; replace hm := hm.below hb; replace s1 := s1.below hb; replace h7 := h7.below hb h7.lt; replace xr := xr.below hb; replace xc := xc.below hb; replace h8 := h8.below hb h8.lt; replace hr := hr.trans (hb.mono hr.size)
    clear hb
    go_wp2_with fail
    refine m_keep hr ?_
    have hcr := closer_any C A2 c2 M k _ hI (by omega) (by omega)
    rw [HCK.out] at hcr
    have HCR := hideC hcr
    clear hcr
    refine m_s1 5 (by kernel_rfl) rfl ?_
    go_wp2_with fail
    refine (HCR.out).mono ?_
    rintro e u6 ⟨rfl, hb⟩
    replace hI := hI.below hb; replace hT := hT.below hb; replace b2 := b2.trans (hb.mono b2.size); replace hY := hY.below hb hY.lt; replace hm := hm.below hb; replace s1 := s1.below hb; replace h7 := h7.below hb h7.lt; replace xr := xr.below hb; replace xc := xc.below hb; replace h8 := h8.below hb h8.lt; replace hr := hr.trans (hb.mono hr.size)
    clear hb
    go_wp2_with fail
    refine m_keep hr ?_
    clear HCR
    (refine m_q 7 (v := ?_) (by kernel_rfl) rfl rfl (fun W hW => ?_) ?_; rotate_left; (go_simp; first | done | with_reducible rfl); simp only [Act.put, List.setIfInBounds_toArray, List.set_cons_zero, List.set_cons_succ])
    (refine m_q 8 (v := ?_) (by kernel_rfl) rfl rfl (fun W hW => ?_) ?_; rotate_left; (go_simp; first | done | with_reducible rfl); simp only [Act.put, List.setIfInBounds_toArray, List.set_cons_zero, List.set_cons_succ]); (refine m_q 9 (v := ?_) (by kernel_rfl) rfl rfl (fun W hW => ?_) ?_; rotate_left; (go_simp; first | done | with_reducible rfl); simp only [Act.put, List.setIfInBounds_toArray, List.set_cons_zero, List.set_cons_succ])
    (refine m_yes 10 (v := ?_) (by kernel_rfl) rfl (by rfl) (fun W hW => ?_) ?_; rotate_left; (have zz7 := onB hW z7; have zz80 := onB hW z80; have zz81 := onB hW z81; have zy0 := onB hW y0; have zy1 := onB hW y1; go_simp; first | done | with_reducible rfl); simp only [Act.put, List.setIfInBounds_toArray, List.set_cons_zero, List.set_cons_succ]); (refine m_yes 11 (v := ?_) (by kernel_rfl) rfl (by rfl) (fun W hW => ?_) ?_; rotate_left; (have zz7 := onB hW z7; have zz80 := onB hW z80; have zz81 := onB hW z81; have zy0 := onB hW y0; have zy1 := onB hW y1; go_simp; first | done | with_reducible rfl); simp only [Act.put, List.setIfInBounds_toArray, List.set_cons_zero, List.set_cons_succ]); (refine m_yes 12 (v := ?_) (by kernel_rfl) rfl (by rfl) (fun W hW => ?_) ?_; rotate_left; (have zz7 := onB hW z7; have zz80 := onB hW z80; have zz81 := onB hW z81; have zy0 := onB hW y0; have zy1 := onB hW y1; go_simp; first | done | with_reducible rfl); simp only [Act.put, List.setIfInBounds_toArray, List.set_cons_zero, List.set_cons_succ])
    refine m_s1 13 (by kernel_rfl) rfl ?_
    go_wp2_with fail
    refine (closed_is (decide_eq_true ((clo_clo hl _).trans (clo_low _).symm)) hm xc hT).mono ?_
    rintro e u7 ⟨rfl, hb⟩
    replace hI := hI.below hb; replace hT := hT.below hb; replace b2 := b2.trans (hb.mono b2.size); replace hY := hY.below hb hY.lt; replace hm := hm.below hb; replace s1 := s1.below hb; replace h7 := h7.below hb h7.lt; replace xr := xr.below hb; replace xc := xc.below hb; replace h8 := h8.below hb h8.lt; replace hr := hr.trans (hb.mono hr.size)
    clear hb
    go_wp2_with fail
    refine m_keep hr ?_
    (refine m_yes 14 (v := ?_) (by kernel_rfl) rfl (by rfl) (fun W hW => ?_) ?_; rotate_left; (go_simp; first | done | with_reducible rfl); simp only [Act.put, List.setIfInBounds_toArray, List.set_cons_zero, List.set_cons_succ])
    (refine m_q 15 (v := ?_) (by kernel_rfl) rfl rfl (fun W hW => ?_) ?_; rotate_left; (go_simp; first | done | with_reducible rfl); simp only [Act.put, List.setIfInBounds_toArray, List.set_cons_zero, List.set_cons_succ])
    refine m_end (by kernel_rfl) ?_
    clear z7 z80 z81 y0 y1
    go_wp2_with fail
    refine wp_mix (fun V => Below u7.heap.size u7 V) 37 (by kernel_rfl) (by kernel_rfl) (Below.refl _ _).drew ?_
    have hr : Below u7.heap.size u7 u7.drew := (Below.refl _ _).drew
    obtain ⟨u8, hw⟩ : ∃ V, V = u7.drew := ⟨_, rfl⟩
    rw [← hw] at hr ⊢; clear hw
    have hb := hr
    have z80 := h8.cell 0
    have z81 := h8.cell 1
    have y0 := hY.cell 0
    have y1 := hY.cell 1
    replace hI := hI.below hb; replace hT := hT.below hb; replace b2 := b2.trans (hb.mono b2.size); replace hY := hY.below hb hY.lt; replace hm := hm.below hb; replace s1 := s1.below hb; replace h7 := h7.below hb h7.lt; replace xr := xr.below hb; replace xc := xc.below hb; replace h8 := h8.below hb h8.lt
    clear hb
    (refine m_q 0 (v := ?_) (by kernel_rfl) rfl rfl (fun W hW => ?_) ?_; rotate_left; (have zz80 := onB hW z80; have zz81 := onB hW z81; have zy0 := onB hW y0; have zy1 := onB hW y1; go_simp; first | done | with_reducible rfl); simp only [Act.put, List.setIfInBounds_toArray, List.set_cons_zero, List.set_cons_succ]); (refine m_q 1 (v := ?_) (by kernel_rfl) rfl rfl (fun W hW => ?_) ?_; rotate_left; (have zz80 := onB hW z80; have zz81 := onB hW z81; have zy0 := onB hW y0; have zy1 := onB hW y1; go_simp; first | done | with_reducible rfl); simp only [Act.put, List.setIfInBounds_toArray, List.set_cons_zero, List.set_cons_succ]); (refine m_q 2 (v := ?_) (by kernel_rfl) rfl rfl (fun W hW => ?_) ?_; rotate_left; (have zz80 := onB hW z80; have zz81 := onB hW z81; have zy0 := onB hW y0; have zy1 := onB hW y1; go_simp; first | done | with_reducible rfl); simp only [Act.put, List.setIfInBounds_toArray, List.set_cons_zero, List.set_cons_succ]); (refine m_q 3 (v := ?_) (by kernel_rfl) rfl rfl (fun W hW => ?_) ?_; rotate_left; (have zz80 := onB hW z80; have zz81 := onB hW z81; have zy0 := onB hW y0; have zy1 := onB hW y1; go_simp; first | done | with_reducible rfl); simp only [Act.put, List.setIfInBounds_toArray, List.set_cons_zero, List.set_cons_succ]); (refine m_q 4 (v := ?_) (by kernel_rfl) rfl rfl (fun W hW => ?_) ?_; rotate_left; (have zz80 := onB hW z80; have zz81 := onB hW z81; have zy0 := onB hW y0; have zy1 := onB hW y1; go_simp; first | done | with_reducible rfl); simp only [Act.put, List.setIfInBounds_toArray, List.set_cons_zero, List.set_cons_succ])
    refine m_s1 5 (by kernel_rfl) rfl ?_
    go_wp2_with fail
    refine (closer_any C A2 c2 M a _ hI (by omega) (by omega)).mono ?_
    rintro e u9 ⟨rfl, hb⟩
    replace hI := hI.below hb; replace hT := hT.below hb; replace b2 := b2.trans (hb.mono b2.size); replace hY := hY.below hb hY.lt; replace hm := hm.below hb; replace s1 := s1.below hb; replace h7 := h7.below hb h7.lt; replace xr := xr.below hb; replace xc := xc.below hb; replace h8 := h8.below hb h8.lt; replace hr := hr.trans (hb.mono hr.size)
    clear hb
    go_wp2_with fail
    refine m_keep hr ?_
    refine m_s1 6 (by kernel_rfl) rfl ?_
    go_wp2_with fail
    refine (res3 (rfl) (set_any45 _ (comN_64 (by omega) _) _)).mono ?_
    rintro e u10 ⟨At6, nt6, ct6, rfl, t6, hb⟩
    replace hI := hI.below hb; replace hT := hT.below hb; replace b2 := b2.trans (hb.mono b2.size); replace hY := hY.below hb hY.lt; replace hm := hm.below hb; replace s1 := s1.below hb; replace h7 := h7.below hb h7.lt; replace xr := xr.below hb; replace xc := xc.below hb; replace h8 := h8.below hb h8.lt; replace hr := hr.trans (hb.mono hr.size)
    clear hb
    go_wp2_with fail
    refine m_keep hr ?_
    refine m_s1 7 (by kernel_rfl) rfl ?_
    go_wp2_with fail
    refine (eq_same xc t6).mono ?_
    rintro e u11 ⟨rfl, hb⟩
    replace hI := hI.below hb; replace hT := hT.below hb; replace b2 := b2.trans (hb.mono b2.size); replace hY := hY.below hb hY.lt; replace hm := hm.below hb; replace s1 := s1.below hb; replace h7 := h7.below hb h7.lt; replace xr := xr.below hb; replace xc := xc.below hb; replace h8 := h8.below hb h8.lt; replace hr := hr.trans (hb.mono hr.size); replace t6 := t6.below hb
    clear hb
    go_wp2_with fail
    refine m_keep hr ?_
    (refine m_q 8 (v := ?_) (by kernel_rfl) rfl rfl (fun W hW => ?_) ?_; rotate_left; (go_simp; first | done | with_reducible rfl); simp only [Act.put, List.setIfInBounds_toArray, List.set_cons_zero, List.set_cons_succ])
    (refine m_yes 9 (v := ?_) (by kernel_rfl) rfl (by rfl) (fun W hW => ?_) ?_; rotate_left; (have zz80 := onB hW z80; have zz81 := onB hW z81; have zy0 := onB hW y0; have zy1 := onB hW y1; go_simp; first | done | with_reducible rfl); simp only [Act.put, List.setIfInBounds_toArray, List.set_cons_zero, List.set_cons_succ]); (refine m_yes 10 (v := ?_) (by kernel_rfl) rfl (by rfl) (fun W hW => ?_) ?_; rotate_left; (have zz80 := onB hW z80; have zz81 := onB hW z81; have zy0 := onB hW y0; have zy1 := onB hW y1; go_simp; first | done | with_reducible rfl); simp only [Act.put, List.setIfInBounds_toArray, List.set_cons_zero, List.set_cons_succ]); (refine m_yes 11 (v := ?_) (by kernel_rfl) rfl (by rfl) (fun W hW => ?_) ?_; rotate_left; (have zz80 := onB hW z80; have zz81 := onB hW z81; have zy0 := onB hW y0; have zy1 := onB hW y1; go_simp; first | done | with_reducible rfl); simp only [Act.put, List.setIfInBounds_toArray, List.set_cons_zero, List.set_cons_succ]); (refine m_yes 12 (v := ?_) (by kernel_rfl) rfl (by rfl) (fun W hW => ?_) ?_; rotate_left; (have zz80 := onB hW z80; have zz81 := onB hW z81; have zy0 := onB hW y0; have zy1 := onB hW y1; go_simp; first | done | with_reducible rfl); simp only [Act.put, List.setIfInBounds_toArray, List.set_cons_zero, List.set_cons_succ]); (refine m_yes 13 (v := ?_) (by kernel_rfl) rfl (by rfl) (fun W hW => ?_) ?_; rotate_left; (have zz80 := onB hW z80; have zz81 := onB hW z81; have zy0 := onB hW y0; have zy1 := onB hW y1; go_simp; first | done | with_reducible rfl); simp only [Act.put, List.setIfInBounds_toArray, List.set_cons_zero, List.set_cons_succ])
    refine m_s1 14 (by kernel_rfl) rfl ?_
    go_wp2_with fail
    refine (havr_any C A2 c2 M a _ hI (by omega) (by omega)).mono ?_
    rintro e u12 ⟨rfl, hb⟩
    replace hI := hI.below hb; replace hT := hT.below hb; replace b2 := b2.trans (hb.mono b2.size); replace hY := hY.below hb hY.lt; replace hm := hm.below hb; replace s1 := s1.below hb; replace h7 := h7.below hb h7.lt; replace xr := xr.below hb; replace xc := xc.below hb; replace h8 := h8.below hb h8.lt; replace hr := hr.trans (hb.mono hr.size); replace t6 := t6.below hb
    clear hb
    go_wp2_with fail
    refine m_keep hr ?_
    refine m_s1 15 (by kernel_rfl) rfl ?_
    go_wp2_with fail
    refine (res3 (rfl) (set_any45 _ (havN_64 (by rw [nsTo_len]; omega) _) _)).mono ?_
    rintro e u13 ⟨At15, nt15, ct15, rfl, t15, hb⟩
    replace hI := hI.below hb; replace hT := hT.below hb; replace b2 := b2.trans (hb.mono b2.size); replace hY := hY.below hb hY.lt; replace hm := hm.below hb; replace s1 := s1.below hb; replace h7 := h7.below hb h7.lt; replace xr := xr.below hb; replace xc := xc.below hb; replace h8 := h8.below hb h8.lt; replace hr := hr.trans (hb.mono hr.size); replace t6 := t6.below hb
    clear hb
    go_wp2_with fail
    refine m_keep hr ?_
    refine m_s1 16 (by kernel_rfl) rfl ?_
    go_wp2_with fail
    refine (eq_same xr t15).mono ?_
    rintro e u14 ⟨rfl, hb⟩
    replace hI := hI.below hb; replace hT := hT.below hb; replace b2 := b2.trans (hb.mono b2.size); replace hY := hY.below hb hY.lt; replace hm := hm.below hb; replace s1 := s1.below hb; replace h7 := h7.below hb h7.lt; replace xr := xr.below hb; replace xc := xc.below hb; replace h8 := h8.below hb h8.lt; replace hr := hr.trans (hb.mono hr.size); replace t6 := t6.below hb; replace t15 := t15.below hb
    clear hb
    go_wp2_with fail
    refine m_keep hr ?_
    (refine m_q 17 (v := ?_) (by kernel_rfl) rfl rfl (fun W hW => ?_) ?_; rotate_left; (go_simp; first | done | with_reducible rfl); simp only [Act.put, List.setIfInBounds_toArray, List.set_cons_zero, List.set_cons_succ]); (refine m_q 18 (v := ?_) (by kernel_rfl) rfl rfl (fun W hW => ?_) ?_; rotate_left; (go_simp; first | done | with_reducible rfl); simp only [Act.put, List.setIfInBounds_toArray, List.set_cons_zero, List.set_cons_succ])
    (refine m_yes 19 (v := ?_) (by kernel_rfl) rfl (by rfl) (fun W hW => ?_) ?_; rotate_left; (have zz80 := onB hW z80; have zz81 := onB hW z81; have zy0 := onB hW y0; have zy1 := onB hW y1; go_simp; first | done | with_reducible rfl); simp only [Act.put, List.setIfInBounds_toArray, List.set_cons_zero, List.set_cons_succ]); (refine m_yes 20 (v := ?_) (by kernel_rfl) rfl (by rfl) (fun W hW => ?_) ?_; rotate_left; (have zz80 := onB hW z80; have zz81 := onB hW z81; have zy0 := onB hW y0; have zy1 := onB hW y1; go_simp; first | done | with_reducible rfl); simp only [Act.put, List.setIfInBounds_toArray, List.set_cons_zero, List.set_cons_succ]); (refine m_yes 21 (v := ?_) (by kernel_rfl) rfl (by rfl) (fun W hW => ?_) ?_; rotate_left; (have zz80 := onB hW z80; have zz81 := onB hW z81; have zy0 := onB hW y0; have zy1 := onB hW y1; go_simp; first | done | with_reducible rfl); simp only [Act.put, List.setIfInBounds_toArray, List.set_cons_zero, List.set_cons_succ]); (refine m_yes 23 (v := ?_) (by kernel_rfl) rfl (by rfl) (fun W hW => ?_) ?_; rotate_left; (have zz80 := onB hW z80; have zz81 := onB hW z81; have zy0 := onB hW y0; have zy1 := onB hW y1; go_simp; first | done | with_reducible rfl); simp only [Act.put, List.setIfInBounds_toArray, List.set_cons_zero, List.set_cons_succ]); (refine m_yes 24 (v := ?_) (by kernel_rfl) rfl (by rfl) (fun W hW => ?_) ?_; rotate_left; (have zz80 := onB hW z80; have zz81 := onB hW z81; have zy0 := onB hW y0; have zy1 := onB hW y1; go_simp; first | done | with_reducible rfl); simp only [Act.put, List.setIfInBounds_toArray, List.set_cons_zero, List.set_cons_succ])
    refine m_s1 22 (by kernel_rfl) rfl ?_
    go_wp2_with fail
    refine (res3 (hav_clo hl _) (having_any _ C (nsOf C M) _ _ _ hm.mv xc hT)).mono ?_
    rintro e u15 ⟨At22, nt22, ct22, rfl, t22, hb⟩
    replace hI := hI.below hb; replace hT := hT.below hb; replace b2 := b2.trans (hb.mono b2.size); replace hY := hY.below hb hY.lt; replace hm := hm.below hb; replace s1 := s1.below hb; replace h7 := h7.below hb h7.lt; replace xr := xr.below hb; replace xc := xc.below hb; replace h8 := h8.below hb h8.lt; replace hr := hr.trans (hb.mono hr.size); replace t6 := t6.below hb; replace t15 := t15.below hb
    clear hb
    go_wp2_with fail
    refine m_keep hr ?_
    refine m_s1 25 (by kernel_rfl) rfl ?_
    go_wp2_with fail
    refine (eq_same t22 xr).mono ?_
    rintro e u16 ⟨rfl, hb⟩
    replace hI := hI.below hb; replace hT := hT.below hb; replace b2 := b2.trans (hb.mono b2.size); replace hY := hY.below hb hY.lt; replace hm := hm.below hb; replace s1 := s1.below hb; replace h7 := h7.below hb h7.lt; replace xr := xr.below hb; replace xc := xc.below hb; replace h8 := h8.below hb h8.lt; replace hr := hr.trans (hb.mono hr.size); replace t6 := t6.below hb; replace t15 := t15.below hb; replace t22 := t22.below hb
    clear hb
    go_wp2_with fail
    refine m_keep hr ?_
    (refine m_q 26 (v := ?_) (by kernel_rfl) rfl rfl (fun W hW => ?_) ?_; rotate_left; (go_simp; first | done | with_reducible rfl); simp only [Act.put, List.setIfInBounds_toArray, List.set_cons_zero, List.set_cons_succ]); (refine m_q 27 (v := ?_) (by kernel_rfl) rfl rfl (fun W hW => ?_) ?_; rotate_left; (go_simp; first | done | with_reducible rfl); simp only [Act.put, List.setIfInBounds_toArray, List.set_cons_zero, List.set_cons_succ])
    (refine m_yes 28 (v := ?_) (by kernel_rfl) rfl (by rfl) (fun W hW => ?_) ?_; rotate_left; (have zz80 := onB hW z80; have zz81 := onB hW z81; have zy0 := onB hW y0; have zy1 := onB hW y1; go_simp; first | done | with_reducible rfl); simp only [Act.put, List.setIfInBounds_toArray, List.set_cons_zero, List.set_cons_succ]); (refine m_yes 29 (v := ?_) (by kernel_rfl) rfl (by rfl) (fun W hW => ?_) ?_; rotate_left; (have zz80 := onB hW z80; have zz81 := onB hW z81; have zy0 := onB hW y0; have zy1 := onB hW y1; go_simp; first | done | with_reducible rfl); simp only [Act.put, List.setIfInBounds_toArray, List.set_cons_zero, List.set_cons_succ]); (refine m_yes 30 (v := ?_) (by kernel_rfl) rfl (by rfl) (fun W hW => ?_) ?_; rotate_left; (have zz80 := onB hW z80; have zz81 := onB hW z81; have zy0 := onB hW y0; have zy1 := onB hW y1; go_simp; first | done | with_reducible rfl); simp only [Act.put, List.setIfInBounds_toArray, List.set_cons_zero, List.set_cons_succ]); (refine m_yes 32 (v := ?_) (by kernel_rfl) rfl (by rfl) (fun W hW => ?_) ?_; rotate_left; (have zz80 := onB hW z80; have zz81 := onB hW z81; have zy0 := onB hW y0; have zy1 := onB hW y1; go_simp; first | done | with_reducible rfl); simp only [Act.put, List.setIfInBounds_toArray, List.set_cons_zero, List.set_cons_succ]); (refine m_yes 33 (v := ?_) (by kernel_rfl) rfl (by rfl) (fun W hW => ?_) ?_; rotate_left; (have zz80 := onB hW z80; have zz81 := onB hW z81; have zy0 := onB hW y0; have zy1 := onB hW y1; go_simp; first | done | with_reducible rfl); simp only [Act.put, List.setIfInBounds_toArray, List.set_cons_zero, List.set_cons_succ])
    refine m_s1 31 (by kernel_rfl) rfl ?_
    go_wp2_with fail
    refine (res3 (rfl) (common_any _ C (nsOf C M) _ _ _ hm.mv xr hT)).mono ?_
    rintro e u17 ⟨At31, nt31, ct31, rfl, t31, hb⟩
    replace hI := hI.below hb; replace hT := hT.below hb; replace b2 := b2.trans (hb.mono b2.size); replace hY := hY.below hb hY.lt; replace hm := hm.below hb; replace s1 := s1.below hb; replace h7 := h7.below hb h7.lt; replace xr := xr.below hb; replace xc := xc.below hb; replace h8 := h8.below hb h8.lt; replace hr := hr.trans (hb.mono hr.size); replace t6 := t6.below hb; replace t15 := t15.below hb; replace t22 := t22.below hb
    clear hb
    go_wp2_with fail
    refine m_keep hr ?_
    refine m_s1 34 (by kernel_rfl) rfl ?_
    go_wp2_with fail
    refine (eq_same t31 xc).mono ?_
    rintro e u18 ⟨rfl, hb⟩
    replace hI := hI.below hb; replace hT := hT.below hb; replace b2 := b2.trans (hb.mono b2.size); replace hY := hY.below hb hY.lt; replace hm := hm.below hb; replace s1 := s1.below hb; replace h7 := h7.below hb h7.lt; replace xr := xr.below hb; replace xc := xc.below hb; replace h8 := h8.below hb h8.lt; replace hr := hr.trans (hb.mono hr.size); replace t6 := t6.below hb; replace t15 := t15.below hb; replace t22 := t22.below hb; replace t31 := t31.below hb
    clear hb
    go_wp2_with fail
    refine m_keep hr ?_
    (refine m_q 35 (v := ?_) (by kernel_rfl) rfl rfl (fun W hW => ?_) ?_; rotate_left; (go_simp; first | done | with_reducible rfl); simp only [Act.put, List.setIfInBounds_toArray, List.set_cons_zero, List.set_cons_succ]); (refine m_q 36 (v := ?_) (by kernel_rfl) rfl rfl (fun W hW => ?_) ?_; rotate_left; (go_simp; first | done | with_reducible rfl); simp only [Act.put, List.setIfInBounds_toArray, List.set_cons_zero, List.set_cons_succ])
    refine m_end (by kernel_rfl) ?_
    clear z80 z81 y0 y1
    go_wp2_with fail
    go_ret
    exact ⟨rfl, b2⟩
end Mix2
end Go.Proofs.YtiicgbbgiedknaaDoor
