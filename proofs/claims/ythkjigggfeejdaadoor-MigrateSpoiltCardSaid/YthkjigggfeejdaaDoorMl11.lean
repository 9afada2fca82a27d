import Derived.Test.YthkjigggfeejdaaDoorMl7
import Derived.Test.YthkjigggfeejdaaDoorMl10
namespace Go.Proofs.YthkjigggfeejdaaDoor
open Go.RowKit

theorem cellsS_get : ∀ (l : List (Nat × Nat × Nat)) (k : Nat), cellsS (l.take k) = (cellsS l).take (k * 3)
  | [], k => by simp [cellsS]
  | s :: l, 0 => by simp [cellsS]
  | s :: l, k + 1 => by
    have e : ∀ m, cellsS (s :: m) = [.int .u8 (s.1 : Int), .int .i64 (s.2.1 : Int), .int .i64 (s.2.2 : Int)] ++ cellsS m := fun _ => rfl
    rw [List.take_succ_cons, e, e, cellsS_get l k, List.take_append]
    rw [show (k + 1) * 3 - [Value.int .u8 (s.1 : Int), .int .i64 (s.2.1 : Int), .int .i64 (s.2.2 : Int)].length = k * 3 by simp; omega]
    rw [List.take_of_length_le (l := [Value.int .u8 (s.1 : Int), .int .i64 (s.2.1 : Int), .int .i64 (s.2.2 : Int)]) (by simp; omega)]
theorem own_cap3 {w : World} {base : Nat} {e : TypeId} {v : Value} {n : Nat} {xs : List Value} (h : w.ownsRow base e 3 v n xs) : ∃ A c, v = .slice A n c ∧ Row w A xs ∧ n ≤ c ∧ c ≤ maxLen ∧ (A = none → n = 0 ∧ c = 0) := by
  obtain ⟨A, c, rfl, hr⟩ := row_of_own3 h
  rcases id h.2 with ⟨hv, hn⟩ | ⟨g, cap, cur, hv, _, _, h1, h2, _⟩
  · injection hv with e1 e2 e3
    subst e1; subst e3
    exact ⟨none, 0, rfl, hr, by omega, by unfold maxLen; omega, fun _ => ⟨hn, rfl⟩⟩
  · injection hv with e1 e2 e3
    subst e1; subst e3
    exact ⟨_, _, rfl, hr, h1, h2, fun h => by cases h⟩
theorem planJ_kind (D : Nat) (M P M' P' : List (List Bool)) : ∀ s ∈ planJ D M P M' P', s.1 ≤ 4 := by
  intro s hs
  obtain ⟨k, x, y⟩ := s
  unfold planJ planOf at hs
  rcases List.mem_append.1 hs with hs | hs
  · rcases List.mem_append.1 hs with hs | hs
    · rcases List.mem_append.1 hs with hs | hs
      · have := (mem_difM.1 hs).1; omega
      · have := (mem_difM.1 hs).1; omega
    · have := (mem_difM.1 hs).1; omega
  · have := (mem_difM.1 hs).1; omega
section
variable {w W W' : World} {X3 X4 u a b p : Nat} {A1 : Option Addr} {c1 : Nat} {B1 : Option Addr} {d1 : Nat} {A2 : Option Addr} {c2 : Nat} {B2 : Option Addr} {d2 : Nat} {M P M' P' : List (List Bool)}
theorem LI.swap (h : LI w W X3 X4 u a b p A1 c1 B1 d1 A2 c2 B2 d2 M P M' P') : LI w W X4 X3 u b a p A2 c2 B2 d2 A1 c1 B1 d1 M' P' M P :=
  ⟨h.new, h.old, h.rc', h.rc, h.lM', h.lP', h.lM, h.lP, ⟨h.bd.1, h.bd.2.2.1, h.bd.2.1, h.bd.2.2.2⟩, h.tab, h.below⟩
theorem LI.plan2 (h : LI w W X3 X4 u a b p A1 c1 B1 d1 A2 c2 B2 d2 M P M' P') {q r q' r' : Nat} {V : World} (hb : Below W.heap.size W V) (hc : IsCfg V q r a p M P) (hc' : IsCfg V q' r' b p M' P') :
    Calls Tryd.prog 29 #[cfgV q r, cfgV q' r'] V fun e w' => ∃ A c, e = .returned (.tuple #[.slice A (planJ p M P M' P').length c, .int .i64 0]) ∧ Row w' A (cellsS (planJ p M P M' P')) ∧ (planJ p M P M' P').length ≤ c ∧ c ≤ maxLen ∧ (A = none → (planJ p M P M' P').length = 0 ∧ c = 0) ∧ Below V.heap.size V w' := by
  refine (plan_any q r q' r' a b p M P M' P' V hc hc' (h.lM.trans h.lM'.symm) (by have := h.jn_le; omega) (by have := h.bd; have := h.lM; omega) (by have := h.bd; omega) (h.tab.below hb)).mono ?_
  rintro e w' ⟨v, rfl, ho, hb'⟩
  obtain ⟨A, c, rfl, hr, h1, h2, h3⟩ := own_cap3 ho
  exact ⟨A, c, rfl, hr, h1, h2, h3, hb'⟩
theorem LI.verify_plan (h : LI w W X3 X4 u a b p A1 c1 B1 d1 A2 c2 B2 d2 M P M' P') {q r q' r' : Nat} {V : World} (hb : Below W.heap.size W V) (hc : IsCfg V q r a p M P) (hc' : IsCfg V q' r' b p M' P') {A : Option Addr} {c : Nat} (hr : Row V A (cellsS (planJ p M P M' P'))) :
    Calls Tryd.prog 30 #[cfgV q r, cfgV q' r', .slice A (planJ p M P M' P').length c] V fun e w' => e = .returned (.tuple #[.int .u8 1, .int .i64 (planJ p M P M' P').length, .int .i64 0]) ∧ Below V.heap.size V w' := by
  have := h.verify hb hc hc' (c := c) (l := zst (planJ p M P M' P')) (by rw [cellsZ_zst]; exact hr) (zst_len _) (fun s hs => by obtain ⟨t, ht, rfl⟩ := List.mem_map.1 hs; have := planJ_kind _ _ _ _ _ t ht; omega) (by have := h.small; unfold maxLen; omega)
  rw [verJ_plan p M P M' P' (h.lM.trans h.lM'.symm)] at this
  exact this
theorem LI.verify_short (h : LI w W X3 X4 u a b p A1 c1 B1 d1 A2 c2 B2 d2 M P M' P') {q r q' r' : Nat} {V : World} (hb : Below W.heap.size W V) (hc : IsCfg V q r a p M P) (hc' : IsCfg V q' r' b p M' P') {A : Option Addr} {c k : Nat} (hk : k < (planJ p M P M' P').length) (hr : Row V A (cellsS (planJ p M P M' P'))) :
    Calls Tryd.prog 30 #[cfgV q r, cfgV q' r', .slice A k c] V fun e w' => e = .returned (.tuple #[.int .u8 5, .int .i64 k, .int .i64 0]) ∧ Below V.heap.size V w' := by
  have hl : (zst ((planJ p M P M' P').take k)).length = k := by rw [zst_len, List.length_take]; omega
  have := h.verify hb hc hc' (c := c) (l := zst ((planJ p M P M' P').take k)) (by rw [cellsZ_zst, cellsS_get]; exact hr.take _) hl (fun s hs => by obtain ⟨t, ht, rfl⟩ := List.mem_map.1 hs; have := planJ_kind _ _ _ _ _ t (List.mem_of_mem_take ht); omega) (by have := h.small; unfold maxLen; omega)
  rw [verJ_take p M P M' P' (h.lM.trans h.lM'.symm) (Nat.le_of_lt hk), if_neg (Nat.ne_of_lt hk)] at this
  exact this
end
set_option maxRecDepth 100000 in
set_option maxHeartbeats 40000000 in
theorem sound_walk (v : Value) (u a b p : Nat) (zs : List Int) (cut : Nat) (w : World) (hT : Tab w) (h : IsRaw49 w v u a b p zs) (hcut8 : cut ≤ 255) :
    Calls Tryd.prog 8 #[v, .int .u8 cut] w fun e w' => e = .returned (.bool true) ∧ Below w.heap.size w w' := by
  have hbd := h.bd
  have HIN := hideC h
  obtain ⟨u0, a0, b0, p0, AZ, cZ, hv, _⟩ := id h
  subst hv
  clear h
  go_enter Tryd.func8, Tryd.ntmps8
  go_wp2_with fail
  refine absC1 fun W0 hX hb0 hz => ?_
  clear hz
  refine (awake_any49 W0 (hT.below hb0)).mono ?_
  rintro e w1 ⟨rfl, hb1⟩
  have b1 := hb0.trans (hb1.mono hb0.size)
  have hX1 := hX.below hb1 hX.lt
  have x0 := hX1.cell 0
  have x1 := hX1.cell 1
  have x2 := hX1.cell 2
  have x3 := hX1.cell 3
  have x4 := hX1.cell 4
  clear hX hb0 hb1
  have HMK := hideC (rmake_any _ u a b p zs w1 (HIN.out.below b1))
  go_wp2_with fail
  refine HMK.out.mono ?_
  rintro e w2 ⟨M, P, M', P', A1, c1, B1, d1, A2, c2, B2, d2, rfl, hc, hc', lM, lP, lM', lP', hb2⟩
  have b2 := b1.trans (hb2.mono b1.size)
  clear x0 x1 x2 x3 x4 HMK hX1 hb2 b1
  go_wp2_with fail
  refine abs2 fun w3 h3 h4 hb3 hz3 => ?_
  have j : LI w w3 w2.heap.size (w2.heap.size + 1) u a b p A1 c1 B1 d1 A2 c2 B2 d2 M P M' P' := ⟨h3, h4, hc.below hb3, hc'.below hb3, lM, lP, lM', lP', hbd, hT.below (b2.trans (hb3.mono b2.size)), b2.trans (hb3.mono b2.size)⟩
  obtain ⟨X3, hX3⟩ : ∃ x, x = w2.heap.size := ⟨_, rfl⟩
  rw [← hX3] at j ⊢
  clear hX3 h3 h4 hc hc' lM lP lM' lP' hb3 hz3 b2 hbd HIN
  go_upto_region 4 with fail
  go_cut [7, 8] (fun s7 s8 wx => ∃ g7 g8 q1 r1 q2 r2, s7 = ptr g7 ∧ s8 = ptr g8 ∧ Blk wx g7 38 #[ptr q1, ptr r1] ∧ Blk wx g8 38 #[ptr q2, ptr r2] ∧ IsCfg wx q1 r1 a p M P ∧ IsCfg wx q2 r2 b p M' P' ∧ LI w wx X3 (X3 + 1) u a b p A1 c1 B1 d1 A2 c2 B2 d2 M P M' P')
  case first =>
    have hd : Below w3.heap.size w3 w3.drew := (Below.refl _ _).drew
    replace j := j.next hd
    refine wp_mix (fun V => Blk V X3 31 #[.int .i64 (a : Int), .slice A1 u c1, .int .i64 (p : Int), .slice B1 a d1] ∧ Blk V (X3 + 1) 31 #[.int .i64 (b : Int), .slice A2 u c2, .int .i64 (p : Int), .slice B2 b d2]) 8 (by kernel_rfl) (by kernel_rfl) ⟨j.old, j.new⟩ ?_
    obtain ⟨wq, hwq⟩ : ∃ V, V = w3.drew := ⟨_, rfl⟩
    rw [← hwq] at hd j ⊢
    clear hwq
    (refine m_q 0 (v := ?_) (by kernel_rfl) rfl rfl (fun W hW => ?_) ?_; rotate_left; (have z0 := hW.1.cell 0; have z1 := hW.1.cell 1; have z2 := hW.1.cell 2; have z3 := hW.1.cell 3; have u0 := hW.2.cell 0; have u1 := hW.2.cell 1; have u2 := hW.2.cell 2; have u3 := hW.2.cell 3; go_simp; first | done | with_reducible rfl); simp only [Act.put, List.setIfInBounds_toArray, List.set_cons_zero, List.set_cons_succ]); (refine m_q 2 (v := ?_) (by kernel_rfl) rfl rfl (fun W hW => ?_) ?_; rotate_left; (have z0 := hW.1.cell 0; have z1 := hW.1.cell 1; have z2 := hW.1.cell 2; have z3 := hW.1.cell 3; have u0 := hW.2.cell 0; have u1 := hW.2.cell 1; have u2 := hW.2.cell 2; have u3 := hW.2.cell 3; go_simp; first | done | with_reducible rfl); simp only [Act.put, List.setIfInBounds_toArray, List.set_cons_zero, List.set_cons_succ])
    refine m_s3 1 4 5 (by kernel_rfl) rfl rfl rfl ?_ ?_ ?_
    · go_wp2_with fail
      refine j.cfgA.mono ?_
      rintro e wk1 ⟨q1, r1, rfl, hq1, hb⟩
      replace j := j.next hb
      go_wp2_with fail
      refine m_keep ⟨j.old, j.new⟩ ?_
      clear hb
      refine m_s3 3 4 5 (by kernel_rfl) rfl rfl rfl ?_ ?_ ?_
      · go_wp2_with fail
        refine j.cfgB.mono ?_
        rintro e wk2 ⟨q2, r2, rfl, hq2, hb⟩
        replace j := j.next hb; replace hq1 := hq1.below hb
        go_wp2_with fail
        refine m_keep ⟨j.old, j.new⟩ ?_
        clear hb
        refine m_s2 4 5 (by kernel_rfl) rfl rfl ?_ ?_
        · go_wp2_with fail
          have hB7_lo := j.below.size
          refine absN fun wk3 hB7 hb hzq => ?_
          clear hzq
          replace j := j.next hb; replace hq1 := hq1.below hb; replace hq2 := hq2.below hb
          refine m_keep ⟨j.old, j.new⟩ ?_
          generalize wk2.heap.size = g7 at hB7 hB7_lo ⊢
          clear hb
          refine m_s1 5 (by kernel_rfl) rfl ?_
          go_wp2_with fail
          have hB8_lo := j.below.size
          have hne := Nat.ne_of_lt hB7.lt
          refine absN fun wk4 hB8 hb hzq => ?_
          clear hzq
          replace j := j.next hb; replace hq1 := hq1.below hb; replace hq2 := hq2.below hb; replace hB7 := hB7.below hb hB7.lt
          refine m_keep ⟨j.old, j.new⟩ ?_
          generalize wk3.heap.size = g8 at hB8 hB8_lo hne ⊢
          clear hb
          have e0 := hB7.cell 0; have e1 := hB7.cell 1; have f0 := hB7.frozen 0; have f1 := hB7.frozen 1
          have P7 := hB7.putc (ptr q1) (ptr r1); have P8 := hB8.far2 (Ne.symm hne) (ptr q1) (ptr r1)
          have J := j.cfg2 hT hB7 hB7_lo (ptr q1) (ptr r1)
          have K1 := hq1.cfg2 (c := some ⟨q1, 0, none⟩) (d := some ⟨r1, 0, none⟩) hB7; have K2 := hq2.cfg2 (c := some ⟨q1, 0, none⟩) (d := some ⟨r1, 0, none⟩) hB7
          clear hB7 hB8 j hq1 hq2
          refine m_s1 6 (by kernel_rfl) rfl ?_
          go_wp2_with fail
          refine m_keep (W := put2 wk4 g7 (ptr q1) (ptr r1)) ⟨J.old, J.new⟩ ?_
          obtain ⟨W7, hW7⟩ : ∃ W7, W7 = put2 wk4 g7 (ptr q1) (ptr r1) := ⟨_, rfl⟩
          rw [← hW7] at P7 P8 J K1 K2 ⊢; clear hW7 e0 e1 f0 f1
          have e0 := P8.cell 0; have e1 := P8.cell 1; have f0 := P8.frozen 0; have f1 := P8.frozen 1
          have R8 := P8.putc (ptr q2) (ptr r2); have R7 := P7.far2 hne (ptr q2) (ptr r2)
          have XJ := J.cfg2 hT P8 hB8_lo (ptr q2) (ptr r2)
          have L1 := K1.cfg2 (c := some ⟨q2, 0, none⟩) (d := some ⟨r2, 0, none⟩) P8; have L2 := K2.cfg2 (c := some ⟨q2, 0, none⟩) (d := some ⟨r2, 0, none⟩) P8
          clear P7 P8 J K1 K2
          refine m_s1 7 (by kernel_rfl) rfl ?_
          go_wp2_with fail
          refine m_keep (W := put2 W7 g8 (ptr q2) (ptr r2)) ⟨XJ.old, XJ.new⟩ ?_
          refine m_end (by kernel_rfl) ?_
          go_wp2_with fail
          go_meet
          exact ⟨_, _, q1, r1, q2, r2, rfl, rfl, R7, R8, L1, L2, XJ⟩
        · go_wp2_with fail
          have hB8_lo := j.below.size
          refine absN fun wk5 hB8 hb hzq => ?_
          clear hzq
          replace j := j.next hb; replace hq1 := hq1.below hb; replace hq2 := hq2.below hb
          refine m_keep ⟨j.old, j.new⟩ ?_
          generalize wk2.heap.size = g8 at hB8 hB8_lo ⊢
          clear hb
          refine m_s1 4 (by kernel_rfl) rfl ?_
          go_wp2_with fail
          have hB7_lo := j.below.size
          have hne := Nat.ne_of_gt hB8.lt
          refine absN fun wk6 hB7 hb hzq => ?_
          clear hzq
          replace j := j.next hb; replace hq1 := hq1.below hb; replace hq2 := hq2.below hb; replace hB8 := hB8.below hb hB8.lt
          refine m_keep ⟨j.old, j.new⟩ ?_
          generalize wk5.heap.size = g7 at hB7 hB7_lo hne ⊢
          clear hb
          have e0 := hB7.cell 0; have e1 := hB7.cell 1; have f0 := hB7.frozen 0; have f1 := hB7.frozen 1
          have P7 := hB7.putc (ptr q1) (ptr r1); have P8 := hB8.far2 (Ne.symm hne) (ptr q1) (ptr r1)
          have J := j.cfg2 hT hB7 hB7_lo (ptr q1) (ptr r1)
          have K1 := hq1.cfg2 (c := some ⟨q1, 0, none⟩) (d := some ⟨r1, 0, none⟩) hB7; have K2 := hq2.cfg2 (c := some ⟨q1, 0, none⟩) (d := some ⟨r1, 0, none⟩) hB7
          clear hB7 hB8 j hq1 hq2
          refine m_s1 6 (by kernel_rfl) rfl ?_
          go_wp2_with fail
          refine m_keep (W := put2 wk6 g7 (ptr q1) (ptr r1)) ⟨J.old, J.new⟩ ?_
          obtain ⟨W7, hW7⟩ : ∃ W7, W7 = put2 wk6 g7 (ptr q1) (ptr r1) := ⟨_, rfl⟩
          rw [← hW7] at P7 P8 J K1 K2 ⊢; clear hW7 e0 e1 f0 f1
          have e0 := P8.cell 0; have e1 := P8.cell 1; have f0 := P8.frozen 0; have f1 := P8.frozen 1
          have R8 := P8.putc (ptr q2) (ptr r2); have R7 := P7.far2 hne (ptr q2) (ptr r2)
          have XJ := J.cfg2 hT P8 hB8_lo (ptr q2) (ptr r2)
          have L1 := K1.cfg2 (c := some ⟨q2, 0, none⟩) (d := some ⟨r2, 0, none⟩) P8; have L2 := K2.cfg2 (c := some ⟨q2, 0, none⟩) (d := some ⟨r2, 0, none⟩) P8
          clear P7 P8 J K1 K2
          refine m_s1 7 (by kernel_rfl) rfl ?_
          go_wp2_with fail
          refine m_keep (W := put2 W7 g8 (ptr q2) (ptr r2)) ⟨XJ.old, XJ.new⟩ ?_
          refine m_end (by kernel_rfl) ?_
          go_wp2_with fail
          go_meet
          exact ⟨_, _, q1, r1, q2, r2, rfl, rfl, R7, R8, L1, L2, XJ⟩
      · go_wp2_with fail
        have hB7_lo := j.below.size
        refine absN fun wk7 hB7 hb hzq => ?_
        clear hzq
        replace j := j.next hb; replace hq1 := hq1.below hb
        refine m_keep ⟨j.old, j.new⟩ ?_
        generalize wk1.heap.size = g7 at hB7 hB7_lo ⊢
        clear hb
        refine m_s2 3 5 (by kernel_rfl) rfl rfl ?_ ?_
        · go_wp2_with fail
          refine j.cfgB.mono ?_
          rintro e wk8 ⟨q2, r2, rfl, hq2, hb⟩
          replace j := j.next hb; replace hq1 := hq1.below hb; replace hB7 := hB7.below hb hB7.lt
          go_wp2_with fail
          refine m_keep ⟨j.old, j.new⟩ ?_
          clear hb
          refine m_s1 5 (by kernel_rfl) rfl ?_
          go_wp2_with fail
          have hB8_lo := j.below.size
          have hne := Nat.ne_of_lt hB7.lt
          refine absN fun wk9 hB8 hb hzq => ?_
          clear hzq
          replace j := j.next hb; replace hq1 := hq1.below hb; replace hB7 := hB7.below hb hB7.lt; replace hq2 := hq2.below hb
          refine m_keep ⟨j.old, j.new⟩ ?_
          generalize wk8.heap.size = g8 at hB8 hB8_lo hne ⊢
          clear hb
          have e0 := hB7.cell 0; have e1 := hB7.cell 1; have f0 := hB7.frozen 0; have f1 := hB7.frozen 1
          have P7 := hB7.putc (ptr q1) (ptr r1); have P8 := hB8.far2 (Ne.symm hne) (ptr q1) (ptr r1)
          have J := j.cfg2 hT hB7 hB7_lo (ptr q1) (ptr r1)
          have K1 := hq1.cfg2 (c := some ⟨q1, 0, none⟩) (d := some ⟨r1, 0, none⟩) hB7; have K2 := hq2.cfg2 (c := some ⟨q1, 0, none⟩) (d := some ⟨r1, 0, none⟩) hB7
          clear hB7 hB8 j hq1 hq2
          refine m_s1 6 (by kernel_rfl) rfl ?_
          go_wp2_with fail
          refine m_keep (W := put2 wk9 g7 (ptr q1) (ptr r1)) ⟨J.old, J.new⟩ ?_
          obtain ⟨W7, hW7⟩ : ∃ W7, W7 = put2 wk9 g7 (ptr q1) (ptr r1) := ⟨_, rfl⟩
          rw [← hW7] at P7 P8 J K1 K2 ⊢; clear hW7 e0 e1 f0 f1
          have e0 := P8.cell 0; have e1 := P8.cell 1; have f0 := P8.frozen 0; have f1 := P8.frozen 1
          have R8 := P8.putc (ptr q2) (ptr r2); have R7 := P7.far2 hne (ptr q2) (ptr r2)
          have XJ := J.cfg2 hT P8 hB8_lo (ptr q2) (ptr r2)
          have L1 := K1.cfg2 (c := some ⟨q2, 0, none⟩) (d := some ⟨r2, 0, none⟩) P8; have L2 := K2.cfg2 (c := some ⟨q2, 0, none⟩) (d := some ⟨r2, 0, none⟩) P8
          clear P7 P8 J K1 K2
          refine m_s1 7 (by kernel_rfl) rfl ?_
          go_wp2_with fail
          refine m_keep (W := put2 W7 g8 (ptr q2) (ptr r2)) ⟨XJ.old, XJ.new⟩ ?_
          refine m_end (by kernel_rfl) ?_
          go_wp2_with fail
          go_meet
          exact ⟨_, _, q1, r1, q2, r2, rfl, rfl, R7, R8, L1, L2, XJ⟩
        · go_wp2_with fail
          have hB8_lo := j.below.size
          have hne := Nat.ne_of_lt hB7.lt
          refine absN fun wk10 hB8 hb hzq => ?_
          clear hzq
          replace j := j.next hb; replace hq1 := hq1.below hb; replace hB7 := hB7.below hb hB7.lt
          refine m_keep ⟨j.old, j.new⟩ ?_
          generalize wk7.heap.size = g8 at hB8 hB8_lo hne ⊢
          clear hb
          refine m_s1 3 (by kernel_rfl) rfl ?_
          go_wp2_with fail
          refine j.cfgB.mono ?_
          rintro e wk11 ⟨q2, r2, rfl, hq2, hb⟩
          replace j := j.next hb; replace hq1 := hq1.below hb; replace hB7 := hB7.below hb hB7.lt; replace hB8 := hB8.below hb hB8.lt
          go_wp2_with fail
          refine m_keep ⟨j.old, j.new⟩ ?_
          clear hb
          have e0 := hB7.cell 0; have e1 := hB7.cell 1; have f0 := hB7.frozen 0; have f1 := hB7.frozen 1
          have P7 := hB7.putc (ptr q1) (ptr r1); have P8 := hB8.far2 (Ne.symm hne) (ptr q1) (ptr r1)
          have J := j.cfg2 hT hB7 hB7_lo (ptr q1) (ptr r1)
          have K1 := hq1.cfg2 (c := some ⟨q1, 0, none⟩) (d := some ⟨r1, 0, none⟩) hB7; have K2 := hq2.cfg2 (c := some ⟨q1, 0, none⟩) (d := some ⟨r1, 0, none⟩) hB7
          clear hB7 hB8 j hq1 hq2
          refine m_s1 6 (by kernel_rfl) rfl ?_
          go_wp2_with fail
          refine m_keep (W := put2 wk11 g7 (ptr q1) (ptr r1)) ⟨J.old, J.new⟩ ?_
          obtain ⟨W7, hW7⟩ : ∃ W7, W7 = put2 wk11 g7 (ptr q1) (ptr r1) := ⟨_, rfl⟩
          rw [← hW7] at P7 P8 J K1 K2 ⊢; clear hW7 e0 e1 f0 f1
          have e0 := P8.cell 0; have e1 := P8.cell 1; have f0 := P8.frozen 0; have f1 := P8.frozen 1
          have R8 := P8.putc (ptr q2) (ptr r2); have R7 := P7.far2 hne (ptr q2) (ptr r2)
          have XJ := J.cfg2 hT P8 hB8_lo (ptr q2) (ptr r2)
          have L1 := K1.cfg2 (c := some ⟨q2, 0, none⟩) (d := some ⟨r2, 0, none⟩) P8; have L2 := K2.cfg2 (c := some ⟨q2, 0, none⟩) (d := some ⟨r2, 0, none⟩) P8
          clear P7 P8 J K1 K2
          refine m_s1 7 (by kernel_rfl) rfl ?_
          go_wp2_with fail
          refine m_keep (W := put2 W7 g8 (ptr q2) (ptr r2)) ⟨XJ.old, XJ.new⟩ ?_
          refine m_end (by kernel_rfl) ?_
          go_wp2_with fail
          go_meet
          exact ⟨_, _, q1, r1, q2, r2, rfl, rfl, R7, R8, L1, L2, XJ⟩
      · go_wp2_with fail
        have hB8_lo := j.below.size
        refine absN fun wk12 hB8 hb hzq => ?_
        clear hzq
        replace j := j.next hb; replace hq1 := hq1.below hb
        refine m_keep ⟨j.old, j.new⟩ ?_
        generalize wk1.heap.size = g8 at hB8 hB8_lo ⊢
        clear hb
        refine m_s2 3 4 (by kernel_rfl) rfl rfl ?_ ?_
        · go_wp2_with fail
          refine j.cfgB.mono ?_
          rintro e wk13 ⟨q2, r2, rfl, hq2, hb⟩
          replace j := j.next hb; replace hq1 := hq1.below hb; replace hB8 := hB8.below hb hB8.lt
          go_wp2_with fail
          refine m_keep ⟨j.old, j.new⟩ ?_
          clear hb
          refine m_s1 4 (by kernel_rfl) rfl ?_
          go_wp2_with fail
          have hB7_lo := j.below.size
          have hne := Nat.ne_of_gt hB8.lt
          refine absN fun wk14 hB7 hb hzq => ?_
          clear hzq
          replace j := j.next hb; replace hq1 := hq1.below hb; replace hB8 := hB8.below hb hB8.lt; replace hq2 := hq2.below hb
          refine m_keep ⟨j.old, j.new⟩ ?_
          generalize wk13.heap.size = g7 at hB7 hB7_lo hne ⊢
          clear hb
          have e0 := hB7.cell 0; have e1 := hB7.cell 1; have f0 := hB7.frozen 0; have f1 := hB7.frozen 1
          have P7 := hB7.putc (ptr q1) (ptr r1); have P8 := hB8.far2 (Ne.symm hne) (ptr q1) (ptr r1)
          have J := j.cfg2 hT hB7 hB7_lo (ptr q1) (ptr r1)
          have K1 := hq1.cfg2 (c := some ⟨q1, 0, none⟩) (d := some ⟨r1, 0, none⟩) hB7; have K2 := hq2.cfg2 (c := some ⟨q1, 0, none⟩) (d := some ⟨r1, 0, none⟩) hB7
          clear hB7 hB8 j hq1 hq2
          refine m_s1 6 (by kernel_rfl) rfl ?_
          go_wp2_with fail
          refine m_keep (W := put2 wk14 g7 (ptr q1) (ptr r1)) ⟨J.old, J.new⟩ ?_
          obtain ⟨W7, hW7⟩ : ∃ W7, W7 = put2 wk14 g7 (ptr q1) (ptr r1) := ⟨_, rfl⟩
          rw [← hW7] at P7 P8 J K1 K2 ⊢; clear hW7 e0 e1 f0 f1
          have e0 := P8.cell 0; have e1 := P8.cell 1; have f0 := P8.frozen 0; have f1 := P8.frozen 1
          have R8 := P8.putc (ptr q2) (ptr r2); have R7 := P7.far2 hne (ptr q2) (ptr r2)
          have XJ := J.cfg2 hT P8 hB8_lo (ptr q2) (ptr r2)
          have L1 := K1.cfg2 (c := some ⟨q2, 0, none⟩) (d := some ⟨r2, 0, none⟩) P8; have L2 := K2.cfg2 (c := some ⟨q2, 0, none⟩) (d := some ⟨r2, 0, none⟩) P8
          clear P7 P8 J K1 K2
          refine m_s1 7 (by kernel_rfl) rfl ?_
          go_wp2_with fail
          refine m_keep (W := put2 W7 g8 (ptr q2) (ptr r2)) ⟨XJ.old, XJ.new⟩ ?_
          refine m_end (by kernel_rfl) ?_
          go_wp2_with fail
          go_meet
          exact ⟨_, _, q1, r1, q2, r2, rfl, rfl, R7, R8, L1, L2, XJ⟩
        · go_wp2_with fail
          have hB7_lo := j.below.size
          have hne := Nat.ne_of_gt hB8.lt
          refine absN fun wk15 hB7 hb hzq => ?_
          clear hzq
          replace j := j.next hb; replace hq1 := hq1.below hb; replace hB8 := hB8.below hb hB8.lt
          refine m_keep ⟨j.old, j.new⟩ ?_
          generalize wk12.heap.size = g7 at hB7 hB7_lo hne ⊢
          clear hb
          refine m_s1 3 (by kernel_rfl) rfl ?_
          go_wp2_with fail
          refine j.cfgB.mono ?_
          rintro e wk16 ⟨q2, r2, rfl, hq2, hb⟩
          replace j := j.next hb; replace hq1 := hq1.below hb; replace hB8 := hB8.below hb hB8.lt; replace hB7 := hB7.below hb hB7.lt
          go_wp2_with fail
          refine m_keep ⟨j.old, j.new⟩ ?_
          clear hb
          have e0 := hB7.cell 0; have e1 := hB7.cell 1; have f0 := hB7.frozen 0; have f1 := hB7.frozen 1
          have P7 := hB7.putc (ptr q1) (ptr r1); have P8 := hB8.far2 (Ne.symm hne) (ptr q1) (ptr r1)
          have J := j.cfg2 hT hB7 hB7_lo (ptr q1) (ptr r1)
          have K1 := hq1.cfg2 (c := some ⟨q1, 0, none⟩) (d := some ⟨r1, 0, none⟩) hB7; have K2 := hq2.cfg2 (c := some ⟨q1, 0, none⟩) (d := some ⟨r1, 0, none⟩) hB7
          clear hB7 hB8 j hq1 hq2
          refine m_s1 6 (by kernel_rfl) rfl ?_
          go_wp2_with fail
          refine m_keep (W := put2 wk16 g7 (ptr q1) (ptr r1)) ⟨J.old, J.new⟩ ?_
          obtain ⟨W7, hW7⟩ : ∃ W7, W7 = put2 wk16 g7 (ptr q1) (ptr r1) := ⟨_, rfl⟩
          rw [← hW7] at P7 P8 J K1 K2 ⊢; clear hW7 e0 e1 f0 f1
          have e0 := P8.cell 0; have e1 := P8.cell 1; have f0 := P8.frozen 0; have f1 := P8.frozen 1
          have R8 := P8.putc (ptr q2) (ptr r2); have R7 := P7.far2 hne (ptr q2) (ptr r2)
          have XJ := J.cfg2 hT P8 hB8_lo (ptr q2) (ptr r2)
          have L1 := K1.cfg2 (c := some ⟨q2, 0, none⟩) (d := some ⟨r2, 0, none⟩) P8; have L2 := K2.cfg2 (c := some ⟨q2, 0, none⟩) (d := some ⟨r2, 0, none⟩) P8
          clear P7 P8 J K1 K2
          refine m_s1 7 (by kernel_rfl) rfl ?_
          go_wp2_with fail
          refine m_keep (W := put2 W7 g8 (ptr q2) (ptr r2)) ⟨XJ.old, XJ.new⟩ ?_
          refine m_end (by kernel_rfl) ?_
          go_wp2_with fail
          go_meet
          exact ⟨_, _, q1, r1, q2, r2, rfl, rfl, R7, R8, L1, L2, XJ⟩
    · go_wp2_with fail
      have hB7_lo := j.below.size
      refine absN fun wk17 hB7 hb hzq => ?_
      clear hzq
      replace j := j.next hb
      refine m_keep ⟨j.old, j.new⟩ ?_
      generalize wq.heap.size = g7 at hB7 hB7_lo ⊢
      clear hb
      refine m_s2 1 5 (by kernel_rfl) rfl rfl ?_ ?_
      · go_wp2_with fail
        refine j.cfgA.mono ?_
        rintro e wk18 ⟨q1, r1, rfl, hq1, hb⟩
        replace j := j.next hb; replace hB7 := hB7.below hb hB7.lt
        go_wp2_with fail
        refine m_keep ⟨j.old, j.new⟩ ?_
        clear hb
        refine m_s2 3 5 (by kernel_rfl) rfl rfl ?_ ?_
        · go_wp2_with fail
          refine j.cfgB.mono ?_
          rintro e wk19 ⟨q2, r2, rfl, hq2, hb⟩
          replace j := j.next hb; replace hB7 := hB7.below hb hB7.lt; replace hq1 := hq1.below hb
          go_wp2_with fail
          refine m_keep ⟨j.old, j.new⟩ ?_
          clear hb
          refine m_s1 5 (by kernel_rfl) rfl ?_
          go_wp2_with fail
          have hB8_lo := j.below.size
          have hne := Nat.ne_of_lt hB7.lt
          refine absN fun wk20 hB8 hb hzq => ?_
          clear hzq
          replace j := j.next hb; replace hB7 := hB7.below hb hB7.lt; replace hq1 := hq1.below hb; replace hq2 := hq2.below hb
          refine m_keep ⟨j.old, j.new⟩ ?_
          generalize wk19.heap.size = g8 at hB8 hB8_lo hne ⊢
          clear hb
          have e0 := hB7.cell 0; have e1 := hB7.cell 1; have f0 := hB7.frozen 0; have f1 := hB7.frozen 1
          have P7 := hB7.putc (ptr q1) (ptr r1); have P8 := hB8.far2 (Ne.symm hne) (ptr q1) (ptr r1)
          have J := j.cfg2 hT hB7 hB7_lo (ptr q1) (ptr r1)
          have K1 := hq1.cfg2 (c := some ⟨q1, 0, none⟩) (d := some ⟨r1, 0, none⟩) hB7; have K2 := hq2.cfg2 (c := some ⟨q1, 0, none⟩) (d := some ⟨r1, 0, none⟩) hB7
          clear hB7 hB8 j hq1 hq2
          refine m_s1 6 (by kernel_rfl) rfl ?_
          go_wp2_with fail
          refine m_keep (W := put2 wk20 g7 (ptr q1) (ptr r1)) ⟨J.old, J.new⟩ ?_
          obtain ⟨W7, hW7⟩ : ∃ W7, W7 = put2 wk20 g7 (ptr q1) (ptr r1) := ⟨_, rfl⟩
          rw [← hW7] at P7 P8 J K1 K2 ⊢; clear hW7 e0 e1 f0 f1
          have e0 := P8.cell 0; have e1 := P8.cell 1; have f0 := P8.frozen 0; have f1 := P8.frozen 1
          have R8 := P8.putc (ptr q2) (ptr r2); have R7 := P7.far2 hne (ptr q2) (ptr r2)
          have XJ := J.cfg2 hT P8 hB8_lo (ptr q2) (ptr r2)
          have L1 := K1.cfg2 (c := some ⟨q2, 0, none⟩) (d := some ⟨r2, 0, none⟩) P8; have L2 := K2.cfg2 (c := some ⟨q2, 0, none⟩) (d := some ⟨r2, 0, none⟩) P8
          clear P7 P8 J K1 K2
          refine m_s1 7 (by kernel_rfl) rfl ?_
          go_wp2_with fail
          refine m_keep (W := put2 W7 g8 (ptr q2) (ptr r2)) ⟨XJ.old, XJ.new⟩ ?_
          refine m_end (by kernel_rfl) ?_
          go_wp2_with fail
          go_meet
          exact ⟨_, _, q1, r1, q2, r2, rfl, rfl, R7, R8, L1, L2, XJ⟩
        · go_wp2_with fail
          have hB8_lo := j.below.size
          have hne := Nat.ne_of_lt hB7.lt
          refine absN fun wk21 hB8 hb hzq => ?_
          clear hzq
          replace j := j.next hb; replace hB7 := hB7.below hb hB7.lt; replace hq1 := hq1.below hb
          refine m_keep ⟨j.old, j.new⟩ ?_
          generalize wk18.heap.size = g8 at hB8 hB8_lo hne ⊢
          clear hb
          refine m_s1 3 (by kernel_rfl) rfl ?_
          go_wp2_with fail
          refine j.cfgB.mono ?_
          rintro e wk22 ⟨q2, r2, rfl, hq2, hb⟩
          replace j := j.next hb; replace hB7 := hB7.below hb hB7.lt; replace hq1 := hq1.below hb; replace hB8 := hB8.below hb hB8.lt
          go_wp2_with fail
          refine m_keep ⟨j.old, j.new⟩ ?_
          clear hb
          have e0 := hB7.cell 0; have e1 := hB7.cell 1; have f0 := hB7.frozen 0; have f1 := hB7.frozen 1
          have P7 := hB7.putc (ptr q1) (ptr r1); have P8 := hB8.far2 (Ne.symm hne) (ptr q1) (ptr r1)
          have J := j.cfg2 hT hB7 hB7_lo (ptr q1) (ptr r1)
          have K1 := hq1.cfg2 (c := some ⟨q1, 0, none⟩) (d := some ⟨r1, 0, none⟩) hB7; have K2 := hq2.cfg2 (c := some ⟨q1, 0, none⟩) (d := some ⟨r1, 0, none⟩) hB7
          clear hB7 hB8 j hq1 hq2
          refine m_s1 6 (by kernel_rfl) rfl ?_
          go_wp2_with fail
          refine m_keep (W := put2 wk22 g7 (ptr q1) (ptr r1)) ⟨J.old, J.new⟩ ?_
          obtain ⟨W7, hW7⟩ : ∃ W7, W7 = put2 wk22 g7 (ptr q1) (ptr r1) := ⟨_, rfl⟩
          rw [← hW7] at P7 P8 J K1 K2 ⊢; clear hW7 e0 e1 f0 f1
          have e0 := P8.cell 0; have e1 := P8.cell 1; have f0 := P8.frozen 0; have f1 := P8.frozen 1
          have R8 := P8.putc (ptr q2) (ptr r2); have R7 := P7.far2 hne (ptr q2) (ptr r2)
          have XJ := J.cfg2 hT P8 hB8_lo (ptr q2) (ptr r2)
          have L1 := K1.cfg2 (c := some ⟨q2, 0, none⟩) (d := some ⟨r2, 0, none⟩) P8; have L2 := K2.cfg2 (c := some ⟨q2, 0, none⟩) (d := some ⟨r2, 0, none⟩) P8
          clear P7 P8 J K1 K2
          refine m_s1 7 (by kernel_rfl) rfl ?_
          go_wp2_with fail
          refine m_keep (W := put2 W7 g8 (ptr q2) (ptr r2)) ⟨XJ.old, XJ.new⟩ ?_
          refine m_end (by kernel_rfl) ?_
          go_wp2_with fail
          go_meet
          exact ⟨_, _, q1, r1, q2, r2, rfl, rfl, R7, R8, L1, L2, XJ⟩
      · go_wp2_with fail
        have hB8_lo := j.below.size
        have hne := Nat.ne_of_lt hB7.lt
        refine absN fun wk23 hB8 hb hzq => ?_
        clear hzq
        replace j := j.next hb; replace hB7 := hB7.below hb hB7.lt
        refine m_keep ⟨j.old, j.new⟩ ?_
        generalize wk17.heap.size = g8 at hB8 hB8_lo hne ⊢
        clear hb
        refine m_s1 1 (by kernel_rfl) rfl ?_
        go_wp2_with fail
        refine j.cfgA.mono ?_
        rintro e wk24 ⟨q1, r1, rfl, hq1, hb⟩
        replace j := j.next hb; replace hB7 := hB7.below hb hB7.lt; replace hB8 := hB8.below hb hB8.lt
        go_wp2_with fail
        refine m_keep ⟨j.old, j.new⟩ ?_
        clear hb
        refine m_s1 3 (by kernel_rfl) rfl ?_
        go_wp2_with fail
        refine j.cfgB.mono ?_
        rintro e wk25 ⟨q2, r2, rfl, hq2, hb⟩
        replace j := j.next hb; replace hB7 := hB7.below hb hB7.lt; replace hB8 := hB8.below hb hB8.lt; replace hq1 := hq1.below hb
        go_wp2_with fail
        refine m_keep ⟨j.old, j.new⟩ ?_
        clear hb
        have e0 := hB7.cell 0; have e1 := hB7.cell 1; have f0 := hB7.frozen 0; have f1 := hB7.frozen 1
        have P7 := hB7.putc (ptr q1) (ptr r1); have P8 := hB8.far2 (Ne.symm hne) (ptr q1) (ptr r1)
        have J := j.cfg2 hT hB7 hB7_lo (ptr q1) (ptr r1)
        have K1 := hq1.cfg2 (c := some ⟨q1, 0, none⟩) (d := some ⟨r1, 0, none⟩) hB7; have K2 := hq2.cfg2 (c := some ⟨q1, 0, none⟩) (d := some ⟨r1, 0, none⟩) hB7
        clear hB7 hB8 j hq1 hq2
        refine m_s1 6 (by kernel_rfl) rfl ?_
        go_wp2_with fail
        refine m_keep (W := put2 wk25 g7 (ptr q1) (ptr r1)) ⟨J.old, J.new⟩ ?_
        obtain ⟨W7, hW7⟩ : ∃ W7, W7 = put2 wk25 g7 (ptr q1) (ptr r1) := ⟨_, rfl⟩
        rw [← hW7] at P7 P8 J K1 K2 ⊢; clear hW7 e0 e1 f0 f1
        have e0 := P8.cell 0; have e1 := P8.cell 1; have f0 := P8.frozen 0; have f1 := P8.frozen 1
        have R8 := P8.putc (ptr q2) (ptr r2); have R7 := P7.far2 hne (ptr q2) (ptr r2)
        have XJ := J.cfg2 hT P8 hB8_lo (ptr q2) (ptr r2)
        have L1 := K1.cfg2 (c := some ⟨q2, 0, none⟩) (d := some ⟨r2, 0, none⟩) P8; have L2 := K2.cfg2 (c := some ⟨q2, 0, none⟩) (d := some ⟨r2, 0, none⟩) P8
        clear P7 P8 J K1 K2
        refine m_s1 7 (by kernel_rfl) rfl ?_
        go_wp2_with fail
        refine m_keep (W := put2 W7 g8 (ptr q2) (ptr r2)) ⟨XJ.old, XJ.new⟩ ?_
        refine m_end (by kernel_rfl) ?_
        go_wp2_with fail
        go_meet
        exact ⟨_, _, q1, r1, q2, r2, rfl, rfl, R7, R8, L1, L2, XJ⟩
    · go_wp2_with fail
      have hB8_lo := j.below.size
      refine absN fun wk26 hB8 hb hzq => ?_
      clear hzq
      replace j := j.next hb
      refine m_keep ⟨j.old, j.new⟩ ?_
      generalize wq.heap.size = g8 at hB8 hB8_lo ⊢
      clear hb
      refine m_s2 1 4 (by kernel_rfl) rfl rfl ?_ ?_
      · go_wp2_with fail
        refine j.cfgA.mono ?_
        rintro e wk27 ⟨q1, r1, rfl, hq1, hb⟩
        replace j := j.next hb; replace hB8 := hB8.below hb hB8.lt
        go_wp2_with fail
        refine m_keep ⟨j.old, j.new⟩ ?_
        clear hb
        refine m_s2 3 4 (by kernel_rfl) rfl rfl ?_ ?_
        · go_wp2_with fail
          refine j.cfgB.mono ?_
          rintro e wk28 ⟨q2, r2, rfl, hq2, hb⟩
          replace j := j.next hb; replace hB8 := hB8.below hb hB8.lt; replace hq1 := hq1.below hb
          go_wp2_with fail
          refine m_keep ⟨j.old, j.new⟩ ?_
          clear hb
          refine m_s1 4 (by kernel_rfl) rfl ?_
          go_wp2_with fail
          have hB7_lo := j.below.size
          have hne := Nat.ne_of_gt hB8.lt
          refine absN fun wk29 hB7 hb hzq => ?_
          clear hzq
          replace j := j.next hb; replace hB8 := hB8.below hb hB8.lt; replace hq1 := hq1.below hb; replace hq2 := hq2.below hb
          refine m_keep ⟨j.old, j.new⟩ ?_
          generalize wk28.heap.size = g7 at hB7 hB7_lo hne ⊢
          clear hb
          have e0 := hB7.cell 0; have e1 := hB7.cell 1; have f0 := hB7.frozen 0; have f1 := hB7.frozen 1
          have P7 := hB7.putc (ptr q1) (ptr r1); have P8 := hB8.far2 (Ne.symm hne) (ptr q1) (ptr r1)
          have J := j.cfg2 hT hB7 hB7_lo (ptr q1) (ptr r1)
          have K1 := hq1.cfg2 (c := some ⟨q1, 0, none⟩) (d := some ⟨r1, 0, none⟩) hB7; have K2 := hq2.cfg2 (c := some ⟨q1, 0, none⟩) (d := some ⟨r1, 0, none⟩) hB7
          clear hB7 hB8 j hq1 hq2
          refine m_s1 6 (by kernel_rfl) rfl ?_
          go_wp2_with fail
          refine m_keep (W := put2 wk29 g7 (ptr q1) (ptr r1)) ⟨J.old, J.new⟩ ?_
          obtain ⟨W7, hW7⟩ : ∃ W7, W7 = put2 wk29 g7 (ptr q1) (ptr r1) := ⟨_, rfl⟩
          rw [← hW7] at P7 P8 J K1 K2 ⊢; clear hW7 e0 e1 f0 f1
          have e0 := P8.cell 0; have e1 := P8.cell 1; have f0 := P8.frozen 0; have f1 := P8.frozen 1
          have R8 := P8.putc (ptr q2) (ptr r2); have R7 := P7.far2 hne (ptr q2) (ptr r2)
          have XJ := J.cfg2 hT P8 hB8_lo (ptr q2) (ptr r2)
          have L1 := K1.cfg2 (c := some ⟨q2, 0, none⟩) (d := some ⟨r2, 0, none⟩) P8; have L2 := K2.cfg2 (c := some ⟨q2, 0, none⟩) (d := some ⟨r2, 0, none⟩) P8
          clear P7 P8 J K1 K2
          refine m_s1 7 (by kernel_rfl) rfl ?_
          go_wp2_with fail
          refine m_keep (W := put2 W7 g8 (ptr q2) (ptr r2)) ⟨XJ.old, XJ.new⟩ ?_
          refine m_end (by kernel_rfl) ?_
          go_wp2_with fail
          go_meet
          exact ⟨_, _, q1, r1, q2, r2, rfl, rfl, R7, R8, L1, L2, XJ⟩
        · go_wp2_with fail
          have hB7_lo := j.below.size
          have hne := Nat.ne_of_gt hB8.lt
          refine absN fun wk30 hB7 hb hzq => ?_
          clear hzq
          replace j := j.next hb; replace hB8 := hB8.below hb hB8.lt; replace hq1 := hq1.below hb
          refine m_keep ⟨j.old, j.new⟩ ?_
          generalize wk27.heap.size = g7 at hB7 hB7_lo hne ⊢
          clear hb
          refine m_s1 3 (by kernel_rfl) rfl ?_
          go_wp2_with fail
          refine j.cfgB.mono ?_
          rintro e wk31 ⟨q2, r2, rfl, hq2, hb⟩
          replace j := j.next hb; replace hB8 := hB8.below hb hB8.lt; replace hq1 := hq1.below hb; replace hB7 := hB7.below hb hB7.lt
          go_wp2_with fail
          refine m_keep ⟨j.old, j.new⟩ ?_
          clear hb
          have e0 := hB7.cell 0; have e1 := hB7.cell 1; have f0 := hB7.frozen 0; have f1 := hB7.frozen 1
          have P7 := hB7.putc (ptr q1) (ptr r1); have P8 := hB8.far2 (Ne.symm hne) (ptr q1) (ptr r1)
          have J := j.cfg2 hT hB7 hB7_lo (ptr q1) (ptr r1)
          have K1 := hq1.cfg2 (c := some ⟨q1, 0, none⟩) (d := some ⟨r1, 0, none⟩) hB7; have K2 := hq2.cfg2 (c := some ⟨q1, 0, none⟩) (d := some ⟨r1, 0, none⟩) hB7
          clear hB7 hB8 j hq1 hq2
          refine m_s1 6 (by kernel_rfl) rfl ?_
          go_wp2_with fail
          refine m_keep (W := put2 wk31 g7 (ptr q1) (ptr r1)) ⟨J.old, J.new⟩ ?_
          obtain ⟨W7, hW7⟩ : ∃ W7, W7 = put2 wk31 g7 (ptr q1) (ptr r1) := ⟨_, rfl⟩
          rw [← hW7] at P7 P8 J K1 K2 ⊢; clear hW7 e0 e1 f0 f1
          have e0 := P8.cell 0; have e1 := P8.cell 1; have f0 := P8.frozen 0; have f1 := P8.frozen 1
          have R8 := P8.putc (ptr q2) (ptr r2); have R7 := P7.far2 hne (ptr q2) (ptr r2)
          have XJ := J.cfg2 hT P8 hB8_lo (ptr q2) (ptr r2)
          have L1 := K1.cfg2 (c := some ⟨q2, 0, none⟩) (d := some ⟨r2, 0, none⟩) P8; have L2 := K2.cfg2 (c := some ⟨q2, 0, none⟩) (d := some ⟨r2, 0, none⟩) P8
          clear P7 P8 J K1 K2
          refine m_s1 7 (by kernel_rfl) rfl ?_
          go_wp2_with fail
          refine m_keep (W := put2 W7 g8 (ptr q2) (ptr r2)) ⟨XJ.old, XJ.new⟩ ?_
          refine m_end (by kernel_rfl) ?_
          go_wp2_with fail
          go_meet
          exact ⟨_, _, q1, r1, q2, r2, rfl, rfl, R7, R8, L1, L2, XJ⟩
      · go_wp2_with fail
        have hB7_lo := j.below.size
        have hne := Nat.ne_of_gt hB8.lt
        refine absN fun wk32 hB7 hb hzq => ?_
        clear hzq
        replace j := j.next hb; replace hB8 := hB8.below hb hB8.lt
        refine m_keep ⟨j.old, j.new⟩ ?_
        generalize wk26.heap.size = g7 at hB7 hB7_lo hne ⊢
        clear hb
        refine m_s1 1 (by kernel_rfl) rfl ?_
        go_wp2_with fail
        refine j.cfgA.mono ?_
        rintro e wk33 ⟨q1, r1, rfl, hq1, hb⟩
        replace j := j.next hb; replace hB8 := hB8.below hb hB8.lt; replace hB7 := hB7.below hb hB7.lt
        go_wp2_with fail
        refine m_keep ⟨j.old, j.new⟩ ?_
        clear hb
        refine m_s1 3 (by kernel_rfl) rfl ?_
        go_wp2_with fail
        refine j.cfgB.mono ?_
        rintro e wk34 ⟨q2, r2, rfl, hq2, hb⟩
        replace j := j.next hb; replace hB8 := hB8.below hb hB8.lt; replace hB7 := hB7.below hb hB7.lt; replace hq1 := hq1.below hb
        go_wp2_with fail
        refine m_keep ⟨j.old, j.new⟩ ?_
        clear hb
        have e0 := hB7.cell 0; have e1 := hB7.cell 1; have f0 := hB7.frozen 0; have f1 := hB7.frozen 1
        have P7 := hB7.putc (ptr q1) (ptr r1); have P8 := hB8.far2 (Ne.symm hne) (ptr q1) (ptr r1)
        have J := j.cfg2 hT hB7 hB7_lo (ptr q1) (ptr r1)
        have K1 := hq1.cfg2 (c := some ⟨q1, 0, none⟩) (d := some ⟨r1, 0, none⟩) hB7; have K2 := hq2.cfg2 (c := some ⟨q1, 0, none⟩) (d := some ⟨r1, 0, none⟩) hB7
        clear hB7 hB8 j hq1 hq2
        refine m_s1 6 (by kernel_rfl) rfl ?_
        go_wp2_with fail
        refine m_keep (W := put2 wk34 g7 (ptr q1) (ptr r1)) ⟨J.old, J.new⟩ ?_
        obtain ⟨W7, hW7⟩ : ∃ W7, W7 = put2 wk34 g7 (ptr q1) (ptr r1) := ⟨_, rfl⟩
        rw [← hW7] at P7 P8 J K1 K2 ⊢; clear hW7 e0 e1 f0 f1
        have e0 := P8.cell 0; have e1 := P8.cell 1; have f0 := P8.frozen 0; have f1 := P8.frozen 1
        have R8 := P8.putc (ptr q2) (ptr r2); have R7 := P7.far2 hne (ptr q2) (ptr r2)
        have XJ := J.cfg2 hT P8 hB8_lo (ptr q2) (ptr r2)
        have L1 := K1.cfg2 (c := some ⟨q2, 0, none⟩) (d := some ⟨r2, 0, none⟩) P8; have L2 := K2.cfg2 (c := some ⟨q2, 0, none⟩) (d := some ⟨r2, 0, none⟩) P8
        clear P7 P8 J K1 K2
        refine m_s1 7 (by kernel_rfl) rfl ?_
        go_wp2_with fail
        refine m_keep (W := put2 W7 g8 (ptr q2) (ptr r2)) ⟨XJ.old, XJ.new⟩ ?_
        refine m_end (by kernel_rfl) ?_
        go_wp2_with fail
        go_meet
        exact ⟨_, _, q1, r1, q2, r2, rfl, rfl, R7, R8, L1, L2, XJ⟩
  case rest =>
    obtain ⟨g7, g8, q1, r1, q2, r2, rfl, rfl, h7, h8, hq1, hq2, J⟩ := hcut
    clear j
    have x0 := h7.cell 0
    have x1 := h7.cell 1
    have y0 := h8.cell 0
    have y1 := h8.cell 1
    go_wp2_with fail
    refine (J.plan2 (Below.refl _ _) hq1 hq2).mono ?_
    rintro e w4 ⟨AL, cL, rfl, hrL, hlc, hcm, hAL, hb⟩
    replace J := J.next hb; replace hq1 := hq1.below hb; replace hq2 := hq2.below hb; replace h7 := h7.below hb h7.lt; replace h8 := h8.below hb h8.lt
    clear x0 x1 y0 y1 hb
    have x0 := h7.cell 0
    have x1 := h7.cell 1
    have y0 := h8.cell 0
    have y1 := h8.cell 1
    have HD := hideC (fun V hb h1 h2 => J.dist (V := V) hb h1 h2 (q := q1) (r := r1) (q' := q2) (r' := r2))
    have HV := hideC (fun W (J : LI w W X3 (X3 + 1) u a b p A1 c1 B1 d1 A2 c2 B2 d2 M P M' P') h1 h2 h3 => J.verify_plan (Below.refl _ _) (q := q1) (r := r1) (q' := q2) (r' := r2) (A := AL) (c := cL) h1 h2 h3)
    have HS := hideC (fun W (J : LI w W X3 (X3 + 1) u a b p A1 c1 B1 d1 A2 c2 B2 d2 M P M' P') k h0 h1 h2 h3 => J.verify_short (Below.refl _ _) (q := q1) (r := r1) (q' := q2) (r' := r2) (A := AL) (c := cL) (k := k) h0 h1 h2 h3)
    have hsm := J.small
    obtain ⟨nL, hnL⟩ : ∃ n, n = (planJ p M P M' P').length := ⟨_, rfl⟩
    rw [← hnL] at HD HV HS hlc hAL hsm ⊢
    clear hnL
    go_wp2_with fail
    refine (HD.out w4 (Below.refl _ _) hq1 hq2).mono ?_
    rintro e w5 ⟨rfl, hb⟩
    replace J := J.next hb; replace hq1 := hq1.below hb; replace hq2 := hq2.below hb; replace h7 := h7.below hb h7.lt; replace h8 := h8.below hb h8.lt; replace hrL := hrL.below hb
    clear x0 x1 y0 y1 hb HD
    have x0 := h7.cell 0
    have x1 := h7.cell 1
    have y0 := h8.cell 0
    have y1 := h8.cell 1
    go_wp2_with fail
    refine (HV.out w5 J hq1 hq2 hrL).mono ?_
    rintro e w6 ⟨rfl, hb⟩
    replace J := J.next hb; replace hq1 := hq1.below hb; replace hq2 := hq2.below hb; replace h7 := h7.below hb h7.lt; replace h8 := h8.below hb h8.lt; replace hrL := hrL.below hb
    clear x0 x1 y0 y1 hb HV
    have x0 := h7.cell 0
    have x1 := h7.cell 1
    have y0 := h8.cell 0
    have y1 := h8.cell 1
    go_wp2_with fail
    refine (J.swap.plan2 (Below.refl _ _) hq2 hq1).mono ?_
    rintro e w7 ⟨AB, cB, rfl, hrB, _, _, _, hb⟩
    replace J := J.next hb; replace hq1 := hq1.below hb; replace hq2 := hq2.below hb; replace h7 := h7.below hb h7.lt; replace h8 := h8.below hb h8.lt; replace hrL := hrL.below hb
    clear x0 x1 y0 y1 hb
    have x0 := h7.cell 0
    have x1 := h7.cell 1
    have y0 := h8.cell 0
    have y1 := h8.cell 1
    have HW := hideC (J.swap.verify_plan (Below.refl _ _) hq2 hq1 (c := cB) hrB)
    have hsb := J.swap.small
    obtain ⟨nB, hnB⟩ : ∃ n, n = (planJ p M' P' M P).length := ⟨_, rfl⟩
    rw [← hnB] at HW hsb ⊢
    clear hnB
    go_wp2_with fail
    refine HW.out.mono ?_
    rintro e w8 ⟨rfl, hb⟩
    replace J := J.next hb; replace hq1 := hq1.below hb; replace hq2 := hq2.below hb; replace h7 := h7.below hb h7.lt; replace h8 := h8.below hb h8.lt; replace hrL := hrL.below hb
    clear x0 x1 y0 y1 hb HW
    have bb := J.below
    by_cases h0 : nL = 0
    · subst h0
      go_wp2_with fail
      go_ret
      exact ⟨rfl, bb⟩
    · have hpos : ((nL : Int) == 0) = false := by rw [beq_eq_false_iff_ne]; omega
      go_upto_region 16 with fail
      obtain ⟨kc, hkc⟩ : ∃ k, k = cut % nL := ⟨_, rfl⟩
      have hkl : kc < nL := by rw [hkc]; exact Nat.mod_lt _ (by omega)
      have e1 : ((cut : Int)).tmod (nL : Int) = (kc : Int) := by rw [hkc, Int.tmod_eq_emod_of_nonneg (by omega)]; omega
      have e0 : IntKind.i64.wrap (cut : Int) = (cut : Int) := i64w ⟨by omega, by omega⟩
      have e2 : (cut : Int) % (nL : Int) = (kc : Int) := by rw [hkc]; omega
      clear hkc
      have hd : Below w8.heap.size w8 w8.drew := (Below.refl _ _).drew
      have Jq := J.next hd
      have hq1q := hq1.below hd
      have hq2q := hq2.below hd
      have hrq := hrL.below hd
      have h7q := h7.below hd h7.lt
      have h8q := h8.below hd h8.lt
      go_wp2_with fail
      refine wp_mix (fun V => Blk V g7 38 #[ptr q1, ptr r1] ∧ Blk V g8 38 #[ptr q2, ptr r2]) 16 (by kernel_rfl) (by kernel_rfl) ⟨h7q, h8q⟩ ?_
      obtain ⟨wq, hwq⟩ : ∃ V, V = w8.drew := ⟨_, rfl⟩
      rw [← hwq] at hd Jq hq1q hq2q hrq h7q h8q ⊢
      clear hwq
      (refine m_q 0 (v := ?_) (by kernel_rfl) rfl rfl (fun W hW => ?_) ?_; rotate_left; (have z0 := hW.1.cell 0; have z1 := hW.1.cell 1; have u0 := hW.2.cell 0; have u1 := hW.2.cell 1; go_simp; first | done | with_reducible rfl); simp only [Act.put, List.setIfInBounds_toArray, List.set_cons_zero, List.set_cons_succ]); (refine m_q 1 (v := ?_) (by kernel_rfl) rfl rfl (fun W hW => ?_) ?_; rotate_left; (have z0 := hW.1.cell 0; have z1 := hW.1.cell 1; have u0 := hW.2.cell 0; have u1 := hW.2.cell 1; go_simp; first | done | with_reducible rfl); simp only [Act.put, List.setIfInBounds_toArray, List.set_cons_zero, List.set_cons_succ])
      (refine m_q 2 (v := ?_) (by kernel_rfl) rfl rfl (fun W hW => ?_) ?_; rotate_left; (go_simp; first | done | with_reducible rfl); simp only [Act.put, List.setIfInBounds_toArray, List.set_cons_zero, List.set_cons_succ]); (refine m_q 3 (v := ?_) (by kernel_rfl) rfl rfl (fun W hW => ?_) ?_; rotate_left; (go_simp; first | done | with_reducible rfl); simp only [Act.put, List.setIfInBounds_toArray, List.set_cons_zero, List.set_cons_succ]); (refine m_q 4 (v := ?_) (by kernel_rfl) rfl rfl (fun W hW => ?_) ?_; rotate_left; (go_simp; first | done | with_reducible rfl); simp only [Act.put, List.setIfInBounds_toArray, List.set_cons_zero, List.set_cons_succ]); (refine m_q 5 (v := ?_) (by kernel_rfl) rfl rfl (fun W hW => ?_) ?_; rotate_left; (go_simp; first | done | with_reducible rfl); simp only [Act.put, List.setIfInBounds_toArray, List.set_cons_zero, List.set_cons_succ]); (refine m_q 6 (v := ?_) (by kernel_rfl) rfl rfl (fun W hW => ?_) ?_; rotate_left; (go_simp; first | done | with_reducible rfl); simp only [Act.put, List.setIfInBounds_toArray, List.set_cons_zero, List.set_cons_succ])
      have hkc2 : kc ≤ cL := by omega
      (refine m_q 7 (v := ?_) (by kernel_rfl) rfl rfl (fun W hW => ?_) ?_; rotate_left; (go_simp; first | done | with_reducible rfl); simp only [Act.put, List.setIfInBounds_toArray, List.set_cons_zero, List.set_cons_succ])
      refine m_s1 8 (by kernel_rfl) rfl ?_
      go_wp2_with fail
      refine (HS.out _ Jq kc hq1q hq2q hkl hrq).mono ?_
      rintro e w9 ⟨rfl, hb9⟩
      have J9 := Jq.next hb9
      go_wp2_with fail
      refine m_keep ⟨h7q.below hb9 h7q.lt, h8q.below hb9 h8q.lt⟩ ?_
      (refine m_q 9 (v := ?_) (by kernel_rfl) rfl rfl (fun W hW => ?_) ?_; rotate_left; (go_simp; first | done | with_reducible rfl); simp only [Act.put, List.setIfInBounds_toArray, List.set_cons_zero, List.set_cons_succ]); (refine m_q 10 (v := ?_) (by kernel_rfl) rfl rfl (fun W hW => ?_) ?_; rotate_left; (go_simp; first | done | with_reducible rfl); simp only [Act.put, List.setIfInBounds_toArray, List.set_cons_zero, List.set_cons_succ]); (refine m_q 11 (v := ?_) (by kernel_rfl) rfl rfl (fun W hW => ?_) ?_; rotate_left; (go_simp; first | done | with_reducible rfl); simp only [Act.put, List.setIfInBounds_toArray, List.set_cons_zero, List.set_cons_succ]); (refine m_q 12 (v := ?_) (by kernel_rfl) rfl rfl (fun W hW => ?_) ?_; rotate_left; (go_simp; first | done | with_reducible rfl); simp only [Act.put, List.setIfInBounds_toArray, List.set_cons_zero, List.set_cons_succ]); (refine m_q 13 (v := ?_) (by kernel_rfl) rfl rfl (fun W hW => ?_) ?_; rotate_left; (go_simp; first | done | with_reducible rfl); simp only [Act.put, List.setIfInBounds_toArray, List.set_cons_zero, List.set_cons_succ]); (refine m_q 14 (v := ?_) (by kernel_rfl) rfl rfl (fun W hW => ?_) ?_; rotate_left; (go_simp; first | done | with_reducible rfl); simp only [Act.put, List.setIfInBounds_toArray, List.set_cons_zero, List.set_cons_succ]); (refine m_q 15 (v := ?_) (by kernel_rfl) rfl rfl (fun W hW => ?_) ?_; rotate_left; (go_simp; first | done | with_reducible rfl); simp only [Act.put, List.setIfInBounds_toArray, List.set_cons_zero, List.set_cons_succ])
      refine m_end (by kernel_rfl) ?_
      have bb9 := J9.below
      clear J9 Jq hq1q hq2q hrq h7q h8q hb9 hd HS hq1 hq2 h7 h8 hrL J e0 e1 e2
      go_wp2_with fail
      go_ret
      exact ⟨rfl, bb9⟩
end Go.Proofs.YthkjigggfeejdaaDoor
