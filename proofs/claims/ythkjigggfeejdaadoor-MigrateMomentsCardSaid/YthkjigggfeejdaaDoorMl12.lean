import Derived.Test.YthkjigggfeejdaaDoorMl11
namespace Go.Proofs.YthkjigggfeejdaaDoor
open Go.RowKit
attribute [local go_sem] Oper.semAt_some

/-- The planned steps at A, of their own type. -/
def SRow (W : World) (A : Option Addr) (L : List (Nat × Nat × Nat)) : Prop := L = [] ∨ ∃ g cur, A = some ⟨g, 0, none⟩ ∧ Blk W g 55 cur ∧ ∀ (k : Nat) u, (cellsS L)[k]? = some u → cur[k]? = some u
theorem SRow.below {W W' : World} {A : Option Addr} {L : List (Nat × Nat × Nat)} (h : SRow W A L) (hb : Below W.heap.size W W') : SRow W' A L :=
  h.imp id fun ⟨g, cur, h1, h2, h3⟩ => ⟨g, cur, h1, h2.below hb h2.lt, h3⟩
theorem SRow.far2 {W : World} {A : Option Addr} {L : List (Nat × Nat × Nat)} (h : SRow W A L) {g : Nat} {cs : Array Value} (hB : Blk W g 38 cs) (x y : Value) : SRow (put2 W g x y) A L :=
  h.imp id fun ⟨g', cur, h1, h2, h3⟩ => ⟨g', cur, h1, h2.far2 (h2.ne_ hB (by decide)) x y, h3⟩
theorem cellsS_at : ∀ (l : List (Nat × Nat × Nat)) (k : Nat) s, l[k]? = some s → (cellsS l)[k * 3]? = some (.int .u8 (s.1 : Int)) ∧ (cellsS l)[k * 3 + 1]? = some (.int .i64 (s.2.1 : Int)) ∧ (cellsS l)[k * 3 + 2]? = some (.int .i64 (s.2.2 : Int))
  | [], _, _, h => by simp at h
  | a :: l, 0, s, h => by
    simp at h; subst h
    exact ⟨rfl, rfl, rfl⟩
  | a :: l, k + 1, s, h => by
    have e : cellsS (a :: l) = [.int .u8 (a.1 : Int), .int .i64 (a.2.1 : Int), .int .i64 (a.2.2 : Int)] ++ cellsS l := rfl
    have h2 : l[k]? = some s := by simpa using h
    obtain ⟨h0, h1, h3⟩ := cellsS_at l k s h2
    rw [e]
    refine ⟨?_, ?_, ?_⟩
    · rw [List.getElem?_append_right (by simp; omega)]; rw [← h0]; congr 1; simp; omega
    · rw [List.getElem?_append_right (by simp; omega)]; rw [← h1]; congr 1; simp; omega
    · rw [List.getElem?_append_right (by simp; omega)]; rw [← h3]; congr 1; simp; omega
theorem own_srow {w : World} {base : Nat} {v : Value} {L : List (Nat × Nat × Nat)} (h : w.ownsRow base 55 3 v L.length (cellsS L)) : ∃ A c, v = .slice A L.length c ∧ SRow w A L := by
  rcases id h.2 with ⟨hv, hn⟩ | ⟨g, cap, cur, hv, _, hb, _, _, _, htk⟩
  · exact ⟨none, 0, by rw [hv, hn], .inl (List.eq_nil_of_length_eq_zero hn)⟩
  · refine ⟨_, cap, hv, .inr ⟨g, cur, rfl, hb, fun k u hu => ?_⟩⟩
    have hk : k < L.length * 3 := by have := (List.getElem?_eq_some_iff.1 hu).1; rwa [cellsS_len] at this
    rw [← htk, List.getElem?_take_of_lt hk, Array.getElem?_toList] at hu
    exact hu
section
variable {w W W' : World} {X3 X4 u a b p : Nat} {A1 : Option Addr} {c1 : Nat} {B1 : Option Addr} {d1 : Nat} {A2 : Option Addr} {c2 : Nat} {B2 : Option Addr} {d2 : Nat} {M P M' P' : List (List Bool)}
theorem LI.plan3 (h : LI w W X3 X4 u a b p A1 c1 B1 d1 A2 c2 B2 d2 M P M' P') {q r q' r' : Nat} {V : World} (hb : Below W.heap.size W V) (hc : IsCfg V q r a p M P) (hc' : IsCfg V q' r' b p M' P') :
    Calls Tryd.prog 29 #[cfgV q r, cfgV q' r'] V fun e w' => ∃ A c, e = .returned (.tuple #[.slice A (planJ p M P M' P').length c, .int .i64 0]) ∧ SRow w' A (planJ p M P M' P') ∧ Below V.heap.size V w' := by
  refine (plan_any q r q' r' a b p M P M' P' V hc hc' (h.lM.trans h.lM'.symm) (by have := h.jn_le; omega) (by have := h.bd; have := h.lM; omega) (by have := h.bd; omega) (h.tab.below hb)).mono ?_
  rintro e w' ⟨v, rfl, ho, hb'⟩
  obtain ⟨A, c, rfl, hr⟩ := own_srow ho
  exact ⟨A, c, rfl, hr, hb'⟩
end
set_option maxRecDepth 100000 in
set_option maxHeartbeats 40000000 in
theorem moments_walk (v : Value) (u a b p : Nat) (zs : List Int) (w : World) (hT : Tab w) (h : IsRaw49 w v u a b p zs) :
    Calls Tryd.prog 9 #[v] w fun e w' => e = .returned (.bool true) ∧ Below w.heap.size w w' := by
  have hbd := h.bd
  have HIN := hideC h
  obtain ⟨u0, a0, b0, p0, AZ, cZ, hv, _⟩ := id h
  subst hv
  clear h
  go_enter Tryd.func9, Tryd.ntmps9
  go_wp2_with fail
  refine absC1 fun W0 hX hb0 hz => ?_
  clear hz
  refine (awake_any49 W0 (hT.below hb0)).mono ?_
  rintro e w1 ⟨rfl, hb1⟩
  have b1 := hb0.trans (hb1.mono hb0.size)
  have hX1 := hX.below hb1 hX.lt
  have x0 := hX1.cell 0
  have x1 := hX1.cell 1
  have x2 := hX1.cell 2
  have x3 := hX1.cell 3
  have x4 := hX1.cell 4
  clear hX hb0 hb1
  have HMK := hideC (rmake_any _ u a b p zs w1 (HIN.out.below b1))
  go_wp2_with fail
  refine HMK.out.mono ?_
  rintro e w2 ⟨M, P, M', P', A1, c1, B1, d1, A2, c2, B2, d2, rfl, hc, hc', lM, lP, lM', lP', hb2⟩
  have b2 := b1.trans (hb2.mono b1.size)
  clear x0 x1 x2 x3 x4 HMK hX1 hb2 b1
  go_wp2_with fail
  refine abs2 fun w3 h3 h4 hb3 hz3 => ?_
  have j : LI w w3 w2.heap.size (w2.heap.size + 1) u a b p A1 c1 B1 d1 A2 c2 B2 d2 M P M' P' := ⟨h3, h4, hc.below hb3, hc'.below hb3, lM, lP, lM', lP', hbd, hT.below (b2.trans (hb3.mono b2.size)), b2.trans (hb3.mono b2.size)⟩
  obtain ⟨X3, hX3⟩ : ∃ x, x = w2.heap.size := ⟨_, rfl⟩
  rw [← hX3] at j ⊢
  clear hX3 h3 h4 hc hc' lM lP lM' lP' hb3 hz3 b2 hbd HIN
  go_upto_region 4 with fail
  go_cut [5, 6, 7, 8] (fun s5 s6 s7 s8 wx => ∃ g5 g6 a1 a2 b1 b2 A c, s5 = ptr g5 ∧ s6 = ptr g6 ∧ s7 = .slice A b c ∧ s8 = .int .i64 0 ∧ Blk wx g5 38 #[ptr a1, ptr a2] ∧ Blk wx g6 38 #[ptr b1, ptr b2] ∧
    IsCfg wx a1 a2 (jn P P') p (jM1 M P P') (jP1 p P P') ∧ IsCfg wx b1 b2 (jn P P') p (jM2 M' P P') (jP2 p P P') ∧ LI w wx X3 (X3 + 1) u a b p A1 c1 B1 d1 A2 c2 B2 d2 M P M' P' ∧ g5 ≠ g6 ∧ w.heap.size ≤ g5)
  case first =>
    have hd : Below w3.heap.size w3 w3.drew := (Below.refl _ _).drew
    replace j := j.next hd
    refine wp_mix (fun V => Blk V X3 31 #[.int .i64 (a : Int), .slice A1 u c1, .int .i64 (p : Int), .slice B1 a d1] ∧ Blk V (X3 + 1) 31 #[.int .i64 (b : Int), .slice A2 u c2, .int .i64 (p : Int), .slice B2 b d2]) 16 (by kernel_rfl) (by kernel_rfl) ⟨j.old, j.new⟩ ?_
    obtain ⟨wq, hwq⟩ : ∃ V, V = w3.drew := ⟨_, rfl⟩
    rw [← hwq] at hd j ⊢
    clear hwq
    (refine m_q 0 (v := ?_) (by kernel_rfl) rfl rfl (fun W hW => ?_) ?_; rotate_left; (have z0 := hW.1.cell 0; have z1 := hW.1.cell 1; have z2 := hW.1.cell 2; have z3 := hW.1.cell 3; have u0 := hW.2.cell 0; have u1 := hW.2.cell 1; have u2 := hW.2.cell 2; have u3 := hW.2.cell 3; go_simp; first | done | with_reducible rfl); simp only [Act.put, List.setIfInBounds_toArray, List.set_cons_zero, List.set_cons_succ]); (refine m_q 2 (v := ?_) (by kernel_rfl) rfl rfl (fun W hW => ?_) ?_; rotate_left; (have z0 := hW.1.cell 0; have z1 := hW.1.cell 1; have z2 := hW.1.cell 2; have z3 := hW.1.cell 3; have u0 := hW.2.cell 0; have u1 := hW.2.cell 1; have u2 := hW.2.cell 2; have u3 := hW.2.cell 3; go_simp; first | done | with_reducible rfl); simp only [Act.put, List.setIfInBounds_toArray, List.set_cons_zero, List.set_cons_succ])
    refine m_s3 1 10 11 (by kernel_rfl) rfl rfl rfl ?_ ?_ ?_
    · go_wp2_with fail
      refine j.cfgA.mono ?_
      rintro e wk1 ⟨q1, r1, rfl, hq1, hb⟩
      replace j := j.next hb
      go_wp2_with fail
      refine m_keep ⟨j.old, j.new⟩ ?_
      clear hb
      refine m_s3 3 10 11 (by kernel_rfl) rfl rfl rfl ?_ ?_ ?_
      · go_wp2_with fail
        refine j.cfgB.mono ?_
        rintro e wk2 ⟨q2, r2, rfl, hq2, hb⟩
        replace j := j.next hb; replace hq1 := hq1.below hb
        go_wp2_with fail
        refine m_keep ⟨j.old, j.new⟩ ?_
        clear hb
        refine m_s3 4 10 11 (by kernel_rfl) rfl rfl rfl ?_ ?_ ?_
        · go_wp2_with fail
          refine (j.joint (Below.refl _ _) hq1 hq2).mono ?_
          rintro e wk3 ⟨a1, a2, b1, b2, AR, cR, rfl, hca, hcb, hrow, hb⟩
          replace j := j.next hb; replace hq1 := hq1.below hb; replace hq2 := hq2.below hb
          go_wp2_with fail
          refine m_keep ⟨j.old, j.new⟩ ?_
          (refine m_q 5 (v := ?_) (by kernel_rfl) rfl rfl (fun W hW => ?_) ?_; rotate_left; (go_simp; first | done | with_reducible rfl); simp only [Act.put, List.setIfInBounds_toArray, List.set_cons_zero, List.set_cons_succ]); (refine m_q 6 (v := ?_) (by kernel_rfl) rfl rfl (fun W hW => ?_) ?_; rotate_left; (go_simp; first | done | with_reducible rfl); simp only [Act.put, List.setIfInBounds_toArray, List.set_cons_zero, List.set_cons_succ]); (refine m_q 7 (v := ?_) (by kernel_rfl) rfl rfl (fun W hW => ?_) ?_; rotate_left; (go_simp; first | done | with_reducible rfl); simp only [Act.put, List.setIfInBounds_toArray, List.set_cons_zero, List.set_cons_succ]); (refine m_q 8 (v := ?_) (by kernel_rfl) rfl rfl (fun W hW => ?_) ?_; rotate_left; (go_simp; first | done | with_reducible rfl); simp only [Act.put, List.setIfInBounds_toArray, List.set_cons_zero, List.set_cons_succ]); (refine m_q 9 (v := ?_) (by kernel_rfl) rfl rfl (fun W hW => ?_) ?_; rotate_left; (go_simp; first | done | with_reducible rfl); simp only [Act.put, List.setIfInBounds_toArray, List.set_cons_zero, List.set_cons_succ])
          clear hb
          refine m_s2 10 11 (by kernel_rfl) rfl rfl ?_ ?_
          · go_wp2_with fail
            have hB5_lo := j.below.size
            refine absN fun wk4 hB5 hb hzq => ?_
            clear hzq
            replace j := j.next hb; replace hq1 := hq1.below hb; replace hq2 := hq2.below hb; replace hca := hca.below hb; replace hcb := hcb.below hb; replace hrow := hrow.below hb
            refine m_keep ⟨j.old, j.new⟩ ?_
            generalize wk3.heap.size = g5 at hB5 hB5_lo ⊢
            clear hb
            refine m_s1 11 (by kernel_rfl) rfl ?_
            go_wp2_with fail
            have hB6_lo := j.below.size
            have hne := Nat.ne_of_lt hB5.lt
            refine absN fun wk5 hB6 hb hzq => ?_
            clear hzq
            replace j := j.next hb; replace hq1 := hq1.below hb; replace hq2 := hq2.below hb; replace hca := hca.below hb; replace hcb := hcb.below hb; replace hrow := hrow.below hb; replace hB5 := hB5.below hb hB5.lt
            refine m_keep ⟨j.old, j.new⟩ ?_
            generalize wk4.heap.size = g6 at hB6 hB6_lo hne ⊢
            clear hb
            clear hq1 hq2
            have e0 := hB5.cell 0; have e1 := hB5.cell 1; have f0 := hB5.frozen 0; have f1 := hB5.frozen 1
            have P5 := hB5.putc (ptr a1) (ptr a2); have P6 := hB6.far2 (Ne.symm hne) (ptr a1) (ptr a2)
            have J := j.cfg2 hT hB5 hB5_lo (ptr a1) (ptr a2)
            have C1 := hca.cfg2 (c := some ⟨a1, 0, none⟩) (d := some ⟨a2, 0, none⟩) hB5; have C2 := hcb.cfg2 (c := some ⟨a1, 0, none⟩) (d := some ⟨a2, 0, none⟩) hB5; have C3 := hrow.cfg2 (c := some ⟨a1, 0, none⟩) (d := some ⟨a2, 0, none⟩) hB5
            clear hB5 hB6 j hca hcb hrow
            refine m_s1 12 (by kernel_rfl) rfl ?_
            go_wp2_with fail
            refine m_keep (W := put2 wk5 g5 (ptr a1) (ptr a2)) ⟨J.old, J.new⟩ ?_
            obtain ⟨W7, hW7⟩ : ∃ W7, W7 = put2 wk5 g5 (ptr a1) (ptr a2) := ⟨_, rfl⟩
            rw [← hW7] at P5 P6 J C1 C2 C3 ⊢; clear hW7 e0 e1 f0 f1
            have e0 := P6.cell 0; have e1 := P6.cell 1; have f0 := P6.frozen 0; have f1 := P6.frozen 1
            have R6 := P6.putc (ptr b1) (ptr b2); have R5 := P5.far2 hne (ptr b1) (ptr b2)
            have XJ := J.cfg2 hT P6 hB6_lo (ptr b1) (ptr b2)
            have D1 := C1.cfg2 (c := some ⟨b1, 0, none⟩) (d := some ⟨b2, 0, none⟩) P6; have D2 := C2.cfg2 (c := some ⟨b1, 0, none⟩) (d := some ⟨b2, 0, none⟩) P6; have D3 := C3.cfg2 (c := some ⟨b1, 0, none⟩) (d := some ⟨b2, 0, none⟩) P6
            clear P5 P6 J C1 C2 C3
            refine m_s1 13 (by kernel_rfl) rfl ?_
            go_wp2_with fail
            refine m_keep (W := put2 W7 g6 (ptr b1) (ptr b2)) ⟨XJ.old, XJ.new⟩ ?_
            (refine m_q 14 (v := ?_) (by kernel_rfl) rfl rfl (fun W hW => ?_) ?_; rotate_left; (go_simp; first | done | with_reducible rfl); simp only [Act.put, List.setIfInBounds_toArray, List.set_cons_zero, List.set_cons_succ]); (refine m_q 15 (v := ?_) (by kernel_rfl) rfl rfl (fun W hW => ?_) ?_; rotate_left; (go_simp; first | done | with_reducible rfl); simp only [Act.put, List.setIfInBounds_toArray, List.set_cons_zero, List.set_cons_succ])
            refine m_end (by kernel_rfl) ?_
            go_wp2_with fail
            go_meet
            exact ⟨_, _, a1, a2, b1, b2, AR, cR, rfl, rfl, rfl, rfl, R5, R6, D1, D2, XJ, hne, hB5_lo⟩
          · go_wp2_with fail
            have hB6_lo := j.below.size
            refine absN fun wk6 hB6 hb hzq => ?_
            clear hzq
            replace j := j.next hb; replace hq1 := hq1.below hb; replace hq2 := hq2.below hb; replace hca := hca.below hb; replace hcb := hcb.below hb; replace hrow := hrow.below hb
            refine m_keep ⟨j.old, j.new⟩ ?_
            generalize wk3.heap.size = g6 at hB6 hB6_lo ⊢
            clear hb
            refine m_s1 10 (by kernel_rfl) rfl ?_
            go_wp2_with fail
            have hB5_lo := j.below.size
            have hne := Nat.ne_of_gt hB6.lt
            refine absN fun wk7 hB5 hb hzq => ?_
            clear hzq
            replace j := j.next hb; replace hq1 := hq1.below hb; replace hq2 := hq2.below hb; replace hca := hca.below hb; replace hcb := hcb.below hb; replace hrow := hrow.below hb; replace hB6 := hB6.below hb hB6.lt
            refine m_keep ⟨j.old, j.new⟩ ?_
            generalize wk6.heap.size = g5 at hB5 hB5_lo hne ⊢
            clear hb
            clear hq1 hq2
            have e0 := hB5.cell 0; have e1 := hB5.cell 1; have f0 := hB5.frozen 0; have f1 := hB5.frozen 1
            have P5 := hB5.putc (ptr a1) (ptr a2); have P6 := hB6.far2 (Ne.symm hne) (ptr a1) (ptr a2)
            have J := j.cfg2 hT hB5 hB5_lo (ptr a1) (ptr a2)
            have C1 := hca.cfg2 (c := some ⟨a1, 0, none⟩) (d := some ⟨a2, 0, none⟩) hB5; have C2 := hcb.cfg2 (c := some ⟨a1, 0, none⟩) (d := some ⟨a2, 0, none⟩) hB5; have C3 := hrow.cfg2 (c := some ⟨a1, 0, none⟩) (d := some ⟨a2, 0, none⟩) hB5
            clear hB5 hB6 j hca hcb hrow
            refine m_s1 12 (by kernel_rfl) rfl ?_
            go_wp2_with fail
            refine m_keep (W := put2 wk7 g5 (ptr a1) (ptr a2)) ⟨J.old, J.new⟩ ?_
            obtain ⟨W7, hW7⟩ : ∃ W7, W7 = put2 wk7 g5 (ptr a1) (ptr a2) := ⟨_, rfl⟩
            rw [← hW7] at P5 P6 J C1 C2 C3 ⊢; clear hW7 e0 e1 f0 f1
            have e0 := P6.cell 0; have e1 := P6.cell 1; have f0 := P6.frozen 0; have f1 := P6.frozen 1
            have R6 := P6.putc (ptr b1) (ptr b2); have R5 := P5.far2 hne (ptr b1) (ptr b2)
            have XJ := J.cfg2 hT P6 hB6_lo (ptr b1) (ptr b2)
            have D1 := C1.cfg2 (c := some ⟨b1, 0, none⟩) (d := some ⟨b2, 0, none⟩) P6; have D2 := C2.cfg2 (c := some ⟨b1, 0, none⟩) (d := some ⟨b2, 0, none⟩) P6; have D3 := C3.cfg2 (c := some ⟨b1, 0, none⟩) (d := some ⟨b2, 0, none⟩) P6
            clear P5 P6 J C1 C2 C3
            refine m_s1 13 (by kernel_rfl) rfl ?_
            go_wp2_with fail
            refine m_keep (W := put2 W7 g6 (ptr b1) (ptr b2)) ⟨XJ.old, XJ.new⟩ ?_
            (refine m_q 14 (v := ?_) (by kernel_rfl) rfl rfl (fun W hW => ?_) ?_; rotate_left; (go_simp; first | done | with_reducible rfl); simp only [Act.put, List.setIfInBounds_toArray, List.set_cons_zero, List.set_cons_succ]); (refine m_q 15 (v := ?_) (by kernel_rfl) rfl rfl (fun W hW => ?_) ?_; rotate_left; (go_simp; first | done | with_reducible rfl); simp only [Act.put, List.setIfInBounds_toArray, List.set_cons_zero, List.set_cons_succ])
            refine m_end (by kernel_rfl) ?_
            go_wp2_with fail
            go_meet
            exact ⟨_, _, a1, a2, b1, b2, AR, cR, rfl, rfl, rfl, rfl, R5, R6, D1, D2, XJ, hne, hB5_lo⟩
        · go_wp2_with fail
          have hB5_lo := j.below.size
          refine absN fun wk8 hB5 hb hzq => ?_
          clear hzq
          replace j := j.next hb; replace hq1 := hq1.below hb; replace hq2 := hq2.below hb
          refine m_keep ⟨j.old, j.new⟩ ?_
          generalize wk2.heap.size = g5 at hB5 hB5_lo ⊢
          clear hb
          refine m_s2 4 11 (by kernel_rfl) rfl rfl ?_ ?_
          · go_wp2_with fail
            refine (j.joint (Below.refl _ _) hq1 hq2).mono ?_
            rintro e wk9 ⟨a1, a2, b1, b2, AR, cR, rfl, hca, hcb, hrow, hb⟩
            replace j := j.next hb; replace hq1 := hq1.below hb; replace hq2 := hq2.below hb; replace hB5 := hB5.below hb hB5.lt
            go_wp2_with fail
            refine m_keep ⟨j.old, j.new⟩ ?_
            (refine m_q 5 (v := ?_) (by kernel_rfl) rfl rfl (fun W hW => ?_) ?_; rotate_left; (go_simp; first | done | with_reducible rfl); simp only [Act.put, List.setIfInBounds_toArray, List.set_cons_zero, List.set_cons_succ]); (refine m_q 6 (v := ?_) (by kernel_rfl) rfl rfl (fun W hW => ?_) ?_; rotate_left; (go_simp; first | done | with_reducible rfl); simp only [Act.put, List.setIfInBounds_toArray, List.set_cons_zero, List.set_cons_succ]); (refine m_q 7 (v := ?_) (by kernel_rfl) rfl rfl (fun W hW => ?_) ?_; rotate_left; (go_simp; first | done | with_reducible rfl); simp only [Act.put, List.setIfInBounds_toArray, List.set_cons_zero, List.set_cons_succ]); (refine m_q 8 (v := ?_) (by kernel_rfl) rfl rfl (fun W hW => ?_) ?_; rotate_left; (go_simp; first | done | with_reducible rfl); simp only [Act.put, List.setIfInBounds_toArray, List.set_cons_zero, List.set_cons_succ]); (refine m_q 9 (v := ?_) (by kernel_rfl) rfl rfl (fun W hW => ?_) ?_; rotate_left; (go_simp; first | done | with_reducible rfl); simp only [Act.put, List.setIfInBounds_toArray, List.set_cons_zero, List.set_cons_succ])
            clear hb
            refine m_s1 11 (by kernel_rfl) rfl ?_
            go_wp2_with fail
            have hB6_lo := j.below.size
            have hne := Nat.ne_of_lt hB5.lt
            refine absN fun wk10 hB6 hb hzq => ?_
            clear hzq
            replace j := j.next hb; replace hq1 := hq1.below hb; replace hq2 := hq2.below hb; replace hB5 := hB5.below hb hB5.lt; replace hca := hca.below hb; replace hcb := hcb.below hb; replace hrow := hrow.below hb
            refine m_keep ⟨j.old, j.new⟩ ?_
            generalize wk9.heap.size = g6 at hB6 hB6_lo hne ⊢
            clear hb
            clear hq1 hq2
            have e0 := hB5.cell 0; have e1 := hB5.cell 1; have f0 := hB5.frozen 0; have f1 := hB5.frozen 1
            have P5 := hB5.putc (ptr a1) (ptr a2); have P6 := hB6.far2 (Ne.symm hne) (ptr a1) (ptr a2)
            have J := j.cfg2 hT hB5 hB5_lo (ptr a1) (ptr a2)
            have C1 := hca.cfg2 (c := some ⟨a1, 0, none⟩) (d := some ⟨a2, 0, none⟩) hB5; have C2 := hcb.cfg2 (c := some ⟨a1, 0, none⟩) (d := some ⟨a2, 0, none⟩) hB5; have C3 := hrow.cfg2 (c := some ⟨a1, 0, none⟩) (d := some ⟨a2, 0, none⟩) hB5
            clear hB5 hB6 j hca hcb hrow
            refine m_s1 12 (by kernel_rfl) rfl ?_
            go_wp2_with fail
            refine m_keep (W := put2 wk10 g5 (ptr a1) (ptr a2)) ⟨J.old, J.new⟩ ?_
            obtain ⟨W7, hW7⟩ : ∃ W7, W7 = put2 wk10 g5 (ptr a1) (ptr a2) := ⟨_, rfl⟩
            rw [← hW7] at P5 P6 J C1 C2 C3 ⊢; clear hW7 e0 e1 f0 f1
            have e0 := P6.cell 0; have e1 := P6.cell 1; have f0 := P6.frozen 0; have f1 := P6.frozen 1
            have R6 := P6.putc (ptr b1) (ptr b2); have R5 := P5.far2 hne (ptr b1) (ptr b2)
            have XJ := J.cfg2 hT P6 hB6_lo (ptr b1) (ptr b2)
            have D1 := C1.cfg2 (c := some ⟨b1, 0, none⟩) (d := some ⟨b2, 0, none⟩) P6; have D2 := C2.cfg2 (c := some ⟨b1, 0, none⟩) (d := some ⟨b2, 0, none⟩) P6; have D3 := C3.cfg2 (c := some ⟨b1, 0, none⟩) (d := some ⟨b2, 0, none⟩) P6
            clear P5 P6 J C1 C2 C3
            refine m_s1 13 (by kernel_rfl) rfl ?_
            go_wp2_with fail
            refine m_keep (W := put2 W7 g6 (ptr b1) (ptr b2)) ⟨XJ.old, XJ.new⟩ ?_
            (refine m_q 14 (v := ?_) (by kernel_rfl) rfl rfl (fun W hW => ?_) ?_; rotate_left; (go_simp; first | done | with_reducible rfl); simp only [Act.put, List.setIfInBounds_toArray, List.set_cons_zero, List.set_cons_succ]); (refine m_q 15 (v := ?_) (by kernel_rfl) rfl rfl (fun W hW => ?_) ?_; rotate_left; (go_simp; first | done | with_reducible rfl); simp only [Act.put, List.setIfInBounds_toArray, List.set_cons_zero, List.set_cons_succ])
            refine m_end (by kernel_rfl) ?_
            go_wp2_with fail
            go_meet
            exact ⟨_, _, a1, a2, b1, b2, AR, cR, rfl, rfl, rfl, rfl, R5, R6, D1, D2, XJ, hne, hB5_lo⟩
          · go_wp2_with fail
            have hB6_lo := j.below.size
            have hne := Nat.ne_of_lt hB5.lt
            refine absN fun wk11 hB6 hb hzq => ?_
            clear hzq
            replace j := j.next hb; replace hq1 := hq1.below hb; replace hq2 := hq2.below hb; replace hB5 := hB5.below hb hB5.lt
            refine m_keep ⟨j.old, j.new⟩ ?_
            generalize wk8.heap.size = g6 at hB6 hB6_lo hne ⊢
            clear hb
            refine m_s1 4 (by kernel_rfl) rfl ?_
            go_wp2_with fail
            refine (j.joint (Below.refl _ _) hq1 hq2).mono ?_
            rintro e wk12 ⟨a1, a2, b1, b2, AR, cR, rfl, hca, hcb, hrow, hb⟩
            replace j := j.next hb; replace hq1 := hq1.below hb; replace hq2 := hq2.below hb; replace hB5 := hB5.below hb hB5.lt; replace hB6 := hB6.below hb hB6.lt
            go_wp2_with fail
            refine m_keep ⟨j.old, j.new⟩ ?_
            (refine m_q 5 (v := ?_) (by kernel_rfl) rfl rfl (fun W hW => ?_) ?_; rotate_left; (go_simp; first | done | with_reducible rfl); simp only [Act.put, List.setIfInBounds_toArray, List.set_cons_zero, List.set_cons_succ]); (refine m_q 6 (v := ?_) (by kernel_rfl) rfl rfl (fun W hW => ?_) ?_; rotate_left; (go_simp; first | done | with_reducible rfl); simp only [Act.put, List.setIfInBounds_toArray, List.set_cons_zero, List.set_cons_succ]); (refine m_q 7 (v := ?_) (by kernel_rfl) rfl rfl (fun W hW => ?_) ?_; rotate_left; (go_simp; first | done | with_reducible rfl); simp only [Act.put, List.setIfInBounds_toArray, List.set_cons_zero, List.set_cons_succ]); (refine m_q 8 (v := ?_) (by kernel_rfl) rfl rfl (fun W hW => ?_) ?_; rotate_left; (go_simp; first | done | with_reducible rfl); simp only [Act.put, List.setIfInBounds_toArray, List.set_cons_zero, List.set_cons_succ]); (refine m_q 9 (v := ?_) (by kernel_rfl) rfl rfl (fun W hW => ?_) ?_; rotate_left; (go_simp; first | done | with_reducible rfl); simp only [Act.put, List.setIfInBounds_toArray, List.set_cons_zero, List.set_cons_succ])
            clear hb
            clear hq1 hq2
            have e0 := hB5.cell 0; have e1 := hB5.cell 1; have f0 := hB5.frozen 0; have f1 := hB5.frozen 1
            have P5 := hB5.putc (ptr a1) (ptr a2); have P6 := hB6.far2 (Ne.symm hne) (ptr a1) (ptr a2)
            have J := j.cfg2 hT hB5 hB5_lo (ptr a1) (ptr a2)
            have C1 := hca.cfg2 (c := some ⟨a1, 0, none⟩) (d := some ⟨a2, 0, none⟩) hB5; have C2 := hcb.cfg2 (c := some ⟨a1, 0, none⟩) (d := some ⟨a2, 0, none⟩) hB5; have C3 := hrow.cfg2 (c := some ⟨a1, 0, none⟩) (d := some ⟨a2, 0, none⟩) hB5
            clear hB5 hB6 j hca hcb hrow
            refine m_s1 12 (by kernel_rfl) rfl ?_
            go_wp2_with fail
            refine m_keep (W := put2 wk12 g5 (ptr a1) (ptr a2)) ⟨J.old, J.new⟩ ?_
            obtain ⟨W7, hW7⟩ : ∃ W7, W7 = put2 wk12 g5 (ptr a1) (ptr a2) := ⟨_, rfl⟩
            rw [← hW7] at P5 P6 J C1 C2 C3 ⊢; clear hW7 e0 e1 f0 f1
            have e0 := P6.cell 0; have e1 := P6.cell 1; have f0 := P6.frozen 0; have f1 := P6.frozen 1
            have R6 := P6.putc (ptr b1) (ptr b2); have R5 := P5.far2 hne (ptr b1) (ptr b2)
            have XJ := J.cfg2 hT P6 hB6_lo (ptr b1) (ptr b2)
            have D1 := C1.cfg2 (c := some ⟨b1, 0, none⟩) (d := some ⟨b2, 0, none⟩) P6; have D2 := C2.cfg2 (c := some ⟨b1, 0, none⟩) (d := some ⟨b2, 0, none⟩) P6; have D3 := C3.cfg2 (c := some ⟨b1, 0, none⟩) (d := some ⟨b2, 0, none⟩) P6
            clear P5 P6 J C1 C2 C3
            refine m_s1 13 (by kernel_rfl) rfl ?_
            go_wp2_with fail
            refine m_keep (W := put2 W7 g6 (ptr b1) (ptr b2)) ⟨XJ.old, XJ.new⟩ ?_
            (refine m_q 14 (v := ?_) (by kernel_rfl) rfl rfl (fun W hW => ?_) ?_; rotate_left; (go_simp; first | done | with_reducible rfl); simp only [Act.put, List.setIfInBounds_toArray, List.set_cons_zero, List.set_cons_succ]); (refine m_q 15 (v := ?_) (by kernel_rfl) rfl rfl (fun W hW => ?_) ?_; rotate_left; (go_simp; first | done | with_reducible rfl); simp only [Act.put, List.setIfInBounds_toArray, List.set_cons_zero, List.set_cons_succ])
            refine m_end (by kernel_rfl) ?_
            go_wp2_with fail
            go_meet
            exact ⟨_, _, a1, a2, b1, b2, AR, cR, rfl, rfl, rfl, rfl, R5, R6, D1, D2, XJ, hne, hB5_lo⟩
        · go_wp2_with fail
          have hB6_lo := j.below.size
          refine absN fun wk13 hB6 hb hzq => ?_
          clear hzq
          replace j := j.next hb; replace hq1 := hq1.below hb; replace hq2 := hq2.below hb
          refine m_keep ⟨j.old, j.new⟩ ?_
          generalize wk2.heap.size = g6 at hB6 hB6_lo ⊢
          clear hb
          refine m_s2 4 10 (by kernel_rfl) rfl rfl ?_ ?_
          · go_wp2_with fail
            refine (j.joint (Below.refl _ _) hq1 hq2).mono ?_
            rintro e wk14 ⟨a1, a2, b1, b2, AR, cR, rfl, hca, hcb, hrow, hb⟩
            replace j := j.next hb; replace hq1 := hq1.below hb; replace hq2 := hq2.below hb; replace hB6 := hB6.below hb hB6.lt
            go_wp2_with fail
            refine m_keep ⟨j.old, j.new⟩ ?_
            (refine m_q 5 (v := ?_) (by kernel_rfl) rfl rfl (fun W hW => ?_) ?_; rotate_left; (go_simp; first | done | with_reducible rfl); simp only [Act.put, List.setIfInBounds_toArray, List.set_cons_zero, List.set_cons_succ]); (refine m_q 6 (v := ?_) (by kernel_rfl) rfl rfl (fun W hW => ?_) ?_; rotate_left; (go_simp; first | done | with_reducible rfl); simp only [Act.put, List.setIfInBounds_toArray, List.set_cons_zero, List.set_cons_succ]); (refine m_q 7 (v := ?_) (by kernel_rfl) rfl rfl (fun W hW => ?_) ?_; rotate_left; (go_simp; first | done | with_reducible rfl); simp only [Act.put, List.setIfInBounds_toArray, List.set_cons_zero, List.set_cons_succ]); (refine m_q 8 (v := ?_) (by kernel_rfl) rfl rfl (fun W hW => ?_) ?_; rotate_left; (go_simp; first | done | with_reducible rfl); simp only [Act.put, List.setIfInBounds_toArray, List.set_cons_zero, List.set_cons_succ]); (refine m_q 9 (v := ?_) (by kernel_rfl) rfl rfl (fun W hW => ?_) ?_; rotate_left; (go_simp; first | done | with_reducible rfl); simp only [Act.put, List.setIfInBounds_toArray, List.set_cons_zero, List.set_cons_succ])
            clear hb
            refine m_s1 10 (by kernel_rfl) rfl ?_
            go_wp2_with fail
            have hB5_lo := j.below.size
            have hne := Nat.ne_of_gt hB6.lt
            refine absN fun wk15 hB5 hb hzq => ?_
            clear hzq
            replace j := j.next hb; replace hq1 := hq1.below hb; replace hq2 := hq2.below hb; replace hB6 := hB6.below hb hB6.lt; replace hca := hca.below hb; replace hcb := hcb.below hb; replace hrow := hrow.below hb
            refine m_keep ⟨j.old, j.new⟩ ?_
            generalize wk14.heap.size = g5 at hB5 hB5_lo hne ⊢
            clear hb
            clear hq1 hq2
            have e0 := hB5.cell 0; have e1 := hB5.cell 1; have f0 := hB5.frozen 0; have f1 := hB5.frozen 1
            have P5 := hB5.putc (ptr a1) (ptr a2); have P6 := hB6.far2 (Ne.symm hne) (ptr a1) (ptr a2)
            have J := j.cfg2 hT hB5 hB5_lo (ptr a1) (ptr a2)
            have C1 := hca.cfg2 (c := some ⟨a1, 0, none⟩) (d := some ⟨a2, 0, none⟩) hB5; have C2 := hcb.cfg2 (c := some ⟨a1, 0, none⟩) (d := some ⟨a2, 0, none⟩) hB5; have C3 := hrow.cfg2 (c := some ⟨a1, 0, none⟩) (d := some ⟨a2, 0, none⟩) hB5
            clear hB5 hB6 j hca hcb hrow
            refine m_s1 12 (by kernel_rfl) rfl ?_
            go_wp2_with fail
            refine m_keep (W := put2 wk15 g5 (ptr a1) (ptr a2)) ⟨J.old, J.new⟩ ?_
            obtain ⟨W7, hW7⟩ : ∃ W7, W7 = put2 wk15 g5 (ptr a1) (ptr a2) := ⟨_, rfl⟩
            rw [← hW7] at P5 P6 J C1 C2 C3 ⊢; clear hW7 e0 e1 f0 f1
            have e0 := P6.cell 0; have e1 := P6.cell 1; have f0 := P6.frozen 0; have f1 := P6.frozen 1
            have R6 := P6.putc (ptr b1) (ptr b2); have R5 := P5.far2 hne (ptr b1) (ptr b2)
            have XJ := J.cfg2 hT P6 hB6_lo (ptr b1) (ptr b2)
            have D1 := C1.cfg2 (c := some ⟨b1, 0, none⟩) (d := some ⟨b2, 0, none⟩) P6; have D2 := C2.cfg2 (c := some ⟨b1, 0, none⟩) (d := some ⟨b2, 0, none⟩) P6; have D3 := C3.cfg2 (c := some ⟨b1, 0, none⟩) (d := some ⟨b2, 0, none⟩) P6
            clear P5 P6 J C1 C2 C3
            refine m_s1 13 (by kernel_rfl) rfl ?_
            go_wp2_with fail
            refine m_keep (W := put2 W7 g6 (ptr b1) (ptr b2)) ⟨XJ.old, XJ.new⟩ ?_
            (refine m_q 14 (v := ?_) (by kernel_rfl) rfl rfl (fun W hW => ?_) ?_; rotate_left; (go_simp; first | done | with_reducible rfl); simp only [Act.put, List.setIfInBounds_toArray, List.set_cons_zero, List.set_cons_succ]); (refine m_q 15 (v := ?_) (by kernel_rfl) rfl rfl (fun W hW => ?_) ?_; rotate_left; (go_simp; first | done | with_reducible rfl); simp only [Act.put, List.setIfInBounds_toArray, List.set_cons_zero, List.set_cons_succ])
            refine m_end (by kernel_rfl) ?_
            go_wp2_with fail
            go_meet
            exact ⟨_, _, a1, a2, b1, b2, AR, cR, rfl, rfl, rfl, rfl, R5, R6, D1, D2, XJ, hne, hB5_lo⟩
          · go_wp2_with fail
            have hB5_lo := j.below.size
            have hne := Nat.ne_of_gt hB6.lt
            refine absN fun wk16 hB5 hb hzq => ?_
            clear hzq
            replace j := j.next hb; replace hq1 := hq1.below hb; replace hq2 := hq2.below hb; replace hB6 := hB6.below hb hB6.lt
            refine m_keep ⟨j.old, j.new⟩ ?_
            generalize wk13.heap.size = g5 at hB5 hB5_lo hne ⊢
            clear hb
            refine m_s1 4 (by kernel_rfl) rfl ?_
            go_wp2_with fail
            refine (j.joint (Below.refl _ _) hq1 hq2).mono ?_
            rintro e wk17 ⟨a1, a2, b1, b2, AR, cR, rfl, hca, hcb, hrow, hb⟩
            replace j := j.next hb; replace hq1 := hq1.below hb; replace hq2 := hq2.below hb; replace hB6 := hB6.below hb hB6.lt; replace hB5 := hB5.below hb hB5.lt
            go_wp2_with fail
            refine m_keep ⟨j.old, j.new⟩ ?_
            (refine m_q 5 (v := ?_) (by kernel_rfl) rfl rfl (fun W hW => ?_) ?_; rotate_left; (go_simp; first | done | with_reducible rfl); simp only [Act.put, List.setIfInBounds_toArray, List.set_cons_zero, List.set_cons_succ]); (refine m_q 6 (v := ?_) (by kernel_rfl) rfl rfl (fun W hW => ?_) ?_; rotate_left; (go_simp; first | done | with_reducible rfl); simp only [Act.put, List.setIfInBounds_toArray, List.set_cons_zero, List.set_cons_succ]); (refine m_q 7 (v := ?_) (by kernel_rfl) rfl rfl (fun W hW => ?_) ?_; rotate_left; (go_simp; first | done | with_reducible rfl); simp only [Act.put, List.setIfInBounds_toArray, List.set_cons_zero, List.set_cons_succ]); (refine m_q 8 (v := ?_) (by kernel_rfl) rfl rfl (fun W hW => ?_) ?_; rotate_left; (go_simp; first | done | with_reducible rfl); simp only [Act.put, List.setIfInBounds_toArray, List.set_cons_zero, List.set_cons_succ]); (refine m_q 9 (v := ?_) (by kernel_rfl) rfl rfl (fun W hW => ?_) ?_; rotate_left; (go_simp; first | done | with_reducible rfl); simp only [Act.put, List.setIfInBounds_toArray, List.set_cons_zero, List.set_cons_succ])
            clear hb
            clear hq1 hq2
            have e0 := hB5.cell 0; have e1 := hB5.cell 1; have f0 := hB5.frozen 0; have f1 := hB5.frozen 1
            have P5 := hB5.putc (ptr a1) (ptr a2); have P6 := hB6.far2 (Ne.symm hne) (ptr a1) (ptr a2)
            have J := j.cfg2 hT hB5 hB5_lo (ptr a1) (ptr a2)
            have C1 := hca.cfg2 (c := some ⟨a1, 0, none⟩) (d := some ⟨a2, 0, none⟩) hB5; have C2 := hcb.cfg2 (c := some ⟨a1, 0, none⟩) (d := some ⟨a2, 0, none⟩) hB5; have C3 := hrow.cfg2 (c := some ⟨a1, 0, none⟩) (d := some ⟨a2, 0, none⟩) hB5
            clear hB5 hB6 j hca hcb hrow
            refine m_s1 12 (by kernel_rfl) rfl ?_
            go_wp2_with fail
            refine m_keep (W := put2 wk17 g5 (ptr a1) (ptr a2)) ⟨J.old, J.new⟩ ?_
            obtain ⟨W7, hW7⟩ : ∃ W7, W7 = put2 wk17 g5 (ptr a1) (ptr a2) := ⟨_, rfl⟩
            rw [← hW7] at P5 P6 J C1 C2 C3 ⊢; clear hW7 e0 e1 f0 f1
            have e0 := P6.cell 0; have e1 := P6.cell 1; have f0 := P6.frozen 0; have f1 := P6.frozen 1
            have R6 := P6.putc (ptr b1) (ptr b2); have R5 := P5.far2 hne (ptr b1) (ptr b2)
            have XJ := J.cfg2 hT P6 hB6_lo (ptr b1) (ptr b2)
            have D1 := C1.cfg2 (c := some ⟨b1, 0, none⟩) (d := some ⟨b2, 0, none⟩) P6; have D2 := C2.cfg2 (c := some ⟨b1, 0, none⟩) (d := some ⟨b2, 0, none⟩) P6; have D3 := C3.cfg2 (c := some ⟨b1, 0, none⟩) (d := some ⟨b2, 0, none⟩) P6
            clear P5 P6 J C1 C2 C3
            refine m_s1 13 (by kernel_rfl) rfl ?_
            go_wp2_with fail
            refine m_keep (W := put2 W7 g6 (ptr b1) (ptr b2)) ⟨XJ.old, XJ.new⟩ ?_
            (refine m_q 14 (v := ?_) (by kernel_rfl) rfl rfl (fun W hW => ?_) ?_; rotate_left; (go_simp; first | done | with_reducible rfl); simp only [Act.put, List.setIfInBounds_toArray, List.set_cons_zero, List.set_cons_succ]); (refine m_q 15 (v := ?_) (by kernel_rfl) rfl rfl (fun W hW => ?_) ?_; rotate_left; (go_simp; first | done | with_reducible rfl); simp only [Act.put, List.setIfInBounds_toArray, List.set_cons_zero, List.set_cons_succ])
            refine m_end (by kernel_rfl) ?_
            go_wp2_with fail
            go_meet
            exact ⟨_, _, a1, a2, b1, b2, AR, cR, rfl, rfl, rfl, rfl, R5, R6, D1, D2, XJ, hne, hB5_lo⟩
      · go_wp2_with fail
        have hB5_lo := j.below.size
        refine absN fun wk18 hB5 hb hzq => ?_
        clear hzq
        replace j := j.next hb; replace hq1 := hq1.below hb
        refine m_keep ⟨j.old, j.new⟩ ?_
        generalize wk1.heap.size = g5 at hB5 hB5_lo ⊢
        clear hb
        refine m_s2 3 11 (by kernel_rfl) rfl rfl ?_ ?_
        · go_wp2_with fail
          refine j.cfgB.mono ?_
          rintro e wk19 ⟨q2, r2, rfl, hq2, hb⟩
          replace j := j.next hb; replace hq1 := hq1.below hb; replace hB5 := hB5.below hb hB5.lt
          go_wp2_with fail
          refine m_keep ⟨j.old, j.new⟩ ?_
          clear hb
          refine m_s2 4 11 (by kernel_rfl) rfl rfl ?_ ?_
          · go_wp2_with fail
            refine (j.joint (Below.refl _ _) hq1 hq2).mono ?_
            rintro e wk20 ⟨a1, a2, b1, b2, AR, cR, rfl, hca, hcb, hrow, hb⟩
            replace j := j.next hb; replace hq1 := hq1.below hb; replace hB5 := hB5.below hb hB5.lt; replace hq2 := hq2.below hb
            go_wp2_with fail
            refine m_keep ⟨j.old, j.new⟩ ?_
            (refine m_q 5 (v := ?_) (by kernel_rfl) rfl rfl (fun W hW => ?_) ?_; rotate_left; (go_simp; first | done | with_reducible rfl); simp only [Act.put, List.setIfInBounds_toArray, List.set_cons_zero, List.set_cons_succ]); (refine m_q 6 (v := ?_) (by kernel_rfl) rfl rfl (fun W hW => ?_) ?_; rotate_left; (go_simp; first | done | with_reducible rfl); simp only [Act.put, List.setIfInBounds_toArray, List.set_cons_zero, List.set_cons_succ]); (refine m_q 7 (v := ?_) (by kernel_rfl) rfl rfl (fun W hW => ?_) ?_; rotate_left; (go_simp; first | done | with_reducible rfl); simp only [Act.put, List.setIfInBounds_toArray, List.set_cons_zero, List.set_cons_succ]); (refine m_q 8 (v := ?_) (by kernel_rfl) rfl rfl (fun W hW => ?_) ?_; rotate_left; (go_simp; first | done | with_reducible rfl); simp only [Act.put, List.setIfInBounds_toArray, List.set_cons_zero, List.set_cons_succ]); (refine m_q 9 (v := ?_) (by kernel_rfl) rfl rfl (fun W hW => ?_) ?_; rotate_left; (go_simp; first | done | with_reducible rfl); simp only [Act.put, List.setIfInBounds_toArray, List.set_cons_zero, List.set_cons_succ])
            clear hb
            refine m_s1 11 (by kernel_rfl) rfl ?_
            go_wp2_with fail
            have hB6_lo := j.below.size
            have hne := Nat.ne_of_lt hB5.lt
            refine absN fun wk21 hB6 hb hzq => ?_
            clear hzq
            replace j := j.next hb; replace hq1 := hq1.below hb; replace hB5 := hB5.below hb hB5.lt; replace hq2 := hq2.below hb; replace hca := hca.below hb; replace hcb := hcb.below hb; replace hrow := hrow.below hb
            refine m_keep ⟨j.old, j.new⟩ ?_
            generalize wk20.heap.size = g6 at hB6 hB6_lo hne ⊢
            clear hb
            clear hq1 hq2
            have e0 := hB5.cell 0; have e1 := hB5.cell 1; have f0 := hB5.frozen 0; have f1 := hB5.frozen 1
            have P5 := hB5.putc (ptr a1) (ptr a2); have P6 := hB6.far2 (Ne.symm hne) (ptr a1) (ptr a2)
            have J := j.cfg2 hT hB5 hB5_lo (ptr a1) (ptr a2)
            have C1 := hca.cfg2 (c := some ⟨a1, 0, none⟩) (d := some ⟨a2, 0, none⟩) hB5; have C2 := hcb.cfg2 (c := some ⟨a1, 0, none⟩) (d := some ⟨a2, 0, none⟩) hB5; have C3 := hrow.cfg2 (c := some ⟨a1, 0, none⟩) (d := some ⟨a2, 0, none⟩) hB5
            clear hB5 hB6 j hca hcb hrow
            refine m_s1 12 (by kernel_rfl) rfl ?_
            go_wp2_with fail
            refine m_keep (W := put2 wk21 g5 (ptr a1) (ptr a2)) ⟨J.old, J.new⟩ ?_
            obtain ⟨W7, hW7⟩ : ∃ W7, W7 = put2 wk21 g5 (ptr a1) (ptr a2) := ⟨_, rfl⟩
            rw [← hW7] at P5 P6 J C1 C2 C3 ⊢; clear hW7 e0 e1 f0 f1
            have e0 := P6.cell 0; have e1 := P6.cell 1; have f0 := P6.frozen 0; have f1 := P6.frozen 1
            have R6 := P6.putc (ptr b1) (ptr b2); have R5 := P5.far2 hne (ptr b1) (ptr b2)
            have XJ := J.cfg2 hT P6 hB6_lo (ptr b1) (ptr b2)
            have D1 := C1.cfg2 (c := some ⟨b1, 0, none⟩) (d := some ⟨b2, 0, none⟩) P6; have D2 := C2.cfg2 (c := some ⟨b1, 0, none⟩) (d := some ⟨b2, 0, none⟩) P6; have D3 := C3.cfg2 (c := some ⟨b1, 0, none⟩) (d := some ⟨b2, 0, none⟩) P6
            clear P5 P6 J C1 C2 C3
            refine m_s1 13 (by kernel_rfl) rfl ?_
            go_wp2_with fail
            refine m_keep (W := put2 W7 g6 (ptr b1) (ptr b2)) ⟨XJ.old, XJ.new⟩ ?_
            (refine m_q 14 (v := ?_) (by kernel_rfl) rfl rfl (fun W hW => ?_) ?_; rotate_left; (go_simp; first | done | with_reducible rfl); simp only [Act.put, List.setIfInBounds_toArray, List.set_cons_zero, List.set_cons_succ]); (refine m_q 15 (v := ?_) (by kernel_rfl) rfl rfl (fun W hW => ?_) ?_; rotate_left; (go_simp; first | done | with_reducible rfl); simp only [Act.put, List.setIfInBounds_toArray, List.set_cons_zero, List.set_cons_succ])
            refine m_end (by kernel_rfl) ?_
            go_wp2_with fail
            go_meet
            exact ⟨_, _, a1, a2, b1, b2, AR, cR, rfl, rfl, rfl, rfl, R5, R6, D1, D2, XJ, hne, hB5_lo⟩
          · go_wp2_with fail
            have hB6_lo := j.below.size
            have hne := Nat.ne_of_lt hB5.lt
            refine absN fun wk22 hB6 hb hzq => ?_
            clear hzq
            replace j := j.next hb; replace hq1 := hq1.below hb; replace hB5 := hB5.below hb hB5.lt; replace hq2 := hq2.below hb
            refine m_keep ⟨j.old, j.new⟩ ?_
            generalize wk19.heap.size = g6 at hB6 hB6_lo hne ⊢
            clear hb
            refine m_s1 4 (by kernel_rfl) rfl ?_
            go_wp2_with fail
            refine (j.joint (Below.refl _ _) hq1 hq2).mono ?_
            rintro e wk23 ⟨a1, a2, b1, b2, AR, cR, rfl, hca, hcb, hrow, hb⟩
            replace j := j.next hb; replace hq1 := hq1.below hb; replace hB5 := hB5.below hb hB5.lt; replace hq2 := hq2.below hb; replace hB6 := hB6.below hb hB6.lt
            go_wp2_with fail
            refine m_keep ⟨j.old, j.new⟩ ?_
            (refine m_q 5 (v := ?_) (by kernel_rfl) rfl rfl (fun W hW => ?_) ?_; rotate_left; (go_simp; first | done | with_reducible rfl); simp only [Act.put, List.setIfInBounds_toArray, List.set_cons_zero, List.set_cons_succ]); (refine m_q 6 (v := ?_) (by kernel_rfl) rfl rfl (fun W hW => ?_) ?_; rotate_left; (go_simp; first | done | with_reducible rfl); simp only [Act.put, List.setIfInBounds_toArray, List.set_cons_zero, List.set_cons_succ]); (refine m_q 7 (v := ?_) (by kernel_rfl) rfl rfl (fun W hW => ?_) ?_; rotate_left; (go_simp; first | done | with_reducible rfl); simp only [Act.put, List.setIfInBounds_toArray, List.set_cons_zero, List.set_cons_succ]); (refine m_q 8 (v := ?_) (by kernel_rfl) rfl rfl (fun W hW => ?_) ?_; rotate_left; (go_simp; first | done | with_reducible rfl); simp only [Act.put, List.setIfInBounds_toArray, List.set_cons_zero, List.set_cons_succ]); (refine m_q 9 (v := ?_) (by kernel_rfl) rfl rfl (fun W hW => ?_) ?_; rotate_left; (go_simp; first | done | with_reducible rfl); simp only [Act.put, List.setIfInBounds_toArray, List.set_cons_zero, List.set_cons_succ])
            clear hb
            clear hq1 hq2
            have e0 := hB5.cell 0; have e1 := hB5.cell 1; have f0 := hB5.frozen 0; have f1 := hB5.frozen 1
            have P5 := hB5.putc (ptr a1) (ptr a2); have P6 := hB6.far2 (Ne.symm hne) (ptr a1) (ptr a2)
            have J := j.cfg2 hT hB5 hB5_lo (ptr a1) (ptr a2)
            have C1 := hca.cfg2 (c := some ⟨a1, 0, none⟩) (d := some ⟨a2, 0, none⟩) hB5; have C2 := hcb.cfg2 (c := some ⟨a1, 0, none⟩) (d := some ⟨a2, 0, none⟩) hB5; have C3 := hrow.cfg2 (c := some ⟨a1, 0, none⟩) (d := some ⟨a2, 0, none⟩) hB5
            clear hB5 hB6 j hca hcb hrow
            refine m_s1 12 (by kernel_rfl) rfl ?_
            go_wp2_with fail
            refine m_keep (W := put2 wk23 g5 (ptr a1) (ptr a2)) ⟨J.old, J.new⟩ ?_
            obtain ⟨W7, hW7⟩ : ∃ W7, W7 = put2 wk23 g5 (ptr a1) (ptr a2) := ⟨_, rfl⟩
            rw [← hW7] at P5 P6 J C1 C2 C3 ⊢; clear hW7 e0 e1 f0 f1
            have e0 := P6.cell 0; have e1 := P6.cell 1; have f0 := P6.frozen 0; have f1 := P6.frozen 1
            have R6 := P6.putc (ptr b1) (ptr b2); have R5 := P5.far2 hne (ptr b1) (ptr b2)
            have XJ := J.cfg2 hT P6 hB6_lo (ptr b1) (ptr b2)
            have D1 := C1.cfg2 (c := some ⟨b1, 0, none⟩) (d := some ⟨b2, 0, none⟩) P6; have D2 := C2.cfg2 (c := some ⟨b1, 0, none⟩) (d := some ⟨b2, 0, none⟩) P6; have D3 := C3.cfg2 (c := some ⟨b1, 0, none⟩) (d := some ⟨b2, 0, none⟩) P6
            clear P5 P6 J C1 C2 C3
            refine m_s1 13 (by kernel_rfl) rfl ?_
            go_wp2_with fail
            refine m_keep (W := put2 W7 g6 (ptr b1) (ptr b2)) ⟨XJ.old, XJ.new⟩ ?_
            (refine m_q 14 (v := ?_) (by kernel_rfl) rfl rfl (fun W hW => ?_) ?_; rotate_left; (go_simp; first | done | with_reducible rfl); simp only [Act.put, List.setIfInBounds_toArray, List.set_cons_zero, List.set_cons_succ]); (refine m_q 15 (v := ?_) (by kernel_rfl) rfl rfl (fun W hW => ?_) ?_; rotate_left; (go_simp; first | done | with_reducible rfl); simp only [Act.put, List.setIfInBounds_toArray, List.set_cons_zero, List.set_cons_succ])
            refine m_end (by kernel_rfl) ?_
            go_wp2_with fail
            go_meet
            exact ⟨_, _, a1, a2, b1, b2, AR, cR, rfl, rfl, rfl, rfl, R5, R6, D1, D2, XJ, hne, hB5_lo⟩
        · go_wp2_with fail
          have hB6_lo := j.below.size
          have hne := Nat.ne_of_lt hB5.lt
          refine absN fun wk24 hB6 hb hzq => ?_
          clear hzq
          replace j := j.next hb; replace hq1 := hq1.below hb; replace hB5 := hB5.below hb hB5.lt
          refine m_keep ⟨j.old, j.new⟩ ?_
          generalize wk18.heap.size = g6 at hB6 hB6_lo hne ⊢
          clear hb
          refine m_s1 3 (by kernel_rfl) rfl ?_
          go_wp2_with fail
          refine j.cfgB.mono ?_
          rintro e wk25 ⟨q2, r2, rfl, hq2, hb⟩
          replace j := j.next hb; replace hq1 := hq1.below hb; replace hB5 := hB5.below hb hB5.lt; replace hB6 := hB6.below hb hB6.lt
          go_wp2_with fail
          refine m_keep ⟨j.old, j.new⟩ ?_
          clear hb
          refine m_s1 4 (by kernel_rfl) rfl ?_
          go_wp2_with fail
          refine (j.joint (Below.refl _ _) hq1 hq2).mono ?_
          rintro e wk26 ⟨a1, a2, b1, b2, AR, cR, rfl, hca, hcb, hrow, hb⟩
          replace j := j.next hb; replace hq1 := hq1.below hb; replace hB5 := hB5.below hb hB5.lt; replace hB6 := hB6.below hb hB6.lt; replace hq2 := hq2.below hb
          go_wp2_with fail
          refine m_keep ⟨j.old, j.new⟩ ?_
          (refine m_q 5 (v := ?_) (by kernel_rfl) rfl rfl (fun W hW => ?_) ?_; rotate_left; (go_simp; first | done | with_reducible rfl); simp only [Act.put, List.setIfInBounds_toArray, List.set_cons_zero, List.set_cons_succ]); (refine m_q 6 (v := ?_) (by kernel_rfl) rfl rfl (fun W hW => ?_) ?_; rotate_left; (go_simp; first | done | with_reducible rfl); simp only [Act.put, List.setIfInBounds_toArray, List.set_cons_zero, List.set_cons_succ]); (refine m_q 7 (v := ?_) (by kernel_rfl) rfl rfl (fun W hW => ?_) ?_; rotate_left; (go_simp; first | done | with_reducible rfl); simp only [Act.put, List.setIfInBounds_toArray, List.set_cons_zero, List.set_cons_succ]); (refine m_q 8 (v := ?_) (by kernel_rfl) rfl rfl (fun W hW => ?_) ?_; rotate_left; (go_simp; first | done | with_reducible rfl); simp only [Act.put, List.setIfInBounds_toArray, List.set_cons_zero, List.set_cons_succ]); (refine m_q 9 (v := ?_) (by kernel_rfl) rfl rfl (fun W hW => ?_) ?_; rotate_left; (go_simp; first | done | with_reducible rfl); simp only [Act.put, List.setIfInBounds_toArray, List.set_cons_zero, List.set_cons_succ])
          clear hb
          clear hq1 hq2
          have e0 := hB5.cell 0; have e1 := hB5.cell 1; have f0 := hB5.frozen 0; have f1 := hB5.frozen 1
          have P5 := hB5.putc (ptr a1) (ptr a2); have P6 := hB6.far2 (Ne.symm hne) (ptr a1) (ptr a2)
          have J := j.cfg2 hT hB5 hB5_lo (ptr a1) (ptr a2)
          have C1 := hca.cfg2 (c := some ⟨a1, 0, none⟩) (d := some ⟨a2, 0, none⟩) hB5; have C2 := hcb.cfg2 (c := some ⟨a1, 0, none⟩) (d := some ⟨a2, 0, none⟩) hB5; have C3 := hrow.cfg2 (c := some ⟨a1, 0, none⟩) (d := some ⟨a2, 0, none⟩) hB5
          clear hB5 hB6 j hca hcb hrow
          refine m_s1 12 (by kernel_rfl) rfl ?_
          go_wp2_with fail
          refine m_keep (W := put2 wk26 g5 (ptr a1) (ptr a2)) ⟨J.old, J.new⟩ ?_
          obtain ⟨W7, hW7⟩ : ∃ W7, W7 = put2 wk26 g5 (ptr a1) (ptr a2) := ⟨_, rfl⟩
          rw [← hW7] at P5 P6 J C1 C2 C3 ⊢; clear hW7 e0 e1 f0 f1
          have e0 := P6.cell 0; have e1 := P6.cell 1; have f0 := P6.frozen 0; have f1 := P6.frozen 1
          have R6 := P6.putc (ptr b1) (ptr b2); have R5 := P5.far2 hne (ptr b1) (ptr b2)
          have XJ := J.cfg2 hT P6 hB6_lo (ptr b1) (ptr b2)
          have D1 := C1.cfg2 (c := some ⟨b1, 0, none⟩) (d := some ⟨b2, 0, none⟩) P6; have D2 := C2.cfg2 (c := some ⟨b1, 0, none⟩) (d := some ⟨b2, 0, none⟩) P6; have D3 := C3.cfg2 (c := some ⟨b1, 0, none⟩) (d := some ⟨b2, 0, none⟩) P6
          clear P5 P6 J C1 C2 C3
          refine m_s1 13 (by kernel_rfl) rfl ?_
          go_wp2_with fail
          refine m_keep (W := put2 W7 g6 (ptr b1) (ptr b2)) ⟨XJ.old, XJ.new⟩ ?_
          (refine m_q 14 (v := ?_) (by kernel_rfl) rfl rfl (fun W hW => ?_) ?_; rotate_left; (go_simp; first | done | with_reducible rfl); simp only [Act.put, List.setIfInBounds_toArray, List.set_cons_zero, List.set_cons_succ]); (refine m_q 15 (v := ?_) (by kernel_rfl) rfl rfl (fun W hW => ?_) ?_; rotate_left; (go_simp; first | done | with_reducible rfl); simp only [Act.put, List.setIfInBounds_toArray, List.set_cons_zero, List.set_cons_succ])
          refine m_end (by kernel_rfl) ?_
          go_wp2_with fail
          go_meet
          exact ⟨_, _, a1, a2, b1, b2, AR, cR, rfl, rfl, rfl, rfl, R5, R6, D1, D2, XJ, hne, hB5_lo⟩
      · go_wp2_with fail
        have hB6_lo := j.below.size
        refine absN fun wk27 hB6 hb hzq => ?_
        clear hzq
        replace j := j.next hb; replace hq1 := hq1.below hb
        refine m_keep ⟨j.old, j.new⟩ ?_
        generalize wk1.heap.size = g6 at hB6 hB6_lo ⊢
        clear hb
        refine m_s2 3 10 (by kernel_rfl) rfl rfl ?_ ?_
        · go_wp2_with fail
          refine j.cfgB.mono ?_
          rintro e wk28 ⟨q2, r2, rfl, hq2, hb⟩
          replace j := j.next hb; replace hq1 := hq1.below hb; replace hB6 := hB6.below hb hB6.lt
          go_wp2_with fail
          refine m_keep ⟨j.old, j.new⟩ ?_
          clear hb
          refine m_s2 4 10 (by kernel_rfl) rfl rfl ?_ ?_
          · go_wp2_with fail
            refine (j.joint (Below.refl _ _) hq1 hq2).mono ?_
            rintro e wk29 ⟨a1, a2, b1, b2, AR, cR, rfl, hca, hcb, hrow, hb⟩
            replace j := j.next hb; replace hq1 := hq1.below hb; replace hB6 := hB6.below hb hB6.lt; replace hq2 := hq2.below hb
            go_wp2_with fail
            refine m_keep ⟨j.old, j.new⟩ ?_
            (refine m_q 5 (v := ?_) (by kernel_rfl) rfl rfl (fun W hW => ?_) ?_; rotate_left; (go_simp; first | done | with_reducible rfl); simp only [Act.put, List.setIfInBounds_toArray, List.set_cons_zero, List.set_cons_succ]); (refine m_q 6 (v := ?_) (by kernel_rfl) rfl rfl (fun W hW => ?_) ?_; rotate_left; (go_simp; first | done | with_reducible rfl); simp only [Act.put, List.setIfInBounds_toArray, List.set_cons_zero, List.set_cons_succ]); (refine m_q 7 (v := ?_) (by kernel_rfl) rfl rfl (fun W hW => ?_) ?_; rotate_left; (go_simp; first | done | with_reducible rfl); simp only [Act.put, List.setIfInBounds_toArray, List.set_cons_zero, List.set_cons_succ]); (refine m_q 8 (v := ?_) (by kernel_rfl) rfl rfl (fun W hW => ?_) ?_; rotate_left; (go_simp; first | done | with_reducible rfl); simp only [Act.put, List.setIfInBounds_toArray, List.set_cons_zero, List.set_cons_succ]); (refine m_q 9 (v := ?_) (by kernel_rfl) rfl rfl (fun W hW => ?_) ?_; rotate_left; (go_simp; first | done | with_reducible rfl); simp only [Act.put, List.setIfInBounds_toArray, List.set_cons_zero, List.set_cons_succ])
            clear hb
            refine m_s1 10 (by kernel_rfl) rfl ?_
            go_wp2_with fail
            have hB5_lo := j.below.size
            have hne := Nat.ne_of_gt hB6.lt
            refine absN fun wk30 hB5 hb hzq => ?_
            clear hzq
            replace j := j.next hb; replace hq1 := hq1.below hb; replace hB6 := hB6.below hb hB6.lt; replace hq2 := hq2.below hb; replace hca := hca.below hb; replace hcb := hcb.below hb; replace hrow := hrow.below hb
            refine m_keep ⟨j.old, j.new⟩ ?_
            generalize wk29.heap.size = g5 at hB5 hB5_lo hne ⊢
            clear hb
            clear hq1 hq2
            have e0 := hB5.cell 0; have e1 := hB5.cell 1; have f0 := hB5.frozen 0; have f1 := hB5.frozen 1
            have P5 := hB5.putc (ptr a1) (ptr a2); have P6 := hB6.far2 (Ne.symm hne) (ptr a1) (ptr a2)
            have J := j.cfg2 hT hB5 hB5_lo (ptr a1) (ptr a2)
            have C1 := hca.cfg2 (c := some ⟨a1, 0, none⟩) (d := some ⟨a2, 0, none⟩) hB5; have C2 := hcb.cfg2 (c := some ⟨a1, 0, none⟩) (d := some ⟨a2, 0, none⟩) hB5; have C3 := hrow.cfg2 (c := some ⟨a1, 0, none⟩) (d := some ⟨a2, 0, none⟩) hB5
            clear hB5 hB6 j hca hcb hrow
            refine m_s1 12 (by kernel_rfl) rfl ?_
            go_wp2_with fail
            refine m_keep (W := put2 wk30 g5 (ptr a1) (ptr a2)) ⟨J.old, J.new⟩ ?_
            obtain ⟨W7, hW7⟩ : ∃ W7, W7 = put2 wk30 g5 (ptr a1) (ptr a2) := ⟨_, rfl⟩
            rw [← hW7] at P5 P6 J C1 C2 C3 ⊢; clear hW7 e0 e1 f0 f1
            have e0 := P6.cell 0; have e1 := P6.cell 1; have f0 := P6.frozen 0; have f1 := P6.frozen 1
            have R6 := P6.putc (ptr b1) (ptr b2); have R5 := P5.far2 hne (ptr b1) (ptr b2)
            have XJ := J.cfg2 hT P6 hB6_lo (ptr b1) (ptr b2)
            have D1 := C1.cfg2 (c := some ⟨b1, 0, none⟩) (d := some ⟨b2, 0, none⟩) P6; have D2 := C2.cfg2 (c := some ⟨b1, 0, none⟩) (d := some ⟨b2, 0, none⟩) P6; have D3 := C3.cfg2 (c := some ⟨b1, 0, none⟩) (d := some ⟨b2, 0, none⟩) P6
            clear P5 P6 J C1 C2 C3
            refine m_s1 13 (by kernel_rfl) rfl ?_
            go_wp2_with fail
            refine m_keep (W := put2 W7 g6 (ptr b1) (ptr b2)) ⟨XJ.old, XJ.new⟩ ?_
            (refine m_q 14 (v := ?_) (by kernel_rfl) rfl rfl (fun W hW => ?_) ?_; rotate_left; (go_simp; first | done | with_reducible rfl); simp only [Act.put, List.setIfInBounds_toArray, List.set_cons_zero, List.set_cons_succ]); (refine m_q 15 (v := ?_) (by kernel_rfl) rfl rfl (fun W hW => ?_) ?_; rotate_left; (go_simp; first | done | with_reducible rfl); simp only [Act.put, List.setIfInBounds_toArray, List.set_cons_zero, List.set_cons_succ])
            refine m_end (by kernel_rfl) ?_
            go_wp2_with fail
            go_meet
            exact ⟨_, _, a1, a2, b1, b2, AR, cR, rfl, rfl, rfl, rfl, R5, R6, D1, D2, XJ, hne, hB5_lo⟩
          · go_wp2_with fail
            have hB5_lo := j.below.size
            have hne := Nat.ne_of_gt hB6.lt
            refine absN fun wk31 hB5 hb hzq => ?_
            clear hzq
            replace j := j.next hb; replace hq1 := hq1.below hb; replace hB6 := hB6.below hb hB6.lt; replace hq2 := hq2.below hb
            refine m_keep ⟨j.old, j.new⟩ ?_
            generalize wk28.heap.size = g5 at hB5 hB5_lo hne ⊢
            clear hb
            refine m_s1 4 (by kernel_rfl) rfl ?_
            go_wp2_with fail
            refine (j.joint (Below.refl _ _) hq1 hq2).mono ?_
            rintro e wk32 ⟨a1, a2, b1, b2, AR, cR, rfl, hca, hcb, hrow, hb⟩
            replace j := j.next hb; replace hq1 := hq1.below hb; replace hB6 := hB6.below hb hB6.lt; replace hq2 := hq2.below hb; replace hB5 := hB5.below hb hB5.lt
            go_wp2_with fail
            refine m_keep ⟨j.old, j.new⟩ ?_
            (refine m_q 5 (v := ?_) (by kernel_rfl) rfl rfl (fun W hW => ?_) ?_; rotate_left; (go_simp; first | done | with_reducible rfl); simp only [Act.put, List.setIfInBounds_toArray, List.set_cons_zero, List.set_cons_succ]); (refine m_q 6 (v := ?_) (by kernel_rfl) rfl rfl (fun W hW => ?_) ?_; rotate_left; (go_simp; first | done | with_reducible rfl); simp only [Act.put, List.setIfInBounds_toArray, List.set_cons_zero, List.set_cons_succ]); (refine m_q 7 (v := ?_) (by kernel_rfl) rfl rfl (fun W hW => ?_) ?_; rotate_left; (go_simp; first | done | with_reducible rfl); simp only [Act.put, List.setIfInBounds_toArray, List.set_cons_zero, List.set_cons_succ]); (refine m_q 8 (v := ?_) (by kernel_rfl) rfl rfl (fun W hW => ?_) ?_; rotate_left; (go_simp; first | done | with_reducible rfl); simp only [Act.put, List.setIfInBounds_toArray, List.set_cons_zero, List.set_cons_succ]); (refine m_q 9 (v := ?_) (by kernel_rfl) rfl rfl (fun W hW => ?_) ?_; rotate_left; (go_simp; first | done | with_reducible rfl); simp only [Act.put, List.setIfInBounds_toArray, List.set_cons_zero, List.set_cons_succ])
            clear hb
            clear hq1 hq2
            have e0 := hB5.cell 0; have e1 := hB5.cell 1; have f0 := hB5.frozen 0; have f1 := hB5.frozen 1
            have P5 := hB5.putc (ptr a1) (ptr a2); have P6 := hB6.far2 (Ne.symm hne) (ptr a1) (ptr a2)
            have J := j.cfg2 hT hB5 hB5_lo (ptr a1) (ptr a2)
            have C1 := hca.cfg2 (c := some ⟨a1, 0, none⟩) (d := some ⟨a2, 0, none⟩) hB5; have C2 := hcb.cfg2 (c := some ⟨a1, 0, none⟩) (d := some ⟨a2, 0, none⟩) hB5; have C3 := hrow.cfg2 (c := some ⟨a1, 0, none⟩) (d := some ⟨a2, 0, none⟩) hB5
            clear hB5 hB6 j hca hcb hrow
            refine m_s1 12 (by kernel_rfl) rfl ?_
            go_wp2_with fail
            refine m_keep (W := put2 wk32 g5 (ptr a1) (ptr a2)) ⟨J.old, J.new⟩ ?_
            obtain ⟨W7, hW7⟩ : ∃ W7, W7 = put2 wk32 g5 (ptr a1) (ptr a2) := ⟨_, rfl⟩
            rw [← hW7] at P5 P6 J C1 C2 C3 ⊢; clear hW7 e0 e1 f0 f1
            have e0 := P6.cell 0; have e1 := P6.cell 1; have f0 := P6.frozen 0; have f1 := P6.frozen 1
            have R6 := P6.putc (ptr b1) (ptr b2); have R5 := P5.far2 hne (ptr b1) (ptr b2)
            have XJ := J.cfg2 hT P6 hB6_lo (ptr b1) (ptr b2)
            have D1 := C1.cfg2 (c := some ⟨b1, 0, none⟩) (d := some ⟨b2, 0, none⟩) P6; have D2 := C2.cfg2 (c := some ⟨b1, 0, none⟩) (d := some ⟨b2, 0, none⟩) P6; have D3 := C3.cfg2 (c := some ⟨b1, 0, none⟩) (d := some ⟨b2, 0, none⟩) P6
            clear P5 P6 J C1 C2 C3
            refine m_s1 13 (by kernel_rfl) rfl ?_
            go_wp2_with fail
            refine m_keep (W := put2 W7 g6 (ptr b1) (ptr b2)) ⟨XJ.old, XJ.new⟩ ?_
            (refine m_q 14 (v := ?_) (by kernel_rfl) rfl rfl (fun W hW => ?_) ?_; rotate_left; (go_simp; first | done | with_reducible rfl); simp only [Act.put, List.setIfInBounds_toArray, List.set_cons_zero, List.set_cons_succ]); (refine m_q 15 (v := ?_) (by kernel_rfl) rfl rfl (fun W hW => ?_) ?_; rotate_left; (go_simp; first | done | with_reducible rfl); simp only [Act.put, List.setIfInBounds_toArray, List.set_cons_zero, List.set_cons_succ])
            refine m_end (by kernel_rfl) ?_
            go_wp2_with fail
            go_meet
            exact ⟨_, _, a1, a2, b1, b2, AR, cR, rfl, rfl, rfl, rfl, R5, R6, D1, D2, XJ, hne, hB5_lo⟩
        · go_wp2_with fail
          have hB5_lo := j.below.size
          have hne := Nat.ne_of_gt hB6.lt
          refine absN fun wk33 hB5 hb hzq => ?_
          clear hzq
          replace j := j.next hb; replace hq1 := hq1.below hb; replace hB6 := hB6.below hb hB6.lt
          refine m_keep ⟨j.old, j.new⟩ ?_
          generalize wk27.heap.size = g5 at hB5 hB5_lo hne ⊢
          clear hb
          refine m_s1 3 (by kernel_rfl) rfl ?_
          go_wp2_with fail
          refine j.cfgB.mono ?_
          rintro e wk34 ⟨q2, r2, rfl, hq2, hb⟩
          replace j := j.next hb; replace hq1 := hq1.below hb; replace hB6 := hB6.below hb hB6.lt; replace hB5 := hB5.below hb hB5.lt
          go_wp2_with fail
          refine m_keep ⟨j.old, j.new⟩ ?_
          clear hb
          refine m_s1 4 (by kernel_rfl) rfl ?_
          go_wp2_with fail
          refine (j.joint (Below.refl _ _) hq1 hq2).mono ?_
          rintro e wk35 ⟨a1, a2, b1, b2, AR, cR, rfl, hca, hcb, hrow, hb⟩
          replace j := j.next hb; replace hq1 := hq1.below hb; replace hB6 := hB6.below hb hB6.lt; replace hB5 := hB5.below hb hB5.lt; replace hq2 := hq2.below hb
          go_wp2_with fail
          refine m_keep ⟨j.old, j.new⟩ ?_
          (refine m_q 5 (v := ?_) (by kernel_rfl) rfl rfl (fun W hW => ?_) ?_; rotate_left; (go_simp; first | done | with_reducible rfl); simp only [Act.put, List.setIfInBounds_toArray, List.set_cons_zero, List.set_cons_succ]); (refine m_q 6 (v := ?_) (by kernel_rfl) rfl rfl (fun W hW => ?_) ?_; rotate_left; (go_simp; first | done | with_reducible rfl); simp only [Act.put, List.setIfInBounds_toArray, List.set_cons_zero, List.set_cons_succ]); (refine m_q 7 (v := ?_) (by kernel_rfl) rfl rfl (fun W hW => ?_) ?_; rotate_left; (go_simp; first | done | with_reducible rfl); simp only [Act.put, List.setIfInBounds_toArray, List.set_cons_zero, List.set_cons_succ]); (refine m_q 8 (v := ?_) (by kernel_rfl) rfl rfl (fun W hW => ?_) ?_; rotate_left; (go_simp; first | done | with_reducible rfl); simp only [Act.put, List.setIfInBounds_toArray, List.set_cons_zero, List.set_cons_succ]); (refine m_q 9 (v := ?_) (by kernel_rfl) rfl rfl (fun W hW => ?_) ?_; rotate_left; (go_simp; first | done | with_reducible rfl); simp only [Act.put, List.setIfInBounds_toArray, List.set_cons_zero, List.set_cons_succ])
          clear hb
          clear hq1 hq2
          have e0 := hB5.cell 0; have e1 := hB5.cell 1; have f0 := hB5.frozen 0; have f1 := hB5.frozen 1
          have P5 := hB5.putc (ptr a1) (ptr a2); have P6 := hB6.far2 (Ne.symm hne) (ptr a1) (ptr a2)
          have J := j.cfg2 hT hB5 hB5_lo (ptr a1) (ptr a2)
          have C1 := hca.cfg2 (c := some ⟨a1, 0, none⟩) (d := some ⟨a2, 0, none⟩) hB5; have C2 := hcb.cfg2 (c := some ⟨a1, 0, none⟩) (d := some ⟨a2, 0, none⟩) hB5; have C3 := hrow.cfg2 (c := some ⟨a1, 0, none⟩) (d := some ⟨a2, 0, none⟩) hB5
          clear hB5 hB6 j hca hcb hrow
          refine m_s1 12 (by kernel_rfl) rfl ?_
          go_wp2_with fail
          refine m_keep (W := put2 wk35 g5 (ptr a1) (ptr a2)) ⟨J.old, J.new⟩ ?_
          obtain ⟨W7, hW7⟩ : ∃ W7, W7 = put2 wk35 g5 (ptr a1) (ptr a2) := ⟨_, rfl⟩
          rw [← hW7] at P5 P6 J C1 C2 C3 ⊢; clear hW7 e0 e1 f0 f1
          have e0 := P6.cell 0; have e1 := P6.cell 1; have f0 := P6.frozen 0; have f1 := P6.frozen 1
          have R6 := P6.putc (ptr b1) (ptr b2); have R5 := P5.far2 hne (ptr b1) (ptr b2)
          have XJ := J.cfg2 hT P6 hB6_lo (ptr b1) (ptr b2)
          have D1 := C1.cfg2 (c := some ⟨b1, 0, none⟩) (d := some ⟨b2, 0, none⟩) P6; have D2 := C2.cfg2 (c := some ⟨b1, 0, none⟩) (d := some ⟨b2, 0, none⟩) P6; have D3 := C3.cfg2 (c := some ⟨b1, 0, none⟩) (d := some ⟨b2, 0, none⟩) P6
          clear P5 P6 J C1 C2 C3
          refine m_s1 13 (by kernel_rfl) rfl ?_
          go_wp2_with fail
          refine m_keep (W := put2 W7 g6 (ptr b1) (ptr b2)) ⟨XJ.old, XJ.new⟩ ?_
          (refine m_q 14 (v := ?_) (by kernel_rfl) rfl rfl (fun W hW => ?_) ?_; rotate_left; (go_simp; first | done | with_reducible rfl); simp only [Act.put, List.setIfInBounds_toArray, List.set_cons_zero, List.set_cons_succ]); (refine m_q 15 (v := ?_) (by kernel_rfl) rfl rfl (fun W hW => ?_) ?_; rotate_left; (go_simp; first | done | with_reducible rfl); simp only [Act.put, List.setIfInBounds_toArray, List.set_cons_zero, List.set_cons_succ])
          refine m_end (by kernel_rfl) ?_
          go_wp2_with fail
          go_meet
          exact ⟨_, _, a1, a2, b1, b2, AR, cR, rfl, rfl, rfl, rfl, R5, R6, D1, D2, XJ, hne, hB5_lo⟩
    · go_wp2_with fail
      have hB5_lo := j.below.size
      refine absN fun wk36 hB5 hb hzq => ?_
      clear hzq
      replace j := j.next hb
      refine m_keep ⟨j.old, j.new⟩ ?_
      generalize wq.heap.size = g5 at hB5 hB5_lo ⊢
      clear hb
      refine m_s2 1 11 (by kernel_rfl) rfl rfl ?_ ?_
      · go_wp2_with fail
        refine j.cfgA.mono ?_
        rintro e wk37 ⟨q1, r1, rfl, hq1, hb⟩
        replace j := j.next hb; replace hB5 := hB5.below hb hB5.lt
        go_wp2_with fail
        refine m_keep ⟨j.old, j.new⟩ ?_
        clear hb
        refine m_s2 3 11 (by kernel_rfl) rfl rfl ?_ ?_
        · go_wp2_with fail
          refine j.cfgB.mono ?_
          rintro e wk38 ⟨q2, r2, rfl, hq2, hb⟩
          replace j := j.next hb; replace hB5 := hB5.below hb hB5.lt; replace hq1 := hq1.below hb
          go_wp2_with fail
          refine m_keep ⟨j.old, j.new⟩ ?_
          clear hb
          refine m_s2 4 11 (by kernel_rfl) rfl rfl ?_ ?_
          · go_wp2_with fail
            refine (j.joint (Below.refl _ _) hq1 hq2).mono ?_
            rintro e wk39 ⟨a1, a2, b1, b2, AR, cR, rfl, hca, hcb, hrow, hb⟩
            replace j := j.next hb; replace hB5 := hB5.below hb hB5.lt; replace hq1 := hq1.below hb; replace hq2 := hq2.below hb
            go_wp2_with fail
            refine m_keep ⟨j.old, j.new⟩ ?_
            (refine m_q 5 (v := ?_) (by kernel_rfl) rfl rfl (fun W hW => ?_) ?_; rotate_left; (go_simp; first | done | with_reducible rfl); simp only [Act.put, List.setIfInBounds_toArray, List.set_cons_zero, List.set_cons_succ]); (refine m_q 6 (v := ?_) (by kernel_rfl) rfl rfl (fun W hW => ?_) ?_; rotate_left; (go_simp; first | done | with_reducible rfl); simp only [Act.put, List.setIfInBounds_toArray, List.set_cons_zero, List.set_cons_succ]); (refine m_q 7 (v := ?_) (by kernel_rfl) rfl rfl (fun W hW => ?_) ?_; rotate_left; (go_simp; first | done | with_reducible rfl); simp only [Act.put, List.setIfInBounds_toArray, List.set_cons_zero, List.set_cons_succ]); (refine m_q 8 (v := ?_) (by kernel_rfl) rfl rfl (fun W hW => ?_) ?_; rotate_left; (go_simp; first | done | with_reducible rfl); simp only [Act.put, List.setIfInBounds_toArray, List.set_cons_zero, List.set_cons_succ]); (refine m_q 9 (v := ?_) (by kernel_rfl) rfl rfl (fun W hW => ?_) ?_; rotate_left; (go_simp; first | done | with_reducible rfl); simp only [Act.put, List.setIfInBounds_toArray, List.set_cons_zero, List.set_cons_succ])
            clear hb
            refine m_s1 11 (by kernel_rfl) rfl ?_
            go_wp2_with fail
            have hB6_lo := j.below.size
            have hne := Nat.ne_of_lt hB5.lt
            refine absN fun wk40 hB6 hb hzq => ?_
            clear hzq
            replace j := j.next hb; replace hB5 := hB5.below hb hB5.lt; replace hq1 := hq1.below hb; replace hq2 := hq2.below hb; replace hca := hca.below hb; replace hcb := hcb.below hb; replace hrow := hrow.below hb
            refine m_keep ⟨j.old, j.new⟩ ?_
            generalize wk39.heap.size = g6 at hB6 hB6_lo hne ⊢
            clear hb
            clear hq1 hq2
            have e0 := hB5.cell 0; have e1 := hB5.cell 1; have f0 := hB5.frozen 0; have f1 := hB5.frozen 1
            have P5 := hB5.putc (ptr a1) (ptr a2); have P6 := hB6.far2 (Ne.symm hne) (ptr a1) (ptr a2)
            have J := j.cfg2 hT hB5 hB5_lo (ptr a1) (ptr a2)
            have C1 := hca.cfg2 (c := some ⟨a1, 0, none⟩) (d := some ⟨a2, 0, none⟩) hB5; have C2 := hcb.cfg2 (c := some ⟨a1, 0, none⟩) (d := some ⟨a2, 0, none⟩) hB5; have C3 := hrow.cfg2 (c := some ⟨a1, 0, none⟩) (d := some ⟨a2, 0, none⟩) hB5
            clear hB5 hB6 j hca hcb hrow
            refine m_s1 12 (by kernel_rfl) rfl ?_
            go_wp2_with fail
            refine m_keep (W := put2 wk40 g5 (ptr a1) (ptr a2)) ⟨J.old, J.new⟩ ?_
            obtain ⟨W7, hW7⟩ : ∃ W7, W7 = put2 wk40 g5 (ptr a1) (ptr a2) := ⟨_, rfl⟩
            rw [← hW7] at P5 P6 J C1 C2 C3 ⊢; clear hW7 e0 e1 f0 f1
            have e0 := P6.cell 0; have e1 := P6.cell 1; have f0 := P6.frozen 0; have f1 := P6.frozen 1
            have R6 := P6.putc (ptr b1) (ptr b2); have R5 := P5.far2 hne (ptr b1) (ptr b2)
            have XJ := J.cfg2 hT P6 hB6_lo (ptr b1) (ptr b2)
            have D1 := C1.cfg2 (c := some ⟨b1, 0, none⟩) (d := some ⟨b2, 0, none⟩) P6; have D2 := C2.cfg2 (c := some ⟨b1, 0, none⟩) (d := some ⟨b2, 0, none⟩) P6; have D3 := C3.cfg2 (c := some ⟨b1, 0, none⟩) (d := some ⟨b2, 0, none⟩) P6
            clear P5 P6 J C1 C2 C3
            refine m_s1 13 (by kernel_rfl) rfl ?_
            go_wp2_with fail
            refine m_keep (W := put2 W7 g6 (ptr b1) (ptr b2)) ⟨XJ.old, XJ.new⟩ ?_
            (refine m_q 14 (v := ?_) (by kernel_rfl) rfl rfl (fun W hW => ?_) ?_; rotate_left; (go_simp; first | done | with_reducible rfl); simp only [Act.put, List.setIfInBounds_toArray, List.set_cons_zero, List.set_cons_succ]); (refine m_q 15 (v := ?_) (by kernel_rfl) rfl rfl (fun W hW => ?_) ?_; rotate_left; (go_simp; first | done | with_reducible rfl); simp only [Act.put, List.setIfInBounds_toArray, List.set_cons_zero, List.set_cons_succ])
            refine m_end (by kernel_rfl) ?_
            go_wp2_with fail
            go_meet
            exact ⟨_, _, a1, a2, b1, b2, AR, cR, rfl, rfl, rfl, rfl, R5, R6, D1, D2, XJ, hne, hB5_lo⟩
          · go_wp2_with fail
            have hB6_lo := j.below.size
            have hne := Nat.ne_of_lt hB5.lt
            refine absN fun wk41 hB6 hb hzq => ?_
            clear hzq
            replace j := j.next hb; replace hB5 := hB5.below hb hB5.lt; replace hq1 := hq1.below hb; replace hq2 := hq2.below hb
            refine m_keep ⟨j.old, j.new⟩ ?_
            generalize wk38.heap.size = g6 at hB6 hB6_lo hne ⊢
            clear hb
            refine m_s1 4 (by kernel_rfl) rfl ?_
            go_wp2_with fail
            refine (j.joint (Below.refl _ _) hq1 hq2).mono ?_
            rintro e wk42 ⟨a1, a2, b1, b2, AR, cR, rfl, hca, hcb, hrow, hb⟩
            replace j := j.next hb; replace hB5 := hB5.below hb hB5.lt; replace hq1 := hq1.below hb; replace hq2 := hq2.below hb; replace hB6 := hB6.below hb hB6.lt
            go_wp2_with fail
            refine m_keep ⟨j.old, j.new⟩ ?_
            (refine m_q 5 (v := ?_) (by kernel_rfl) rfl rfl (fun W hW => ?_) ?_; rotate_left; (go_simp; first | done | with_reducible rfl); simp only [Act.put, List.setIfInBounds_toArray, List.set_cons_zero, List.set_cons_succ]); (refine m_q 6 (v := ?_) (by kernel_rfl) rfl rfl (fun W hW => ?_) ?_; rotate_left; (go_simp; first | done | with_reducible rfl); simp only [Act.put, List.setIfInBounds_toArray, List.set_cons_zero, List.set_cons_succ]); (refine m_q 7 (v := ?_) (by kernel_rfl) rfl rfl (fun W hW => ?_) ?_; rotate_left; (go_simp; first | done | with_reducible rfl); simp only [Act.put, List.setIfInBounds_toArray, List.set_cons_zero, List.set_cons_succ]); (refine m_q 8 (v := ?_) (by kernel_rfl) rfl rfl (fun W hW => ?_) ?_; rotate_left; (go_simp; first | done | with_reducible rfl); simp only [Act.put, List.setIfInBounds_toArray, List.set_cons_zero, List.set_cons_succ]); (refine m_q 9 (v := ?_) (by kernel_rfl) rfl rfl (fun W hW => ?_) ?_; rotate_left; (go_simp; first | done | with_reducible rfl); simp only [Act.put, List.setIfInBounds_toArray, List.set_cons_zero, List.set_cons_succ])
            clear hb
            clear hq1 hq2
            have e0 := hB5.cell 0; have e1 := hB5.cell 1; have f0 := hB5.frozen 0; have f1 := hB5.frozen 1
            have P5 := hB5.putc (ptr a1) (ptr a2); have P6 := hB6.far2 (Ne.symm hne) (ptr a1) (ptr a2)
            have J := j.cfg2 hT hB5 hB5_lo (ptr a1) (ptr a2)
            have C1 := hca.cfg2 (c := some ⟨a1, 0, none⟩) (d := some ⟨a2, 0, none⟩) hB5; have C2 := hcb.cfg2 (c := some ⟨a1, 0, none⟩) (d := some ⟨a2, 0, none⟩) hB5; have C3 := hrow.cfg2 (c := some ⟨a1, 0, none⟩) (d := some ⟨a2, 0, none⟩) hB5
            clear hB5 hB6 j hca hcb hrow
            refine m_s1 12 (by kernel_rfl) rfl ?_
            go_wp2_with fail
            refine m_keep (W := put2 wk42 g5 (ptr a1) (ptr a2)) ⟨J.old, J.new⟩ ?_
            obtain ⟨W7, hW7⟩ : ∃ W7, W7 = put2 wk42 g5 (ptr a1) (ptr a2) := ⟨_, rfl⟩
            rw [← hW7] at P5 P6 J C1 C2 C3 ⊢; clear hW7 e0 e1 f0 f1
            have e0 := P6.cell 0; have e1 := P6.cell 1; have f0 := P6.frozen 0; have f1 := P6.frozen 1
            have R6 := P6.putc (ptr b1) (ptr b2); have R5 := P5.far2 hne (ptr b1) (ptr b2)
            have XJ := J.cfg2 hT P6 hB6_lo (ptr b1) (ptr b2)
            have D1 := C1.cfg2 (c := some ⟨b1, 0, none⟩) (d := some ⟨b2, 0, none⟩) P6; have D2 := C2.cfg2 (c := some ⟨b1, 0, none⟩) (d := some ⟨b2, 0, none⟩) P6; have D3 := C3.cfg2 (c := some ⟨b1, 0, none⟩) (d := some ⟨b2, 0, none⟩) P6
            clear P5 P6 J C1 C2 C3
            refine m_s1 13 (by kernel_rfl) rfl ?_
            go_wp2_with fail
            refine m_keep (W := put2 W7 g6 (ptr b1) (ptr b2)) ⟨XJ.old, XJ.new⟩ ?_
            (refine m_q 14 (v := ?_) (by kernel_rfl) rfl rfl (fun W hW => ?_) ?_; rotate_left; (go_simp; first | done | with_reducible rfl); simp only [Act.put, List.setIfInBounds_toArray, List.set_cons_zero, List.set_cons_succ]); (refine m_q 15 (v := ?_) (by kernel_rfl) rfl rfl (fun W hW => ?_) ?_; rotate_left; (go_simp; first | done | with_reducible rfl); simp only [Act.put, List.setIfInBounds_toArray, List.set_cons_zero, List.set_cons_succ])
            refine m_end (by kernel_rfl) ?_
            go_wp2_with fail
            go_meet
            exact ⟨_, _, a1, a2, b1, b2, AR, cR, rfl, rfl, rfl, rfl, R5, R6, D1, D2, XJ, hne, hB5_lo⟩
        · go_wp2_with fail
          have hB6_lo := j.below.size
          have hne := Nat.ne_of_lt hB5.lt
          refine absN fun wk43 hB6 hb hzq => ?_
          clear hzq
          replace j := j.next hb; replace hB5 := hB5.below hb hB5.lt; replace hq1 := hq1.below hb
          refine m_keep ⟨j.old, j.new⟩ ?_
          generalize wk37.heap.size = g6 at hB6 hB6_lo hne ⊢
          clear hb
          refine m_s1 3 (by kernel_rfl) rfl ?_
          go_wp2_with fail
          refine j.cfgB.mono ?_
          rintro e wk44 ⟨q2, r2, rfl, hq2, hb⟩
          replace j := j.next hb; replace hB5 := hB5.below hb hB5.lt; replace hq1 := hq1.below hb; replace hB6 := hB6.below hb hB6.lt
          go_wp2_with fail
          refine m_keep ⟨j.old, j.new⟩ ?_
          clear hb
          refine m_s1 4 (by kernel_rfl) rfl ?_
          go_wp2_with fail
          refine (j.joint (Below.refl _ _) hq1 hq2).mono ?_
          rintro e wk45 ⟨a1, a2, b1, b2, AR, cR, rfl, hca, hcb, hrow, hb⟩
          replace j := j.next hb; replace hB5 := hB5.below hb hB5.lt; replace hq1 := hq1.below hb; replace hB6 := hB6.below hb hB6.lt; replace hq2 := hq2.below hb
          go_wp2_with fail
          refine m_keep ⟨j.old, j.new⟩ ?_
          (refine m_q 5 (v := ?_) (by kernel_rfl) rfl rfl (fun W hW => ?_) ?_; rotate_left; (go_simp; first | done | with_reducible rfl); simp only [Act.put, List.setIfInBounds_toArray, List.set_cons_zero, List.set_cons_succ]); (refine m_q 6 (v := ?_) (by kernel_rfl) rfl rfl (fun W hW => ?_) ?_; rotate_left; (go_simp; first | done | with_reducible rfl); simp only [Act.put, List.setIfInBounds_toArray, List.set_cons_zero, List.set_cons_succ]); (refine m_q 7 (v := ?_) (by kernel_rfl) rfl rfl (fun W hW => ?_) ?_; rotate_left; (go_simp; first | done | with_reducible rfl); simp only [Act.put, List.setIfInBounds_toArray, List.set_cons_zero, List.set_cons_succ]); (refine m_q 8 (v := ?_) (by kernel_rfl) rfl rfl (fun W hW => ?_) ?_; rotate_left; (go_simp; first | done | with_reducible rfl); simp only [Act.put, List.setIfInBounds_toArray, List.set_cons_zero, List.set_cons_succ]); (refine m_q 9 (v := ?_) (by kernel_rfl) rfl rfl (fun W hW => ?_) ?_; rotate_left; (go_simp; first | done | with_reducible rfl); simp only [Act.put, List.setIfInBounds_toArray, List.set_cons_zero, List.set_cons_succ])
          clear hb
          clear hq1 hq2
          have e0 := hB5.cell 0; have e1 := hB5.cell 1; have f0 := hB5.frozen 0; have f1 := hB5.frozen 1
          have P5 := hB5.putc (ptr a1) (ptr a2); have P6 := hB6.far2 (Ne.symm hne) (ptr a1) (ptr a2)
          have J := j.cfg2 hT hB5 hB5_lo (ptr a1) (ptr a2)
          have C1 := hca.cfg2 (c := some ⟨a1, 0, none⟩) (d := some ⟨a2, 0, none⟩) hB5; have C2 := hcb.cfg2 (c := some ⟨a1, 0, none⟩) (d := some ⟨a2, 0, none⟩) hB5; have C3 := hrow.cfg2 (c := some ⟨a1, 0, none⟩) (d := some ⟨a2, 0, none⟩) hB5
          clear hB5 hB6 j hca hcb hrow
          refine m_s1 12 (by kernel_rfl) rfl ?_
          go_wp2_with fail
          refine m_keep (W := put2 wk45 g5 (ptr a1) (ptr a2)) ⟨J.old, J.new⟩ ?_
          obtain ⟨W7, hW7⟩ : ∃ W7, W7 = put2 wk45 g5 (ptr a1) (ptr a2) := ⟨_, rfl⟩
          rw [← hW7] at P5 P6 J C1 C2 C3 ⊢; clear hW7 e0 e1 f0 f1
          have e0 := P6.cell 0; have e1 := P6.cell 1; have f0 := P6.frozen 0; have f1 := P6.frozen 1
          have R6 := P6.putc (ptr b1) (ptr b2); have R5 := P5.far2 hne (ptr b1) (ptr b2)
          have XJ := J.cfg2 hT P6 hB6_lo (ptr b1) (ptr b2)
          have D1 := C1.cfg2 (c := some ⟨b1, 0, none⟩) (d := some ⟨b2, 0, none⟩) P6; have D2 := C2.cfg2 (c := some ⟨b1, 0, none⟩) (d := some ⟨b2, 0, none⟩) P6; have D3 := C3.cfg2 (c := some ⟨b1, 0, none⟩) (d := some ⟨b2, 0, none⟩) P6
          clear P5 P6 J C1 C2 C3
          refine m_s1 13 (by kernel_rfl) rfl ?_
          go_wp2_with fail
          refine m_keep (W := put2 W7 g6 (ptr b1) (ptr b2)) ⟨XJ.old, XJ.new⟩ ?_
          (refine m_q 14 (v := ?_) (by kernel_rfl) rfl rfl (fun W hW => ?_) ?_; rotate_left; (go_simp; first | done | with_reducible rfl); simp only [Act.put, List.setIfInBounds_toArray, List.set_cons_zero, List.set_cons_succ]); (refine m_q 15 (v := ?_) (by kernel_rfl) rfl rfl (fun W hW => ?_) ?_; rotate_left; (go_simp; first | done | with_reducible rfl); simp only [Act.put, List.setIfInBounds_toArray, List.set_cons_zero, List.set_cons_succ])
          refine m_end (by kernel_rfl) ?_
          go_wp2_with fail
          go_meet
          exact ⟨_, _, a1, a2, b1, b2, AR, cR, rfl, rfl, rfl, rfl, R5, R6, D1, D2, XJ, hne, hB5_lo⟩
      · go_wp2_with fail
        have hB6_lo := j.below.size
        have hne := Nat.ne_of_lt hB5.lt
        refine absN fun wk46 hB6 hb hzq => ?_
        clear hzq
        replace j := j.next hb; replace hB5 := hB5.below hb hB5.lt
        refine m_keep ⟨j.old, j.new⟩ ?_
        generalize wk36.heap.size = g6 at hB6 hB6_lo hne ⊢
        clear hb
        refine m_s1 1 (by kernel_rfl) rfl ?_
        go_wp2_with fail
        refine j.cfgA.mono ?_
        rintro e wk47 ⟨q1, r1, rfl, hq1, hb⟩
        replace j := j.next hb; replace hB5 := hB5.below hb hB5.lt; replace hB6 := hB6.below hb hB6.lt
        go_wp2_with fail
        refine m_keep ⟨j.old, j.new⟩ ?_
        clear hb
        refine m_s1 3 (by kernel_rfl) rfl ?_
        go_wp2_with fail
        refine j.cfgB.mono ?_
        rintro e wk48 ⟨q2, r2, rfl, hq2, hb⟩
        replace j := j.next hb; replace hB5 := hB5.below hb hB5.lt; replace hB6 := hB6.below hb hB6.lt; replace hq1 := hq1.below hb
        go_wp2_with fail
        refine m_keep ⟨j.old, j.new⟩ ?_
        clear hb
        refine m_s1 4 (by kernel_rfl) rfl ?_
        go_wp2_with fail
        refine (j.joint (Below.refl _ _) hq1 hq2).mono ?_
        rintro e wk49 ⟨a1, a2, b1, b2, AR, cR, rfl, hca, hcb, hrow, hb⟩
        replace j := j.next hb; replace hB5 := hB5.below hb hB5.lt; replace hB6 := hB6.below hb hB6.lt; replace hq1 := hq1.below hb; replace hq2 := hq2.below hb
        go_wp2_with fail
        refine m_keep ⟨j.old, j.new⟩ ?_
        (refine m_q 5 (v := ?_) (by kernel_rfl) rfl rfl (fun W hW => ?_) ?_; rotate_left; (go_simp; first | done | with_reducible rfl); simp only [Act.put, List.setIfInBounds_toArray, List.set_cons_zero, List.set_cons_succ]); (refine m_q 6 (v := ?_) (by kernel_rfl) rfl rfl (fun W hW => ?_) ?_; rotate_left; (go_simp; first | done | with_reducible rfl); simp only [Act.put, List.setIfInBounds_toArray, List.set_cons_zero, List.set_cons_succ]); (refine m_q 7 (v := ?_) (by kernel_rfl) rfl rfl (fun W hW => ?_) ?_; rotate_left; (go_simp; first | done | with_reducible rfl); simp only [Act.put, List.setIfInBounds_toArray, List.set_cons_zero, List.set_cons_succ]); (refine m_q 8 (v := ?_) (by kernel_rfl) rfl rfl (fun W hW => ?_) ?_; rotate_left; (go_simp; first | done | with_reducible rfl); simp only [Act.put, List.setIfInBounds_toArray, List.set_cons_zero, List.set_cons_succ]); (refine m_q 9 (v := ?_) (by kernel_rfl) rfl rfl (fun W hW => ?_) ?_; rotate_left; (go_simp; first | done | with_reducible rfl); simp only [Act.put, List.setIfInBounds_toArray, List.set_cons_zero, List.set_cons_succ])
        clear hb
        clear hq1 hq2
        have e0 := hB5.cell 0; have e1 := hB5.cell 1; have f0 := hB5.frozen 0; have f1 := hB5.frozen 1
        have P5 := hB5.putc (ptr a1) (ptr a2); have P6 := hB6.far2 (Ne.symm hne) (ptr a1) (ptr a2)
        have J := j.cfg2 hT hB5 hB5_lo (ptr a1) (ptr a2)
        have C1 := hca.cfg2 (c := some ⟨a1, 0, none⟩) (d := some ⟨a2, 0, none⟩) hB5; have C2 := hcb.cfg2 (c := some ⟨a1, 0, none⟩) (d := some ⟨a2, 0, none⟩) hB5; have C3 := hrow.cfg2 (c := some ⟨a1, 0, none⟩) (d := some ⟨a2, 0, none⟩) hB5
        clear hB5 hB6 j hca hcb hrow
        refine m_s1 12 (by kernel_rfl) rfl ?_
        go_wp2_with fail
        refine m_keep (W := put2 wk49 g5 (ptr a1) (ptr a2)) ⟨J.old, J.new⟩ ?_
        obtain ⟨W7, hW7⟩ : ∃ W7, W7 = put2 wk49 g5 (ptr a1) (ptr a2) := ⟨_, rfl⟩
        rw [← hW7] at P5 P6 J C1 C2 C3 ⊢; clear hW7 e0 e1 f0 f1
        have e0 := P6.cell 0; have e1 := P6.cell 1; have f0 := P6.frozen 0; have f1 := P6.frozen 1
        have R6 := P6.putc (ptr b1) (ptr b2); have R5 := P5.far2 hne (ptr b1) (ptr b2)
        have XJ := J.cfg2 hT P6 hB6_lo (ptr b1) (ptr b2)
        have D1 := C1.cfg2 (c := some ⟨b1, 0, none⟩) (d := some ⟨b2, 0, none⟩) P6; have D2 := C2.cfg2 (c := some ⟨b1, 0, none⟩) (d := some ⟨b2, 0, none⟩) P6; have D3 := C3.cfg2 (c := some ⟨b1, 0, none⟩) (d := some ⟨b2, 0, none⟩) P6
        clear P5 P6 J C1 C2 C3
        refine m_s1 13 (by kernel_rfl) rfl ?_
        go_wp2_with fail
        refine m_keep (W := put2 W7 g6 (ptr b1) (ptr b2)) ⟨XJ.old, XJ.new⟩ ?_
        (refine m_q 14 (v := ?_) (by kernel_rfl) rfl rfl (fun W hW => ?_) ?_; rotate_left; (go_simp; first | done | with_reducible rfl); simp only [Act.put, List.setIfInBounds_toArray, List.set_cons_zero, List.set_cons_succ]); (refine m_q 15 (v := ?_) (by kernel_rfl) rfl rfl (fun W hW => ?_) ?_; rotate_left; (go_simp; first | done | with_reducible rfl); simp only [Act.put, List.setIfInBounds_toArray, List.set_cons_zero, List.set_cons_succ])
        refine m_end (by kernel_rfl) ?_
        go_wp2_with fail
        go_meet
        exact ⟨_, _, a1, a2, b1, b2, AR, cR, rfl, rfl, rfl, rfl, R5, R6, D1, D2, XJ, hne, hB5_lo⟩
    · go_wp2_with fail
      have hB6_lo := j.below.size
      refine absN fun wk50 hB6 hb hzq => ?_
      clear hzq
      replace j := j.next hb
      refine m_keep ⟨j.old, j.new⟩ ?_
      generalize wq.heap.size = g6 at hB6 hB6_lo ⊢
      clear hb
      refine m_s2 1 10 (by kernel_rfl) rfl rfl ?_ ?_
      · go_wp2_with fail
        refine j.cfgA.mono ?_
        rintro e wk51 ⟨q1, r1, rfl, hq1, hb⟩
        replace j := j.next hb; replace hB6 := hB6.below hb hB6.lt
        go_wp2_with fail
        refine m_keep ⟨j.old, j.new⟩ ?_
        clear hb
        refine m_s2 3 10 (by kernel_rfl) rfl rfl ?_ ?_
        · go_wp2_with fail
          refine j.cfgB.mono ?_
          rintro e wk52 ⟨q2, r2, rfl, hq2, hb⟩
          replace j := j.next hb; replace hB6 := hB6.below hb hB6.lt; replace hq1 := hq1.below hb
          go_wp2_with fail
          refine m_keep ⟨j.old, j.new⟩ ?_
          clear hb
          refine m_s2 4 10 (by kernel_rfl) rfl rfl ?_ ?_
          · go_wp2_with fail
            refine (j.joint (Below.refl _ _) hq1 hq2).mono ?_
            rintro e wk53 ⟨a1, a2, b1, b2, AR, cR, rfl, hca, hcb, hrow, hb⟩
            replace j := j.next hb; replace hB6 := hB6.below hb hB6.lt; replace hq1 := hq1.below hb; replace hq2 := hq2.below hb
            go_wp2_with fail
            refine m_keep ⟨j.old, j.new⟩ ?_
            (refine m_q 5 (v := ?_) (by kernel_rfl) rfl rfl (fun W hW => ?_) ?_; rotate_left; (go_simp; first | done | with_reducible rfl); simp only [Act.put, List.setIfInBounds_toArray, List.set_cons_zero, List.set_cons_succ]); (refine m_q 6 (v := ?_) (by kernel_rfl) rfl rfl (fun W hW => ?_) ?_; rotate_left; (go_simp; first | done | with_reducible rfl); simp only [Act.put, List.setIfInBounds_toArray, List.set_cons_zero, List.set_cons_succ]); (refine m_q 7 (v := ?_) (by kernel_rfl) rfl rfl (fun W hW => ?_) ?_; rotate_left; (go_simp; first | done | with_reducible rfl); simp only [Act.put, List.setIfInBounds_toArray, List.set_cons_zero, List.set_cons_succ]); (refine m_q 8 (v := ?_) (by kernel_rfl) rfl rfl (fun W hW => ?_) ?_; rotate_left; (go_simp; first | done | with_reducible rfl); simp only [Act.put, List.setIfInBounds_toArray, List.set_cons_zero, List.set_cons_succ]); (refine m_q 9 (v := ?_) (by kernel_rfl) rfl rfl (fun W hW => ?_) ?_; rotate_left; (go_simp; first | done | with_reducible rfl); simp only [Act.put, List.setIfInBounds_toArray, List.set_cons_zero, List.set_cons_succ])
            clear hb
            refine m_s1 10 (by kernel_rfl) rfl ?_
            go_wp2_with fail
            have hB5_lo := j.below.size
            have hne := Nat.ne_of_gt hB6.lt
            refine absN fun wk54 hB5 hb hzq => ?_
            clear hzq
            replace j := j.next hb; replace hB6 := hB6.below hb hB6.lt; replace hq1 := hq1.below hb; replace hq2 := hq2.below hb; replace hca := hca.below hb; replace hcb := hcb.below hb; replace hrow := hrow.below hb
            refine m_keep ⟨j.old, j.new⟩ ?_
            generalize wk53.heap.size = g5 at hB5 hB5_lo hne ⊢
            clear hb
            clear hq1 hq2
            have e0 := hB5.cell 0; have e1 := hB5.cell 1; have f0 := hB5.frozen 0; have f1 := hB5.frozen 1
            have P5 := hB5.putc (ptr a1) (ptr a2); have P6 := hB6.far2 (Ne.symm hne) (ptr a1) (ptr a2)
            have J := j.cfg2 hT hB5 hB5_lo (ptr a1) (ptr a2)
            have C1 := hca.cfg2 (c := some ⟨a1, 0, none⟩) (d := some ⟨a2, 0, none⟩) hB5; have C2 := hcb.cfg2 (c := some ⟨a1, 0, none⟩) (d := some ⟨a2, 0, none⟩) hB5; have C3 := hrow.cfg2 (c := some ⟨a1, 0, none⟩) (d := some ⟨a2, 0, none⟩) hB5
            clear hB5 hB6 j hca hcb hrow
            refine m_s1 12 (by kernel_rfl) rfl ?_
            go_wp2_with fail
            refine m_keep (W := put2 wk54 g5 (ptr a1) (ptr a2)) ⟨J.old, J.new⟩ ?_
            obtain ⟨W7, hW7⟩ : ∃ W7, W7 = put2 wk54 g5 (ptr a1) (ptr a2) := ⟨_, rfl⟩
            rw [← hW7] at P5 P6 J C1 C2 C3 ⊢; clear hW7 e0 e1 f0 f1
            have e0 := P6.cell 0; have e1 := P6.cell 1; have f0 := P6.frozen 0; have f1 := P6.frozen 1
            have R6 := P6.putc (ptr b1) (ptr b2); have R5 := P5.far2 hne (ptr b1) (ptr b2)
            have XJ := J.cfg2 hT P6 hB6_lo (ptr b1) (ptr b2)
            have D1 := C1.cfg2 (c := some ⟨b1, 0, none⟩) (d := some ⟨b2, 0, none⟩) P6; have D2 := C2.cfg2 (c := some ⟨b1, 0, none⟩) (d := some ⟨b2, 0, none⟩) P6; have D3 := C3.cfg2 (c := some ⟨b1, 0, none⟩) (d := some ⟨b2, 0, none⟩) P6
            clear P5 P6 J C1 C2 C3
            refine m_s1 13 (by kernel_rfl) rfl ?_
            go_wp2_with fail
            refine m_keep (W := put2 W7 g6 (ptr b1) (ptr b2)) ⟨XJ.old, XJ.new⟩ ?_
            (refine m_q 14 (v := ?_) (by kernel_rfl) rfl rfl (fun W hW => ?_) ?_; rotate_left; (go_simp; first | done | with_reducible rfl); simp only [Act.put, List.setIfInBounds_toArray, List.set_cons_zero, List.set_cons_succ]); (refine m_q 15 (v := ?_) (by kernel_rfl) rfl rfl (fun W hW => ?_) ?_; rotate_left; (go_simp; first | done | with_reducible rfl); simp only [Act.put, List.setIfInBounds_toArray, List.set_cons_zero, List.set_cons_succ])
            refine m_end (by kernel_rfl) ?_
            go_wp2_with fail
            go_meet
            exact ⟨_, _, a1, a2, b1, b2, AR, cR, rfl, rfl, rfl, rfl, R5, R6, D1, D2, XJ, hne, hB5_lo⟩
          · go_wp2_with fail
            have hB5_lo := j.below.size
            have hne := Nat.ne_of_gt hB6.lt
            refine absN fun wk55 hB5 hb hzq => ?_
            clear hzq
            replace j := j.next hb; replace hB6 := hB6.below hb hB6.lt; replace hq1 := hq1.below hb; replace hq2 := hq2.below hb
            refine m_keep ⟨j.old, j.new⟩ ?_
            generalize wk52.heap.size = g5 at hB5 hB5_lo hne ⊢
            clear hb
            refine m_s1 4 (by kernel_rfl) rfl ?_
            go_wp2_with fail
            refine (j.joint (Below.refl _ _) hq1 hq2).mono ?_
            rintro e wk56 ⟨a1, a2, b1, b2, AR, cR, rfl, hca, hcb, hrow, hb⟩
            replace j := j.next hb; replace hB6 := hB6.below hb hB6.lt; replace hq1 := hq1.below hb; replace hq2 := hq2.below hb; replace hB5 := hB5.below hb hB5.lt
            go_wp2_with fail
            refine m_keep ⟨j.old, j.new⟩ ?_
            (refine m_q 5 (v := ?_) (by kernel_rfl) rfl rfl (fun W hW => ?_) ?_; rotate_left; (go_simp; first | done | with_reducible rfl); simp only [Act.put, List.setIfInBounds_toArray, List.set_cons_zero, List.set_cons_succ]); (refine m_q 6 (v := ?_) (by kernel_rfl) rfl rfl (fun W hW => ?_) ?_; rotate_left; (go_simp; first | done | with_reducible rfl); simp only [Act.put, List.setIfInBounds_toArray, List.set_cons_zero, List.set_cons_succ]); (refine m_q 7 (v := ?_) (by kernel_rfl) rfl rfl (fun W hW => ?_) ?_; rotate_left; (go_simp; first | done | with_reducible rfl); simp only [Act.put, List.setIfInBounds_toArray, List.set_cons_zero, List.set_cons_succ]); (refine m_q 8 (v := ?_) (by kernel_rfl) rfl rfl (fun W hW => ?_) ?_; rotate_left; (go_simp; first | done | with_reducible rfl); simp only [Act.put, List.setIfInBounds_toArray, List.set_cons_zero, List.set_cons_succ]); (refine m_q 9 (v := ?_) (by kernel_rfl) rfl rfl (fun W hW => ?_) ?_; rotate_left; (go_simp; first | done | with_reducible rfl); simp only [Act.put, List.setIfInBounds_toArray, List.set_cons_zero, List.set_cons_succ])
            clear hb
            clear hq1 hq2
            have e0 := hB5.cell 0; have e1 := hB5.cell 1; have f0 := hB5.frozen 0; have f1 := hB5.frozen 1
            have P5 := hB5.putc (ptr a1) (ptr a2); have P6 := hB6.far2 (Ne.symm hne) (ptr a1) (ptr a2)
            have J := j.cfg2 hT hB5 hB5_lo (ptr a1) (ptr a2)
            have C1 := hca.cfg2 (c := some ⟨a1, 0, none⟩) (d := some ⟨a2, 0, none⟩) hB5; have C2 := hcb.cfg2 (c := some ⟨a1, 0, none⟩) (d := some ⟨a2, 0, none⟩) hB5; have C3 := hrow.cfg2 (c := some ⟨a1, 0, none⟩) (d := some ⟨a2, 0, none⟩) hB5
            clear hB5 hB6 j hca hcb hrow
            refine m_s1 12 (by kernel_rfl) rfl ?_
            go_wp2_with fail
            refine m_keep (W := put2 wk56 g5 (ptr a1) (ptr a2)) ⟨J.old, J.new⟩ ?_
            obtain ⟨W7, hW7⟩ : ∃ W7, W7 = put2 wk56 g5 (ptr a1) (ptr a2) := ⟨_, rfl⟩
            rw [← hW7] at P5 P6 J C1 C2 C3 ⊢; clear hW7 e0 e1 f0 f1
            have e0 := P6.cell 0; have e1 := P6.cell 1; have f0 := P6.frozen 0; have f1 := P6.frozen 1
            have R6 := P6.putc (ptr b1) (ptr b2); have R5 := P5.far2 hne (ptr b1) (ptr b2)
            have XJ := J.cfg2 hT P6 hB6_lo (ptr b1) (ptr b2)
            have D1 := C1.cfg2 (c := some ⟨b1, 0, none⟩) (d := some ⟨b2, 0, none⟩) P6; have D2 := C2.cfg2 (c := some ⟨b1, 0, none⟩) (d := some ⟨b2, 0, none⟩) P6; have D3 := C3.cfg2 (c := some ⟨b1, 0, none⟩) (d := some ⟨b2, 0, none⟩) P6
            clear P5 P6 J C1 C2 C3
            refine m_s1 13 (by kernel_rfl) rfl ?_
            go_wp2_with fail
            refine m_keep (W := put2 W7 g6 (ptr b1) (ptr b2)) ⟨XJ.old, XJ.new⟩ ?_
            (refine m_q 14 (v := ?_) (by kernel_rfl) rfl rfl (fun W hW => ?_) ?_; rotate_left; (go_simp; first | done | with_reducible rfl); simp only [Act.put, List.setIfInBounds_toArray, List.set_cons_zero, List.set_cons_succ]); (refine m_q 15 (v := ?_) (by kernel_rfl) rfl rfl (fun W hW => ?_) ?_; rotate_left; (go_simp; first | done | with_reducible rfl); simp only [Act.put, List.setIfInBounds_toArray, List.set_cons_zero, List.set_cons_succ])
            refine m_end (by kernel_rfl) ?_
            go_wp2_with fail
            go_meet
            exact ⟨_, _, a1, a2, b1, b2, AR, cR, rfl, rfl, rfl, rfl, R5, R6, D1, D2, XJ, hne, hB5_lo⟩
        · go_wp2_with fail
          have hB5_lo := j.below.size
          have hne := Nat.ne_of_gt hB6.lt
          refine absN fun wk57 hB5 hb hzq => ?_
          clear hzq
          replace j := j.next hb; replace hB6 := hB6.below hb hB6.lt; replace hq1 := hq1.below hb
          refine m_keep ⟨j.old, j.new⟩ ?_
          generalize wk51.heap.size = g5 at hB5 hB5_lo hne ⊢
          clear hb
          refine m_s1 3 (by kernel_rfl) rfl ?_
          go_wp2_with fail
          refine j.cfgB.mono ?_
          rintro e wk58 ⟨q2, r2, rfl, hq2, hb⟩
          replace j := j.next hb; replace hB6 := hB6.below hb hB6.lt; replace hq1 := hq1.below hb; replace hB5 := hB5.below hb hB5.lt
          go_wp2_with fail
          refine m_keep ⟨j.old, j.new⟩ ?_
          clear hb
          refine m_s1 4 (by kernel_rfl) rfl ?_
          go_wp2_with fail
          refine (j.joint (Below.refl _ _) hq1 hq2).mono ?_
          rintro e wk59 ⟨a1, a2, b1, b2, AR, cR, rfl, hca, hcb, hrow, hb⟩
          replace j := j.next hb; replace hB6 := hB6.below hb hB6.lt; replace hq1 := hq1.below hb; replace hB5 := hB5.below hb hB5.lt; replace hq2 := hq2.below hb
          go_wp2_with fail
          refine m_keep ⟨j.old, j.new⟩ ?_
          (refine m_q 5 (v := ?_) (by kernel_rfl) rfl rfl (fun W hW => ?_) ?_; rotate_left; (go_simp; first | done | with_reducible rfl); simp only [Act.put, List.setIfInBounds_toArray, List.set_cons_zero, List.set_cons_succ]); (refine m_q 6 (v := ?_) (by kernel_rfl) rfl rfl (fun W hW => ?_) ?_; rotate_left; (go_simp; first | done | with_reducible rfl); simp only [Act.put, List.setIfInBounds_toArray, List.set_cons_zero, List.set_cons_succ]); (refine m_q 7 (v := ?_) (by kernel_rfl) rfl rfl (fun W hW => ?_) ?_; rotate_left; (go_simp; first | done | with_reducible rfl); simp only [Act.put, List.setIfInBounds_toArray, List.set_cons_zero, List.set_cons_succ]); (refine m_q 8 (v := ?_) (by kernel_rfl) rfl rfl (fun W hW => ?_) ?_; rotate_left; (go_simp; first | done | with_reducible rfl); simp only [Act.put, List.setIfInBounds_toArray, List.set_cons_zero, List.set_cons_succ]); (refine m_q 9 (v := ?_) (by kernel_rfl) rfl rfl (fun W hW => ?_) ?_; rotate_left; (go_simp; first | done | with_reducible rfl); simp only [Act.put, List.setIfInBounds_toArray, List.set_cons_zero, List.set_cons_succ])
          clear hb
          clear hq1 hq2
          have e0 := hB5.cell 0; have e1 := hB5.cell 1; have f0 := hB5.frozen 0; have f1 := hB5.frozen 1
          have P5 := hB5.putc (ptr a1) (ptr a2); have P6 := hB6.far2 (Ne.symm hne) (ptr a1) (ptr a2)
          have J := j.cfg2 hT hB5 hB5_lo (ptr a1) (ptr a2)
          have C1 := hca.cfg2 (c := some ⟨a1, 0, none⟩) (d := some ⟨a2, 0, none⟩) hB5; have C2 := hcb.cfg2 (c := some ⟨a1, 0, none⟩) (d := some ⟨a2, 0, none⟩) hB5; have C3 := hrow.cfg2 (c := some ⟨a1, 0, none⟩) (d := some ⟨a2, 0, none⟩) hB5
          clear hB5 hB6 j hca hcb hrow
          refine m_s1 12 (by kernel_rfl) rfl ?_
          go_wp2_with fail
          refine m_keep (W := put2 wk59 g5 (ptr a1) (ptr a2)) ⟨J.old, J.new⟩ ?_
          obtain ⟨W7, hW7⟩ : ∃ W7, W7 = put2 wk59 g5 (ptr a1) (ptr a2) := ⟨_, rfl⟩
          rw [← hW7] at P5 P6 J C1 C2 C3 ⊢; clear hW7 e0 e1 f0 f1
          have e0 := P6.cell 0; have e1 := P6.cell 1; have f0 := P6.frozen 0; have f1 := P6.frozen 1
          have R6 := P6.putc (ptr b1) (ptr b2); have R5 := P5.far2 hne (ptr b1) (ptr b2)
          have XJ := J.cfg2 hT P6 hB6_lo (ptr b1) (ptr b2)
          have D1 := C1.cfg2 (c := some ⟨b1, 0, none⟩) (d := some ⟨b2, 0, none⟩) P6; have D2 := C2.cfg2 (c := some ⟨b1, 0, none⟩) (d := some ⟨b2, 0, none⟩) P6; have D3 := C3.cfg2 (c := some ⟨b1, 0, none⟩) (d := some ⟨b2, 0, none⟩) P6
          clear P5 P6 J C1 C2 C3
          refine m_s1 13 (by kernel_rfl) rfl ?_
          go_wp2_with fail
          refine m_keep (W := put2 W7 g6 (ptr b1) (ptr b2)) ⟨XJ.old, XJ.new⟩ ?_
          (refine m_q 14 (v := ?_) (by kernel_rfl) rfl rfl (fun W hW => ?_) ?_; rotate_left; (go_simp; first | done | with_reducible rfl); simp only [Act.put, List.setIfInBounds_toArray, List.set_cons_zero, List.set_cons_succ]); (refine m_q 15 (v := ?_) (by kernel_rfl) rfl rfl (fun W hW => ?_) ?_; rotate_left; (go_simp; first | done | with_reducible rfl); simp only [Act.put, List.setIfInBounds_toArray, List.set_cons_zero, List.set_cons_succ])
          refine m_end (by kernel_rfl) ?_
          go_wp2_with fail
          go_meet
          exact ⟨_, _, a1, a2, b1, b2, AR, cR, rfl, rfl, rfl, rfl, R5, R6, D1, D2, XJ, hne, hB5_lo⟩
      · go_wp2_with fail
        have hB5_lo := j.below.size
        have hne := Nat.ne_of_gt hB6.lt
        refine absN fun wk60 hB5 hb hzq => ?_
        clear hzq
        replace j := j.next hb; replace hB6 := hB6.below hb hB6.lt
        refine m_keep ⟨j.old, j.new⟩ ?_
        generalize wk50.heap.size = g5 at hB5 hB5_lo hne ⊢
        clear hb
        refine m_s1 1 (by kernel_rfl) rfl ?_
        go_wp2_with fail
        refine j.cfgA.mono ?_
        rintro e wk61 ⟨q1, r1, rfl, hq1, hb⟩
        replace j := j.next hb; replace hB6 := hB6.below hb hB6.lt; replace hB5 := hB5.below hb hB5.lt
        go_wp2_with fail
        refine m_keep ⟨j.old, j.new⟩ ?_
        clear hb
        refine m_s1 3 (by kernel_rfl) rfl ?_
        go_wp2_with fail
        refine j.cfgB.mono ?_
        rintro e wk62 ⟨q2, r2, rfl, hq2, hb⟩
        replace j := j.next hb; replace hB6 := hB6.below hb hB6.lt; replace hB5 := hB5.below hb hB5.lt; replace hq1 := hq1.below hb
        go_wp2_with fail
        refine m_keep ⟨j.old, j.new⟩ ?_
        clear hb
        refine m_s1 4 (by kernel_rfl) rfl ?_
        go_wp2_with fail
        refine (j.joint (Below.refl _ _) hq1 hq2).mono ?_
        rintro e wk63 ⟨a1, a2, b1, b2, AR, cR, rfl, hca, hcb, hrow, hb⟩
        replace j := j.next hb; replace hB6 := hB6.below hb hB6.lt; replace hB5 := hB5.below hb hB5.lt; replace hq1 := hq1.below hb; replace hq2 := hq2.below hb
        go_wp2_with fail
        refine m_keep ⟨j.old, j.new⟩ ?_
        (refine m_q 5 (v := ?_) (by kernel_rfl) rfl rfl (fun W hW => ?_) ?_; rotate_left; (go_simp; first | done | with_reducible rfl); simp only [Act.put, List.setIfInBounds_toArray, List.set_cons_zero, List.set_cons_succ]); (refine m_q 6 (v := ?_) (by kernel_rfl) rfl rfl (fun W hW => ?_) ?_; rotate_left; (go_simp; first | done | with_reducible rfl); simp only [Act.put, List.setIfInBounds_toArray, List.set_cons_zero, List.set_cons_succ]); (refine m_q 7 (v := ?_) (by kernel_rfl) rfl rfl (fun W hW => ?_) ?_; rotate_left; (go_simp; first | done | with_reducible rfl); simp only [Act.put, List.setIfInBounds_toArray, List.set_cons_zero, List.set_cons_succ]); (refine m_q 8 (v := ?_) (by kernel_rfl) rfl rfl (fun W hW => ?_) ?_; rotate_left; (go_simp; first | done | with_reducible rfl); simp only [Act.put, List.setIfInBounds_toArray, List.set_cons_zero, List.set_cons_succ]); (refine m_q 9 (v := ?_) (by kernel_rfl) rfl rfl (fun W hW => ?_) ?_; rotate_left; (go_simp; first | done | with_reducible rfl); simp only [Act.put, List.setIfInBounds_toArray, List.set_cons_zero, List.set_cons_succ])
        clear hb
        clear hq1 hq2
        have e0 := hB5.cell 0; have e1 := hB5.cell 1; have f0 := hB5.frozen 0; have f1 := hB5.frozen 1
        have P5 := hB5.putc (ptr a1) (ptr a2); have P6 := hB6.far2 (Ne.symm hne) (ptr a1) (ptr a2)
        have J := j.cfg2 hT hB5 hB5_lo (ptr a1) (ptr a2)
        have C1 := hca.cfg2 (c := some ⟨a1, 0, none⟩) (d := some ⟨a2, 0, none⟩) hB5; have C2 := hcb.cfg2 (c := some ⟨a1, 0, none⟩) (d := some ⟨a2, 0, none⟩) hB5; have C3 := hrow.cfg2 (c := some ⟨a1, 0, none⟩) (d := some ⟨a2, 0, none⟩) hB5
        clear hB5 hB6 j hca hcb hrow
        refine m_s1 12 (by kernel_rfl) rfl ?_
        go_wp2_with fail
        refine m_keep (W := put2 wk63 g5 (ptr a1) (ptr a2)) ⟨J.old, J.new⟩ ?_
        obtain ⟨W7, hW7⟩ : ∃ W7, W7 = put2 wk63 g5 (ptr a1) (ptr a2) := ⟨_, rfl⟩
        rw [← hW7] at P5 P6 J C1 C2 C3 ⊢; clear hW7 e0 e1 f0 f1
        have e0 := P6.cell 0; have e1 := P6.cell 1; have f0 := P6.frozen 0; have f1 := P6.frozen 1
        have R6 := P6.putc (ptr b1) (ptr b2); have R5 := P5.far2 hne (ptr b1) (ptr b2)
        have XJ := J.cfg2 hT P6 hB6_lo (ptr b1) (ptr b2)
        have D1 := C1.cfg2 (c := some ⟨b1, 0, none⟩) (d := some ⟨b2, 0, none⟩) P6; have D2 := C2.cfg2 (c := some ⟨b1, 0, none⟩) (d := some ⟨b2, 0, none⟩) P6; have D3 := C3.cfg2 (c := some ⟨b1, 0, none⟩) (d := some ⟨b2, 0, none⟩) P6
        clear P5 P6 J C1 C2 C3
        refine m_s1 13 (by kernel_rfl) rfl ?_
        go_wp2_with fail
        refine m_keep (W := put2 W7 g6 (ptr b1) (ptr b2)) ⟨XJ.old, XJ.new⟩ ?_
        (refine m_q 14 (v := ?_) (by kernel_rfl) rfl rfl (fun W hW => ?_) ?_; rotate_left; (go_simp; first | done | with_reducible rfl); simp only [Act.put, List.setIfInBounds_toArray, List.set_cons_zero, List.set_cons_succ]); (refine m_q 15 (v := ?_) (by kernel_rfl) rfl rfl (fun W hW => ?_) ?_; rotate_left; (go_simp; first | done | with_reducible rfl); simp only [Act.put, List.setIfInBounds_toArray, List.set_cons_zero, List.set_cons_succ])
        refine m_end (by kernel_rfl) ?_
        go_wp2_with fail
        go_meet
        exact ⟨_, _, a1, a2, b1, b2, AR, cR, rfl, rfl, rfl, rfl, R5, R6, D1, D2, XJ, hne, hB5_lo⟩
  case rest =>
    obtain ⟨g5, g6, a1, a2, b1, b2, AR, cR, rfl, rfl, rfl, rfl, h5, h6, hca, hcb, J, hne, hlo⟩ := hcut
    clear j
    have hd : Below wc.heap.size wc wc.drew := (Below.refl _ _).drew
    have Jq := J.next hd
    go_wp2_with fail
    refine wp_mix (fun V => Blk V X3 31 #[.int .i64 (a : Int), .slice A1 u c1, .int .i64 (p : Int), .slice B1 a d1] ∧ Blk V (X3 + 1) 31 #[.int .i64 (b : Int), .slice A2 u c2, .int .i64 (p : Int), .slice B2 b d2]) 10 (by kernel_rfl) (by kernel_rfl) ⟨Jq.old, Jq.new⟩ ?_
    obtain ⟨wq, hwq⟩ : ∃ V, V = wc.drew := ⟨_, rfl⟩
    rw [← hwq] at hd Jq ⊢
    clear hwq
    (refine m_q 0 (v := ?_) (by kernel_rfl) rfl rfl (fun W hW => ?_) ?_; rotate_left; (have z0 := hW.1.cell 0; have z1 := hW.1.cell 1; have z2 := hW.1.cell 2; have z3 := hW.1.cell 3; have u0 := hW.2.cell 0; have u1 := hW.2.cell 1; have u2 := hW.2.cell 2; have u3 := hW.2.cell 3; go_simp; first | done | with_reducible rfl); simp only [Act.put, List.setIfInBounds_toArray, List.set_cons_zero, List.set_cons_succ]); (refine m_q 2 (v := ?_) (by kernel_rfl) rfl rfl (fun W hW => ?_) ?_; rotate_left; (have z0 := hW.1.cell 0; have z1 := hW.1.cell 1; have z2 := hW.1.cell 2; have z3 := hW.1.cell 3; have u0 := hW.2.cell 0; have u1 := hW.2.cell 1; have u2 := hW.2.cell 2; have u3 := hW.2.cell 3; go_simp; first | done | with_reducible rfl); simp only [Act.put, List.setIfInBounds_toArray, List.set_cons_zero, List.set_cons_succ])
    refine m_s1 1 (by kernel_rfl) rfl ?_
    go_wp2_with fail
    refine Jq.cfgA.mono ?_
    rintro e va ⟨q1, r1, rfl, hq1, hba⟩
    have Ja := Jq.next hba
    go_wp2_with fail
    refine m_keep ⟨Ja.old, Ja.new⟩ ?_
    refine m_s1 3 (by kernel_rfl) rfl ?_
    go_wp2_with fail
    refine Ja.cfgB.mono ?_
    rintro e vb ⟨q2, r2, rfl, hq2, hbb⟩
    have Jb := Ja.next hbb
    go_wp2_with fail
    refine m_keep ⟨Jb.old, Jb.new⟩ ?_
    refine m_s1 4 (by kernel_rfl) rfl ?_
    go_wp2_with fail
    refine (Jb.plan3 (Below.refl _ _) (hq1.below hbb) hq2).mono ?_
    rintro e w4 ⟨AL, cL, rfl, hrL, hbc⟩
    have J4 := Jb.next hbc
    have kk := hd.trans ((hba.trans ((hbb.trans (hbc.mono hbb.size)).mono hba.size)).mono hd.size)
    go_wp2_with fail
    refine m_keep ⟨J4.old, J4.new⟩ ?_
    (refine m_q 5 (v := ?_) (by kernel_rfl) rfl rfl (fun W hW => ?_) ?_; rotate_left; (go_simp; first | done | with_reducible rfl); simp only [Act.put, List.setIfInBounds_toArray, List.set_cons_zero, List.set_cons_succ]); (refine m_q 6 (v := ?_) (by kernel_rfl) rfl rfl (fun W hW => ?_) ?_; rotate_left; (go_simp; first | done | with_reducible rfl); simp only [Act.put, List.setIfInBounds_toArray, List.set_cons_zero, List.set_cons_succ]); (refine m_q 7 (v := ?_) (by kernel_rfl) rfl rfl (fun W hW => ?_) ?_; rotate_left; (go_simp; first | done | with_reducible rfl); simp only [Act.put, List.setIfInBounds_toArray, List.set_cons_zero, List.set_cons_succ]); (refine m_q 8 (v := ?_) (by kernel_rfl) rfl rfl (fun W hW => ?_) ?_; rotate_left; (go_simp; first | done | with_reducible rfl); simp only [Act.put, List.setIfInBounds_toArray, List.set_cons_zero, List.set_cons_succ]); (refine m_q 9 (v := ?_) (by kernel_rfl) rfl rfl (fun W hW => ?_) ?_; rotate_left; (go_simp; first | done | with_reducible rfl); simp only [Act.put, List.setIfInBounds_toArray, List.set_cons_zero, List.set_cons_succ])
    refine m_end (by kernel_rfl) ?_
    have h54 := h5.below kk h5.lt
    have h64 := h6.below kk h6.lt
    have hc1 := hca.below kk
    have hc2 := hcb.below kk
    have hA : Ali u (jn P P') p (jM1 M P P') (jP1 p P P') (jM2 M' P P') (jP2 p P P') := joint_ali u p M P M' P' J4.lM J4.lM'
    have hPl : planJ p M P M' P' = planOf (jn P P') p (jM1 M P P') (jP1 p P P') (jM2 M' P P') (jP2 p P P') := rfl
    have hT4 := J4.tab
    have hsm := J4.small
    have bb := J4.below
    clear J Jq Ja Jb J4 hq1 hq2 hba hbb hbc hd kk h5 h6 hca hcb
    obtain ⟨U0, hU0⟩ : ∃ X, X = jM1 M P P' := ⟨_, rfl⟩
    obtain ⟨P0, hP0⟩ : ∃ X, X = jP1 p P P' := ⟨_, rfl⟩
    obtain ⟨U1, hU1⟩ : ∃ X, X = jM2 M' P P' := ⟨_, rfl⟩
    obtain ⟨P1, hP1⟩ : ∃ X, X = jP2 p P P' := ⟨_, rfl⟩
    rw [← hU0, ← hP0] at hc1 hA hPl
    rw [← hU1, ← hP1] at hc2 hA hPl
    clear hU0 hP0 hU1 hP1
    obtain ⟨n, hn⟩ : ∃ n, n = jn P P' := ⟨_, rfl⟩
    rw [← hn] at hc1 hc2 hA hPl
    clear hn
    obtain ⟨L, hL⟩ : ∃ L, L = planJ p M P M' P' := ⟨_, rfl⟩
    rw [← hL] at hrL hsm hPl ⊢
    clear hL
    have HPl := Lib.hid hPl
    clear hPl
    have x0 := h54.cell 0
    have x1 := h54.cell 1
    go_wp2_with fail
    refine (maccess_any a1 a2 n p U0 P0 w4 hc1 hT4).mono ?_
    rintro e w5 ⟨m1, rfl, hm1, hb⟩
    replace h54 := h54.below hb h54.lt; replace h64 := h64.below hb h64.lt; replace hc1 := hc1.below hb; replace hc2 := hc2.below hb; replace hT4 := hT4.below hb; replace hrL := hrL.below hb; replace bb := bb.trans (hb.mono bb.size)
    clear x0 x1 hb
    have y0 := h64.cell 0
    have y1 := h64.cell 1
    go_wp2_with fail
    refine (maccess_any b1 b2 n p U1 P1 w5 hc2 hT4).mono ?_
    rintro e w6 ⟨m2, rfl, hm2, hb⟩
    replace h54 := h54.below hb h54.lt; replace h64 := h64.below hb h64.lt; replace hc1 := hc1.below hb; replace hc2 := hc2.below hb; replace hT4 := hT4.below hb; replace hrL := hrL.below hb; replace bb := bb.trans (hb.mono bb.size); replace hm1 := hm1.below hb
    clear y0 y1 hb
    have hll : (mat U0.length p (prodF U0 P0 n)).length = (mat U1.length p (prodF U1 P1 n)).length := by rw [mat_len, mat_len, hA.lU, hA.lU']
    have HOR := hideC (pm_or m1 m2 p _ _ w6 hm1 hm2 hll)
    have HAN := hideC (fun W hb => pm_and m1 m2 p _ _ W (hm1.below (w' := W) hb) (hm2.below hb) hll)
    rw [mat_len, hA.lU] at HOR HAN
    clear hll hm1 hm2
    go_wp2_with fail
    refine HOR.out.mono ?_
    rintro e w7 ⟨hi, rfl, hhi, hb⟩
    replace h54 := h54.below hb h54.lt; replace h64 := h64.below hb h64.lt; replace hc1 := hc1.below hb; replace hc2 := hc2.below hb; replace hT4 := hT4.below hb; replace hrL := hrL.below hb; replace bb := bb.trans (hb.mono bb.size)
    have HAN2 := hideC (HAN.out w7 hb)
    clear hb HOR HAN
    go_wp2_with fail
    refine HAN2.out.mono ?_
    rintro e w8 ⟨lo, rfl, hlo2, hb⟩
    replace h54 := h54.below hb h54.lt; replace h64 := h64.below hb h64.lt; replace hc1 := hc1.below hb; replace hc2 := hc2.below hb; replace hT4 := hT4.below hb; replace hrL := hrL.below hb; replace bb := bb.trans (hb.mono bb.size); replace hhi := hhi.below hb
    clear hb HAN2
    have v0 : VI w w8 g5 g6 hi lo b1 b2 n p (mat u p (orF (accM n p U0 P0) (accM n p U1 P1))) (mat u p (andF (accM n p U0 P0) (accM n p U1 P1))) U1 P1 a1 a2 (momU u n p U0 P0 U1 P1 0) (momP n p U0 P0 U1 P1 0) := by
      rw [hA.mom0.1, hA.mom0.2]
      unfold accM
      rw [hA.lU]
      exact ⟨hc1, h54, hc2, h64, hhi, hlo2, hne, hlo, hA.lU.trans hA.lU'.symm, bb⟩
    obtain ⟨Hm, hHm⟩ : ∃ X, X = mat u p (orF (accM n p U0 P0) (accM n p U1 P1)) := ⟨_, rfl⟩
    obtain ⟨Lm, hLm⟩ : ∃ X, X = mat u p (andF (accM n p U0 P0) (accM n p U1 P1)) := ⟨_, rfl⟩
    have HUP := hideC (fun k => hA.upper k)
    have HLO := hideC (fun k => hA.lower k)
    have HST := hideC (fun k s (hs : (planOf n p U0 P0 U1 P1)[k]? = some s) => hA.step hs)
    have HEN := hideC hA.end_
    have HML : Hid (∀ k, (momU u n p U0 P0 U1 P1 k).length = u) := hideC fun k => mat_len _ _ _
    rw [← HPl.out] at HST HEN
    rw [← hHm] at v0 HUP
    rw [← hLm] at v0 HLO
    have HHm := Lib.hid (show Hm.length = u by rw [hHm, mat_len])
    have HLm := Lib.hid (show Lm.length = u by rw [hLm, mat_len])
    have HU1 := Lib.hid hA.lU'
    have HTT := Lib.hid hT
    clear hHm hLm hA HPl hc1 h54 hc2 h64 hhi hlo2 bb hT4
    go_wp2_with fail
    refine wp_loopF (β := Nat) (fun k f => #[f 0, f 1, f 2, f 3, f 4, .pointer (some ⟨g5, 0, none⟩), .pointer (some ⟨g6, 0, none⟩), f 7, f 8, f 9, f 10, f 11, f 12, f 13, f 14, ptr hi, ptr lo, f 17, f 18, f 19, f 20, f 21, f 22, f 23, f 24, f 25, f 26, f 27, f 28, f 29, f 30, f 31, f 32, f 33, f 34, f 35, f 36, f 37, f 38, f 39, f 40, f 41, f 42, f 43, f 44, f 45, f 46, f 47, f 48, f 49, f 50, f 51, f 52, f 53, f 54, f 55, f 56, f 57, f 58, f 59, f 60, f 61, f 62, f 63, f 64, f 65, f 66, f 67, f 68, f 69, f 70, f 71, f 72, f 73, f 74, f 75, f 76, f 77, f 78, f 79, f 80, f 81, f 82, f 83, f 84, f 85, f 86, f 87, .slice AL L.length cL, .int .i64 (L.length : Int), .int .i64 (k : Int), f 91, f 92, f 93, f 94, f 95, f 96, f 97, f 98, f 99, f 100, f 101, f 102, f 103, f 104, f 105, f 106, f 107, f 108, f 109, f 110, f 111, f 112, f 113, f 114, f 115, f 116, f 117, f 118, f 119, f 120, f 121, f 122, f 123, f 124, f 125, f 126, f 127, f 128, f 129, f 130, f 131, f 132, f 133])
      (fun k ds wr => k ≤ L.length ∧ ds = [] ∧ SRow wr AL L ∧ ∃ qu qp, VI w wr g5 g6 hi lo b1 b2 n p Hm Lm U1 P1 qu qp (momU u n p U0 P0 U1 P1 k) (momP n p U0 P0 U1 P1 k)) (fun k => L.length - k) 0 rfl ⟨Nat.zero_le _, rfl, hrL, a1, a2, v0⟩ ?_
    rintro k f ds wr ⟨hk, rfl, hrow, qu, qp, v⟩
    clear v0 hrL
    dsimp only
    by_cases hlt : k < L.length
    · obtain ⟨⟨kd, x, y⟩, hs⟩ : ∃ s, L[k]? = some s := ⟨L[k], List.getElem?_eq_getElem hlt⟩
      obtain ⟨hE, hU, hP⟩ := HST.out k _ hs
      dsimp only at hE hU hP
      rcases id hrow with e | ⟨g, cur, rfl, hB, hcur⟩
      · rw [e] at hlt; simp at hlt
      obtain ⟨g0, g1, g2⟩ := cellsS_at L k _ hs
      have d0 := (hB.cell _).trans (hcur _ _ g0)
      have d1 := (hB.cell _).trans (hcur _ _ g1)
      have d2 := (hB.cell _).trans (hcur _ _ g2)
      dsimp only at d0 d1 d2
      have lg := hB.lt
      have x0 := v.cell.cell 0
      have x1 := v.cell.cell 1
      have lX := v.cell.lt
      have hkd : kd ≤ 255 := by
        unfold stepE at hE
        split at hE
        · cases hE
        · omega
      have HE := Lib.hid hE
      have HU := Lib.hid hU
      have HP := Lib.hid hP
      clear hs g0 g1 g2 hcur hE hU hP
      go_wp2_with fail
      refine absC1 fun W1 hS1 hb1 hz1 => ?_
      have v1 := v.next hb1
      have hrow1 := hrow.below hb1
      refine (mapply_any qu qp n p _ _ kd x y W1 v1.cur hkd).mono ?_
      unfold APost
      rw [HE.out, HU.out, HP.out]
      clear x0 x1 d0 d1 d2 lX lg hB
      rintro e w2 ⟨hb2, ⟨hE0, _⟩ | ⟨_, u2, p2, rfl, hc2⟩⟩
      · exact absurd rfl hE0
      have v2 := v1.next hb2
      have hrow2 := hrow1.below hb2
      have hN2 := hS1.below hb2 hS1.lt
      have f0 := v2.cell.frozen 0
      have f1 := v2.cell.frozen 1
      have x0 := v2.cell.cell 0
      have x1 := v2.cell.cell 1
      have v3 := v2.put hc2 (by rw [HML.out, HML.out])
      have hrow3 := hrow2.far2 v2.cell (ptr u2) (ptr p2)
      clear v v1 hrow hrow1 hS1 hb1 hz1 hb2 hN2
      go_wp2_with fail
      have HACC := maccess_any u2 p2 n p _ _ _ v3.cur (HTT.out.below v3.below)
      refine HACC.mono ?_
      rintro e w4' ⟨q, rfl, hq, hb4⟩
      have v4 := v3.next hb4
      have hrow4 := hrow3.below hb4
      have hq' : PM w4' q p (accM n p (momU u n p U0 P0 U1 P1 (k + 1)) (momP n p U0 P0 U1 P1 (k + 1))) := hq
      have hW1 := pm_within q hi p _ Hm w4' hq' v4.high (by rw [accM_len, HML.out, HHm.out])
      have hW2 := fun W hb => pm_within lo q p Lm _ W (v4.low.below (w' := W) hb) (hq'.below hb) (by rw [accM_len, HML.out, HLm.out])
      rw [decide_eq_true (HUP.out (k + 1))] at hW1
      have HW1 := hideC hW1
      have HW2 : Hid (∀ W, Below w4'.heap.size w4' W → _) := hideC fun W hb => by
        have := hW2 W hb
        rw [decide_eq_true (HLO.out (k + 1))] at this
        exact this
      clear v2 v3 hrow2 hrow3 hc2 hq hq' hW1 hW2 HACC f0 f1 x0 x1
      go_wp2_with fail
      refine HW1.out.mono ?_
      rintro e w5' ⟨rfl, hb5⟩
      go_wp2_with fail
      refine (HW2.out w5' hb5).mono ?_
      rintro e w6' ⟨rfl, hb6⟩
      have hb46 := hb5.trans (hb6.mono hb5.size)
      have v6 := v4.next hb46
      have hrow6 := hrow4.below hb46
      clear v4 hrow4 HW1 HW2 hb4 hb5 hb6 hb46
      go_wp2_with fail
      exact ⟨k + 1, rfl, ⟨by omega, by first | rfl | trivial, hrow6, _, _, v6⟩, by omega⟩
    · obtain rfl : k = L.length := by omega
      have x0 := v.cell.cell 0
      have x1 := v.cell.cell 1
      have y0 := v.cellE.cell 0
      have y1 := v.cellE.cell 1
      have v' := v
      rw [HEN.out.1, HEN.out.2] at v'
      have HE1 := hideC (fun W hb => pm_equal qu b1 n U1 U1 W (v'.cur.users.below (w' := W) hb) (v'.fin.users.below hb) rfl)
      have HE2 := hideC (fun W hb => pm_equal qp b2 p P1 P1 W (v'.cur.perms.below (w' := W) hb) (v'.fin.perms.below hb) rfl)
      rw [decide_eq_true rfl] at HE1 HE2
      clear v'
      go_wp2_with fail
      refine (HE1.out wr (Below.refl _ _)).mono ?_
      rintro e w9 ⟨rfl, hb9⟩
      have v9 := v.next hb9
      clear x0 x1 y0 y1
      have x0 := v9.cell.cell 0
      have x1 := v9.cell.cell 1
      have y0 := v9.cellE.cell 0
      have y1 := v9.cellE.cell 1
      go_wp2_with fail
      refine (HE2.out w9 hb9).mono ?_
      rintro e wA ⟨rfl, hbA⟩
      go_wp2_with fail
      go_ret
      exact ⟨rfl, (v9.next hbA).below⟩
end Go.Proofs.YthkjigggfeejdaaDoor
