import Derived.Test.YthkjigggfeejdaaDoorMl4
namespace Go.Proofs.YthkjigggfeejdaaDoor
open Go.RowKit

section
variable {w W W' : World} {X3 X4 u a b p : Nat} {A1 : Option Addr} {c1 : Nat} {B1 : Option Addr} {d1 : Nat} {A2 : Option Addr} {c2 : Nat} {B2 : Option Addr} {d2 : Nat} {M P M' P' : List (List Bool)}
/-- A variable with a configuration of the program's is written. -/
theorem LI.cfg2 (h : LI w W X3 X4 u a b p A1 c1 B1 d1 A2 c2 B2 d2 M P M' P') (hT : Tab w) {g : Nat} {cs : Array Value} (hB : Blk W g 38 cs) (hg : w.heap.size ≤ g) (x y : Value) : LI w (put2 W g x y) X3 X4 u a b p A1 c1 B1 d1 A2 c2 B2 d2 M P M' P' :=
  ⟨h.old.far2 (h.old.ne_ hB (by decide)) x y, h.new.far2 (h.new.ne_ hB (by decide)) x y, ⟨h.rc.users.far2 hB (by decide) (by decide) x y, h.rc.perms.far2 hB (by decide) (by decide) x y⟩, ⟨h.rc'.users.far2 hB (by decide) (by decide) x y, h.rc'.perms.far2 hB (by decide) (by decide) x y⟩, h.lM, h.lP, h.lM', h.lP', h.bd, hT.below (below_put2 h.below hg x y), below_put2 h.below hg x y⟩
/-- The joint matrices. -/
abbrev jM1 (M P P' : List (List Bool)) := jU (jn P P') (List.range P.length) M
abbrev jP1 (p : Nat) (P P' : List (List Bool)) := jP (jn P P') p (List.range P.length) P
abbrev jM2 (M' P P' : List (List Bool)) := jU (jn P P') (jl P P') M'
abbrev jP2 (p : Nat) (P P' : List (List Bool)) := jP (jn P P') p (jl P P') P'
theorem LI.joint (h : LI w W X3 X4 u a b p A1 c1 B1 d1 A2 c2 B2 d2 M P M' P') {q r q' r' : Nat} {V : World} (hb : Below W.heap.size W V) (hc : IsCfg V q r a p M P) (hc' : IsCfg V q' r' b p M' P') :
    Calls Tryd.prog 27 #[cfgV q r, cfgV q' r'] V fun e w' => ∃ a1 a2 b1 b2 A c, e = .returned (.tuple #[cfgV a1 a2, cfgV b1 b2, .slice A b c, .int .i64 0]) ∧ IsCfg w' a1 a2 (jn P P') p (jM1 M P P') (jP1 p P P') ∧ IsCfg w' b1 b2 (jn P P') p (jM2 M' P P') (jP2 p P P') ∧ Row w' A ((jl P P').map i64) ∧ Below V.heap.size V w' := by
  have := joint_any q r q' r' a b p M P M' P' V hc hc' (h.lM.trans h.lM'.symm) (by have := h.jn_le; omega) (by have := h.bd; have := h.lM; omega) (by have := h.bd; omega) (h.tab.below hb)
  rwa [h.lP'] at this
theorem LI.rjoint (h : LI w W X3 X4 u a b p A1 c1 B1 d1 A2 c2 B2 d2 M P M' P') :
    Calls Tryd.prog 39 #[rcfV a A1 u c1 p B1 a d1, rcfV b A2 u c2 p B2 b d2] W fun e w' => ∃ A3 c3 B3 d3 A4 c4 B4 d4, e = .returned (.tuple #[rcfV (jn P P') A3 u c3 p B3 (jn P P') d3, rcfV (jn P P') A4 u c4 p B4 (jn P P') d4]) ∧
      RC w' (jn P P') A3 c3 p B3 d3 (jM1 M P P') (jP1 p P P') ∧ RC w' (jn P P') A4 c4 p B4 d4 (jM2 M' P P') (jP2 p P P') ∧ Below W.heap.size W w' := by
  obtain ⟨h1, h2, h3, h4, lM, lP, lM', lP', hbd, h5, h6⟩ := h
  have hj := Go.Proofs.YthkjigggfeejdaaDoor.jn_le P P'
  subst lM lP lP'
  have := rjoint_any P.length c1 p d1 P'.length c2 d2 A1 B1 A2 B2 M P M' P' W h3.users.ref h3.perms.ref h4.users.ref h4.perms.ref rfl rfl (by omega)
  rw [lM'] at this
  exact this
theorem LI.rnumbers (h : LI w W X3 X4 u a b p A1 c1 B1 d1 A2 c2 B2 d2 M P M' P') :
    Calls Tryd.prog 41 #[rcfV a A1 u c1 p B1 a d1, rcfV b A2 u c2 p B2 b d2] W fun e w' => ∃ A c, e = .returned (.slice A b c) ∧ Row w' A ((jl P P').map i64) ∧ Below W.heap.size W w' := by
  have := rnumbers_any a u c1 p d1 b u c2 d2 A1 B1 A2 B2 P P' W h.rc.perms.ref h.rc'.perms.ref
  rwa [h.lP, h.lP'] at this
end
theorem m_keep {P : Program} {l : List Oper} {Q : Exit → Act → World → Prop} {n : Nat} {ls : Array Bool} {S : World → Prop} {a : Act} {W : World} {s : Nat} (hS : S W) (h : wpM P l Q n (ls.setIfInBounds s true) S a W) : nxt (afterM P l Q n ls S s) .normal a W :=
  ⟨S, hS, .inl fun _ h => h, h⟩
set_option maxRecDepth 100000 in
set_option maxHeartbeats 40000000 in
theorem joints_walk (v : Value) (u a b p : Nat) (zs : List Int) (w : World) (hT : Tab w) (h : IsRaw49 w v u a b p zs) :
    Calls Tryd.prog 10 #[v] w fun e w' => e = .returned (.bool true) ∧ Below w.heap.size w w' := by
  have hbd := h.bd
  have HIN := hideC h
  obtain ⟨u0, a0, b0, p0, AZ, cZ, hv, _⟩ := id h
  subst hv
  clear h
  go_enter Tryd.func10, Tryd.ntmps10
  go_wp2_with fail
  refine absC1 fun W0 hX hb0 hz => ?_
  clear hz
  refine (awake_any49 W0 (hT.below hb0)).mono ?_
  rintro e w1 ⟨rfl, hb1⟩
  have b1 := hb0.trans (hb1.mono hb0.size)
  have hX1 := hX.below hb1 hX.lt
  have x0 := hX1.cell 0
  have x1 := hX1.cell 1
  have x2 := hX1.cell 2
  have x3 := hX1.cell 3
  have x4 := hX1.cell 4
  clear hX hb0 hb1
  have HMK := hideC (rmake_any _ u a b p zs w1 (HIN.out.below b1))
  go_wp2_with fail
  refine HMK.out.mono ?_
  rintro e w2 ⟨M, P, M', P', A1, c1, B1, d1, A2, c2, B2, d2, rfl, hc, hc', lM, lP, lM', lP', hb2⟩
  have b2 := b1.trans (hb2.mono b1.size)
  clear x0 x1 x2 x3 x4 HMK hX1 hb2 b1
  go_wp2_with fail
  refine abs2 fun w3 h3 h4 hb3 hz3 => ?_
  have j : LI w w3 w2.heap.size (w2.heap.size + 1) u a b p A1 c1 B1 d1 A2 c2 B2 d2 M P M' P' := ⟨h3, h4, hc.below hb3, hc'.below hb3, lM, lP, lM', lP', hbd, hT.below (b2.trans (hb3.mono b2.size)), b2.trans (hb3.mono b2.size)⟩
  obtain ⟨X3, hX3⟩ : ∃ x, x = w2.heap.size := ⟨_, rfl⟩
  rw [← hX3] at j ⊢
  clear hX3 h3 h4 hc hc' lM lP lM' lP' hb3 hz3 b2 hbd HIN
  go_upto_region 5 with fail
  go_cut [5, 6, 7, 8] (fun s5 s6 s7 s8 wx => ∃ g5 g6 a1 a2 b1 b2 A c, s5 = ptr g5 ∧ s6 = ptr g6 ∧ s7 = .slice A b c ∧ s8 = .int .i64 0 ∧ Blk wx g5 38 #[ptr a1, ptr a2] ∧ Blk wx g6 38 #[ptr b1, ptr b2] ∧
    IsCfg wx a1 a2 (jn P P') p (jM1 M P P') (jP1 p P P') ∧ IsCfg wx b1 b2 (jn P P') p (jM2 M' P P') (jP2 p P P') ∧ Row wx A ((jl P P').map i64) ∧ LI w wx X3 (X3 + 1) u a b p A1 c1 B1 d1 A2 c2 B2 d2 M P M' P')
  case first =>
    have hd : Below w3.heap.size w3 w3.drew := (Below.refl _ _).drew
    replace j := j.next hd
    refine wp_mix (fun V => Blk V X3 31 #[.int .i64 (a : Int), .slice A1 u c1, .int .i64 (p : Int), .slice B1 a d1] ∧ Blk V (X3 + 1) 31 #[.int .i64 (b : Int), .slice A2 u c2, .int .i64 (p : Int), .slice B2 b d2]) 16 (by kernel_rfl) (by kernel_rfl) ⟨j.old, j.new⟩ ?_
    obtain ⟨wq, hwq⟩ : ∃ V, V = w3.drew := ⟨_, rfl⟩
    rw [← hwq] at hd j ⊢
    clear hwq
    (refine m_q 0 (v := ?_) (by kernel_rfl) rfl rfl (fun W hW => ?_) ?_; rotate_left; (have z0 := hW.1.cell 0; have z1 := hW.1.cell 1; have z2 := hW.1.cell 2; have z3 := hW.1.cell 3; have u0 := hW.2.cell 0; have u1 := hW.2.cell 1; have u2 := hW.2.cell 2; have u3 := hW.2.cell 3; go_simp; first | done | with_reducible rfl); simp only [Act.put, List.setIfInBounds_toArray, List.set_cons_zero, List.set_cons_succ]); (refine m_q 2 (v := ?_) (by kernel_rfl) rfl rfl (fun W hW => ?_) ?_; rotate_left; (have z0 := hW.1.cell 0; have z1 := hW.1.cell 1; have z2 := hW.1.cell 2; have z3 := hW.1.cell 3; have u0 := hW.2.cell 0; have u1 := hW.2.cell 1; have u2 := hW.2.cell 2; have u3 := hW.2.cell 3; go_simp; first | done | with_reducible rfl); simp only [Act.put, List.setIfInBounds_toArray, List.set_cons_zero, List.set_cons_succ])
    refine m_s3 1 10 11 (by kernel_rfl) rfl rfl rfl ?_ ?_ ?_
    · go_wp2_with fail
      refine j.cfgA.mono ?_
      rintro e wk1 ⟨q1, r1, rfl, hq1, hb⟩
      replace j := j.next hb
      go_wp2_with fail
      refine m_keep ⟨j.old, j.new⟩ ?_
      clear hb
      refine m_s3 3 10 11 (by kernel_rfl) rfl rfl rfl ?_ ?_ ?_
      · go_wp2_with fail
        refine j.cfgB.mono ?_
        rintro e wk2 ⟨q2, r2, rfl, hq2, hb⟩
        replace j := j.next hb; replace hq1 := hq1.below hb
        go_wp2_with fail
        refine m_keep ⟨j.old, j.new⟩ ?_
        clear hb
        refine m_s3 4 10 11 (by kernel_rfl) rfl rfl rfl ?_ ?_ ?_
        · go_wp2_with fail
          refine (j.joint (Below.refl _ _) hq1 hq2).mono ?_
          rintro e wk3 ⟨a1, a2, b1, b2, AR, cR, rfl, hca, hcb, hrow, hb⟩
          replace j := j.next hb; replace hq1 := hq1.below hb; replace hq2 := hq2.below hb
          go_wp2_with fail
          refine m_keep ⟨j.old, j.new⟩ ?_
          (refine m_q 5 (v := ?_) (by kernel_rfl) rfl rfl (fun W hW => ?_) ?_; rotate_left; (go_simp; first | done | with_reducible rfl); simp only [Act.put, List.setIfInBounds_toArray, List.set_cons_zero, List.set_cons_succ]); (refine m_q 6 (v := ?_) (by kernel_rfl) rfl rfl (fun W hW => ?_) ?_; rotate_left; (go_simp; first | done | with_reducible rfl); simp only [Act.put, List.setIfInBounds_toArray, List.set_cons_zero, List.set_cons_succ]); (refine m_q 7 (v := ?_) (by kernel_rfl) rfl rfl (fun W hW => ?_) ?_; rotate_left; (go_simp; first | done | with_reducible rfl); simp only [Act.put, List.setIfInBounds_toArray, List.set_cons_zero, List.set_cons_succ]); (refine m_q 8 (v := ?_) (by kernel_rfl) rfl rfl (fun W hW => ?_) ?_; rotate_left; (go_simp; first | done | with_reducible rfl); simp only [Act.put, List.setIfInBounds_toArray, List.set_cons_zero, List.set_cons_succ]); (refine m_q 9 (v := ?_) (by kernel_rfl) rfl rfl (fun W hW => ?_) ?_; rotate_left; (go_simp; first | done | with_reducible rfl); simp only [Act.put, List.setIfInBounds_toArray, List.set_cons_zero, List.set_cons_succ])
          clear hb
          refine m_s2 10 11 (by kernel_rfl) rfl rfl ?_ ?_
          · go_wp2_with fail
            have hB5_lo := j.below.size
            refine absN fun wk4 hB5 hb hzq => ?_
            clear hzq
            replace j := j.next hb; replace hq1 := hq1.below hb; replace hq2 := hq2.below hb; replace hca := hca.below hb; replace hcb := hcb.below hb; replace hrow := hrow.below hb
            refine m_keep ⟨j.old, j.new⟩ ?_
            generalize wk3.heap.size = g5 at hB5 hB5_lo ⊢
            clear hb
            refine m_s1 11 (by kernel_rfl) rfl ?_
            go_wp2_with fail
            have hB6_lo := j.below.size
            have hne := Nat.ne_of_lt hB5.lt
            refine absN fun wk5 hB6 hb hzq => ?_
            clear hzq
            replace j := j.next hb; replace hq1 := hq1.below hb; replace hq2 := hq2.below hb; replace hca := hca.below hb; replace hcb := hcb.below hb; replace hrow := hrow.below hb; replace hB5 := hB5.below hb hB5.lt
            refine m_keep ⟨j.old, j.new⟩ ?_
            generalize wk4.heap.size = g6 at hB6 hB6_lo hne ⊢
            clear hb
            clear hq1 hq2
            have e0 := hB5.cell 0; have e1 := hB5.cell 1; have f0 := hB5.frozen 0; have f1 := hB5.frozen 1
            have P5 := hB5.putc (ptr a1) (ptr a2); have P6 := hB6.far2 (Ne.symm hne) (ptr a1) (ptr a2)
            have J := j.cfg2 hT hB5 hB5_lo (ptr a1) (ptr a2)
            have C1 := hca.cfg2 (c := some ⟨a1, 0, none⟩) (d := some ⟨a2, 0, none⟩) hB5; have C2 := hcb.cfg2 (c := some ⟨a1, 0, none⟩) (d := some ⟨a2, 0, none⟩) hB5; have C3 := hrow.cfg2 (c := some ⟨a1, 0, none⟩) (d := some ⟨a2, 0, none⟩) hB5
            clear hB5 hB6 j hca hcb hrow
            refine m_s1 12 (by kernel_rfl) rfl ?_
            go_wp2_with fail
            refine m_keep (W := put2 wk5 g5 (ptr a1) (ptr a2)) ⟨J.old, J.new⟩ ?_
            obtain ⟨W7, hW7⟩ : ∃ W7, W7 = put2 wk5 g5 (ptr a1) (ptr a2) := ⟨_, rfl⟩
            rw [← hW7] at P5 P6 J C1 C2 C3 ⊢; clear hW7 e0 e1 f0 f1
            have e0 := P6.cell 0; have e1 := P6.cell 1; have f0 := P6.frozen 0; have f1 := P6.frozen 1
            have R6 := P6.putc (ptr b1) (ptr b2); have R5 := P5.far2 hne (ptr b1) (ptr b2)
            have XJ := J.cfg2 hT P6 hB6_lo (ptr b1) (ptr b2)
            have D1 := C1.cfg2 (c := some ⟨b1, 0, none⟩) (d := some ⟨b2, 0, none⟩) P6; have D2 := C2.cfg2 (c := some ⟨b1, 0, none⟩) (d := some ⟨b2, 0, none⟩) P6; have D3 := C3.cfg2 (c := some ⟨b1, 0, none⟩) (d := some ⟨b2, 0, none⟩) P6
            clear P5 P6 J C1 C2 C3
            refine m_s1 13 (by kernel_rfl) rfl ?_
            go_wp2_with fail
            refine m_keep (W := put2 W7 g6 (ptr b1) (ptr b2)) ⟨XJ.old, XJ.new⟩ ?_
            (refine m_q 14 (v := ?_) (by kernel_rfl) rfl rfl (fun W hW => ?_) ?_; rotate_left; (go_simp; first | done | with_reducible rfl); simp only [Act.put, List.setIfInBounds_toArray, List.set_cons_zero, List.set_cons_succ]); (refine m_q 15 (v := ?_) (by kernel_rfl) rfl rfl (fun W hW => ?_) ?_; rotate_left; (go_simp; first | done | with_reducible rfl); simp only [Act.put, List.setIfInBounds_toArray, List.set_cons_zero, List.set_cons_succ])
            refine m_end (by kernel_rfl) ?_
            go_wp2_with fail
            go_meet
            exact ⟨_, _, a1, a2, b1, b2, AR, cR, rfl, rfl, rfl, rfl, R5, R6, D1, D2, D3, XJ⟩
          · go_wp2_with fail
            have hB6_lo := j.below.size
            refine absN fun wk6 hB6 hb hzq => ?_
            clear hzq
            replace j := j.next hb; replace hq1 := hq1.below hb; replace hq2 := hq2.below hb; replace hca := hca.below hb; replace hcb := hcb.below hb; replace hrow := hrow.below hb
            refine m_keep ⟨j.old, j.new⟩ ?_
            generalize wk3.heap.size = g6 at hB6 hB6_lo ⊢
            clear hb
            refine m_s1 10 (by kernel_rfl) rfl ?_
            go_wp2_with fail
            have hB5_lo := j.below.size
            have hne := Nat.ne_of_gt hB6.lt
            refine absN fun wk7 hB5 hb hzq => ?_
            clear hzq
            replace j := j.next hb; replace hq1 := hq1.below hb; replace hq2 := hq2.below hb; replace hca := hca.below hb; replace hcb := hcb.below hb; replace hrow := hrow.below hb; replace hB6 := hB6.below hb hB6.lt
            refine m_keep ⟨j.old, j.new⟩ ?_
            generalize wk6.heap.size = g5 at hB5 hB5_lo hne ⊢
            clear hb
            clear hq1 hq2
            have e0 := hB5.cell 0; have e1 := hB5.cell 1; have f0 := hB5.frozen 0; have f1 := hB5.frozen 1
            have P5 := hB5.putc (ptr a1) (ptr a2); have P6 := hB6.far2 (Ne.symm hne) (ptr a1) (ptr a2)
            have J := j.cfg2 hT hB5 hB5_lo (ptr a1) (ptr a2)
            have C1 := hca.cfg2 (c := some ⟨a1, 0, none⟩) (d := some ⟨a2, 0, none⟩) hB5; have C2 := hcb.cfg2 (c := some ⟨a1, 0, none⟩) (d := some ⟨a2, 0, none⟩) hB5; have C3 := hrow.cfg2 (c := some ⟨a1, 0, none⟩) (d := some ⟨a2, 0, none⟩) hB5
            clear hB5 hB6 j hca hcb hrow
            refine m_s1 12 (by kernel_rfl) rfl ?_
            go_wp2_with fail
            refine m_keep (W := put2 wk7 g5 (ptr a1) (ptr a2)) ⟨J.old, J.new⟩ ?_
            obtain ⟨W7, hW7⟩ : ∃ W7, W7 = put2 wk7 g5 (ptr a1) (ptr a2) := ⟨_, rfl⟩
            rw [← hW7] at P5 P6 J C1 C2 C3 ⊢; clear hW7 e0 e1 f0 f1
            have e0 := P6.cell 0; have e1 := P6.cell 1; have f0 := P6.frozen 0; have f1 := P6.frozen 1
            have R6 := P6.putc (ptr b1) (ptr b2); have R5 := P5.far2 hne (ptr b1) (ptr b2)
            have XJ := J.cfg2 hT P6 hB6_lo (ptr b1) (ptr b2)
            have D1 := C1.cfg2 (c := some ⟨b1, 0, none⟩) (d := some ⟨b2, 0, none⟩) P6; have D2 := C2.cfg2 (c := some ⟨b1, 0, none⟩) (d := some ⟨b2, 0, none⟩) P6; have D3 := C3.cfg2 (c := some ⟨b1, 0, none⟩) (d := some ⟨b2, 0, none⟩) P6
            clear P5 P6 J C1 C2 C3
            refine m_s1 13 (by kernel_rfl) rfl ?_
            go_wp2_with fail
            refine m_keep (W := put2 W7 g6 (ptr b1) (ptr b2)) ⟨XJ.old, XJ.new⟩ ?_
            (refine m_q 14 (v := ?_) (by kernel_rfl) rfl rfl (fun W hW => ?_) ?_; rotate_left; (go_simp; first | done | with_reducible rfl); simp only [Act.put, List.setIfInBounds_toArray, List.set_cons_zero, List.set_cons_succ]); (refine m_q 15 (v := ?_) (by kernel_rfl) rfl rfl (fun W hW => ?_) ?_; rotate_left; (go_simp; first | done | with_reducible rfl); simp only [Act.put, List.setIfInBounds_toArray, List.set_cons_zero, List.set_cons_succ])
            refine m_end (by kernel_rfl) ?_
            go_wp2_with fail
            go_meet
            exact ⟨_, _, a1, a2, b1, b2, AR, cR, rfl, rfl, rfl, rfl, R5, R6, D1, D2, D3, XJ⟩
        · go_wp2_with fail
          have hB5_lo := j.below.size
          refine absN fun wk8 hB5 hb hzq => ?_
          clear hzq
          replace j := j.next hb; replace hq1 := hq1.below hb; replace hq2 := hq2.below hb
          refine m_keep ⟨j.old, j.new⟩ ?_
          generalize wk2.heap.size = g5 at hB5 hB5_lo ⊢
          clear hb
          refine m_s2 4 11 (by kernel_rfl) rfl rfl ?_ ?_
          · go_wp2_with fail
            refine (j.joint (Below.refl _ _) hq1 hq2).mono ?_
            rintro e wk9 ⟨a1, a2, b1, b2, AR, cR, rfl, hca, hcb, hrow, hb⟩
            replace j := j.next hb; replace hq1 := hq1.below hb; replace hq2 := hq2.below hb; replace hB5 := hB5.below hb hB5.lt
            go_wp2_with fail
            refine m_keep ⟨j.old, j.new⟩ ?_
            (refine m_q 5 (v := ?_) (by kernel_rfl) rfl rfl (fun W hW => ?_) ?_; rotate_left; (go_simp; first | done | with_reducible rfl); simp only [Act.put, List.setIfInBounds_toArray, List.set_cons_zero, List.set_cons_succ]); (refine m_q 6 (v := ?_) (by kernel_rfl) rfl rfl (fun W hW => ?_) ?_; rotate_left; (go_simp; first | done | with_reducible rfl); simp only [Act.put, List.setIfInBounds_toArray, List.set_cons_zero, List.set_cons_succ]); (refine m_q 7 (v := ?_) (by kernel_rfl) rfl rfl (fun W hW => ?_) ?_; rotate_left; (go_simp; first | done | with_reducible rfl); simp only [Act.put, List.setIfInBounds_toArray, List.set_cons_zero, List.set_cons_succ]); (refine m_q 8 (v := ?_) (by kernel_rfl) rfl rfl (fun W hW => ?_) ?_; rotate_left; (go_simp; first | done | with_reducible rfl); simp only [Act.put, List.setIfInBounds_toArray, List.set_cons_zero, List.set_cons_succ]); (refine m_q 9 (v := ?_) (by kernel_rfl) rfl rfl (fun W hW => ?_) ?_; rotate_left; (go_simp; first | done | with_reducible rfl); simp only [Act.put, List.setIfInBounds_toArray, List.set_cons_zero, List.set_cons_succ])
            clear hb
            refine m_s1 11 (by kernel_rfl) rfl ?_
            go_wp2_with fail
            have hB6_lo := j.below.size
            have hne := Nat.ne_of_lt hB5.lt
            refine absN fun wk10 hB6 hb hzq => ?_
            clear hzq
            replace j := j.next hb; replace hq1 := hq1.below hb; replace hq2 := hq2.below hb; replace hB5 := hB5.below hb hB5.lt; replace hca := hca.below hb; replace hcb := hcb.below hb; replace hrow := hrow.below hb
            refine m_keep ⟨j.old, j.new⟩ ?_
            generalize wk9.heap.size = g6 at hB6 hB6_lo hne ⊢
            clear hb
            clear hq1 hq2
            have e0 := hB5.cell 0; have e1 := hB5.cell 1; have f0 := hB5.frozen 0; have f1 := hB5.frozen 1
            have P5 := hB5.putc (ptr a1) (ptr a2); have P6 := hB6.far2 (Ne.symm hne) (ptr a1) (ptr a2)
            have J := j.cfg2 hT hB5 hB5_lo (ptr a1) (ptr a2)
            have C1 := hca.cfg2 (c := some ⟨a1, 0, none⟩) (d := some ⟨a2, 0, none⟩) hB5; have C2 := hcb.cfg2 (c := some ⟨a1, 0, none⟩) (d := some ⟨a2, 0, none⟩) hB5; have C3 := hrow.cfg2 (c := some ⟨a1, 0, none⟩) (d := some ⟨a2, 0, none⟩) hB5
            clear hB5 hB6 j hca hcb hrow
            refine m_s1 12 (by kernel_rfl) rfl ?_
            go_wp2_with fail
            refine m_keep (W := put2 wk10 g5 (ptr a1) (ptr a2)) ⟨J.old, J.new⟩ ?_
            obtain ⟨W7, hW7⟩ : ∃ W7, W7 = put2 wk10 g5 (ptr a1) (ptr a2) := ⟨_, rfl⟩
            rw [← hW7] at P5 P6 J C1 C2 C3 ⊢; clear hW7 e0 e1 f0 f1
            have e0 := P6.cell 0; have e1 := P6.cell 1; have f0 := P6.frozen 0; have f1 := P6.frozen 1
            have R6 := P6.putc (ptr b1) (ptr b2); have R5 := P5.far2 hne (ptr b1) (ptr b2)
            have XJ := J.cfg2 hT P6 hB6_lo (ptr b1) (ptr b2)
            have D1 := C1.cfg2 (c := some ⟨b1, 0, none⟩) (d := some ⟨b2, 0, none⟩) P6; have D2 := C2.cfg2 (c := some ⟨b1, 0, none⟩) (d := some ⟨b2, 0, none⟩) P6; have D3 := C3.cfg2 (c := some ⟨b1, 0, none⟩) (d := some ⟨b2, 0, none⟩) P6
            clear P5 P6 J C1 C2 C3
            refine m_s1 13 (by kernel_rfl) rfl ?_
            go_wp2_with fail
            refine m_keep (W := put2 W7 g6 (ptr b1) (ptr b2)) ⟨XJ.old, XJ.new⟩ ?_
            (refine m_q 14 (v := ?_) (by kernel_rfl) rfl rfl (fun W hW => ?_) ?_; rotate_left; (go_simp; first | done | with_reducible rfl); simp only [Act.put, List.setIfInBounds_toArray, List.set_cons_zero, List.set_cons_succ]); (refine m_q 15 (v := ?_) (by kernel_rfl) rfl rfl (fun W hW => ?_) ?_; rotate_left; (go_simp; first | done | with_reducible rfl); simp only [Act.put, List.setIfInBounds_toArray, List.set_cons_zero, List.set_cons_succ])
            refine m_end (by kernel_rfl) ?_
            go_wp2_with fail
            go_meet
            exact ⟨_, _, a1, a2, b1, b2, AR, cR, rfl, rfl, rfl, rfl, R5, R6, D1, D2, D3, XJ⟩
          · go_wp2_with fail
            have hB6_lo := j.below.size
            have hne := Nat.ne_of_lt hB5.lt
            refine absN fun wk11 hB6 hb hzq => ?_
            clear hzq
            replace j := j.next hb; replace hq1 := hq1.below hb; replace hq2 := hq2.below hb; replace hB5 := hB5.below hb hB5.lt
            refine m_keep ⟨j.old, j.new⟩ ?_
            generalize wk8.heap.size = g6 at hB6 hB6_lo hne ⊢
            clear hb
            refine m_s1 4 (by kernel_rfl) rfl ?_
            go_wp2_with fail
            refine (j.joint (Below.refl _ _) hq1 hq2).mono ?_
            rintro e wk12 ⟨a1, a2, b1, b2, AR, cR, rfl, hca, hcb, hrow, hb⟩
            replace j := j.next hb; replace hq1 := hq1.below hb; replace hq2 := hq2.below hb; replace hB5 := hB5.below hb hB5.lt; replace hB6 := hB6.below hb hB6.lt
            go_wp2_with fail
            refine m_keep ⟨j.old, j.new⟩ ?_
            (refine m_q 5 (v := ?_) (by kernel_rfl) rfl rfl (fun W hW => ?_) ?_; rotate_left; (go_simp; first | done | with_reducible rfl); simp only [Act.put, List.setIfInBounds_toArray, List.set_cons_zero, List.set_cons_succ]); (refine m_q 6 (v := ?_) (by kernel_rfl) rfl rfl (fun W hW => ?_) ?_; rotate_left; (go_simp; first | done | with_reducible rfl); simp only [Act.put, List.setIfInBounds_toArray, List.set_cons_zero, List.set_cons_succ]); (refine m_q 7 (v := ?_) (by kernel_rfl) rfl rfl (fun W hW => ?_) ?_; rotate_left; (go_simp; first | done | with_reducible rfl); simp only [Act.put, List.setIfInBounds_toArray, List.set_cons_zero, List.set_cons_succ]); (refine m_q 8 (v := ?_) (by kernel_rfl) rfl rfl (fun W hW => ?_) ?_; rotate_left; (go_simp; first | done | with_reducible rfl); simp only [Act.put, List.setIfInBounds_toArray, List.set_cons_zero, List.set_cons_succ]); (refine m_q 9 (v := ?_) (by kernel_rfl) rfl rfl (fun W hW => ?_) ?_; rotate_left; (go_simp; first | done | with_reducible rfl); simp only [Act.put, List.setIfInBounds_toArray, List.set_cons_zero, List.set_cons_succ])
            clear hb
            clear hq1 hq2
            have e0 := hB5.cell 0; have e1 := hB5.cell 1; have f0 := hB5.frozen 0; have f1 := hB5.frozen 1
            have P5 := hB5.putc (ptr a1) (ptr a2); have P6 := hB6.far2 (Ne.symm hne) (ptr a1) (ptr a2)
            have J := j.cfg2 hT hB5 hB5_lo (ptr a1) (ptr a2)
            have C1 := hca.cfg2 (c := some ⟨a1, 0, none⟩) (d := some ⟨a2, 0, none⟩) hB5; have C2 := hcb.cfg2 (c := some ⟨a1, 0, none⟩) (d := some ⟨a2, 0, none⟩) hB5; have C3 := hrow.cfg2 (c := some ⟨a1, 0, none⟩) (d := some ⟨a2, 0, none⟩) hB5
            clear hB5 hB6 j hca hcb hrow
            refine m_s1 12 (by kernel_rfl) rfl ?_
            go_wp2_with fail
            refine m_keep (W := put2 wk12 g5 (ptr a1) (ptr a2)) ⟨J.old, J.new⟩ ?_
            obtain ⟨W7, hW7⟩ : ∃ W7, W7 = put2 wk12 g5 (ptr a1) (ptr a2) := ⟨_, rfl⟩
            rw [← hW7] at P5 P6 J C1 C2 C3 ⊢; clear hW7 e0 e1 f0 f1
            have e0 := P6.cell 0; have e1 := P6.cell 1; have f0 := P6.frozen 0; have f1 := P6.frozen 1
            have R6 := P6.putc (ptr b1) (ptr b2); have R5 := P5.far2 hne (ptr b1) (ptr b2)
            have XJ := J.cfg2 hT P6 hB6_lo (ptr b1) (ptr b2)
            have D1 := C1.cfg2 (c := some ⟨b1, 0, none⟩) (d := some ⟨b2, 0, none⟩) P6; have D2 := C2.cfg2 (c := some ⟨b1, 0, none⟩) (d := some ⟨b2, 0, none⟩) P6; have D3 := C3.cfg2 (c := some ⟨b1, 0, none⟩) (d := some ⟨b2, 0, none⟩) P6
            clear P5 P6 J C1 C2 C3
            refine m_s1 13 (by kernel_rfl) rfl ?_
            go_wp2_with fail
            refine m_keep (W := put2 W7 g6 (ptr b1) (ptr b2)) ⟨XJ.old, XJ.new⟩ ?_
            (refine m_q 14 (v := ?_) (by kernel_rfl) rfl rfl (fun W hW => ?_) ?_; rotate_left; (go_simp; first | done | with_reducible rfl); simp only [Act.put, List.setIfInBounds_toArray, List.set_cons_zero, List.set_cons_succ]); (refine m_q 15 (v := ?_) (by kernel_rfl) rfl rfl (fun W hW => ?_) ?_; rotate_left; (go_simp; first | done | with_reducible rfl); simp only [Act.put, List.setIfInBounds_toArray, List.set_cons_zero, List.set_cons_succ])
            refine m_end (by kernel_rfl) ?_
            go_wp2_with fail
            go_meet
            exact ⟨_, _, a1, a2, b1, b2, AR, cR, rfl, rfl, rfl, rfl, R5, R6, D1, D2, D3, XJ⟩
        · go_wp2_with fail
          have hB6_lo := j.below.size
          refine absN fun wk13 hB6 hb hzq => ?_
          clear hzq
          replace j := j.next hb; replace hq1 := hq1.below hb; replace hq2 := hq2.below hb
          refine m_keep ⟨j.old, j.new⟩ ?_
          generalize wk2.heap.size = g6 at hB6 hB6_lo ⊢
          clear hb
          refine m_s2 4 10 (by kernel_rfl) rfl rfl ?_ ?_
          · go_wp2_with fail
            refine (j.joint (Below.refl _ _) hq1 hq2).mono ?_
            rintro e wk14 ⟨a1, a2, b1, b2, AR, cR, rfl, hca, hcb, hrow, hb⟩
            replace j := j.next hb; replace hq1 := hq1.below hb; replace hq2 := hq2.below hb; replace hB6 := hB6.below hb hB6.lt
            go_wp2_with fail
            refine m_keep ⟨j.old, j.new⟩ ?_
            (refine m_q 5 (v := ?_) (by kernel_rfl) rfl rfl (fun W hW => ?_) ?_; rotate_left; (go_simp; first | done | with_reducible rfl); simp only [Act.put, List.setIfInBounds_toArray, List.set_cons_zero, List.set_cons_succ]); (refine m_q 6 (v := ?_) (by kernel_rfl) rfl rfl (fun W hW => ?_) ?_; rotate_left; (go_simp; first | done | with_reducible rfl); simp only [Act.put, List.setIfInBounds_toArray, List.set_cons_zero, List.set_cons_succ]); (refine m_q 7 (v := ?_) (by kernel_rfl) rfl rfl (fun W hW => ?_) ?_; rotate_left; (go_simp; first | done | with_reducible rfl); simp only [Act.put, List.setIfInBounds_toArray, List.set_cons_zero, List.set_cons_succ]); (refine m_q 8 (v := ?_) (by kernel_rfl) rfl rfl (fun W hW => ?_) ?_; rotate_left; (go_simp; first | done | with_reducible rfl); simp only [Act.put, List.setIfInBounds_toArray, List.set_cons_zero, List.set_cons_succ]); (refine m_q 9 (v := ?_) (by kernel_rfl) rfl rfl (fun W hW => ?_) ?_; rotate_left; (go_simp; first | done | with_reducible rfl); simp only [Act.put, List.setIfInBounds_toArray, List.set_cons_zero, List.set_cons_succ])
            clear hb
            refine m_s1 10 (by kernel_rfl) rfl ?_
            go_wp2_with fail
            have hB5_lo := j.below.size
            have hne := Nat.ne_of_gt hB6.lt
            refine absN fun wk15 hB5 hb hzq => ?_
            clear hzq
            replace j := j.next hb; replace hq1 := hq1.below hb; replace hq2 := hq2.below hb; replace hB6 := hB6.below hb hB6.lt; replace hca := hca.below hb; replace hcb := hcb.below hb; replace hrow := hrow.below hb
            refine m_keep ⟨j.old, j.new⟩ ?_
            generalize wk14.heap.size = g5 at hB5 hB5_lo hne ⊢
            clear hb
            clear hq1 hq2
            have e0 := hB5.cell 0; have e1 := hB5.cell 1; have f0 := hB5.frozen 0; have f1 := hB5.frozen 1
            have P5 := hB5.putc (ptr a1) (ptr a2); have P6 := hB6.far2 (Ne.symm hne) (ptr a1) (ptr a2)
            have J := j.cfg2 hT hB5 hB5_lo (ptr a1) (ptr a2)
            have C1 := hca.cfg2 (c := some ⟨a1, 0, none⟩) (d := some ⟨a2, 0, none⟩) hB5; have C2 := hcb.cfg2 (c := some ⟨a1, 0, none⟩) (d := some ⟨a2, 0, none⟩) hB5; have C3 := hrow.cfg2 (c := some ⟨a1, 0, none⟩) (d := some ⟨a2, 0, none⟩) hB5
            clear hB5 hB6 j hca hcb hrow
            refine m_s1 12 (by kernel_rfl) rfl ?_
            go_wp2_with fail
            refine m_keep (W := put2 wk15 g5 (ptr a1) (ptr a2)) ⟨J.old, J.new⟩ ?_
            obtain ⟨W7, hW7⟩ : ∃ W7, W7 = put2 wk15 g5 (ptr a1) (ptr a2) := ⟨_, rfl⟩
            rw [← hW7] at P5 P6 J C1 C2 C3 ⊢; clear hW7 e0 e1 f0 f1
            have e0 := P6.cell 0; have e1 := P6.cell 1; have f0 := P6.frozen 0; have f1 := P6.frozen 1
            have R6 := P6.putc (ptr b1) (ptr b2); have R5 := P5.far2 hne (ptr b1) (ptr b2)
            have XJ := J.cfg2 hT P6 hB6_lo (ptr b1) (ptr b2)
            have D1 := C1.cfg2 (c := some ⟨b1, 0, none⟩) (d := some ⟨b2, 0, none⟩) P6; have D2 := C2.cfg2 (c := some ⟨b1, 0, none⟩) (d := some ⟨b2, 0, none⟩) P6; have D3 := C3.cfg2 (c := some ⟨b1, 0, none⟩) (d := some ⟨b2, 0, none⟩) P6
            clear P5 P6 J C1 C2 C3
            refine m_s1 13 (by kernel_rfl) rfl ?_
            go_wp2_with fail
            refine m_keep (W := put2 W7 g6 (ptr b1) (ptr b2)) ⟨XJ.old, XJ.new⟩ ?_
            (refine m_q 14 (v := ?_) (by kernel_rfl) rfl rfl (fun W hW => ?_) ?_; rotate_left; (go_simp; first | done | with_reducible rfl); simp only [Act.put, List.setIfInBounds_toArray, List.set_cons_zero, List.set_cons_succ]); (refine m_q 15 (v := ?_) (by kernel_rfl) rfl rfl (fun W hW => ?_) ?_; rotate_left; (go_simp; first | done | with_reducible rfl); simp only [Act.put, List.setIfInBounds_toArray, List.set_cons_zero, List.set_cons_succ])
            refine m_end (by kernel_rfl) ?_
            go_wp2_with fail
            go_meet
            exact ⟨_, _, a1, a2, b1, b2, AR, cR, rfl, rfl, rfl, rfl, R5, R6, D1, D2, D3, XJ⟩
          · go_wp2_with fail
            have hB5_lo := j.below.size
            have hne := Nat.ne_of_gt hB6.lt
            refine absN fun wk16 hB5 hb hzq => ?_
            clear hzq
            replace j := j.next hb; replace hq1 := hq1.below hb; replace hq2 := hq2.below hb; replace hB6 := hB6.below hb hB6.lt
            refine m_keep ⟨j.old, j.new⟩ ?_
            generalize wk13.heap.size = g5 at hB5 hB5_lo hne ⊢
            clear hb
            refine m_s1 4 (by kernel_rfl) rfl ?_
            go_wp2_with fail
            refine (j.joint (Below.refl _ _) hq1 hq2).mono ?_
            rintro e wk17 ⟨a1, a2, b1, b2, AR, cR, rfl, hca, hcb, hrow, hb⟩
            replace j := j.next hb; replace hq1 := hq1.below hb; replace hq2 := hq2.below hb; replace hB6 := hB6.below hb hB6.lt; replace hB5 := hB5.below hb hB5.lt
            go_wp2_with fail
            refine m_keep ⟨j.old, j.new⟩ ?_
            (refine m_q 5 (v := ?_) (by kernel_rfl) rfl rfl (fun W hW => ?_) ?_; rotate_left; (go_simp; first | done | with_reducible rfl); simp only [Act.put, List.setIfInBounds_toArray, List.set_cons_zero, List.set_cons_succ]); (refine m_q 6 (v := ?_) (by kernel_rfl) rfl rfl (fun W hW => ?_) ?_; rotate_left; (go_simp; first | done | with_reducible rfl); simp only [Act.put, List.setIfInBounds_toArray, List.set_cons_zero, List.set_cons_succ]); (refine m_q 7 (v := ?_) (by kernel_rfl) rfl rfl (fun W hW => ?_) ?_; rotate_left; (go_simp; first | done | with_reducible rfl); simp only [Act.put, List.setIfInBounds_toArray, List.set_cons_zero, List.set_cons_succ]); (refine m_q 8 (v := ?_) (by kernel_rfl) rfl rfl (fun W hW => ?_) ?_; rotate_left; (go_simp; first | done | with_reducible rfl); simp only [Act.put, List.setIfInBounds_toArray, List.set_cons_zero, List.set_cons_succ]); (refine m_q 9 (v := ?_) (by kernel_rfl) rfl rfl (fun W hW => ?_) ?_; rotate_left; (go_simp; first | done | with_reducible rfl); simp only [Act.put, List.setIfInBounds_toArray, List.set_cons_zero, List.set_cons_succ])
            clear hb
            clear hq1 hq2
            have e0 := hB5.cell 0; have e1 := hB5.cell 1; have f0 := hB5.frozen 0; have f1 := hB5.frozen 1
            have P5 := hB5.putc (ptr a1) (ptr a2); have P6 := hB6.far2 (Ne.symm hne) (ptr a1) (ptr a2)
            have J := j.cfg2 hT hB5 hB5_lo (ptr a1) (ptr a2)
            have C1 := hca.cfg2 (c := some ⟨a1, 0, none⟩) (d := some ⟨a2, 0, none⟩) hB5; have C2 := hcb.cfg2 (c := some ⟨a1, 0, none⟩) (d := some ⟨a2, 0, none⟩) hB5; have C3 := hrow.cfg2 (c := some ⟨a1, 0, none⟩) (d := some ⟨a2, 0, none⟩) hB5
            clear hB5 hB6 j hca hcb hrow
            refine m_s1 12 (by kernel_rfl) rfl ?_
            go_wp2_with fail
            refine m_keep (W := put2 wk17 g5 (ptr a1) (ptr a2)) ⟨J.old, J.new⟩ ?_
            obtain ⟨W7, hW7⟩ : ∃ W7, W7 = put2 wk17 g5 (ptr a1) (ptr a2) := ⟨_, rfl⟩
            rw [← hW7] at P5 P6 J C1 C2 C3 ⊢; clear hW7 e0 e1 f0 f1
            have e0 := P6.cell 0; have e1 := P6.cell 1; have f0 := P6.frozen 0; have f1 := P6.frozen 1
            have R6 := P6.putc (ptr b1) (ptr b2); have R5 := P5.far2 hne (ptr b1) (ptr b2)
            have XJ := J.cfg2 hT P6 hB6_lo (ptr b1) (ptr b2)
            have D1 := C1.cfg2 (c := some ⟨b1, 0, none⟩) (d := some ⟨b2, 0, none⟩) P6; have D2 := C2.cfg2 (c := some ⟨b1, 0, none⟩) (d := some ⟨b2, 0, none⟩) P6; have D3 := C3.cfg2 (c := some ⟨b1, 0, none⟩) (d := some ⟨b2, 0, none⟩) P6
            clear P5 P6 J C1 C2 C3
            refine m_s1 13 (by kernel_rfl) rfl ?_
            go_wp2_with fail
            refine m_keep (W := put2 W7 g6 (ptr b1) (ptr b2)) ⟨XJ.old, XJ.new⟩ ?_
            (refine m_q 14 (v := ?_) (by kernel_rfl) rfl rfl (fun W hW => ?_) ?_; rotate_left; (go_simp; first | done | with_reducible rfl); simp only [Act.put, List.setIfInBounds_toArray, List.set_cons_zero, List.set_cons_succ]); (refine m_q 15 (v := ?_) (by kernel_rfl) rfl rfl (fun W hW => ?_) ?_; rotate_left; (go_simp; first | done | with_reducible rfl); simp only [Act.put, List.setIfInBounds_toArray, List.set_cons_zero, List.set_cons_succ])
            refine m_end (by kernel_rfl) ?_
            go_wp2_with fail
            go_meet
            exact ⟨_, _, a1, a2, b1, b2, AR, cR, rfl, rfl, rfl, rfl, R5, R6, D1, D2, D3, XJ⟩
      · go_wp2_with fail
        have hB5_lo := j.below.size
        refine absN fun wk18 hB5 hb hzq => ?_
        clear hzq
        replace j := j.next hb; replace hq1 := hq1.below hb
        refine m_keep ⟨j.old, j.new⟩ ?_
        generalize wk1.heap.size = g5 at hB5 hB5_lo ⊢
        clear hb
        refine m_s2 3 11 (by kernel_rfl) rfl rfl ?_ ?_
        · go_wp2_with fail
          refine j.cfgB.mono ?_
          rintro e wk19 ⟨q2, r2, rfl, hq2, hb⟩
          replace j := j.next hb; replace hq1 := hq1.below hb; replace hB5 := hB5.below hb hB5.lt
          go_wp2_with fail
          refine m_keep ⟨j.old, j.new⟩ ?_
          clear hb
          refine m_s2 4 11 (by kernel_rfl) rfl rfl ?_ ?_
          · go_wp2_with fail
            refine (j.joint (Below.refl _ _) hq1 hq2).mono ?_
            rintro e wk20 ⟨a1, a2, b1, b2, AR, cR, rfl, hca, hcb, hrow, hb⟩
            replace j := j.next hb; replace hq1 := hq1.below hb; replace hB5 := hB5.below hb hB5.lt; replace hq2 := hq2.below hb
            go_wp2_with fail
            refine m_keep ⟨j.old, j.new⟩ ?_
            (refine m_q 5 (v := ?_) (by kernel_rfl) rfl rfl (fun W hW => ?_) ?_; rotate_left; (go_simp; first | done | with_reducible rfl); simp only [Act.put, List.setIfInBounds_toArray, List.set_cons_zero, List.set_cons_succ]); (refine m_q 6 (v := ?_) (by kernel_rfl) rfl rfl (fun W hW => ?_) ?_; rotate_left; (go_simp; first | done | with_reducible rfl); simp only [Act.put, List.setIfInBounds_toArray, List.set_cons_zero, List.set_cons_succ]); (refine m_q 7 (v := ?_) (by kernel_rfl) rfl rfl (fun W hW => ?_) ?_; rotate_left; (go_simp; first | done | with_reducible rfl); simp only [Act.put, List.setIfInBounds_toArray, List.set_cons_zero, List.set_cons_succ]); (refine m_q 8 (v := ?_) (by kernel_rfl) rfl rfl (fun W hW => ?_) ?_; rotate_left; (go_simp; first | done | with_reducible rfl); simp only [Act.put, List.setIfInBounds_toArray, List.set_cons_zero, List.set_cons_succ]); (refine m_q 9 (v := ?_) (by kernel_rfl) rfl rfl (fun W hW => ?_) ?_; rotate_left; (go_simp; first | done | with_reducible rfl); simp only [Act.put, List.setIfInBounds_toArray, List.set_cons_zero, List.set_cons_succ])
            clear hb
            refine m_s1 11 (by kernel_rfl) rfl ?_
            go_wp2_with fail
            have hB6_lo := j.below.size
            have hne := Nat.ne_of_lt hB5.lt
            refine absN fun wk21 hB6 hb hzq => ?_
            clear hzq
            replace j := j.next hb; replace hq1 := hq1.below hb; replace hB5 := hB5.below hb hB5.lt; replace hq2 := hq2.below hb; replace hca := hca.below hb; replace hcb := hcb.below hb; replace hrow := hrow.below hb
            refine m_keep ⟨j.old, j.new⟩ ?_
            generalize wk20.heap.size = g6 at hB6 hB6_lo hne ⊢
            clear hb
            clear hq1 hq2
            have e0 := hB5.cell 0; have e1 := hB5.cell 1; have f0 := hB5.frozen 0; have f1 := hB5.frozen 1
            have P5 := hB5.putc (ptr a1) (ptr a2); have P6 := hB6.far2 (Ne.symm hne) (ptr a1) (ptr a2)
            have J := j.cfg2 hT hB5 hB5_lo (ptr a1) (ptr a2)
            have C1 := hca.cfg2 (c := some ⟨a1, 0, none⟩) (d := some ⟨a2, 0, none⟩) hB5; have C2 := hcb.cfg2 (c := some ⟨a1, 0, none⟩) (d := some ⟨a2, 0, none⟩) hB5; have C3 := hrow.cfg2 (c := some ⟨a1, 0, none⟩) (d := some ⟨a2, 0, none⟩) hB5
            clear hB5 hB6 j hca hcb hrow
            refine m_s1 12 (by kernel_rfl) rfl ?_
            go_wp2_with fail
            refine m_keep (W := put2 wk21 g5 (ptr a1) (ptr a2)) ⟨J.old, J.new⟩ ?_
            obtain ⟨W7, hW7⟩ : ∃ W7, W7 = put2 wk21 g5 (ptr a1) (ptr a2) := ⟨_, rfl⟩
            rw [← hW7] at P5 P6 J C1 C2 C3 ⊢; clear hW7 e0 e1 f0 f1
            have e0 := P6.cell 0; have e1 := P6.cell 1; have f0 := P6.frozen 0; have f1 := P6.frozen 1
            have R6 := P6.putc (ptr b1) (ptr b2); have R5 := P5.far2 hne (ptr b1) (ptr b2)
            have XJ := J.cfg2 hT P6 hB6_lo (ptr b1) (ptr b2)
            have D1 := C1.cfg2 (c := some ⟨b1, 0, none⟩) (d := some ⟨b2, 0, none⟩) P6; have D2 := C2.cfg2 (c := some ⟨b1, 0, none⟩) (d := some ⟨b2, 0, none⟩) P6; have D3 := C3.cfg2 (c := some ⟨b1, 0, none⟩) (d := some ⟨b2, 0, none⟩) P6
            clear P5 P6 J C1 C2 C3
            refine m_s1 13 (by kernel_rfl) rfl ?_
            go_wp2_with fail
            refine m_keep (W := put2 W7 g6 (ptr b1) (ptr b2)) ⟨XJ.old, XJ.new⟩ ?_
            (refine m_q 14 (v := ?_) (by kernel_rfl) rfl rfl (fun W hW => ?_) ?_; rotate_left; (go_simp; first | done | with_reducible rfl); simp only [Act.put, List.setIfInBounds_toArray, List.set_cons_zero, List.set_cons_succ]); (refine m_q 15 (v := ?_) (by kernel_rfl) rfl rfl (fun W hW => ?_) ?_; rotate_left; (go_simp; first | done | with_reducible rfl); simp only [Act.put, List.setIfInBounds_toArray, List.set_cons_zero, List.set_cons_succ])
            refine m_end (by kernel_rfl) ?_
            go_wp2_with fail
            go_meet
            exact ⟨_, _, a1, a2, b1, b2, AR, cR, rfl, rfl, rfl, rfl, R5, R6, D1, D2, D3, XJ⟩
          · go_wp2_with fail
            have hB6_lo := j.below.size
            have hne := Nat.ne_of_lt hB5.lt
            refine absN fun wk22 hB6 hb hzq => ?_
            clear hzq
            replace j := j.next hb; replace hq1 := hq1.below hb; replace hB5 := hB5.below hb hB5.lt; replace hq2 := hq2.below hb
            refine m_keep ⟨j.old, j.new⟩ ?_
            generalize wk19.heap.size = g6 at hB6 hB6_lo hne ⊢
            clear hb
            refine m_s1 4 (by kernel_rfl) rfl ?_
            go_wp2_with fail
            refine (j.joint (Below.refl _ _) hq1 hq2).mono ?_
            rintro e wk23 ⟨a1, a2, b1, b2, AR, cR, rfl, hca, hcb, hrow, hb⟩
            replace j := j.next hb; replace hq1 := hq1.below hb; replace hB5 := hB5.below hb hB5.lt; replace hq2 := hq2.below hb; replace hB6 := hB6.below hb hB6.lt
            go_wp2_with fail
            refine m_keep ⟨j.old, j.new⟩ ?_
            (refine m_q 5 (v := ?_) (by kernel_rfl) rfl rfl (fun W hW => ?_) ?_; rotate_left; (go_simp; first | done | with_reducible rfl); simp only [Act.put, List.setIfInBounds_toArray, List.set_cons_zero, List.set_cons_succ]); (refine m_q 6 (v := ?_) (by kernel_rfl) rfl rfl (fun W hW => ?_) ?_; rotate_left; (go_simp; first | done | with_reducible rfl); simp only [Act.put, List.setIfInBounds_toArray, List.set_cons_zero, List.set_cons_succ]); (refine m_q 7 (v := ?_) (by kernel_rfl) rfl rfl (fun W hW => ?_) ?_; rotate_left; (go_simp; first | done | with_reducible rfl); simp only [Act.put, List.setIfInBounds_toArray, List.set_cons_zero, List.set_cons_succ]); (refine m_q 8 (v := ?_) (by kernel_rfl) rfl rfl (fun W hW => ?_) ?_; rotate_left; (go_simp; first | done | with_reducible rfl); simp only [Act.put, List.setIfInBounds_toArray, List.set_cons_zero, List.set_cons_succ]); (refine m_q 9 (v := ?_) (by kernel_rfl) rfl rfl (fun W hW => ?_) ?_; rotate_left; (go_simp; first | done | with_reducible rfl); simp only [Act.put, List.setIfInBounds_toArray, List.set_cons_zero, List.set_cons_succ])
            clear hb
            clear hq1 hq2
            have e0 := hB5.cell 0; have e1 := hB5.cell 1; have f0 := hB5.frozen 0; have f1 := hB5.frozen 1
            have P5 := hB5.putc (ptr a1) (ptr a2); have P6 := hB6.far2 (Ne.symm hne) (ptr a1) (ptr a2)
            have J := j.cfg2 hT hB5 hB5_lo (ptr a1) (ptr a2)
            have C1 := hca.cfg2 (c := some ⟨a1, 0, none⟩) (d := some ⟨a2, 0, none⟩) hB5; have C2 := hcb.cfg2 (c := some ⟨a1, 0, none⟩) (d := some ⟨a2, 0, none⟩) hB5; have C3 := hrow.cfg2 (c := some ⟨a1, 0, none⟩) (d := some ⟨a2, 0, none⟩) hB5
            clear hB5 hB6 j hca hcb hrow
            refine m_s1 12 (by kernel_rfl) rfl ?_
            go_wp2_with fail
            refine m_keep (W := put2 wk23 g5 (ptr a1) (ptr a2)) ⟨J.old, J.new⟩ ?_
            obtain ⟨W7, hW7⟩ : ∃ W7, W7 = put2 wk23 g5 (ptr a1) (ptr a2) := ⟨_, rfl⟩
            rw [← hW7] at P5 P6 J C1 C2 C3 ⊢; clear hW7 e0 e1 f0 f1
            have e0 := P6.cell 0; have e1 := P6.cell 1; have f0 := P6.frozen 0; have f1 := P6.frozen 1
            have R6 := P6.putc (ptr b1) (ptr b2); have R5 := P5.far2 hne (ptr b1) (ptr b2)
            have XJ := J.cfg2 hT P6 hB6_lo (ptr b1) (ptr b2)
            have D1 := C1.cfg2 (c := some ⟨b1, 0, none⟩) (d := some ⟨b2, 0, none⟩) P6; have D2 := C2.cfg2 (c := some ⟨b1, 0, none⟩) (d := some ⟨b2, 0, none⟩) P6; have D3 := C3.cfg2 (c := some ⟨b1, 0, none⟩) (d := some ⟨b2, 0, none⟩) P6
            clear P5 P6 J C1 C2 C3
            refine m_s1 13 (by kernel_rfl) rfl ?_
            go_wp2_with fail
            refine m_keep (W := put2 W7 g6 (ptr b1) (ptr b2)) ⟨XJ.old, XJ.new⟩ ?_
            (refine m_q 14 (v := ?_) (by kernel_rfl) rfl rfl (fun W hW => ?_) ?_; rotate_left; (go_simp; first | done | with_reducible rfl); simp only [Act.put, List.setIfInBounds_toArray, List.set_cons_zero, List.set_cons_succ]); (refine m_q 15 (v := ?_) (by kernel_rfl) rfl rfl (fun W hW => ?_) ?_; rotate_left; (go_simp; first | done | with_reducible rfl); simp only [Act.put, List.setIfInBounds_toArray, List.set_cons_zero, List.set_cons_succ])
            refine m_end (by kernel_rfl) ?_
            go_wp2_with fail
            go_meet
            exact ⟨_, _, a1, a2, b1, b2, AR, cR, rfl, rfl, rfl, rfl, R5, R6, D1, D2, D3, XJ⟩
        · go_wp2_with fail
          have hB6_lo := j.below.size
          have hne := Nat.ne_of_lt hB5.lt
          refine absN fun wk24 hB6 hb hzq => ?_
          clear hzq
          replace j := j.next hb; replace hq1 := hq1.below hb; replace hB5 := hB5.below hb hB5.lt
          refine m_keep ⟨j.old, j.new⟩ ?_
          generalize wk18.heap.size = g6 at hB6 hB6_lo hne ⊢
          clear hb
          refine m_s1 3 (by kernel_rfl) rfl ?_
          go_wp2_with fail
          refine j.cfgB.mono ?_
          rintro e wk25 ⟨q2, r2, rfl, hq2, hb⟩
          replace j := j.next hb; replace hq1 := hq1.below hb; replace hB5 := hB5.below hb hB5.lt; replace hB6 := hB6.below hb hB6.lt
          go_wp2_with fail
          refine m_keep ⟨j.old, j.new⟩ ?_
          clear hb
          refine m_s1 4 (by kernel_rfl) rfl ?_
          go_wp2_with fail
          refine (j.joint (Below.refl _ _) hq1 hq2).mono ?_
          rintro e wk26 ⟨a1, a2, b1, b2, AR, cR, rfl, hca, hcb, hrow, hb⟩
          replace j := j.next hb; replace hq1 := hq1.below hb; replace hB5 := hB5.below hb hB5.lt; replace hB6 := hB6.below hb hB6.lt; replace hq2 := hq2.below hb
          go_wp2_with fail
          refine m_keep ⟨j.old, j.new⟩ ?_
          (refine m_q 5 (v := ?_) (by kernel_rfl) rfl rfl (fun W hW => ?_) ?_; rotate_left; (go_simp; first | done | with_reducible rfl); simp only [Act.put, List.setIfInBounds_toArray, List.set_cons_zero, List.set_cons_succ]); (refine m_q 6 (v := ?_) (by kernel_rfl) rfl rfl (fun W hW => ?_) ?_; rotate_left; (go_simp; first | done | with_reducible rfl); simp only [Act.put, List.setIfInBounds_toArray, List.set_cons_zero, List.set_cons_succ]); (refine m_q 7 (v := ?_) (by kernel_rfl) rfl rfl (fun W hW => ?_) ?_; rotate_left; (go_simp; first | done | with_reducible rfl); simp only [Act.put, List.setIfInBounds_toArray, List.set_cons_zero, List.set_cons_succ]); (refine m_q 8 (v := ?_) (by kernel_rfl) rfl rfl (fun W hW => ?_) ?_; rotate_left; (go_simp; first | done | with_reducible rfl); simp only [Act.put, List.setIfInBounds_toArray, List.set_cons_zero, List.set_cons_succ]); (refine m_q 9 (v := ?_) (by kernel_rfl) rfl rfl (fun W hW => ?_) ?_; rotate_left; (go_simp; first | done | with_reducible rfl); simp only [Act.put, List.setIfInBounds_toArray, List.set_cons_zero, List.set_cons_succ])
          clear hb
          clear hq1 hq2
          have e0 := hB5.cell 0; have e1 := hB5.cell 1; have f0 := hB5.frozen 0; have f1 := hB5.frozen 1
          have P5 := hB5.putc (ptr a1) (ptr a2); have P6 := hB6.far2 (Ne.symm hne) (ptr a1) (ptr a2)
          have J := j.cfg2 hT hB5 hB5_lo (ptr a1) (ptr a2)
          have C1 := hca.cfg2 (c := some ⟨a1, 0, none⟩) (d := some ⟨a2, 0, none⟩) hB5; have C2 := hcb.cfg2 (c := some ⟨a1, 0, none⟩) (d := some ⟨a2, 0, none⟩) hB5; have C3 := hrow.cfg2 (c := some ⟨a1, 0, none⟩) (d := some ⟨a2, 0, none⟩) hB5
          clear hB5 hB6 j hca hcb hrow
          refine m_s1 12 (by kernel_rfl) rfl ?_
          go_wp2_with fail
          refine m_keep (W := put2 wk26 g5 (ptr a1) (ptr a2)) ⟨J.old, J.new⟩ ?_
          obtain ⟨W7, hW7⟩ : ∃ W7, W7 = put2 wk26 g5 (ptr a1) (ptr a2) := ⟨_, rfl⟩
          rw [← hW7] at P5 P6 J C1 C2 C3 ⊢; clear hW7 e0 e1 f0 f1
          have e0 := P6.cell 0; have e1 := P6.cell 1; have f0 := P6.frozen 0; have f1 := P6.frozen 1
          have R6 := P6.putc (ptr b1) (ptr b2); have R5 := P5.far2 hne (ptr b1) (ptr b2)
          have XJ := J.cfg2 hT P6 hB6_lo (ptr b1) (ptr b2)
          have D1 := C1.cfg2 (c := some ⟨b1, 0, none⟩) (d := some ⟨b2, 0, none⟩) P6; have D2 := C2.cfg2 (c := some ⟨b1, 0, none⟩) (d := some ⟨b2, 0, none⟩) P6; have D3 := C3.cfg2 (c := some ⟨b1, 0, none⟩) (d := some ⟨b2, 0, none⟩) P6
          clear P5 P6 J C1 C2 C3
          refine m_s1 13 (by kernel_rfl) rfl ?_
          go_wp2_with fail
          refine m_keep (W := put2 W7 g6 (ptr b1) (ptr b2)) ⟨XJ.old, XJ.new⟩ ?_
          (refine m_q 14 (v := ?_) (by kernel_rfl) rfl rfl (fun W hW => ?_) ?_; rotate_left; (go_simp; first | done | with_reducible rfl); simp only [Act.put, List.setIfInBounds_toArray, List.set_cons_zero, List.set_cons_succ]); (refine m_q 15 (v := ?_) (by kernel_rfl) rfl rfl (fun W hW => ?_) ?_; rotate_left; (go_simp; first | done | with_reducible rfl); simp only [Act.put, List.setIfInBounds_toArray, List.set_cons_zero, List.set_cons_succ])
          refine m_end (by kernel_rfl) ?_
          go_wp2_with fail
          go_meet
          exact ⟨_, _, a1, a2, b1, b2, AR, cR, rfl, rfl, rfl, rfl, R5, R6, D1, D2, D3, XJ⟩
      · go_wp2_with fail
        have hB6_lo := j.below.size
        refine absN fun wk27 hB6 hb hzq => ?_
        clear hzq
        replace j := j.next hb; replace hq1 := hq1.below hb
        refine m_keep ⟨j.old, j.new⟩ ?_
        generalize wk1.heap.size = g6 at hB6 hB6_lo ⊢
        clear hb
        refine m_s2 3 10 (by kernel_rfl) rfl rfl ?_ ?_
        · go_wp2_with fail
          refine j.cfgB.mono ?_
          rintro e wk28 ⟨q2, r2, rfl, hq2, hb⟩
          replace j := j.next hb; replace hq1 := hq1.below hb; replace hB6 := hB6.below hb hB6.lt
          go_wp2_with fail
          refine m_keep ⟨j.old, j.new⟩ ?_
          clear hb
          refine m_s2 4 10 (by kernel_rfl) rfl rfl ?_ ?_
          · go_wp2_with fail
            refine (j.joint (Below.refl _ _) hq1 hq2).mono ?_
            rintro e wk29 ⟨a1, a2, b1, b2, AR, cR, rfl, hca, hcb, hrow, hb⟩
            replace j := j.next hb; replace hq1 := hq1.below hb; replace hB6 := hB6.below hb hB6.lt; replace hq2 := hq2.below hb
            go_wp2_with fail
            refine m_keep ⟨j.old, j.new⟩ ?_
            (refine m_q 5 (v := ?_) (by kernel_rfl) rfl rfl (fun W hW => ?_) ?_; rotate_left; (go_simp; first | done | with_reducible rfl); simp only [Act.put, List.setIfInBounds_toArray, List.set_cons_zero, List.set_cons_succ]); (refine m_q 6 (v := ?_) (by kernel_rfl) rfl rfl (fun W hW => ?_) ?_; rotate_left; (go_simp; first | done | with_reducible rfl); simp only [Act.put, List.setIfInBounds_toArray, List.set_cons_zero, List.set_cons_succ]); (refine m_q 7 (v := ?_) (by kernel_rfl) rfl rfl (fun W hW => ?_) ?_; rotate_left; (go_simp; first | done | with_reducible rfl); simp only [Act.put, List.setIfInBounds_toArray, List.set_cons_zero, List.set_cons_succ]); (refine m_q 8 (v := ?_) (by kernel_rfl) rfl rfl (fun W hW => ?_) ?_; rotate_left; (go_simp; first | done | with_reducible rfl); simp only [Act.put, List.setIfInBounds_toArray, List.set_cons_zero, List.set_cons_succ]); (refine m_q 9 (v := ?_) (by kernel_rfl) rfl rfl (fun W hW => ?_) ?_; rotate_left; (go_simp; first | done | with_reducible rfl); simp only [Act.put, List.setIfInBounds_toArray, List.set_cons_zero, List.set_cons_succ])
            clear hb
            refine m_s1 10 (by kernel_rfl) rfl ?_
            go_wp2_with fail
            have hB5_lo := j.below.size
            have hne := Nat.ne_of_gt hB6.lt
            refine absN fun wk30 hB5 hb hzq => ?_
            clear hzq
            replace j := j.next hb; replace hq1 := hq1.below hb; replace hB6 := hB6.below hb hB6.lt; replace hq2 := hq2.below hb; replace hca := hca.below hb; replace hcb := hcb.below hb; replace hrow := hrow.below hb
            refine m_keep ⟨j.old, j.new⟩ ?_
            generalize wk29.heap.size = g5 at hB5 hB5_lo hne ⊢
            clear hb
            clear hq1 hq2
            have e0 := hB5.cell 0; have e1 := hB5.cell 1; have f0 := hB5.frozen 0; have f1 := hB5.frozen 1
            have P5 := hB5.putc (ptr a1) (ptr a2); have P6 := hB6.far2 (Ne.symm hne) (ptr a1) (ptr a2)
            have J := j.cfg2 hT hB5 hB5_lo (ptr a1) (ptr a2)
            have C1 := hca.cfg2 (c := some ⟨a1, 0, none⟩) (d := some ⟨a2, 0, none⟩) hB5; have C2 := hcb.cfg2 (c := some ⟨a1, 0, none⟩) (d := some ⟨a2, 0, none⟩) hB5; have C3 := hrow.cfg2 (c := some ⟨a1, 0, none⟩) (d := some ⟨a2, 0, none⟩) hB5
            clear hB5 hB6 j hca hcb hrow
            refine m_s1 12 (by kernel_rfl) rfl ?_
            go_wp2_with fail
            refine m_keep (W := put2 wk30 g5 (ptr a1) (ptr a2)) ⟨J.old, J.new⟩ ?_
            obtain ⟨W7, hW7⟩ : ∃ W7, W7 = put2 wk30 g5 (ptr a1) (ptr a2) := ⟨_, rfl⟩
            rw [← hW7] at P5 P6 J C1 C2 C3 ⊢; clear hW7 e0 e1 f0 f1
            have e0 := P6.cell 0; have e1 := P6.cell 1; have f0 := P6.frozen 0; have f1 := P6.frozen 1
            have R6 := P6.putc (ptr b1) (ptr b2); have R5 := P5.far2 hne (ptr b1) (ptr b2)
            have XJ := J.cfg2 hT P6 hB6_lo (ptr b1) (ptr b2)
            have D1 := C1.cfg2 (c := some ⟨b1, 0, none⟩) (d := some ⟨b2, 0, none⟩) P6; have D2 := C2.cfg2 (c := some ⟨b1, 0, none⟩) (d := some ⟨b2, 0, none⟩) P6; have D3 := C3.cfg2 (c := some ⟨b1, 0, none⟩) (d := some ⟨b2, 0, none⟩) P6
            clear P5 P6 J C1 C2 C3
            refine m_s1 13 (by kernel_rfl) rfl ?_
            go_wp2_with fail
            refine m_keep (W := put2 W7 g6 (ptr b1) (ptr b2)) ⟨XJ.old, XJ.new⟩ ?_
            (refine m_q 14 (v := ?_) (by kernel_rfl) rfl rfl (fun W hW => ?_) ?_; rotate_left; (go_simp; first | done | with_reducible rfl); simp only [Act.put, List.setIfInBounds_toArray, List.set_cons_zero, List.set_cons_succ]); (refine m_q 15 (v := ?_) (by kernel_rfl) rfl rfl (fun W hW => ?_) ?_; rotate_left; (go_simp; first | done | with_reducible rfl); simp only [Act.put, List.setIfInBounds_toArray, List.set_cons_zero, List.set_cons_succ])
            refine m_end (by kernel_rfl) ?_
            go_wp2_with fail
            go_meet
            exact ⟨_, _, a1, a2, b1, b2, AR, cR, rfl, rfl, rfl, rfl, R5, R6, D1, D2, D3, XJ⟩
          · go_wp2_with fail
            have hB5_lo := j.below.size
            have hne := Nat.ne_of_gt hB6.lt
            refine absN fun wk31 hB5 hb hzq => ?_
            clear hzq
            replace j := j.next hb; replace hq1 := hq1.below hb; replace hB6 := hB6.below hb hB6.lt; replace hq2 := hq2.below hb
            refine m_keep ⟨j.old, j.new⟩ ?_
            generalize wk28.heap.size = g5 at hB5 hB5_lo hne ⊢
            clear hb
            refine m_s1 4 (by kernel_rfl) rfl ?_
            go_wp2_with fail
            refine (j.joint (Below.refl _ _) hq1 hq2).mono ?_
            rintro e wk32 ⟨a1, a2, b1, b2, AR, cR, rfl, hca, hcb, hrow, hb⟩
            replace j := j.next hb; replace hq1 := hq1.below hb; replace hB6 := hB6.below hb hB6.lt; replace hq2 := hq2.below hb; replace hB5 := hB5.below hb hB5.lt
            go_wp2_with fail
            refine m_keep ⟨j.old, j.new⟩ ?_
            (refine m_q 5 (v := ?_) (by kernel_rfl) rfl rfl (fun W hW => ?_) ?_; rotate_left; (go_simp; first | done | with_reducible rfl); simp only [Act.put, List.setIfInBounds_toArray, List.set_cons_zero, List.set_cons_succ]); (refine m_q 6 (v := ?_) (by kernel_rfl) rfl rfl (fun W hW => ?_) ?_; rotate_left; (go_simp; first | done | with_reducible rfl); simp only [Act.put, List.setIfInBounds_toArray, List.set_cons_zero, List.set_cons_succ]); (refine m_q 7 (v := ?_) (by kernel_rfl) rfl rfl (fun W hW => ?_) ?_; rotate_left; (go_simp; first | done | with_reducible rfl); simp only [Act.put, List.setIfInBounds_toArray, List.set_cons_zero, List.set_cons_succ]); (refine m_q 8 (v := ?_) (by kernel_rfl) rfl rfl (fun W hW => ?_) ?_; rotate_left; (go_simp; first | done | with_reducible rfl); simp only [Act.put, List.setIfInBounds_toArray, List.set_cons_zero, List.set_cons_succ]); (refine m_q 9 (v := ?_) (by kernel_rfl) rfl rfl (fun W hW => ?_) ?_; rotate_left; (go_simp; first | done | with_reducible rfl); simp only [Act.put, List.setIfInBounds_toArray, List.set_cons_zero, List.set_cons_succ])
            clear hb
            clear hq1 hq2
            have e0 := hB5.cell 0; have e1 := hB5.cell 1; have f0 := hB5.frozen 0; have f1 := hB5.frozen 1
            have P5 := hB5.putc (ptr a1) (ptr a2); have P6 := hB6.far2 (Ne.symm hne) (ptr a1) (ptr a2)
            have J := j.cfg2 hT hB5 hB5_lo (ptr a1) (ptr a2)
            have C1 := hca.cfg2 (c := some ⟨a1, 0, none⟩) (d := some ⟨a2, 0, none⟩) hB5; have C2 := hcb.cfg2 (c := some ⟨a1, 0, none⟩) (d := some ⟨a2, 0, none⟩) hB5; have C3 := hrow.cfg2 (c := some ⟨a1, 0, none⟩) (d := some ⟨a2, 0, none⟩) hB5
            clear hB5 hB6 j hca hcb hrow
            refine m_s1 12 (by kernel_rfl) rfl ?_
            go_wp2_with fail
            refine m_keep (W := put2 wk32 g5 (ptr a1) (ptr a2)) ⟨J.old, J.new⟩ ?_
            obtain ⟨W7, hW7⟩ : ∃ W7, W7 = put2 wk32 g5 (ptr a1) (ptr a2) := ⟨_, rfl⟩
            rw [← hW7] at P5 P6 J C1 C2 C3 ⊢; clear hW7 e0 e1 f0 f1
            have e0 := P6.cell 0; have e1 := P6.cell 1; have f0 := P6.frozen 0; have f1 := P6.frozen 1
            have R6 := P6.putc (ptr b1) (ptr b2); have R5 := P5.far2 hne (ptr b1) (ptr b2)
            have XJ := J.cfg2 hT P6 hB6_lo (ptr b1) (ptr b2)
            have D1 := C1.cfg2 (c := some ⟨b1, 0, none⟩) (d := some ⟨b2, 0, none⟩) P6; have D2 := C2.cfg2 (c := some ⟨b1, 0, none⟩) (d := some ⟨b2, 0, none⟩) P6; have D3 := C3.cfg2 (c := some ⟨b1, 0, none⟩) (d := some ⟨b2, 0, none⟩) P6
            clear P5 P6 J C1 C2 C3
            refine m_s1 13 (by kernel_rfl) rfl ?_
            go_wp2_with fail
            refine m_keep (W := put2 W7 g6 (ptr b1) (ptr b2)) ⟨XJ.old, XJ.new⟩ ?_
            (refine m_q 14 (v := ?_) (by kernel_rfl) rfl rfl (fun W hW => ?_) ?_; rotate_left; (go_simp; first | done | with_reducible rfl); simp only [Act.put, List.setIfInBounds_toArray, List.set_cons_zero, List.set_cons_succ]); (refine m_q 15 (v := ?_) (by kernel_rfl) rfl rfl (fun W hW => ?_) ?_; rotate_left; (go_simp; first | done | with_reducible rfl); simp only [Act.put, List.setIfInBounds_toArray, List.set_cons_zero, List.set_cons_succ])
            refine m_end (by kernel_rfl) ?_
            go_wp2_with fail
            go_meet
            exact ⟨_, _, a1, a2, b1, b2, AR, cR, rfl, rfl, rfl, rfl, R5, R6, D1, D2, D3, XJ⟩
        · go_wp2_with fail
          have hB5_lo := j.below.size
          have hne := Nat.ne_of_gt hB6.lt
          refine absN fun wk33 hB5 hb hzq => ?_
          clear hzq
          replace j := j.next hb; replace hq1 := hq1.below hb; replace hB6 := hB6.below hb hB6.lt
          refine m_keep ⟨j.old, j.new⟩ ?_
          generalize wk27.heap.size = g5 at hB5 hB5_lo hne ⊢
          clear hb
          refine m_s1 3 (by kernel_rfl) rfl ?_
          go_wp2_with fail
          refine j.cfgB.mono ?_
          rintro e wk34 ⟨q2, r2, rfl, hq2, hb⟩
          replace j := j.next hb; replace hq1 := hq1.below hb; replace hB6 := hB6.below hb hB6.lt; replace hB5 := hB5.below hb hB5.lt
          go_wp2_with fail
          refine m_keep ⟨j.old, j.new⟩ ?_
          clear hb
          refine m_s1 4 (by kernel_rfl) rfl ?_
          go_wp2_with fail
          refine (j.joint (Below.refl _ _) hq1 hq2).mono ?_
          rintro e wk35 ⟨a1, a2, b1, b2, AR, cR, rfl, hca, hcb, hrow, hb⟩
          replace j := j.next hb; replace hq1 := hq1.below hb; replace hB6 := hB6.below hb hB6.lt; replace hB5 := hB5.below hb hB5.lt; replace hq2 := hq2.below hb
          go_wp2_with fail
          refine m_keep ⟨j.old, j.new⟩ ?_
          (refine m_q 5 (v := ?_) (by kernel_rfl) rfl rfl (fun W hW => ?_) ?_; rotate_left; (go_simp; first | done | with_reducible rfl); simp only [Act.put, List.setIfInBounds_toArray, List.set_cons_zero, List.set_cons_succ]); (refine m_q 6 (v := ?_) (by kernel_rfl) rfl rfl (fun W hW => ?_) ?_; rotate_left; (go_simp; first | done | with_reducible rfl); simp only [Act.put, List.setIfInBounds_toArray, List.set_cons_zero, List.set_cons_succ]); (refine m_q 7 (v := ?_) (by kernel_rfl) rfl rfl (fun W hW => ?_) ?_; rotate_left; (go_simp; first | done | with_reducible rfl); simp only [Act.put, List.setIfInBounds_toArray, List.set_cons_zero, List.set_cons_succ]); (refine m_q 8 (v := ?_) (by kernel_rfl) rfl rfl (fun W hW => ?_) ?_; rotate_left; (go_simp; first | done | with_reducible rfl); simp only [Act.put, List.setIfInBounds_toArray, List.set_cons_zero, List.set_cons_succ]); (refine m_q 9 (v := ?_) (by kernel_rfl) rfl rfl (fun W hW => ?_) ?_; rotate_left; (go_simp; first | done | with_reducible rfl); simp only [Act.put, List.setIfInBounds_toArray, List.set_cons_zero, List.set_cons_succ])
          clear hb
          clear hq1 hq2
          have e0 := hB5.cell 0; have e1 := hB5.cell 1; have f0 := hB5.frozen 0; have f1 := hB5.frozen 1
          have P5 := hB5.putc (ptr a1) (ptr a2); have P6 := hB6.far2 (Ne.symm hne) (ptr a1) (ptr a2)
          have J := j.cfg2 hT hB5 hB5_lo (ptr a1) (ptr a2)
          have C1 := hca.cfg2 (c := some ⟨a1, 0, none⟩) (d := some ⟨a2, 0, none⟩) hB5; have C2 := hcb.cfg2 (c := some ⟨a1, 0, none⟩) (d := some ⟨a2, 0, none⟩) hB5; have C3 := hrow.cfg2 (c := some ⟨a1, 0, none⟩) (d := some ⟨a2, 0, none⟩) hB5
          clear hB5 hB6 j hca hcb hrow
          refine m_s1 12 (by kernel_rfl) rfl ?_
          go_wp2_with fail
          refine m_keep (W := put2 wk35 g5 (ptr a1) (ptr a2)) ⟨J.old, J.new⟩ ?_
          obtain ⟨W7, hW7⟩ : ∃ W7, W7 = put2 wk35 g5 (ptr a1) (ptr a2) := ⟨_, rfl⟩
          rw [← hW7] at P5 P6 J C1 C2 C3 ⊢; clear hW7 e0 e1 f0 f1
          have e0 := P6.cell 0; have e1 := P6.cell 1; have f0 := P6.frozen 0; have f1 := P6.frozen 1
          have R6 := P6.putc (ptr b1) (ptr b2); have R5 := P5.far2 hne (ptr b1) (ptr b2)
          have XJ := J.cfg2 hT P6 hB6_lo (ptr b1) (ptr b2)
          have D1 := C1.cfg2 (c := some ⟨b1, 0, none⟩) (d := some ⟨b2, 0, none⟩) P6; have D2 := C2.cfg2 (c := some ⟨b1, 0, none⟩) (d := some ⟨b2, 0, none⟩) P6; have D3 := C3.cfg2 (c := some ⟨b1, 0, none⟩) (d := some ⟨b2, 0, none⟩) P6
          clear P5 P6 J C1 C2 C3
          refine m_s1 13 (by kernel_rfl) rfl ?_
          go_wp2_with fail
          refine m_keep (W := put2 W7 g6 (ptr b1) (ptr b2)) ⟨XJ.old, XJ.new⟩ ?_
          (refine m_q 14 (v := ?_) (by kernel_rfl) rfl rfl (fun W hW => ?_) ?_; rotate_left; (go_simp; first | done | with_reducible rfl); simp only [Act.put, List.setIfInBounds_toArray, List.set_cons_zero, List.set_cons_succ]); (refine m_q 15 (v := ?_) (by kernel_rfl) rfl rfl (fun W hW => ?_) ?_; rotate_left; (go_simp; first | done | with_reducible rfl); simp only [Act.put, List.setIfInBounds_toArray, List.set_cons_zero, List.set_cons_succ])
          refine m_end (by kernel_rfl) ?_
          go_wp2_with fail
          go_meet
          exact ⟨_, _, a1, a2, b1, b2, AR, cR, rfl, rfl, rfl, rfl, R5, R6, D1, D2, D3, XJ⟩
    · go_wp2_with fail
      have hB5_lo := j.below.size
      refine absN fun wk36 hB5 hb hzq => ?_
      clear hzq
      replace j := j.next hb
      refine m_keep ⟨j.old, j.new⟩ ?_
      generalize wq.heap.size = g5 at hB5 hB5_lo ⊢
      clear hb
      refine m_s2 1 11 (by kernel_rfl) rfl rfl ?_ ?_
      · go_wp2_with fail
        refine j.cfgA.mono ?_
        rintro e wk37 ⟨q1, r1, rfl, hq1, hb⟩
        replace j := j.next hb; replace hB5 := hB5.below hb hB5.lt
        go_wp2_with fail
        refine m_keep ⟨j.old, j.new⟩ ?_
        clear hb
        refine m_s2 3 11 (by kernel_rfl) rfl rfl ?_ ?_
        · go_wp2_with fail
          refine j.cfgB.mono ?_
          rintro e wk38 ⟨q2, r2, rfl, hq2, hb⟩
          replace j := j.next hb; replace hB5 := hB5.below hb hB5.lt; replace hq1 := hq1.below hb
          go_wp2_with fail
          refine m_keep ⟨j.old, j.new⟩ ?_
          clear hb
          refine m_s2 4 11 (by kernel_rfl) rfl rfl ?_ ?_
          · go_wp2_with fail
            refine (j.joint (Below.refl _ _) hq1 hq2).mono ?_
            rintro e wk39 ⟨a1, a2, b1, b2, AR, cR, rfl, hca, hcb, hrow, hb⟩
            replace j := j.next hb; replace hB5 := hB5.below hb hB5.lt; replace hq1 := hq1.below hb; replace hq2 := hq2.below hb
            go_wp2_with fail
            refine m_keep ⟨j.old, j.new⟩ ?_
            (refine m_q 5 (v := ?_) (by kernel_rfl) rfl rfl (fun W hW => ?_) ?_; rotate_left; (go_simp; first | done | with_reducible rfl); simp only [Act.put, List.setIfInBounds_toArray, List.set_cons_zero, List.set_cons_succ]); (refine m_q 6 (v := ?_) (by kernel_rfl) rfl rfl (fun W hW => ?_) ?_; rotate_left; (go_simp; first | done | with_reducible rfl); simp only [Act.put, List.setIfInBounds_toArray, List.set_cons_zero, List.set_cons_succ]); (refine m_q 7 (v := ?_) (by kernel_rfl) rfl rfl (fun W hW => ?_) ?_; rotate_left; (go_simp; first | done | with_reducible rfl); simp only [Act.put, List.setIfInBounds_toArray, List.set_cons_zero, List.set_cons_succ]); (refine m_q 8 (v := ?_) (by kernel_rfl) rfl rfl (fun W hW => ?_) ?_; rotate_left; (go_simp; first | done | with_reducible rfl); simp only [Act.put, List.setIfInBounds_toArray, List.set_cons_zero, List.set_cons_succ]); (refine m_q 9 (v := ?_) (by kernel_rfl) rfl rfl (fun W hW => ?_) ?_; rotate_left; (go_simp; first | done | with_reducible rfl); simp only [Act.put, List.setIfInBounds_toArray, List.set_cons_zero, List.set_cons_succ])
            clear hb
            refine m_s1 11 (by kernel_rfl) rfl ?_
            go_wp2_with fail
            have hB6_lo := j.below.size
            have hne := Nat.ne_of_lt hB5.lt
            refine absN fun wk40 hB6 hb hzq => ?_
            clear hzq
            replace j := j.next hb; replace hB5 := hB5.below hb hB5.lt; replace hq1 := hq1.below hb; replace hq2 := hq2.below hb; replace hca := hca.below hb; replace hcb := hcb.below hb; replace hrow := hrow.below hb
            refine m_keep ⟨j.old, j.new⟩ ?_
            generalize wk39.heap.size = g6 at hB6 hB6_lo hne ⊢
            clear hb
            clear hq1 hq2
            have e0 := hB5.cell 0; have e1 := hB5.cell 1; have f0 := hB5.frozen 0; have f1 := hB5.frozen 1
            have P5 := hB5.putc (ptr a1) (ptr a2); have P6 := hB6.far2 (Ne.symm hne) (ptr a1) (ptr a2)
            have J := j.cfg2 hT hB5 hB5_lo (ptr a1) (ptr a2)
            have C1 := hca.cfg2 (c := some ⟨a1, 0, none⟩) (d := some ⟨a2, 0, none⟩) hB5; have C2 := hcb.cfg2 (c := some ⟨a1, 0, none⟩) (d := some ⟨a2, 0, none⟩) hB5; have C3 := hrow.cfg2 (c := some ⟨a1, 0, none⟩) (d := some ⟨a2, 0, none⟩) hB5
            clear hB5 hB6 j hca hcb hrow
            refine m_s1 12 (by kernel_rfl) rfl ?_
            go_wp2_with fail
            refine m_keep (W := put2 wk40 g5 (ptr a1) (ptr a2)) ⟨J.old, J.new⟩ ?_
            obtain ⟨W7, hW7⟩ : ∃ W7, W7 = put2 wk40 g5 (ptr a1) (ptr a2) := ⟨_, rfl⟩
            rw [← hW7] at P5 P6 J C1 C2 C3 ⊢; clear hW7 e0 e1 f0 f1
            have e0 := P6.cell 0; have e1 := P6.cell 1; have f0 := P6.frozen 0; have f1 := P6.frozen 1
            have R6 := P6.putc (ptr b1) (ptr b2); have R5 := P5.far2 hne (ptr b1) (ptr b2)
            have XJ := J.cfg2 hT P6 hB6_lo (ptr b1) (ptr b2)
            have D1 := C1.cfg2 (c := some ⟨b1, 0, none⟩) (d := some ⟨b2, 0, none⟩) P6; have D2 := C2.cfg2 (c := some ⟨b1, 0, none⟩) (d := some ⟨b2, 0, none⟩) P6; have D3 := C3.cfg2 (c := some ⟨b1, 0, none⟩) (d := some ⟨b2, 0, none⟩) P6
            clear P5 P6 J C1 C2 C3
            refine m_s1 13 (by kernel_rfl) rfl ?_
            go_wp2_with fail
            refine m_keep (W := put2 W7 g6 (ptr b1) (ptr b2)) ⟨XJ.old, XJ.new⟩ ?_
            (refine m_q 14 (v := ?_) (by kernel_rfl) rfl rfl (fun W hW => ?_) ?_; rotate_left; (go_simp; first | done | with_reducible rfl); simp only [Act.put, List.setIfInBounds_toArray, List.set_cons_zero, List.set_cons_succ]); (refine m_q 15 (v := ?_) (by kernel_rfl) rfl rfl (fun W hW => ?_) ?_; rotate_left; (go_simp; first | done | with_reducible rfl); simp only [Act.put, List.setIfInBounds_toArray, List.set_cons_zero, List.set_cons_succ])
            refine m_end (by kernel_rfl) ?_
            go_wp2_with fail
            go_meet
            exact ⟨_, _, a1, a2, b1, b2, AR, cR, rfl, rfl, rfl, rfl, R5, R6, D1, D2, D3, XJ⟩
          · go_wp2_with fail
            have hB6_lo := j.below.size
            have hne := Nat.ne_of_lt hB5.lt
            refine absN fun wk41 hB6 hb hzq => ?_
            clear hzq
            replace j := j.next hb; replace hB5 := hB5.below hb hB5.lt; replace hq1 := hq1.below hb; replace hq2 := hq2.below hb
            refine m_keep ⟨j.old, j.new⟩ ?_
            generalize wk38.heap.size = g6 at hB6 hB6_lo hne ⊢
            clear hb
            refine m_s1 4 (by kernel_rfl) rfl ?_
            go_wp2_with fail
            refine (j.joint (Below.refl _ _) hq1 hq2).mono ?_
            rintro e wk42 ⟨a1, a2, b1, b2, AR, cR, rfl, hca, hcb, hrow, hb⟩
            replace j := j.next hb; replace hB5 := hB5.below hb hB5.lt; replace hq1 := hq1.below hb; replace hq2 := hq2.below hb; replace hB6 := hB6.below hb hB6.lt
            go_wp2_with fail
            refine m_keep ⟨j.old, j.new⟩ ?_
            (refine m_q 5 (v := ?_) (by kernel_rfl) rfl rfl (fun W hW => ?_) ?_; rotate_left; (go_simp; first | done | with_reducible rfl); simp only [Act.put, List.setIfInBounds_toArray, List.set_cons_zero, List.set_cons_succ]); (refine m_q 6 (v := ?_) (by kernel_rfl) rfl rfl (fun W hW => ?_) ?_; rotate_left; (go_simp; first | done | with_reducible rfl); simp only [Act.put, List.setIfInBounds_toArray, List.set_cons_zero, List.set_cons_succ]); (refine m_q 7 (v := ?_) (by kernel_rfl) rfl rfl (fun W hW => ?_) ?_; rotate_left; (go_simp; first | done | with_reducible rfl); simp only [Act.put, List.setIfInBounds_toArray, List.set_cons_zero, List.set_cons_succ]); (refine m_q 8 (v := ?_) (by kernel_rfl) rfl rfl (fun W hW => ?_) ?_; rotate_left; (go_simp; first | done | with_reducible rfl); simp only [Act.put, List.setIfInBounds_toArray, List.set_cons_zero, List.set_cons_succ]); (refine m_q 9 (v := ?_) (by kernel_rfl) rfl rfl (fun W hW => ?_) ?_; rotate_left; (go_simp; first | done | with_reducible rfl); simp only [Act.put, List.setIfInBounds_toArray, List.set_cons_zero, List.set_cons_succ])
            clear hb
            clear hq1 hq2
            have e0 := hB5.cell 0; have e1 := hB5.cell 1; have f0 := hB5.frozen 0; have f1 := hB5.frozen 1
            have P5 := hB5.putc (ptr a1) (ptr a2); have P6 := hB6.far2 (Ne.symm hne) (ptr a1) (ptr a2)
            have J := j.cfg2 hT hB5 hB5_lo (ptr a1) (ptr a2)
            have C1 := hca.cfg2 (c := some ⟨a1, 0, none⟩) (d := some ⟨a2, 0, none⟩) hB5; have C2 := hcb.cfg2 (c := some ⟨a1, 0, none⟩) (d := some ⟨a2, 0, none⟩) hB5; have C3 := hrow.cfg2 (c := some ⟨a1, 0, none⟩) (d := some ⟨a2, 0, none⟩) hB5
            clear hB5 hB6 j hca hcb hrow
            refine m_s1 12 (by kernel_rfl) rfl ?_
            go_wp2_with fail
            refine m_keep (W := put2 wk42 g5 (ptr a1) (ptr a2)) ⟨J.old, J.new⟩ ?_
            obtain ⟨W7, hW7⟩ : ∃ W7, W7 = put2 wk42 g5 (ptr a1) (ptr a2) := ⟨_, rfl⟩
            rw [← hW7] at P5 P6 J C1 C2 C3 ⊢; clear hW7 e0 e1 f0 f1
            have e0 := P6.cell 0; have e1 := P6.cell 1; have f0 := P6.frozen 0; have f1 := P6.frozen 1
            have R6 := P6.putc (ptr b1) (ptr b2); have R5 := P5.far2 hne (ptr b1) (ptr b2)
            have XJ := J.cfg2 hT P6 hB6_lo (ptr b1) (ptr b2)
            have D1 := C1.cfg2 (c := some ⟨b1, 0, none⟩) (d := some ⟨b2, 0, none⟩) P6; have D2 := C2.cfg2 (c := some ⟨b1, 0, none⟩) (d := some ⟨b2, 0, none⟩) P6; have D3 := C3.cfg2 (c := some ⟨b1, 0, none⟩) (d := some ⟨b2, 0, none⟩) P6
            clear P5 P6 J C1 C2 C3
            refine m_s1 13 (by kernel_rfl) rfl ?_
            go_wp2_with fail
            refine m_keep (W := put2 W7 g6 (ptr b1) (ptr b2)) ⟨XJ.old, XJ.new⟩ ?_
            (refine m_q 14 (v := ?_) (by kernel_rfl) rfl rfl (fun W hW => ?_) ?_; rotate_left; (go_simp; first | done | with_reducible rfl); simp only [Act.put, List.setIfInBounds_toArray, List.set_cons_zero, List.set_cons_succ]); (refine m_q 15 (v := ?_) (by kernel_rfl) rfl rfl (fun W hW => ?_) ?_; rotate_left; (go_simp; first | done | with_reducible rfl); simp only [Act.put, List.setIfInBounds_toArray, List.set_cons_zero, List.set_cons_succ])
            refine m_end (by kernel_rfl) ?_
            go_wp2_with fail
            go_meet
            exact ⟨_, _, a1, a2, b1, b2, AR, cR, rfl, rfl, rfl, rfl, R5, R6, D1, D2, D3, XJ⟩
        · go_wp2_with fail
          have hB6_lo := j.below.size
          have hne := Nat.ne_of_lt hB5.lt
          refine absN fun wk43 hB6 hb hzq => ?_
          clear hzq
          replace j := j.next hb; replace hB5 := hB5.below hb hB5.lt; replace hq1 := hq1.below hb
          refine m_keep ⟨j.old, j.new⟩ ?_
          generalize wk37.heap.size = g6 at hB6 hB6_lo hne ⊢
          clear hb
          refine m_s1 3 (by kernel_rfl) rfl ?_
          go_wp2_with fail
          refine j.cfgB.mono ?_
          rintro e wk44 ⟨q2, r2, rfl, hq2, hb⟩
          replace j := j.next hb; replace hB5 := hB5.below hb hB5.lt; replace hq1 := hq1.below hb; replace hB6 := hB6.below hb hB6.lt
          go_wp2_with fail
          refine m_keep ⟨j.old, j.new⟩ ?_
          clear hb
          refine m_s1 4 (by kernel_rfl) rfl ?_
          go_wp2_with fail
          refine (j.joint (Below.refl _ _) hq1 hq2).mono ?_
          rintro e wk45 ⟨a1, a2, b1, b2, AR, cR, rfl, hca, hcb, hrow, hb⟩
          replace j := j.next hb; replace hB5 := hB5.below hb hB5.lt; replace hq1 := hq1.below hb; replace hB6 := hB6.below hb hB6.lt; replace hq2 := hq2.below hb
          go_wp2_with fail
          refine m_keep ⟨j.old, j.new⟩ ?_
          (refine m_q 5 (v := ?_) (by kernel_rfl) rfl rfl (fun W hW => ?_) ?_; rotate_left; (go_simp; first | done | with_reducible rfl); simp only [Act.put, List.setIfInBounds_toArray, List.set_cons_zero, List.set_cons_succ]); (refine m_q 6 (v := ?_) (by kernel_rfl) rfl rfl (fun W hW => ?_) ?_; rotate_left; (go_simp; first | done | with_reducible rfl); simp only [Act.put, List.setIfInBounds_toArray, List.set_cons_zero, List.set_cons_succ]); (refine m_q 7 (v := ?_) (by kernel_rfl) rfl rfl (fun W hW => ?_) ?_; rotate_left; (go_simp; first | done | with_reducible rfl); simp only [Act.put, List.setIfInBounds_toArray, List.set_cons_zero, List.set_cons_succ]); (refine m_q 8 (v := ?_) (by kernel_rfl) rfl rfl (fun W hW => ?_) ?_; rotate_left; (go_simp; first | done | with_reducible rfl); simp only [Act.put, List.setIfInBounds_toArray, List.set_cons_zero, List.set_cons_succ]); (refine m_q 9 (v := ?_) (by kernel_rfl) rfl rfl (fun W hW => ?_) ?_; rotate_left; (go_simp; first | done | with_reducible rfl); simp only [Act.put, List.setIfInBounds_toArray, List.set_cons_zero, List.set_cons_succ])
          clear hb
          clear hq1 hq2
          have e0 := hB5.cell 0; have e1 := hB5.cell 1; have f0 := hB5.frozen 0; have f1 := hB5.frozen 1
          have P5 := hB5.putc (ptr a1) (ptr a2); have P6 := hB6.far2 (Ne.symm hne) (ptr a1) (ptr a2)
          have J := j.cfg2 hT hB5 hB5_lo (ptr a1) (ptr a2)
          have C1 := hca.cfg2 (c := some ⟨a1, 0, none⟩) (d := some ⟨a2, 0, none⟩) hB5; have C2 := hcb.cfg2 (c := some ⟨a1, 0, none⟩) (d := some ⟨a2, 0, none⟩) hB5; have C3 := hrow.cfg2 (c := some ⟨a1, 0, none⟩) (d := some ⟨a2, 0, none⟩) hB5
          clear hB5 hB6 j hca hcb hrow
          refine m_s1 12 (by kernel_rfl) rfl ?_
          go_wp2_with fail
          refine m_keep (W := put2 wk45 g5 (ptr a1) (ptr a2)) ⟨J.old, J.new⟩ ?_
          obtain ⟨W7, hW7⟩ : ∃ W7, W7 = put2 wk45 g5 (ptr a1) (ptr a2) := ⟨_, rfl⟩
          rw [← hW7] at P5 P6 J C1 C2 C3 ⊢; clear hW7 e0 e1 f0 f1
          have e0 := P6.cell 0; have e1 := P6.cell 1; have f0 := P6.frozen 0; have f1 := P6.frozen 1
          have R6 := P6.putc (ptr b1) (ptr b2); have R5 := P5.far2 hne (ptr b1) (ptr b2)
          have XJ := J.cfg2 hT P6 hB6_lo (ptr b1) (ptr b2)
          have D1 := C1.cfg2 (c := some ⟨b1, 0, none⟩) (d := some ⟨b2, 0, none⟩) P6; have D2 := C2.cfg2 (c := some ⟨b1, 0, none⟩) (d := some ⟨b2, 0, none⟩) P6; have D3 := C3.cfg2 (c := some ⟨b1, 0, none⟩) (d := some ⟨b2, 0, none⟩) P6
          clear P5 P6 J C1 C2 C3
          refine m_s1 13 (by kernel_rfl) rfl ?_
          go_wp2_with fail
          refine m_keep (W := put2 W7 g6 (ptr b1) (ptr b2)) ⟨XJ.old, XJ.new⟩ ?_
          (refine m_q 14 (v := ?_) (by kernel_rfl) rfl rfl (fun W hW => ?_) ?_; rotate_left; (go_simp; first | done | with_reducible rfl); simp only [Act.put, List.setIfInBounds_toArray, List.set_cons_zero, List.set_cons_succ]); (refine m_q 15 (v := ?_) (by kernel_rfl) rfl rfl (fun W hW => ?_) ?_; rotate_left; (go_simp; first | done | with_reducible rfl); simp only [Act.put, List.setIfInBounds_toArray, List.set_cons_zero, List.set_cons_succ])
          refine m_end (by kernel_rfl) ?_
          go_wp2_with fail
          go_meet
          exact ⟨_, _, a1, a2, b1, b2, AR, cR, rfl, rfl, rfl, rfl, R5, R6, D1, D2, D3, XJ⟩
      · go_wp2_with fail
        have hB6_lo := j.below.size
        have hne := Nat.ne_of_lt hB5.lt
        refine absN fun wk46 hB6 hb hzq => ?_
        clear hzq
        replace j := j.next hb; replace hB5 := hB5.below hb hB5.lt
        refine m_keep ⟨j.old, j.new⟩ ?_
        generalize wk36.heap.size = g6 at hB6 hB6_lo hne ⊢
        clear hb
        refine m_s1 1 (by kernel_rfl) rfl ?_
        go_wp2_with fail
        refine j.cfgA.mono ?_
        rintro e wk47 ⟨q1, r1, rfl, hq1, hb⟩
        replace j := j.next hb; replace hB5 := hB5.below hb hB5.lt; replace hB6 := hB6.below hb hB6.lt
        go_wp2_with fail
        refine m_keep ⟨j.old, j.new⟩ ?_
        clear hb
        refine m_s1 3 (by kernel_rfl) rfl ?_
        go_wp2_with fail
        refine j.cfgB.mono ?_
        rintro e wk48 ⟨q2, r2, rfl, hq2, hb⟩
        replace j := j.next hb; replace hB5 := hB5.below hb hB5.lt; replace hB6 := hB6.below hb hB6.lt; replace hq1 := hq1.below hb
        go_wp2_with fail
        refine m_keep ⟨j.old, j.new⟩ ?_
        clear hb
        refine m_s1 4 (by kernel_rfl) rfl ?_
        go_wp2_with fail
        refine (j.joint (Below.refl _ _) hq1 hq2).mono ?_
        rintro e wk49 ⟨a1, a2, b1, b2, AR, cR, rfl, hca, hcb, hrow, hb⟩
        replace j := j.next hb; replace hB5 := hB5.below hb hB5.lt; replace hB6 := hB6.below hb hB6.lt; replace hq1 := hq1.below hb; replace hq2 := hq2.below hb
        go_wp2_with fail
        refine m_keep ⟨j.old, j.new⟩ ?_
        (refine m_q 5 (v := ?_) (by kernel_rfl) rfl rfl (fun W hW => ?_) ?_; rotate_left; (go_simp; first | done | with_reducible rfl); simp only [Act.put, List.setIfInBounds_toArray, List.set_cons_zero, List.set_cons_succ]); (refine m_q 6 (v := ?_) (by kernel_rfl) rfl rfl (fun W hW => ?_) ?_; rotate_left; (go_simp; first | done | with_reducible rfl); simp only [Act.put, List.setIfInBounds_toArray, List.set_cons_zero, List.set_cons_succ]); (refine m_q 7 (v := ?_) (by kernel_rfl) rfl rfl (fun W hW => ?_) ?_; rotate_left; (go_simp; first | done | with_reducible rfl); simp only [Act.put, List.setIfInBounds_toArray, List.set_cons_zero, List.set_cons_succ]); (refine m_q 8 (v := ?_) (by kernel_rfl) rfl rfl (fun W hW => ?_) ?_; rotate_left; (go_simp; first | done | with_reducible rfl); simp only [Act.put, List.setIfInBounds_toArray, List.set_cons_zero, List.set_cons_succ]); (refine m_q 9 (v := ?_) (by kernel_rfl) rfl rfl (fun W hW => ?_) ?_; rotate_left; (go_simp; first | done | with_reducible rfl); simp only [Act.put, List.setIfInBounds_toArray, List.set_cons_zero, List.set_cons_succ])
        clear hb
        clear hq1 hq2
        have e0 := hB5.cell 0; have e1 := hB5.cell 1; have f0 := hB5.frozen 0; have f1 := hB5.frozen 1
        have P5 := hB5.putc (ptr a1) (ptr a2); have P6 := hB6.far2 (Ne.symm hne) (ptr a1) (ptr a2)
        have J := j.cfg2 hT hB5 hB5_lo (ptr a1) (ptr a2)
        have C1 := hca.cfg2 (c := some ⟨a1, 0, none⟩) (d := some ⟨a2, 0, none⟩) hB5; have C2 := hcb.cfg2 (c := some ⟨a1, 0, none⟩) (d := some ⟨a2, 0, none⟩) hB5; have C3 := hrow.cfg2 (c := some ⟨a1, 0, none⟩) (d := some ⟨a2, 0, none⟩) hB5
        clear hB5 hB6 j hca hcb hrow
        refine m_s1 12 (by kernel_rfl) rfl ?_
        go_wp2_with fail
        refine m_keep (W := put2 wk49 g5 (ptr a1) (ptr a2)) ⟨J.old, J.new⟩ ?_
        obtain ⟨W7, hW7⟩ : ∃ W7, W7 = put2 wk49 g5 (ptr a1) (ptr a2) := ⟨_, rfl⟩
        rw [← hW7] at P5 P6 J C1 C2 C3 ⊢; clear hW7 e0 e1 f0 f1
        have e0 := P6.cell 0; have e1 := P6.cell 1; have f0 := P6.frozen 0; have f1 := P6.frozen 1
        have R6 := P6.putc (ptr b1) (ptr b2); have R5 := P5.far2 hne (ptr b1) (ptr b2)
        have XJ := J.cfg2 hT P6 hB6_lo (ptr b1) (ptr b2)
        have D1 := C1.cfg2 (c := some ⟨b1, 0, none⟩) (d := some ⟨b2, 0, none⟩) P6; have D2 := C2.cfg2 (c := some ⟨b1, 0, none⟩) (d := some ⟨b2, 0, none⟩) P6; have D3 := C3.cfg2 (c := some ⟨b1, 0, none⟩) (d := some ⟨b2, 0, none⟩) P6
        clear P5 P6 J C1 C2 C3
        refine m_s1 13 (by kernel_rfl) rfl ?_
        go_wp2_with fail
        refine m_keep (W := put2 W7 g6 (ptr b1) (ptr b2)) ⟨XJ.old, XJ.new⟩ ?_
        (refine m_q 14 (v := ?_) (by kernel_rfl) rfl rfl (fun W hW => ?_) ?_; rotate_left; (go_simp; first | done | with_reducible rfl); simp only [Act.put, List.setIfInBounds_toArray, List.set_cons_zero, List.set_cons_succ]); (refine m_q 15 (v := ?_) (by kernel_rfl) rfl rfl (fun W hW => ?_) ?_; rotate_left; (go_simp; first | done | with_reducible rfl); simp only [Act.put, List.setIfInBounds_toArray, List.set_cons_zero, List.set_cons_succ])
        refine m_end (by kernel_rfl) ?_
        go_wp2_with fail
        go_meet
        exact ⟨_, _, a1, a2, b1, b2, AR, cR, rfl, rfl, rfl, rfl, R5, R6, D1, D2, D3, XJ⟩
    · go_wp2_with fail
      have hB6_lo := j.below.size
      refine absN fun wk50 hB6 hb hzq => ?_
      clear hzq
      replace j := j.next hb
      refine m_keep ⟨j.old, j.new⟩ ?_
      generalize wq.heap.size = g6 at hB6 hB6_lo ⊢
      clear hb
      refine m_s2 1 10 (by kernel_rfl) rfl rfl ?_ ?_
      · go_wp2_with fail
        refine j.cfgA.mono ?_
        rintro e wk51 ⟨q1, r1, rfl, hq1, hb⟩
        replace j := j.next hb; replace hB6 := hB6.below hb hB6.lt
        go_wp2_with fail
        refine m_keep ⟨j.old, j.new⟩ ?_
        clear hb
        refine m_s2 3 10 (by kernel_rfl) rfl rfl ?_ ?_
        · go_wp2_with fail
          refine j.cfgB.mono ?_
          rintro e wk52 ⟨q2, r2, rfl, hq2, hb⟩
          replace j := j.next hb; replace hB6 := hB6.below hb hB6.lt; replace hq1 := hq1.below hb
          go_wp2_with fail
          refine m_keep ⟨j.old, j.new⟩ ?_
          clear hb
          refine m_s2 4 10 (by kernel_rfl) rfl rfl ?_ ?_
          · go_wp2_with fail
            refine (j.joint (Below.refl _ _) hq1 hq2).mono ?_
            rintro e wk53 ⟨a1, a2, b1, b2, AR, cR, rfl, hca, hcb, hrow, hb⟩
            replace j := j.next hb; replace hB6 := hB6.below hb hB6.lt; replace hq1 := hq1.below hb; replace hq2 := hq2.below hb
            go_wp2_with fail
            refine m_keep ⟨j.old, j.new⟩ ?_
            (refine m_q 5 (v := ?_) (by kernel_rfl) rfl rfl (fun W hW => ?_) ?_; rotate_left; (go_simp; first | done | with_reducible rfl); simp only [Act.put, List.setIfInBounds_toArray, List.set_cons_zero, List.set_cons_succ]); (refine m_q 6 (v := ?_) (by kernel_rfl) rfl rfl (fun W hW => ?_) ?_; rotate_left; (go_simp; first | done | with_reducible rfl); simp only [Act.put, List.setIfInBounds_toArray, List.set_cons_zero, List.set_cons_succ]); (refine m_q 7 (v := ?_) (by kernel_rfl) rfl rfl (fun W hW => ?_) ?_; rotate_left; (go_simp; first | done | with_reducible rfl); simp only [Act.put, List.setIfInBounds_toArray, List.set_cons_zero, List.set_cons_succ]); (refine m_q 8 (v := ?_) (by kernel_rfl) rfl rfl (fun W hW => ?_) ?_; rotate_left; (go_simp; first | done | with_reducible rfl); simp only [Act.put, List.setIfInBounds_toArray, List.set_cons_zero, List.set_cons_succ]); (refine m_q 9 (v := ?_) (by kernel_rfl) rfl rfl (fun W hW => ?_) ?_; rotate_left; (go_simp; first | done | with_reducible rfl); simp only [Act.put, List.setIfInBounds_toArray, List.set_cons_zero, List.set_cons_succ])
            clear hb
            refine m_s1 10 (by kernel_rfl) rfl ?_
            go_wp2_with fail
            have hB5_lo := j.below.size
            have hne := Nat.ne_of_gt hB6.lt
            refine absN fun wk54 hB5 hb hzq => ?_
            clear hzq
            replace j := j.next hb; replace hB6 := hB6.below hb hB6.lt; replace hq1 := hq1.below hb; replace hq2 := hq2.below hb; replace hca := hca.below hb; replace hcb := hcb.below hb; replace hrow := hrow.below hb
            refine m_keep ⟨j.old, j.new⟩ ?_
            generalize wk53.heap.size = g5 at hB5 hB5_lo hne ⊢
            clear hb
            clear hq1 hq2
            have e0 := hB5.cell 0; have e1 := hB5.cell 1; have f0 := hB5.frozen 0; have f1 := hB5.frozen 1
            have P5 := hB5.putc (ptr a1) (ptr a2); have P6 := hB6.far2 (Ne.symm hne) (ptr a1) (ptr a2)
            have J := j.cfg2 hT hB5 hB5_lo (ptr a1) (ptr a2)
            have C1 := hca.cfg2 (c := some ⟨a1, 0, none⟩) (d := some ⟨a2, 0, none⟩) hB5; have C2 := hcb.cfg2 (c := some ⟨a1, 0, none⟩) (d := some ⟨a2, 0, none⟩) hB5; have C3 := hrow.cfg2 (c := some ⟨a1, 0, none⟩) (d := some ⟨a2, 0, none⟩) hB5
            clear hB5 hB6 j hca hcb hrow
            refine m_s1 12 (by kernel_rfl) rfl ?_
            go_wp2_with fail
            refine m_keep (W := put2 wk54 g5 (ptr a1) (ptr a2)) ⟨J.old, J.new⟩ ?_
            obtain ⟨W7, hW7⟩ : ∃ W7, W7 = put2 wk54 g5 (ptr a1) (ptr a2) := ⟨_, rfl⟩
            rw [← hW7] at P5 P6 J C1 C2 C3 ⊢; clear hW7 e0 e1 f0 f1
            have e0 := P6.cell 0; have e1 := P6.cell 1; have f0 := P6.frozen 0; have f1 := P6.frozen 1
            have R6 := P6.putc (ptr b1) (ptr b2); have R5 := P5.far2 hne (ptr b1) (ptr b2)
            have XJ := J.cfg2 hT P6 hB6_lo (ptr b1) (ptr b2)
            have D1 := C1.cfg2 (c := some ⟨b1, 0, none⟩) (d := some ⟨b2, 0, none⟩) P6; have D2 := C2.cfg2 (c := some ⟨b1, 0, none⟩) (d := some ⟨b2, 0, none⟩) P6; have D3 := C3.cfg2 (c := some ⟨b1, 0, none⟩) (d := some ⟨b2, 0, none⟩) P6
            clear P5 P6 J C1 C2 C3
            refine m_s1 13 (by kernel_rfl) rfl ?_
            go_wp2_with fail
            refine m_keep (W := put2 W7 g6 (ptr b1) (ptr b2)) ⟨XJ.old, XJ.new⟩ ?_
            (refine m_q 14 (v := ?_) (by kernel_rfl) rfl rfl (fun W hW => ?_) ?_; rotate_left; (go_simp; first | done | with_reducible rfl); simp only [Act.put, List.setIfInBounds_toArray, List.set_cons_zero, List.set_cons_succ]); (refine m_q 15 (v := ?_) (by kernel_rfl) rfl rfl (fun W hW => ?_) ?_; rotate_left; (go_simp; first | done | with_reducible rfl); simp only [Act.put, List.setIfInBounds_toArray, List.set_cons_zero, List.set_cons_succ])
            refine m_end (by kernel_rfl) ?_
            go_wp2_with fail
            go_meet
            exact ⟨_, _, a1, a2, b1, b2, AR, cR, rfl, rfl, rfl, rfl, R5, R6, D1, D2, D3, XJ⟩
          · go_wp2_with fail
            have hB5_lo := j.below.size
            have hne := Nat.ne_of_gt hB6.lt
            refine absN fun wk55 hB5 hb hzq => ?_
            clear hzq
            replace j := j.next hb; replace hB6 := hB6.below hb hB6.lt; replace hq1 := hq1.below hb; replace hq2 := hq2.below hb
            refine m_keep ⟨j.old, j.new⟩ ?_
            generalize wk52.heap.size = g5 at hB5 hB5_lo hne ⊢
            clear hb
            refine m_s1 4 (by kernel_rfl) rfl ?_
            go_wp2_with fail
            refine (j.joint (Below.refl _ _) hq1 hq2).mono ?_
            rintro e wk56 ⟨a1, a2, b1, b2, AR, cR, rfl, hca, hcb, hrow, hb⟩
            replace j := j.next hb; replace hB6 := hB6.below hb hB6.lt; replace hq1 := hq1.below hb; replace hq2 := hq2.below hb; replace hB5 := hB5.below hb hB5.lt
            go_wp2_with fail
            refine m_keep ⟨j.old, j.new⟩ ?_
            (refine m_q 5 (v := ?_) (by kernel_rfl) rfl rfl (fun W hW => ?_) ?_; rotate_left; (go_simp; first | done | with_reducible rfl); simp only [Act.put, List.setIfInBounds_toArray, List.set_cons_zero, List.set_cons_succ]); (refine m_q 6 (v := ?_) (by kernel_rfl) rfl rfl (fun W hW => ?_) ?_; rotate_left; (go_simp; first | done | with_reducible rfl); simp only [Act.put, List.setIfInBounds_toArray, List.set_cons_zero, List.set_cons_succ]); (refine m_q 7 (v := ?_) (by kernel_rfl) rfl rfl (fun W hW => ?_) ?_; rotate_left; (go_simp; first | done | with_reducible rfl); simp only [Act.put, List.setIfInBounds_toArray, List.set_cons_zero, List.set_cons_succ]); (refine m_q 8 (v := ?_) (by kernel_rfl) rfl rfl (fun W hW => ?_) ?_; rotate_left; (go_simp; first | done | with_reducible rfl); simp only [Act.put, List.setIfInBounds_toArray, List.set_cons_zero, List.set_cons_succ]); (refine m_q 9 (v := ?_) (by kernel_rfl) rfl rfl (fun W hW => ?_) ?_; rotate_left; (go_simp; first | done | with_reducible rfl); simp only [Act.put, List.setIfInBounds_toArray, List.set_cons_zero, List.set_cons_succ])
            clear hb
            clear hq1 hq2
            have e0 := hB5.cell 0; have e1 := hB5.cell 1; have f0 := hB5.frozen 0; have f1 := hB5.frozen 1
            have P5 := hB5.putc (ptr a1) (ptr a2); have P6 := hB6.far2 (Ne.symm hne) (ptr a1) (ptr a2)
            have J := j.cfg2 hT hB5 hB5_lo (ptr a1) (ptr a2)
            have C1 := hca.cfg2 (c := some ⟨a1, 0, none⟩) (d := some ⟨a2, 0, none⟩) hB5; have C2 := hcb.cfg2 (c := some ⟨a1, 0, none⟩) (d := some ⟨a2, 0, none⟩) hB5; have C3 := hrow.cfg2 (c := some ⟨a1, 0, none⟩) (d := some ⟨a2, 0, none⟩) hB5
            clear hB5 hB6 j hca hcb hrow
            refine m_s1 12 (by kernel_rfl) rfl ?_
            go_wp2_with fail
            refine m_keep (W := put2 wk56 g5 (ptr a1) (ptr a2)) ⟨J.old, J.new⟩ ?_
            obtain ⟨W7, hW7⟩ : ∃ W7, W7 = put2 wk56 g5 (ptr a1) (ptr a2) := ⟨_, rfl⟩
            rw [← hW7] at P5 P6 J C1 C2 C3 ⊢; clear hW7 e0 e1 f0 f1
            have e0 := P6.cell 0; have e1 := P6.cell 1; have f0 := P6.frozen 0; have f1 := P6.frozen 1
            have R6 := P6.putc (ptr b1) (ptr b2); have R5 := P5.far2 hne (ptr b1) (ptr b2)
            have XJ := J.cfg2 hT P6 hB6_lo (ptr b1) (ptr b2)
            have D1 := C1.cfg2 (c := some ⟨b1, 0, none⟩) (d := some ⟨b2, 0, none⟩) P6; have D2 := C2.cfg2 (c := some ⟨b1, 0, none⟩) (d := some ⟨b2, 0, none⟩) P6; have D3 := C3.cfg2 (c := some ⟨b1, 0, none⟩) (d := some ⟨b2, 0, none⟩) P6
            clear P5 P6 J C1 C2 C3
            refine m_s1 13 (by kernel_rfl) rfl ?_
            go_wp2_with fail
            refine m_keep (W := put2 W7 g6 (ptr b1) (ptr b2)) ⟨XJ.old, XJ.new⟩ ?_
            (refine m_q 14 (v := ?_) (by kernel_rfl) rfl rfl (fun W hW => ?_) ?_; rotate_left; (go_simp; first | done | with_reducible rfl); simp only [Act.put, List.setIfInBounds_toArray, List.set_cons_zero, List.set_cons_succ]); (refine m_q 15 (v := ?_) (by kernel_rfl) rfl rfl (fun W hW => ?_) ?_; rotate_left; (go_simp; first | done | with_reducible rfl); simp only [Act.put, List.setIfInBounds_toArray, List.set_cons_zero, List.set_cons_succ])
            refine m_end (by kernel_rfl) ?_
            go_wp2_with fail
            go_meet
            exact ⟨_, _, a1, a2, b1, b2, AR, cR, rfl, rfl, rfl, rfl, R5, R6, D1, D2, D3, XJ⟩
        · go_wp2_with fail
          have hB5_lo := j.below.size
          have hne := Nat.ne_of_gt hB6.lt
          refine absN fun wk57 hB5 hb hzq => ?_
          clear hzq
          replace j := j.next hb; replace hB6 := hB6.below hb hB6.lt; replace hq1 := hq1.below hb
          refine m_keep ⟨j.old, j.new⟩ ?_
          generalize wk51.heap.size = g5 at hB5 hB5_lo hne ⊢
          clear hb
          refine m_s1 3 (by kernel_rfl) rfl ?_
          go_wp2_with fail
          refine j.cfgB.mono ?_
          rintro e wk58 ⟨q2, r2, rfl, hq2, hb⟩
          replace j := j.next hb; replace hB6 := hB6.below hb hB6.lt; replace hq1 := hq1.below hb; replace hB5 := hB5.below hb hB5.lt
          go_wp2_with fail
          refine m_keep ⟨j.old, j.new⟩ ?_
          clear hb
          refine m_s1 4 (by kernel_rfl) rfl ?_
          go_wp2_with fail
          refine (j.joint (Below.refl _ _) hq1 hq2).mono ?_
          rintro e wk59 ⟨a1, a2, b1, b2, AR, cR, rfl, hca, hcb, hrow, hb⟩
          replace j := j.next hb; replace hB6 := hB6.below hb hB6.lt; replace hq1 := hq1.below hb; replace hB5 := hB5.below hb hB5.lt; replace hq2 := hq2.below hb
          go_wp2_with fail
          refine m_keep ⟨j.old, j.new⟩ ?_
          (refine m_q 5 (v := ?_) (by kernel_rfl) rfl rfl (fun W hW => ?_) ?_; rotate_left; (go_simp; first | done | with_reducible rfl); simp only [Act.put, List.setIfInBounds_toArray, List.set_cons_zero, List.set_cons_succ]); (refine m_q 6 (v := ?_) (by kernel_rfl) rfl rfl (fun W hW => ?_) ?_; rotate_left; (go_simp; first | done | with_reducible rfl); simp only [Act.put, List.setIfInBounds_toArray, List.set_cons_zero, List.set_cons_succ]); (refine m_q 7 (v := ?_) (by kernel_rfl) rfl rfl (fun W hW => ?_) ?_; rotate_left; (go_simp; first | done | with_reducible rfl); simp only [Act.put, List.setIfInBounds_toArray, List.set_cons_zero, List.set_cons_succ]); (refine m_q 8 (v := ?_) (by kernel_rfl) rfl rfl (fun W hW => ?_) ?_; rotate_left; (go_simp; first | done | with_reducible rfl); simp only [Act.put, List.setIfInBounds_toArray, List.set_cons_zero, List.set_cons_succ]); (refine m_q 9 (v := ?_) (by kernel_rfl) rfl rfl (fun W hW => ?_) ?_; rotate_left; (go_simp; first | done | with_reducible rfl); simp only [Act.put, List.setIfInBounds_toArray, List.set_cons_zero, List.set_cons_succ])
          clear hb
          clear hq1 hq2
          have e0 := hB5.cell 0; have e1 := hB5.cell 1; have f0 := hB5.frozen 0; have f1 := hB5.frozen 1
          have P5 := hB5.putc (ptr a1) (ptr a2); have P6 := hB6.far2 (Ne.symm hne) (ptr a1) (ptr a2)
          have J := j.cfg2 hT hB5 hB5_lo (ptr a1) (ptr a2)
          have C1 := hca.cfg2 (c := some ⟨a1, 0, none⟩) (d := some ⟨a2, 0, none⟩) hB5; have C2 := hcb.cfg2 (c := some ⟨a1, 0, none⟩) (d := some ⟨a2, 0, none⟩) hB5; have C3 := hrow.cfg2 (c := some ⟨a1, 0, none⟩) (d := some ⟨a2, 0, none⟩) hB5
          clear hB5 hB6 j hca hcb hrow
          refine m_s1 12 (by kernel_rfl) rfl ?_
          go_wp2_with fail
          refine m_keep (W := put2 wk59 g5 (ptr a1) (ptr a2)) ⟨J.old, J.new⟩ ?_
          obtain ⟨W7, hW7⟩ : ∃ W7, W7 = put2 wk59 g5 (ptr a1) (ptr a2) := ⟨_, rfl⟩
          rw [← hW7] at P5 P6 J C1 C2 C3 ⊢; clear hW7 e0 e1 f0 f1
          have e0 := P6.cell 0; have e1 := P6.cell 1; have f0 := P6.frozen 0; have f1 := P6.frozen 1
          have R6 := P6.putc (ptr b1) (ptr b2); have R5 := P5.far2 hne (ptr b1) (ptr b2)
          have XJ := J.cfg2 hT P6 hB6_lo (ptr b1) (ptr b2)
          have D1 := C1.cfg2 (c := some ⟨b1, 0, none⟩) (d := some ⟨b2, 0, none⟩) P6; have D2 := C2.cfg2 (c := some ⟨b1, 0, none⟩) (d := some ⟨b2, 0, none⟩) P6; have D3 := C3.cfg2 (c := some ⟨b1, 0, none⟩) (d := some ⟨b2, 0, none⟩) P6
          clear P5 P6 J C1 C2 C3
          refine m_s1 13 (by kernel_rfl) rfl ?_
          go_wp2_with fail
          refine m_keep (W := put2 W7 g6 (ptr b1) (ptr b2)) ⟨XJ.old, XJ.new⟩ ?_
          (refine m_q 14 (v := ?_) (by kernel_rfl) rfl rfl (fun W hW => ?_) ?_; rotate_left; (go_simp; first | done | with_reducible rfl); simp only [Act.put, List.setIfInBounds_toArray, List.set_cons_zero, List.set_cons_succ]); (refine m_q 15 (v := ?_) (by kernel_rfl) rfl rfl (fun W hW => ?_) ?_; rotate_left; (go_simp; first | done | with_reducible rfl); simp only [Act.put, List.setIfInBounds_toArray, List.set_cons_zero, List.set_cons_succ])
          refine m_end (by kernel_rfl) ?_
          go_wp2_with fail
          go_meet
          exact ⟨_, _, a1, a2, b1, b2, AR, cR, rfl, rfl, rfl, rfl, R5, R6, D1, D2, D3, XJ⟩
      · go_wp2_with fail
        have hB5_lo := j.below.size
        have hne := Nat.ne_of_gt hB6.lt
        refine absN fun wk60 hB5 hb hzq => ?_
        clear hzq
        replace j := j.next hb; replace hB6 := hB6.below hb hB6.lt
        refine m_keep ⟨j.old, j.new⟩ ?_
        generalize wk50.heap.size = g5 at hB5 hB5_lo hne ⊢
        clear hb
        refine m_s1 1 (by kernel_rfl) rfl ?_
        go_wp2_with fail
        refine j.cfgA.mono ?_
        rintro e wk61 ⟨q1, r1, rfl, hq1, hb⟩
        replace j := j.next hb; replace hB6 := hB6.below hb hB6.lt; replace hB5 := hB5.below hb hB5.lt
        go_wp2_with fail
        refine m_keep ⟨j.old, j.new⟩ ?_
        clear hb
        refine m_s1 3 (by kernel_rfl) rfl ?_
        go_wp2_with fail
        refine j.cfgB.mono ?_
        rintro e wk62 ⟨q2, r2, rfl, hq2, hb⟩
        replace j := j.next hb; replace hB6 := hB6.below hb hB6.lt; replace hB5 := hB5.below hb hB5.lt; replace hq1 := hq1.below hb
        go_wp2_with fail
        refine m_keep ⟨j.old, j.new⟩ ?_
        clear hb
        refine m_s1 4 (by kernel_rfl) rfl ?_
        go_wp2_with fail
        refine (j.joint (Below.refl _ _) hq1 hq2).mono ?_
        rintro e wk63 ⟨a1, a2, b1, b2, AR, cR, rfl, hca, hcb, hrow, hb⟩
        replace j := j.next hb; replace hB6 := hB6.below hb hB6.lt; replace hB5 := hB5.below hb hB5.lt; replace hq1 := hq1.below hb; replace hq2 := hq2.below hb
        go_wp2_with fail
        refine m_keep ⟨j.old, j.new⟩ ?_
        (refine m_q 5 (v := ?_) (by kernel_rfl) rfl rfl (fun W hW => ?_) ?_; rotate_left; (go_simp; first | done | with_reducible rfl); simp only [Act.put, List.setIfInBounds_toArray, List.set_cons_zero, List.set_cons_succ]); (refine m_q 6 (v := ?_) (by kernel_rfl) rfl rfl (fun W hW => ?_) ?_; rotate_left; (go_simp; first | done | with_reducible rfl); simp only [Act.put, List.setIfInBounds_toArray, List.set_cons_zero, List.set_cons_succ]); (refine m_q 7 (v := ?_) (by kernel_rfl) rfl rfl (fun W hW => ?_) ?_; rotate_left; (go_simp; first | done | with_reducible rfl); simp only [Act.put, List.setIfInBounds_toArray, List.set_cons_zero, List.set_cons_succ]); (refine m_q 8 (v := ?_) (by kernel_rfl) rfl rfl (fun W hW => ?_) ?_; rotate_left; (go_simp; first | done | with_reducible rfl); simp only [Act.put, List.setIfInBounds_toArray, List.set_cons_zero, List.set_cons_succ]); (refine m_q 9 (v := ?_) (by kernel_rfl) rfl rfl (fun W hW => ?_) ?_; rotate_left; (go_simp; first | done | with_reducible rfl); simp only [Act.put, List.setIfInBounds_toArray, List.set_cons_zero, List.set_cons_succ])
        clear hb
        clear hq1 hq2
        have e0 := hB5.cell 0; have e1 := hB5.cell 1; have f0 := hB5.frozen 0; have f1 := hB5.frozen 1
        have P5 := hB5.putc (ptr a1) (ptr a2); have P6 := hB6.far2 (Ne.symm hne) (ptr a1) (ptr a2)
        have J := j.cfg2 hT hB5 hB5_lo (ptr a1) (ptr a2)
        have C1 := hca.cfg2 (c := some ⟨a1, 0, none⟩) (d := some ⟨a2, 0, none⟩) hB5; have C2 := hcb.cfg2 (c := some ⟨a1, 0, none⟩) (d := some ⟨a2, 0, none⟩) hB5; have C3 := hrow.cfg2 (c := some ⟨a1, 0, none⟩) (d := some ⟨a2, 0, none⟩) hB5
        clear hB5 hB6 j hca hcb hrow
        refine m_s1 12 (by kernel_rfl) rfl ?_
        go_wp2_with fail
        refine m_keep (W := put2 wk63 g5 (ptr a1) (ptr a2)) ⟨J.old, J.new⟩ ?_
        obtain ⟨W7, hW7⟩ : ∃ W7, W7 = put2 wk63 g5 (ptr a1) (ptr a2) := ⟨_, rfl⟩
        rw [← hW7] at P5 P6 J C1 C2 C3 ⊢; clear hW7 e0 e1 f0 f1
        have e0 := P6.cell 0; have e1 := P6.cell 1; have f0 := P6.frozen 0; have f1 := P6.frozen 1
        have R6 := P6.putc (ptr b1) (ptr b2); have R5 := P5.far2 hne (ptr b1) (ptr b2)
        have XJ := J.cfg2 hT P6 hB6_lo (ptr b1) (ptr b2)
        have D1 := C1.cfg2 (c := some ⟨b1, 0, none⟩) (d := some ⟨b2, 0, none⟩) P6; have D2 := C2.cfg2 (c := some ⟨b1, 0, none⟩) (d := some ⟨b2, 0, none⟩) P6; have D3 := C3.cfg2 (c := some ⟨b1, 0, none⟩) (d := some ⟨b2, 0, none⟩) P6
        clear P5 P6 J C1 C2 C3
        refine m_s1 13 (by kernel_rfl) rfl ?_
        go_wp2_with fail
        refine m_keep (W := put2 W7 g6 (ptr b1) (ptr b2)) ⟨XJ.old, XJ.new⟩ ?_
        (refine m_q 14 (v := ?_) (by kernel_rfl) rfl rfl (fun W hW => ?_) ?_; rotate_left; (go_simp; first | done | with_reducible rfl); simp only [Act.put, List.setIfInBounds_toArray, List.set_cons_zero, List.set_cons_succ]); (refine m_q 15 (v := ?_) (by kernel_rfl) rfl rfl (fun W hW => ?_) ?_; rotate_left; (go_simp; first | done | with_reducible rfl); simp only [Act.put, List.setIfInBounds_toArray, List.set_cons_zero, List.set_cons_succ])
        refine m_end (by kernel_rfl) ?_
        go_wp2_with fail
        go_meet
        exact ⟨_, _, a1, a2, b1, b2, AR, cR, rfl, rfl, rfl, rfl, R5, R6, D1, D2, D3, XJ⟩
  case rest =>
    obtain ⟨g5, g6, a1, a2, b1, b2, AR, cR, rfl, rfl, rfl, rfl, hB5, hB6, hca, hcb, hrow, J⟩ := hcut
    clear j
    have x0 := J.old.cell 0
    have x1 := J.old.cell 1
    have x2 := J.old.cell 2
    have x3 := J.old.cell 3
    have y0 := J.new.cell 0
    have y1 := J.new.cell 1
    have y2 := J.new.cell 2
    have y3 := J.new.cell 3
    go_wp2_with fail
    refine J.rjoint.mono ?_
    rintro e w4 ⟨A3, c3, B3, d3, A4, c4, B4, d4, rfl, hra, hrb, hb4⟩
    have J4 := J.next hb4
    have hB54 := hB5.below hb4 hB5.lt
    have hB64 := hB6.below hb4 hB6.lt
    have hca4 := hca.below hb4
    have hcb4 := hcb.below hb4
    have hrow4 := hrow.below hb4
    clear x0 x1 x2 x3 y0 y1 y2 y3 J hB5 hB6 hca hcb hrow hb4
    go_wp2_with fail
    refine abs2 fun w5 hR9 hR10 hb5 hz5 => ?_
    have J5 := J4.next hb5
    have hB55 := hB54.below hb5 hB54.lt
    have hB65 := hB64.below hb5 hB64.lt
    have hca5 := hca4.below hb5
    have hcb5 := hcb4.below hb5
    have hrow5 := hrow4.below hb5
    have hra5 := hra.below hb5
    have hrb5 := hrb.below hb5
    obtain ⟨X9, hX9⟩ : ∃ x, x = w4.heap.size := ⟨_, rfl⟩
    rw [← hX9] at hR9 hR10 ⊢
    clear J4 hB54 hB64 hca4 hcb4 hrow4 hra hrb hb5 hz5 hX9
    have x0 := J5.old.cell 0
    have x1 := J5.old.cell 1
    have x2 := J5.old.cell 2
    have x3 := J5.old.cell 3
    have y0 := J5.new.cell 0
    have y1 := J5.new.cell 1
    have y2 := J5.new.cell 2
    have y3 := J5.new.cell 3
    have hd : Below w5.heap.size w5 w5.drew := (Below.refl _ _).drew
    have Jq := J5.next hd
    obtain ⟨wq, hwq⟩ : ∃ V, V = w5.drew := ⟨_, rfl⟩
    rw [← hwq] at hd Jq
    go_wp2_with fail
    refine wp_mix (fun V => Below w5.heap.size w5 V) 10 (by kernel_rfl) (by kernel_rfl) (Below.refl _ _).drew ?_
    rw [← hwq]
    clear hwq
    (refine m_q 0 (v := ?_) (by kernel_rfl) rfl rfl (fun W hW => ?_) ?_; rotate_left; (have z0 := onB hW x0; have z1 := onB hW x1; have z2 := onB hW x2; have z3 := onB hW x3; have u0 := onB hW y0; have u1 := onB hW y1; have u2 := onB hW y2; have u3 := onB hW y3; go_simp; first | done | with_reducible rfl); simp only [Act.put, List.setIfInBounds_toArray, List.set_cons_zero, List.set_cons_succ]); (refine m_q 2 (v := ?_) (by kernel_rfl) rfl rfl (fun W hW => ?_) ?_; rotate_left; (have z0 := onB hW x0; have z1 := onB hW x1; have z2 := onB hW x2; have z3 := onB hW x3; have u0 := onB hW y0; have u1 := onB hW y1; have u2 := onB hW y2; have u3 := onB hW y3; go_simp; first | done | with_reducible rfl); simp only [Act.put, List.setIfInBounds_toArray, List.set_cons_zero, List.set_cons_succ])
    clear x0 x1 x2 x3 y0 y1 y2 y3
    refine m_s1 1 (by kernel_rfl) rfl ?_
    go_wp2_with fail
    refine Jq.cfgA.mono ?_
    rintro e w6 ⟨q1, r1, rfl, hq1, hb6⟩
    have J6 := Jq.next hb6
    go_wp2_with fail
    refine m_next (hd.trans (hb6.mono hd.size)) ?_
    refine m_s1 3 (by kernel_rfl) rfl ?_
    go_wp2_with fail
    refine J6.cfgB.mono ?_
    rintro e w7 ⟨q2, r2, rfl, hq2, hb7⟩
    have J7 := J6.next hb7
    go_wp2_with fail
    refine m_next hb7 ?_
    refine m_s1 4 (by kernel_rfl) rfl ?_
    go_wp2_with fail
    refine (J7.dist (Below.refl _ _) (hq1.below hb7) hq2).mono ?_
    rintro e w8 ⟨rfl, hb8⟩
    have J8 := J7.next hb8
    go_wp2_with fail
    refine m_next hb8 ?_
    (refine m_q 5 (v := ?_) (by kernel_rfl) rfl rfl (fun W hW => ?_) ?_; rotate_left; (go_simp; first | done | with_reducible rfl); simp only [Act.put, List.setIfInBounds_toArray, List.set_cons_zero, List.set_cons_succ]); (refine m_q 6 (v := ?_) (by kernel_rfl) rfl rfl (fun W hW => ?_) ?_; rotate_left; (go_simp; first | done | with_reducible rfl); simp only [Act.put, List.setIfInBounds_toArray, List.set_cons_zero, List.set_cons_succ]); (refine m_q 7 (v := ?_) (by kernel_rfl) rfl rfl (fun W hW => ?_) ?_; rotate_left; (go_simp; first | done | with_reducible rfl); simp only [Act.put, List.setIfInBounds_toArray, List.set_cons_zero, List.set_cons_succ]); (refine m_q 8 (v := ?_) (by kernel_rfl) rfl rfl (fun W hW => ?_) ?_; rotate_left; (go_simp; first | done | with_reducible rfl); simp only [Act.put, List.setIfInBounds_toArray, List.set_cons_zero, List.set_cons_succ]); (refine m_q 9 (v := ?_) (by kernel_rfl) rfl rfl (fun W hW => ?_) ?_; rotate_left; (go_simp; first | done | with_reducible rfl); simp only [Act.put, List.setIfInBounds_toArray, List.set_cons_zero, List.set_cons_succ])
    refine m_end (by kernel_rfl) ?_
    have k8 := hd.trans ((hb6.trans ((hb7.trans (hb8.mono hb7.size)).mono hb6.size)).mono hd.size)
    have hB58 := hB55.below k8 hB55.lt
    have hB68 := hB65.below k8 hB65.lt
    have hR98 := hR9.below k8 hR9.lt
    have hR108 := hR10.below k8 hR10.lt
    have hca8 := hca5.below k8
    have hcb8 := hcb5.below k8
    have hrow8 := hrow5.below k8
    have hra8 := hra5.below k8
    have hrb8 := hrb5.below k8
    have hjn := J8.jn_le
    have hbd := J8.bd
    have hlM := J8.lM
    have hlM' := J8.lM'
    have L1 : (jM1 M P P').length = u := by rw [jM1, jU, mat_len, J8.lM]
    have L2 : (jP1 p P P').length = jn P P' := by rw [jP1, jP, mat_len]
    have L3 : (jM2 M' P P').length = u := by rw [jM2, jU, mat_len, J8.lM']
    have L4 : (jP2 p P P').length = jn P P' := by rw [jP2, jP, mat_len]
    have HS1 := hideC (fun W hW => same49_yes a1 a2 (jn P P') c3 p d3 A3 B3 (jM1 M P P') (jP1 p P P') W (hca8.users.below (w' := W) hW) (hca8.perms.below hW) (hra8.users.ref.below hW) (hra8.perms.ref.below hW) (by omega) (by omega) (by omega) (by omega))
    have HS2 := hideC (fun W hW => same49_yes b1 b2 (jn P P') c4 p d4 A4 B4 (jM2 M' P P') (jP2 p P P') W (hcb8.users.below (w' := W) hW) (hcb8.perms.below hW) (hrb8.users.ref.below hW) (hrb8.perms.ref.below hW) (by omega) (by omega) (by omega) (by omega))
    rw [L1, L2] at HS1
    rw [L3, L4] at HS2
    clear hB55 hB65 hR9 hR10 hca5 hcb5 hrow5 hra5 hrb5 J5 Jq J6 J7 hq1 hq2 hb6 hb7 hb8 hd k8 L1 L2 L3 L4 hca8 hcb8 hra8 hrb8
    have x0 := hB58.cell 0
    have x1 := hB58.cell 1
    have y0 := hR98.cell 0
    have y1 := hR98.cell 1
    have y2 := hR98.cell 2
    have y3 := hR98.cell 3
    have HLL := Lib.hid hlM
    have HLL' := Lib.hid hlM'
    clear hlM hlM'
    go_wp2_with fail
    refine (HS1.out w8 (Below.refl _ _)).mono ?_
    rintro e w9 ⟨rfl, hb9⟩
    have J9 := J8.next hb9
    have hB69 := hB68.below hb9 hB68.lt
    have hR109 := hR108.below hb9 hR108.lt
    clear x0 x1 y0 y1 y2 y3
    have x0 := hB69.cell 0
    have x1 := hB69.cell 1
    have y0 := hR109.cell 0
    have y1 := hR109.cell 1
    have y2 := hR109.cell 2
    have y3 := hR109.cell 3
    go_wp2_with fail
    refine (HS2.out w9 hb9).mono ?_
    rintro e wA ⟨rfl, hbA⟩
    have JA := J9.next hbA
    have hb9A := hb9.trans (hbA.mono hb9.size)
    clear x0 x1 y0 y1 y2 y3
    have x0 := JA.old.cell 0
    have x1 := JA.old.cell 1
    have x2 := JA.old.cell 2
    have x3 := JA.old.cell 3
    have y0 := JA.new.cell 0
    have y1 := JA.new.cell 1
    have y2 := JA.new.cell 2
    have y3 := JA.new.cell 3
    go_wp2_with fail
    refine JA.rnumbers.mono ?_
    rintro e wB ⟨AN, cN, rfl, hrN, hbB⟩
    have JB := JA.next hbB
    have HEQ := hideC (eqints_yes AR AN cR cN b (jl P P') wB ((hrow8.below hb9A).below hbB) hrN (by rw [jl_len, JB.lP']) (by omega))
    clear x0 x1 x2 x3 y0 y1 y2 y3
    go_wp2_with fail
    refine HEQ.out.mono ?_
    rintro e wC ⟨rfl, hbC⟩
    have JC := JB.next hbC
    have x0 := JC.old.cell 0
    have x1 := JC.old.cell 1
    have x2 := JC.old.cell 2
    have x3 := JC.old.cell 3
    have y0 := JC.new.cell 0
    have y1 := JC.new.cell 1
    have y2 := JC.new.cell 2
    have y3 := JC.new.cell 3
    go_wp2_with fail
    refine JC.rplan.mono ?_
    rintro e wD ⟨AP, cP, rfl, hrP, hbD⟩
    go_wp2_with fail
    go_ret
    exact ⟨rfl, (JC.next hbD).below⟩
end Go.Proofs.YthkjigggfeejdaaDoor
