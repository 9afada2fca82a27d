/-
  The law RankEqual.
-/
import Derived.Test.YtlehoomnddcblaaDoorRn7
import Derived.Test.YtlehoomnddcblaaDoorRe2
import Derived.Test.YtlehoomnddcblaaDoorMix2
import Derived.Test.YtlehoomnddcblaaDoorJoin
import Derived.Deep.DeepCutAuto
import Derived.Deep.CutBlock
namespace Go.Proofs.YtlehoomnddcblaaDoor
open Go.RowKit
theorem PRt.at_ {w : World} {s size : Int} {A : Option Addr} {n c : Nat} {P : List Nd} (h : PRt w (.agg #[.int .i64 s, .slice A n c]) size P) : s = size ∧ n = P.length ∧ IsNT w A P := by
  obtain ⟨A', c', e, h2, _⟩ := h
  injection e with e
  injection e with e
  injection e with e1 e2
  injection e2 with e2 _
  injection e1 with _ e1
  injection e2 with e3 e4 e5
  subst e1; subst e3; subst e4
  exact ⟨rfl, rfl, h2⟩
theorem absC3' {P : Program} {w : World} {f : FuncId} {args : Array Value} {R : Ending → World → Prop} {c1 c2 c3 : Array Value} {t1 t2 t3 : TypeId} (h : ∀ W, Blk W w.heap.size t1 c1 → Blk W (w.heap.size + 1) t2 c2 → Blk W (w.heap.size + 1 + 1) t3 c3 → Below w.heap.size w W → Calls P f args W R) :
    Calls P f args (((w.alloc (.cells c1 t1)).alloc (.cells c2 t2)).alloc (.cells c3 t3)) R := absC3 fun W h1 h2 h3 hb _ => h W h1 h2 h3 hb
namespace Mix2
set_option maxRecDepth 100000 in
set_option maxHeartbeats 8000000 in
theorem equal_walk (v : Value) (R C : Nat) (zs : List Int) (vy : Value) (less : Nat) (last : Bool) (l : List Odd4) (o : Odd4) (w : World) (hT : Tab w) (h : IsRaw w v R C zs) (hy : IsRaw47 w vy less last l) (hoo : OddOK o) :
    Calls Tryd.prog 4 #[v, vy, oddV o] w fun e w' => e = .returned (.bool true) ∧ Below w.heap.size w w' := by
  obtain ⟨vo, hye, hle, ho⟩ := hy
  subst hye
  obtain ⟨Ao, co, hoe, hO, hoc, hom, hok⟩ := ho
  subst hoe
  have hRaw := fun W (hb : Below w.heap.size w W) => (show IsRaw47 w (.agg #[.int .u8 less, .bool last, .slice Ao l.length co]) less last l from ⟨_, rfl, hle, Ao, co, rfl, hO, hoc, hom, hok⟩).below hb
  have HRAW := Lib.hid hRaw
  clear hRaw hO hoc hom hok
  have hbd := h.bd
  obtain ⟨r, c, A0, d0, hv, _⟩ := id h
  subst hv
  have HIN := hideC h
  clear h
  unfold oddV
  go_enter Tryd.func4, Tryd.ntmps4
  go_wp2_with fail
  refine absC3' fun W0 hX hR0 hO0 hbel0 => ?_
  refine (awake_any47 W0 (hT.below hbel0)).mono ?_
  rintro e w1 ⟨rfl, hb1⟩
  have b2 := hbel0.trans (hb1.mono hbel0.size)
  replace hX := hX.below hb1 hX.lt; replace hR0 := hR0.below hb1 hR0.lt; replace hO0 := hO0.below hb1 hO0.lt
  clear hb1 hbel0 hT
  have hmk := fun W (hb : Below w.heap.size w W) => make_raw _ R C zs W (HIN.out.below hb)
  obtain ⟨M, hMd⟩ : ∃ M, M = rawM R C zs := ⟨_, rfl⟩
  have hML : M.length = R := by rw [hMd, mat_len]
  rw [← hMd] at hmk
  subst hML
  obtain ⟨hR5, hC5⟩ := hbd
  have HMK := Lib.hid hmk
  have HFT := Lib.hid (fun A2 c2 W (hb : Below w.heap.size w W) (hI : IsRef W C A2 M) => (by have := fit_t less last l C A2 c2 M _ W (HRAW.out W hb) (by omega) (by omega) hI; unfold refV at this; exact this :
    Calls Tryd.prog 15 #[.agg #[.int .u8 less, .bool last, .slice Ao l.length co], .agg #[.int .i64 (C : Int), .slice A2 M.length c2]] W fun e w' => ∃ v' size P, e = .returned v' ∧ PRt w' v' size P ∧ (∀ y ∈ P, NdB 40 y) ∧ P.length ≤ 50000000 ∧ -20 ≤ size ∧ size ≤ 20 ∧ Below W.heap.size W w'))
  clear hmk hMd HIN HRAW
  obtain ⟨gX, hgX⟩ : ∃ g, g = w.heap.size := ⟨_, rfl⟩
  have hgw : w.heap.size ≤ gX := by omega
  rw [← hgX] at hX hR0 hO0 ⊢
  clear hgX
  go_wp2_with fail
  refine wp_mix (fun V => Below w1.heap.size w1 V) 6 (by kernel_rfl) (by kernel_rfl) (Below.refl _ _).drew ?_
  have hr : Below w1.heap.size w1 w1.drew := (Below.refl _ _).drew
  obtain ⟨u1, hw⟩ : ∃ V, V = w1.drew := ⟨_, rfl⟩
  rw [← hw] at hr ⊢; clear hw
  have hb := hr
  have x0 := hX.cell 0
  have x1 := hX.cell 1
  have x2 := hX.cell 2
  have r0 := hR0.cell 0
  have r1 := hR0.cell 1
  have r2 := hR0.cell 2
  replace hX := hX.below hb hX.lt; replace hR0 := hR0.below hb hR0.lt; replace hO0 := hO0.below hb hO0.lt; replace b2 := b2.trans (hb.mono b2.size)
  clear hb
  (refine m_q 0 (v := ?_) (by kernel_rfl) rfl rfl (fun W hW => ?_) ?_; rotate_left; (have zx0 := onB hW x0; have zx1 := onB hW x1; have zx2 := onB hW x2; have zr0 := onB hW r0; have zr1 := onB hW r1; have zr2 := onB hW r2; go_simp; first | done | with_reducible rfl); simp only [Act.put, List.setIfInBounds_toArray, List.set_cons_zero, List.set_cons_succ]); (refine m_q 1 (v := ?_) (by kernel_rfl) rfl rfl (fun W hW => ?_) ?_; rotate_left; (have zx0 := onB hW x0; have zx1 := onB hW x1; have zx2 := onB hW x2; have zr0 := onB hW r0; have zr1 := onB hW r1; have zr2 := onB hW r2; go_simp; first | done | with_reducible rfl); simp only [Act.put, List.setIfInBounds_toArray, List.set_cons_zero, List.set_cons_succ])
  have hu := Below.refl u1.heap.size u1
  refine m_join (β := Nat × Int × Value × List Nd) #[true, true, true, true, true, false] 1
    (fun x f => #[f 0, f 1, f 2, ptr gX, .pointer (some ⟨gX + 1, 0, none⟩), .pointer (some ⟨gX + 1 + 1, 0, none⟩), .bool false, ptr x.1, f 8, f 9, f 10, f 11, f 12, f 13, f 14, .agg #[.int .i64 x.2.1, x.2.2.1], f 16, f 17, f 18, f 19, f 20, f 21, f 22, f 23, f 24, f 25, f 26, f 27, f 28, f 29, f 30, f 31, f 32, f 33, f 34, f 35, f 36, f 37, f 38, f 39, f 40, f 41, f 42, f 43, f 44])
    (fun x ds V => ds = [] ∧ Below w1.heap.size w1 V ∧ Below u1.heap.size u1 V ∧ Below w.heap.size w V ∧ u1.heap.size ≤ x.1 ∧ Blk V x.1 33 #[.int .i64 0, .slice none 0 0] ∧ PRt V (.agg #[.int .i64 x.2.1, x.2.2.1]) x.2.1 x.2.2.2 ∧ (∀ y ∈ x.2.2.2, NdB 40 y) ∧ x.2.2.2.length ≤ 50000000 ∧ -20 ≤ x.2.1 ∧ x.2.1 ≤ 20) ?lf1 ?tr1
  case tr1 =>
    intro HL
    refine m_s2 2 4 (by kernel_rfl) rfl rfl ?_ ?_
    · go_wp2_with fail
      refine (HMK.out _ b2).mono ?_
      rintro e u1021 ⟨A2, c2, rfl, hI, hb⟩
      replace hX := hX.below hb hX.lt; replace hR0 := hR0.below hb hR0.lt; replace hO0 := hO0.below hb hO0.lt; replace b2 := b2.trans (hb.mono b2.size); replace hr := hr.trans (hb.mono hr.size); replace hu := hu.trans (hb.mono hu.size)
      clear hb
      go_wp2_with fail
      refine m_keep hr ?_
      refine m_s2 3 4 (by kernel_rfl) rfl rfl ?_ ?_
      · go_wp2_with fail
        refine (HFT.out A2 c2 _ b2 hI).mono ?_
        rintro e u1041 ⟨v5, s5, P5, rfl, hP5, hnd5, hl5, hs5a, hs5b, hb⟩
        replace hX := hX.below hb hX.lt; replace hR0 := hR0.below hb hR0.lt; replace hO0 := hO0.below hb hO0.lt; replace b2 := b2.trans (hb.mono b2.size); replace hr := hr.trans (hb.mono hr.size); replace hu := hu.trans (hb.mono hu.size); replace hI := hI.below hb
        clear hb
        go_wp2_with fail
        refine m_keep hr ?_
        refine m_s1 4 (by kernel_rfl) rfl ?_
        go_wp2_with fail
        have lo_B4 := hu.size
        refine absN fun u1061 B4 hb hz => ?_
        clear hz
        replace hX := hX.below hb hX.lt; replace hR0 := hR0.below hb hR0.lt; replace hO0 := hO0.below hb hO0.lt; replace b2 := b2.trans (hb.mono b2.size); replace hr := hr.trans (hb.mono hr.size); replace hu := hu.trans (hb.mono hu.size); replace hI := hI.below hb; replace hP5 := hP5.below hb
        clear hb
        refine m_keep hr ?_
        obtain ⟨g4, hg4⟩ : ∃ g, g = u1041.heap.size := ⟨_, rfl⟩; replace lo_B4 : u1.heap.size ≤ g4 := by rw [hg4]; exact lo_B4
        rw [← hg4] at B4  ⊢; clear hg4
        obtain ⟨A5, c5, rfl, -⟩ := id hP5
        exact HL ⟨g4, s5, .slice A5 P5.length c5, P5⟩ _ _ _ (by kernel_rfl) rfl ⟨by first | rfl | trivial, hr, hu, b2, lo_B4, B4, hP5, hnd5, hl5, hs5a, hs5b⟩
      · go_wp2_with fail
        have lo_B4 := hu.size
        refine absN fun u1081 B4 hb hz => ?_
        clear hz
        replace hX := hX.below hb hX.lt; replace hR0 := hR0.below hb hR0.lt; replace hO0 := hO0.below hb hO0.lt; replace b2 := b2.trans (hb.mono b2.size); replace hr := hr.trans (hb.mono hr.size); replace hu := hu.trans (hb.mono hu.size); replace hI := hI.below hb
        clear hb
        refine m_keep hr ?_
        obtain ⟨g4, hg4⟩ : ∃ g, g = u1021.heap.size := ⟨_, rfl⟩; replace lo_B4 : u1.heap.size ≤ g4 := by rw [hg4]; exact lo_B4
        rw [← hg4] at B4  ⊢; clear hg4
        refine m_s1 3 (by kernel_rfl) rfl ?_
        go_wp2_with fail
        refine (HFT.out A2 c2 _ b2 hI).mono ?_
        rintro e u1101 ⟨v5, s5, P5, rfl, hP5, hnd5, hl5, hs5a, hs5b, hb⟩
        replace hX := hX.below hb hX.lt; replace hR0 := hR0.below hb hR0.lt; replace hO0 := hO0.below hb hO0.lt; replace b2 := b2.trans (hb.mono b2.size); replace hr := hr.trans (hb.mono hr.size); replace hu := hu.trans (hb.mono hu.size); replace hI := hI.below hb; replace B4 := B4.below hb B4.lt
        clear hb
        go_wp2_with fail
        refine m_keep hr ?_
        obtain ⟨A5, c5, rfl, -⟩ := id hP5
        exact HL ⟨g4, s5, .slice A5 P5.length c5, P5⟩ _ _ _ (by kernel_rfl) rfl ⟨by first | rfl | trivial, hr, hu, b2, lo_B4, B4, hP5, hnd5, hl5, hs5a, hs5b⟩
    · go_wp2_with fail
      have lo_B4 := hu.size
      refine absN fun u1121 B4 hb hz => ?_
      clear hz
      replace hX := hX.below hb hX.lt; replace hR0 := hR0.below hb hR0.lt; replace hO0 := hO0.below hb hO0.lt; replace b2 := b2.trans (hb.mono b2.size); replace hr := hr.trans (hb.mono hr.size); replace hu := hu.trans (hb.mono hu.size)
      clear hb
      refine m_keep hr ?_
      obtain ⟨g4, hg4⟩ : ∃ g, g = u1.heap.size := ⟨_, rfl⟩; replace lo_B4 : u1.heap.size ≤ g4 := by rw [hg4]; exact lo_B4
      rw [← hg4] at B4  ⊢; clear hg4
      refine m_s1 2 (by kernel_rfl) rfl ?_
      go_wp2_with fail
      refine (HMK.out _ b2).mono ?_
      rintro e u1141 ⟨A2, c2, rfl, hI, hb⟩
      replace hX := hX.below hb hX.lt; replace hR0 := hR0.below hb hR0.lt; replace hO0 := hO0.below hb hO0.lt; replace b2 := b2.trans (hb.mono b2.size); replace hr := hr.trans (hb.mono hr.size); replace hu := hu.trans (hb.mono hu.size); replace B4 := B4.below hb B4.lt
      clear hb
      go_wp2_with fail
      refine m_keep hr ?_
      refine m_s1 3 (by kernel_rfl) rfl ?_
      go_wp2_with fail
      refine (HFT.out A2 c2 _ b2 hI).mono ?_
      rintro e u1161 ⟨v5, s5, P5, rfl, hP5, hnd5, hl5, hs5a, hs5b, hb⟩
      replace hX := hX.below hb hX.lt; replace hR0 := hR0.below hb hR0.lt; replace hO0 := hO0.below hb hO0.lt; replace b2 := b2.trans (hb.mono b2.size); replace hr := hr.trans (hb.mono hr.size); replace hu := hu.trans (hb.mono hu.size); replace B4 := B4.below hb B4.lt; replace hI := hI.below hb
      clear hb
      go_wp2_with fail
      refine m_keep hr ?_
      obtain ⟨A5, c5, rfl, -⟩ := id hP5
      exact HL ⟨g4, s5, .slice A5 P5.length c5, P5⟩ _ _ _ (by kernel_rfl) rfl ⟨by first | rfl | trivial, hr, hu, b2, lo_B4, B4, hP5, hnd5, hl5, hs5a, hs5b⟩
  clear hu b2
  rintro ⟨g4, s5, v5, P5⟩ f ds V ⟨rfl, hr2, hu, b2, l4, B4, hP5, hnd5, hl5, hs5a, hs5b⟩
  dsimp only at l4 B4 hP5 hnd5 hl5 hs5a hs5b ⊢
  obtain ⟨A5, c5, hve, -⟩ := id hP5
  obtain rfl : v5 = .slice A5 P5.length c5 := by injection hve with hve; injection hve with hve; injection hve with _ hve; injection hve
  clear hve
  have e0 := B4.cell 0; have e1 := B4.cell 1; have f0 := B4.frozen 0; have f1 := B4.frozen 1; have lB := B4.lt
  have l4b := Nat.le_trans hr.size l4
  have l4w : w.heap.size ≤ g4 := by have := b2.size; have := hX.lt; omega
  refine m_s1 5 (by kernel_rfl) rfl ?_
  go_wp2_with fail
  obtain ⟨V2, hV2⟩ : ∃ W, W = (V.setCell ⟨g4, 0, none⟩ (.int .i64 s5)).setCell ⟨g4, 1, none⟩ (.slice A5 P5.length c5) := ⟨_, rfl⟩
  have hb : Below u1.heap.size u1 V2 := by rw [hV2]; exact (hu.setCell (p := ⟨g4, 0, none⟩) l4 _).setCell (p := ⟨g4, 1, none⟩) l4 _
  replace b2 : Below w.heap.size w V2 := by rw [hV2]; exact (b2.setCell (p := ⟨g4, 0, none⟩) l4w _).setCell (p := ⟨g4, 1, none⟩) l4w _
  replace hr2 : Below w1.heap.size w1 V2 := by rw [hV2]; exact (hr2.setCell (p := ⟨g4, 0, none⟩) l4b _).setCell (p := ⟨g4, 1, none⟩) l4b _
  replace hP5 : PRt V2 (.agg #[.int .i64 s5, .slice A5 P5.length c5]) s5 P5 := by rw [hV2]; exact hP5.store B4
  replace B4 : Blk V2 g4 33 #[.int .i64 s5, .slice A5 P5.length c5] := by rw [hV2]; exact (B4.set_ 0 _).set_ 1 _
  rw [← hV2]
  clear hV2 e0 e1 f0 f1 lB
  refine m_keep hr2 ?_
  refine m_end (by kernel_rfl) ?_
  clear hr hr2 hu l4b l4 l4w x0 x1 x2 r0 r1 r2 HMK HFT
  replace hX := hX.below hb hX.lt; replace hR0 := hR0.below hb hR0.lt; replace hO0 := hO0.below hb hO0.lt
  clear hb hX hR0
  have e0 := B4.cell 0; have e1 := B4.cell 1; have o0 := hO0.cell 0; have o1 := hO0.cell 1; have o2 := hO0.cell 2; have o3 := hO0.cell 3
  have HAP := hideC (by have := apply_any o hoo s5 20 P5 40 _ V2 hP5.prf hnd5 (by omega) (by omega) ⟨hs5a, hs5b⟩ (by omega); unfold oddV at this; exact this)
  go_wp2_with fail
  refine (HAP.out).mono ?_
  rintro e u2 ⟨v6, s6, P6, rfl, hP6, hnd6, hl6, hs6a, hs6b, hb⟩
  replace hO0 := hO0.below hb hO0.lt; replace B4 := B4.below hb B4.lt; replace hP5 := hP5.below hb; replace b2 := b2.trans (hb.mono b2.size)
  clear hb
  obtain ⟨A6, c6, rfl, -⟩ := id hP6
  clear e0 e1 o0 o1 o2 o3 HAP hO0
  go_upto_region 5 with fail
  refine abs1 fun w8 hZ hb hz => ?_
  clear hz
  replace B4 := B4.below hb B4.lt; replace hP5 := hP5.below hb; replace b2 := b2.trans (hb.mono b2.size); replace hP6 := hP6.below hb
  clear hb
  obtain ⟨gZ, hgZ⟩ : ∃ g, g = u2.heap.size := ⟨_, rfl⟩
  rw [← hgZ] at hZ ⊢
  clear hgZ
  have hN5 := hP5.at_.2.2.nr; have hN6 := hP6.at_.2.2.nr
  have HO5 := Lib.hid (nok_of hnd5 (by omega)); have HO6 := Lib.hid (nok_of hnd6 (by omega))
  have hG5 : P5.length ≤ 100000000 := by omega
  have hG6 : P6.length ≤ 100000000 := by omega
  have e0 := B4.cell 0; have e1 := B4.cell 1; have z0 := hZ.cell 0; have z1 := hZ.cell 1
  clear hP5 hP6 hnd5 hnd6
  by_cases hss : s5 = s6
  · obtain ⟨bb, hbb⟩ : ∃ b, eqNs P5 P6 = b := ⟨_, rfl⟩
    have HFE := hideC (eqf_is (c := c5) (d := c6) hbb rfl rfl hN5 hN6 HO5.out HO6.out hG5 hG6)
    subst hss
    have HBB := Lib.hid (show (decide (s5 = s5) && eqNs P5 P6) = bb by rw [decide_eq_true rfl, hbb]; rfl)
    clear hbb
    go_wp2_with fail
    refine (HFE.out).mono ?_
    rintro e u3 ⟨rfl, hb⟩
    replace B4 := B4.below hb B4.lt; replace b2 := b2.trans (hb.mono b2.size); replace hZ := hZ.below hb hZ.lt; replace hN5 := hN5.below hb; replace hN6 := hN6.below hb
    clear hb
    clear HFE e0 e1 z0 z1
    go_wp2_with fail
    refine wp_mix (fun V => Below u3.heap.size u3 V) 15 (by kernel_rfl) (by kernel_rfl) (Below.refl _ _).drew ?_
    have hr : Below u3.heap.size u3 u3.drew := (Below.refl _ _).drew
    obtain ⟨u4, hw⟩ : ∃ V, V = u3.drew := ⟨_, rfl⟩
    rw [← hw] at hr ⊢; clear hw
    have hb := hr
    have e0 := B4.cell 0
    have e1 := B4.cell 1
    have z0 := hZ.cell 0
    have z1 := hZ.cell 1
    replace B4 := B4.below hb B4.lt; replace b2 := b2.trans (hb.mono b2.size); replace hZ := hZ.below hb hZ.lt; replace hN5 := hN5.below hb; replace hN6 := hN6.below hb
    clear hb
    (refine m_q 0 (v := ?_) (by kernel_rfl) rfl rfl (fun W hW => ?_) ?_; rotate_left; (have ze0 := onB hW e0; have ze1 := onB hW e1; have zz0 := onB hW z0; have zz1 := onB hW z1; go_simp; first | done | with_reducible rfl); simp only [Act.put, List.setIfInBounds_toArray, List.set_cons_zero, List.set_cons_succ]); (refine m_q 2 (v := ?_) (by kernel_rfl) rfl rfl (fun W hW => ?_) ?_; rotate_left; (have ze0 := onB hW e0; have ze1 := onB hW e1; have zz0 := onB hW z0; have zz1 := onB hW z1; go_simp; first | done | with_reducible rfl); simp only [Act.put, List.setIfInBounds_toArray, List.set_cons_zero, List.set_cons_succ])
    (refine m_q 5 (v := ?_) (by kernel_rfl) rfl rfl (fun W hW => ?_) ?_; rotate_left; (go_simp; first | done | with_reducible rfl); simp only [Act.put, List.setIfInBounds_toArray, List.set_cons_zero, List.set_cons_succ])
    refine m_s1 1 (by kernel_rfl) rfl ?_
    go_wp2_with fail
    refine (proof_any s5 A5 c5 P5 _ hN5 HO5.out hG5).mono ?_
    rintro e u5 ⟨A11, c11, rfl, -, hK1, hb⟩
    replace B4 := B4.below hb B4.lt; replace b2 := b2.trans (hb.mono b2.size); replace hZ := hZ.below hb hZ.lt; replace hN5 := hN5.below hb; replace hN6 := hN6.below hb; replace hr := hr.trans (hb.mono hr.size)
    clear hb
    go_wp2_with fail
    refine m_keep hr ?_
    refine m_s1 3 (by kernel_rfl) rfl ?_
    go_wp2_with fail
    refine (proof_any s5 A6 c6 P6 _ hN6 HO6.out hG6).mono ?_
    rintro e u6 ⟨A12, c12, rfl, -, hK2, hb⟩
    replace B4 := B4.below hb B4.lt; replace b2 := b2.trans (hb.mono b2.size); replace hZ := hZ.below hb hZ.lt; replace hN5 := hN5.below hb; replace hN6 := hN6.below hb; replace hr := hr.trans (hb.mono hr.size); replace hK1 := hK1.below hb
    clear hb
    go_wp2_with fail
    refine m_keep hr ?_
    refine m_s1 4 (by kernel_rfl) rfl ?_
    go_wp2_with fail
    refine (kequal_any s5 s5 A11 A12 c11 c12 _ _ P5 P6 _ bb (by have := HBB.out; simpa using this) rfl rfl hK1 hK2 HO5.out HO6.out hG5 hG6).mono ?_
    rintro e u7 ⟨rfl, hb⟩
    replace B4 := B4.below hb B4.lt; replace b2 := b2.trans (hb.mono b2.size); replace hZ := hZ.below hb hZ.lt; replace hN5 := hN5.below hb; replace hN6 := hN6.below hb; replace hr := hr.trans (hb.mono hr.size); replace hK1 := hK1.below hb; replace hK2 := hK2.below hb
    clear hb
    go_wp2_with fail
    refine m_keep hr ?_
    (refine m_q 6 (v := ?_) (by kernel_rfl) rfl rfl (fun W hW => ?_) ?_; rotate_left; (go_simp; first | done | with_reducible rfl); simp only [Act.put, List.setIfInBounds_toArray, List.set_cons_zero, List.set_cons_succ]); (refine m_q 7 (v := ?_) (by kernel_rfl) rfl rfl (fun W hW => ?_) ?_; rotate_left; (go_simp; first | done | with_reducible rfl); simp only [Act.put, List.setIfInBounds_toArray, List.set_cons_zero, List.set_cons_succ])
    (refine m_yes 8 (v := ?_) (by kernel_rfl) rfl (by rfl) (fun W hW => ?_) ?_; rotate_left; (have ze0 := onB hW e0; have ze1 := onB hW e1; have zz0 := onB hW z0; have zz1 := onB hW z1; go_simp; first | done | with_reducible rfl); simp only [Act.put, List.setIfInBounds_toArray, List.set_cons_zero, List.set_cons_succ])
    (refine m_yes 10 (v := ?_) (by kernel_rfl) rfl (by rfl) (fun W hW => ?_) ?_; rotate_left; (have ze0 := onB hW e0; have ze1 := onB hW e1; have zz0 := onB hW z0; have zz1 := onB hW z1; go_simp; first | done | with_reducible rfl); simp only [Act.put, List.setIfInBounds_toArray, List.set_cons_zero, List.set_cons_succ])
    clear hK1 hK2
    refine m_s1 9 (by kernel_rfl) rfl ?_
    go_wp2_with fail
    refine (proof_any s5 A5 c5 P5 _ hN5 HO5.out hG5).mono ?_
    rintro e u8 ⟨A11, c11, rfl, -, hK1, hb⟩
    replace B4 := B4.below hb B4.lt; replace b2 := b2.trans (hb.mono b2.size); replace hZ := hZ.below hb hZ.lt; replace hN5 := hN5.below hb; replace hN6 := hN6.below hb; replace hr := hr.trans (hb.mono hr.size)
    clear hb
    go_wp2_with fail
    refine m_keep hr ?_
    refine m_s1 11 (by kernel_rfl) rfl ?_
    go_wp2_with fail
    refine (proof_any s5 A5 c5 P5 _ hN5 HO5.out hG5).mono ?_
    rintro e u9 ⟨A12, c12, rfl, -, hK2, hb⟩
    replace B4 := B4.below hb B4.lt; replace b2 := b2.trans (hb.mono b2.size); replace hZ := hZ.below hb hZ.lt; replace hN5 := hN5.below hb; replace hN6 := hN6.below hb; replace hr := hr.trans (hb.mono hr.size); replace hK1 := hK1.below hb
    clear hb
    go_wp2_with fail
    refine m_keep hr ?_
    refine m_s1 12 (by kernel_rfl) rfl ?_
    go_wp2_with fail
    refine (kequal_any s5 s5 A11 A12 c11 c12 _ _ P5 P5 _ true (by rw [decide_eq_true rfl, eqNs_self]; rfl) rfl rfl hK1 hK2 HO5.out HO5.out hG5 hG5).mono ?_
    rintro e u10 ⟨rfl, hb⟩
    replace B4 := B4.below hb B4.lt; replace b2 := b2.trans (hb.mono b2.size); replace hZ := hZ.below hb hZ.lt; replace hN5 := hN5.below hb; replace hN6 := hN6.below hb; replace hr := hr.trans (hb.mono hr.size); replace hK1 := hK1.below hb; replace hK2 := hK2.below hb
    clear hb
    go_wp2_with fail
    refine m_keep hr ?_
    (refine m_q 13 (v := ?_) (by kernel_rfl) rfl rfl (fun W hW => ?_) ?_; rotate_left; (go_simp; first | done | with_reducible rfl); simp only [Act.put, List.setIfInBounds_toArray, List.set_cons_zero, List.set_cons_succ]); (refine m_q 14 (v := ?_) (by kernel_rfl) rfl rfl (fun W hW => ?_) ?_; rotate_left; (go_simp; first | done | with_reducible rfl); simp only [Act.put, List.setIfInBounds_toArray, List.set_cons_zero, List.set_cons_succ])
    refine m_end (by kernel_rfl) ?_
    clear e0 e1 z0 z1
    go_wp2_with fail
    go_ret
    exact ⟨rfl, b2⟩
  · have HBB := Lib.hid (show (decide (s5 = s6) && eqNs P5 P6) = false by rw [decide_eq_false hss]; rfl)
    have hsb : (s5 == s6) = false := by rw [beq_eq_false_iff_ne]; exact hss
    go_upto_region 6 with fail
    clear e0 e1 z0 z1
    refine wp_mix (fun V => Below w8.heap.size w8 V) 15 (by kernel_rfl) (by kernel_rfl) (Below.refl _ _).drew ?_
    have hr : Below w8.heap.size w8 w8.drew := (Below.refl _ _).drew
    obtain ⟨u3, hw⟩ : ∃ V, V = w8.drew := ⟨_, rfl⟩
    rw [← hw] at hr ⊢; clear hw
    have hb := hr
    have e0 := B4.cell 0
    have e1 := B4.cell 1
    have z0 := hZ.cell 0
    have z1 := hZ.cell 1
    replace B4 := B4.below hb B4.lt; replace b2 := b2.trans (hb.mono b2.size); replace hZ := hZ.below hb hZ.lt; replace hN5 := hN5.below hb; replace hN6 := hN6.below hb
    clear hb
    (refine m_q 0 (v := ?_) (by kernel_rfl) rfl rfl (fun W hW => ?_) ?_; rotate_left; (have ze0 := onB hW e0; have ze1 := onB hW e1; have zz0 := onB hW z0; have zz1 := onB hW z1; go_simp; first | done | with_reducible rfl); simp only [Act.put, List.setIfInBounds_toArray, List.set_cons_zero, List.set_cons_succ]); (refine m_q 2 (v := ?_) (by kernel_rfl) rfl rfl (fun W hW => ?_) ?_; rotate_left; (have ze0 := onB hW e0; have ze1 := onB hW e1; have zz0 := onB hW z0; have zz1 := onB hW z1; go_simp; first | done | with_reducible rfl); simp only [Act.put, List.setIfInBounds_toArray, List.set_cons_zero, List.set_cons_succ])
    (refine m_q 5 (v := ?_) (by kernel_rfl) rfl rfl (fun W hW => ?_) ?_; rotate_left; (go_simp; first | done | with_reducible rfl); simp only [Act.put, List.setIfInBounds_toArray, List.set_cons_zero, List.set_cons_succ])
    refine m_s1 1 (by kernel_rfl) rfl ?_
    go_wp2_with fail
    refine (proof_any s5 A5 c5 P5 _ hN5 HO5.out hG5).mono ?_
    rintro e u4 ⟨A11, c11, rfl, -, hK1, hb⟩
    replace B4 := B4.below hb B4.lt; replace b2 := b2.trans (hb.mono b2.size); replace hZ := hZ.below hb hZ.lt; replace hN5 := hN5.below hb; replace hN6 := hN6.below hb; replace hr := hr.trans (hb.mono hr.size)
    clear hb
    go_wp2_with fail
    refine m_keep hr ?_
    refine m_s1 3 (by kernel_rfl) rfl ?_
    go_wp2_with fail
    refine (proof_any s6 A6 c6 P6 _ hN6 HO6.out hG6).mono ?_
    rintro e u5 ⟨A12, c12, rfl, -, hK2, hb⟩
    replace B4 := B4.below hb B4.lt; replace b2 := b2.trans (hb.mono b2.size); replace hZ := hZ.below hb hZ.lt; replace hN5 := hN5.below hb; replace hN6 := hN6.below hb; replace hr := hr.trans (hb.mono hr.size); replace hK1 := hK1.below hb
    clear hb
    go_wp2_with fail
    refine m_keep hr ?_
    refine m_s1 4 (by kernel_rfl) rfl ?_
    go_wp2_with fail
    refine (kequal_any s5 s6 A11 A12 c11 c12 _ _ P5 P6 _ false (by have := HBB.out; simpa using this) rfl rfl hK1 hK2 HO5.out HO6.out hG5 hG6).mono ?_
    rintro e u6 ⟨rfl, hb⟩
    replace B4 := B4.below hb B4.lt; replace b2 := b2.trans (hb.mono b2.size); replace hZ := hZ.below hb hZ.lt; replace hN5 := hN5.below hb; replace hN6 := hN6.below hb; replace hr := hr.trans (hb.mono hr.size); replace hK1 := hK1.below hb; replace hK2 := hK2.below hb
    clear hb
    go_wp2_with fail
    refine m_keep hr ?_
    (refine m_q 6 (v := ?_) (by kernel_rfl) rfl rfl (fun W hW => ?_) ?_; rotate_left; (go_simp; first | done | with_reducible rfl); simp only [Act.put, List.setIfInBounds_toArray, List.set_cons_zero, List.set_cons_succ]); (refine m_q 7 (v := ?_) (by kernel_rfl) rfl rfl (fun W hW => ?_) ?_; rotate_left; (go_simp; first | done | with_reducible rfl); simp only [Act.put, List.setIfInBounds_toArray, List.set_cons_zero, List.set_cons_succ])
    (refine m_yes 8 (v := ?_) (by kernel_rfl) rfl (by rfl) (fun W hW => ?_) ?_; rotate_left; (have ze0 := onB hW e0; have ze1 := onB hW e1; have zz0 := onB hW z0; have zz1 := onB hW z1; go_simp; first | done | with_reducible rfl); simp only [Act.put, List.setIfInBounds_toArray, List.set_cons_zero, List.set_cons_succ])
    (refine m_yes 10 (v := ?_) (by kernel_rfl) rfl (by rfl) (fun W hW => ?_) ?_; rotate_left; (have ze0 := onB hW e0; have ze1 := onB hW e1; have zz0 := onB hW z0; have zz1 := onB hW z1; go_simp; first | done | with_reducible rfl); simp only [Act.put, List.setIfInBounds_toArray, List.set_cons_zero, List.set_cons_succ])
    clear hK1 hK2
    refine m_s1 9 (by kernel_rfl) rfl ?_
    go_wp2_with fail
    refine (proof_any s5 A5 c5 P5 _ hN5 HO5.out hG5).mono ?_
    rintro e u7 ⟨A11, c11, rfl, -, hK1, hb⟩
    replace B4 := B4.below hb B4.lt; replace b2 := b2.trans (hb.mono b2.size); replace hZ := hZ.below hb hZ.lt; replace hN5 := hN5.below hb; replace hN6 := hN6.below hb; replace hr := hr.trans (hb.mono hr.size)
    clear hb
    go_wp2_with fail
    refine m_keep hr ?_
    refine m_s1 11 (by kernel_rfl) rfl ?_
    go_wp2_with fail
    refine (proof_any s5 A5 c5 P5 _ hN5 HO5.out hG5).mono ?_
    rintro e u8 ⟨A12, c12, rfl, -, hK2, hb⟩
    replace B4 := B4.below hb B4.lt; replace b2 := b2.trans (hb.mono b2.size); replace hZ := hZ.below hb hZ.lt; replace hN5 := hN5.below hb; replace hN6 := hN6.below hb; replace hr := hr.trans (hb.mono hr.size); replace hK1 := hK1.below hb
    clear hb
    go_wp2_with fail
    refine m_keep hr ?_
    refine m_s1 12 (by kernel_rfl) rfl ?_
    go_wp2_with fail
    refine (kequal_any s5 s5 A11 A12 c11 c12 _ _ P5 P5 _ true (by rw [decide_eq_true rfl, eqNs_self]; rfl) rfl rfl hK1 hK2 HO5.out HO5.out hG5 hG5).mono ?_
    rintro e u9 ⟨rfl, hb⟩
    replace B4 := B4.below hb B4.lt; replace b2 := b2.trans (hb.mono b2.size); replace hZ := hZ.below hb hZ.lt; replace hN5 := hN5.below hb; replace hN6 := hN6.below hb; replace hr := hr.trans (hb.mono hr.size); replace hK1 := hK1.below hb; replace hK2 := hK2.below hb
    clear hb
    go_wp2_with fail
    refine m_keep hr ?_
    (refine m_q 13 (v := ?_) (by kernel_rfl) rfl rfl (fun W hW => ?_) ?_; rotate_left; (go_simp; first | done | with_reducible rfl); simp only [Act.put, List.setIfInBounds_toArray, List.set_cons_zero, List.set_cons_succ]); (refine m_q 14 (v := ?_) (by kernel_rfl) rfl rfl (fun W hW => ?_) ?_; rotate_left; (go_simp; first | done | with_reducible rfl); simp only [Act.put, List.setIfInBounds_toArray, List.set_cons_zero, List.set_cons_succ])
    refine m_end (by kernel_rfl) ?_
    clear e0 e1 z0 z1
    go_wp2_with fail
    go_ret
    exact ⟨rfl, b2⟩
end Mix2
end Go.Proofs.YtlehoomnddcblaaDoor

