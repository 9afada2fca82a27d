import Derived.Test.YthkjigggfeejdaaDoorMl3
namespace Go.Proofs.YthkjigggfeejdaaDoor
open Go.RowKit

/-- What the laws have behind Make. -/
structure LI (w W : World) (X3 X4 u a b p : Nat) (A1 : Option Addr) (c1 : Nat) (B1 : Option Addr) (d1 : Nat) (A2 : Option Addr) (c2 : Nat) (B2 : Option Addr) (d2 : Nat) (M P M' P' : List (List Bool)) : Prop where
  old : Blk W X3 31 #[.int .i64 (a : Int), .slice A1 u c1, .int .i64 (p : Int), .slice B1 a d1]
  new : Blk W X4 31 #[.int .i64 (b : Int), .slice A2 u c2, .int .i64 (p : Int), .slice B2 b d2]
  rc : RC W a A1 c1 p B1 d1 M P
  rc' : RC W b A2 c2 p B2 d2 M' P'
  lM : M.length = u
  lP : P.length = a
  lM' : M'.length = u
  lP' : P'.length = b
  bd : u ≤ 4 ∧ a ≤ 3 ∧ b ≤ 3 ∧ p ≤ 4
  tab : Tab W
  below : Below w.heap.size w W
section
variable {w W W' : World} {X3 X4 u a b p : Nat} {A1 : Option Addr} {c1 : Nat} {B1 : Option Addr} {d1 : Nat} {A2 : Option Addr} {c2 : Nat} {B2 : Option Addr} {d2 : Nat} {M P M' P' : List (List Bool)}
theorem LI.next (h : LI w W X3 X4 u a b p A1 c1 B1 d1 A2 c2 B2 d2 M P M' P') (hb : Below W.heap.size W W') : LI w W' X3 X4 u a b p A1 c1 B1 d1 A2 c2 B2 d2 M P M' P' :=
  ⟨h.old.below hb h.old.lt, h.new.below hb h.new.lt, h.rc.below hb, h.rc'.below hb, h.lM, h.lP, h.lM', h.lP', h.bd, h.tab.below hb, h.below.trans (hb.mono h.below.size)⟩
theorem LI.cfgA (h : LI w W X3 X4 u a b p A1 c1 B1 d1 A2 c2 B2 d2 M P M' P') :
    Calls Tryd.prog 16 #[rcfV a A1 u c1 p B1 a d1] W fun e w' => ∃ q r, e = .returned (cfgV q r) ∧ IsCfg w' q r a p M P ∧ Below W.heap.size W w' := by
  have := config_any a c1 p d1 A1 B1 M P W h.rc.users.ref h.rc.perms.ref (by have := h.bd; omega) (by have := h.bd; have := h.lM; omega) (by have := h.bd; omega) (by have := h.bd; have := h.lP; omega)
  rw [h.lM, h.lP] at this
  exact this.mono fun e w' ⟨q, r, h1, h2, h3, h4, h5⟩ => ⟨q, r, h1, ⟨h2, h3, h.lP.symm, h4⟩, h5⟩
theorem LI.cfgB (h : LI w W X3 X4 u a b p A1 c1 B1 d1 A2 c2 B2 d2 M P M' P') :
    Calls Tryd.prog 16 #[rcfV b A2 u c2 p B2 b d2] W fun e w' => ∃ q r, e = .returned (cfgV q r) ∧ IsCfg w' q r b p M' P' ∧ Below W.heap.size W w' := by
  have := config_any b c2 p d2 A2 B2 M' P' W h.rc'.users.ref h.rc'.perms.ref (by have := h.bd; omega) (by have := h.bd; have := h.lM'; omega) (by have := h.bd; omega) (by have := h.bd; have := h.lP'; omega)
  rw [h.lM', h.lP'] at this
  exact this.mono fun e w' ⟨q, r, h1, h2, h3, h4, h5⟩ => ⟨q, r, h1, ⟨h2, h3, h.lP'.symm, h4⟩, h5⟩
theorem LI.jn_le (h : LI w W X3 X4 u a b p A1 c1 B1 d1 A2 c2 B2 d2 M P M' P') : jn P P' ≤ 6 := by
  have := Go.Proofs.YthkjigggfeejdaaDoor.jn_le P P'
  have := h.bd; have := h.lP; have := h.lP'; omega
theorem LI.small (h : LI w W X3 X4 u a b p A1 c1 B1 d1 A2 c2 B2 d2 M P M' P') : (planJ p M P M' P').length ≤ 67108864 :=
  planJ_small (by have := h.bd; have := h.lM; omega) (by have := h.bd; have := h.lM'; omega) (by have := h.jn_le; omega) (by have := h.bd; omega)
theorem LI.rplan (h : LI w W X3 X4 u a b p A1 c1 B1 d1 A2 c2 B2 d2 M P M' P') :
    Calls Tryd.prog 34 #[rcfV a A1 u c1 p B1 a d1, rcfV b A2 u c2 p B2 b d2] W fun e w' => ∃ A c, e = .returned (.slice A (planJ p M P M' P').length c) ∧ Row w' A (cellsQ (toZ (planJ p M P M' P'))) ∧ Below W.heap.size W w' := by
  have := rplan_any a c1 p d1 b c2 d2 A1 B1 A2 B2 M P M' P' W h.rc.users.ref h.rc.perms.ref h.rc'.users.ref h.rc'.perms.ref h.lP.symm h.lP'.symm (h.lM.trans h.lM'.symm) (by have := h.jn_le; omega)
  rw [h.lM, h.lP, h.lM', h.lP'] at this
  refine this.mono ?_
  rintro e w' ⟨v, rfl, ho, hb⟩
  obtain ⟨A, c, rfl, hr⟩ := row_of_own3 ho
  rw [cellsR_Q] at hr
  exact ⟨A, c, rfl, hr, hb⟩
theorem LI.plan (h : LI w W X3 X4 u a b p A1 c1 B1 d1 A2 c2 B2 d2 M P M' P') {q r q' r' : Nat} {V : World} (hb : Below W.heap.size W V) (hc : IsCfg V q r a p M P) (hc' : IsCfg V q' r' b p M' P') :
    Calls Tryd.prog 29 #[cfgV q r, cfgV q' r'] V fun e w' => ∃ A c, e = .returned (.tuple #[.slice A (planJ p M P M' P').length c, .int .i64 0]) ∧ Row w' A (cellsS (planJ p M P M' P')) ∧ Below V.heap.size V w' := by
  refine (plan_any q r q' r' a b p M P M' P' V hc hc' (h.lM.trans h.lM'.symm) (by have := h.jn_le; omega) (by have := h.bd; have := h.lM; omega) (by have := h.bd; omega) (h.tab.below hb)).mono ?_
  rintro e w' ⟨v, rfl, ho, hb'⟩
  obtain ⟨A, c, rfl, hr⟩ := row_of_own3 ho
  exact ⟨A, c, rfl, hr, hb'⟩
theorem LI.dist (h : LI w W X3 X4 u a b p A1 c1 B1 d1 A2 c2 B2 d2 M P M' P') {q r q' r' : Nat} {V : World} (hb : Below W.heap.size W V) (hc : IsCfg V q r a p M P) (hc' : IsCfg V q' r' b p M' P') :
    Calls Tryd.prog 28 #[cfgV q r, cfgV q' r'] V fun e w' => e = .returned (.tuple #[.int .i64 (planJ p M P M' P').length, .int .i64 0]) ∧ Below V.heap.size V w' :=
  cdist_any q r q' r' a b p M P M' P' V hc hc' (h.lM.trans h.lM'.symm) (by have := h.jn_le; omega) (by have := h.bd; have := h.lM; omega) (by have := h.bd; omega) (h.tab.below hb)
end
set_option maxRecDepth 100000 in
set_option maxHeartbeats 8000000 in
theorem plans_walk (v : Value) (u a b p : Nat) (zs : List Int) (w : World) (hT : Tab w) (h : IsRaw49 w v u a b p zs) :
    Calls Tryd.prog 11 #[v] w fun e w' => e = .returned (.bool true) ∧ Below w.heap.size w w' := by
  have hbd := h.bd
  have HIN := hideC h
  obtain ⟨u0, a0, b0, p0, AZ, cZ, hv, _⟩ := id h
  subst hv
  clear h
  go_enter Tryd.func11, Tryd.ntmps11
  go_wp2_with fail
  refine absC1 fun W0 hX hb0 hz => ?_
  clear hz
  refine (awake_any49 W0 (hT.below hb0)).mono ?_
  rintro e w1 ⟨rfl, hb1⟩
  have b1 := hb0.trans (hb1.mono hb0.size)
  have hX1 := hX.below hb1 hX.lt
  have x0 := hX1.cell 0
  have x1 := hX1.cell 1
  have x2 := hX1.cell 2
  have x3 := hX1.cell 3
  have x4 := hX1.cell 4
  clear hX hb0 hb1
  have HMK := hideC (rmake_any _ u a b p zs w1 (HIN.out.below b1))
  go_wp2_with fail
  refine HMK.out.mono ?_
  rintro e w2 ⟨M, P, M', P', A1, c1, B1, d1, A2, c2, B2, d2, rfl, hc, hc', lM, lP, lM', lP', hb2⟩
  have b2 := b1.trans (hb2.mono b1.size)
  clear x0 x1 x2 x3 x4 HMK hX1 hb2 b1
  go_wp2_with fail
  refine abs2 fun w3 h3 h4 hb3 hz3 => ?_
  have J : LI w w3 w2.heap.size (w2.heap.size + 1) u a b p A1 c1 B1 d1 A2 c2 B2 d2 M P M' P' := ⟨h3, h4, hc.below hb3, hc'.below hb3, lM, lP, lM', lP', hbd, hT.below (b2.trans (hb3.mono b2.size)), b2.trans (hb3.mono b2.size)⟩
  obtain ⟨X3, hX3⟩ : ∃ x, x = w2.heap.size := ⟨_, rfl⟩
  rw [← hX3] at J ⊢
  clear hX3 h3 h4 hc hc' lM lP lM' lP' hb3 hz3 b2 hbd HIN hT
  have x0 := J.old.cell 0
  have x1 := J.old.cell 1
  have x2 := J.old.cell 2
  have x3 := J.old.cell 3
  have y0 := J.new.cell 0
  have y1 := J.new.cell 1
  have y2 := J.new.cell 2
  have y3 := J.new.cell 3
  have hd : Below w3.heap.size w3 w3.drew := (Below.refl _ _).drew
  have Jq := J.next hd
  obtain ⟨wq, hwq⟩ : ∃ V, V = w3.drew := ⟨_, rfl⟩
  rw [← hwq] at hd Jq
  go_wp2_with fail
  refine wp_mix (fun V => Below w3.heap.size w3 V) 10 (by kernel_rfl) (by kernel_rfl) (Below.refl _ _).drew ?_
  rw [← hwq]
  clear hwq
  (refine m_q 0 (v := ?_) (by kernel_rfl) rfl rfl (fun W hW => ?_) ?_; rotate_left; (have z0 := onB hW x0; have z1 := onB hW x1; have z2 := onB hW x2; have z3 := onB hW x3; have u0 := onB hW y0; have u1 := onB hW y1; have u2 := onB hW y2; have u3 := onB hW y3; go_simp; first | done | with_reducible rfl); simp only [Act.put, List.setIfInBounds_toArray, List.set_cons_zero, List.set_cons_succ]); (refine m_q 2 (v := ?_) (by kernel_rfl) rfl rfl (fun W hW => ?_) ?_; rotate_left; (have z0 := onB hW x0; have z1 := onB hW x1; have z2 := onB hW x2; have z3 := onB hW x3; have u0 := onB hW y0; have u1 := onB hW y1; have u2 := onB hW y2; have u3 := onB hW y3; go_simp; first | done | with_reducible rfl); simp only [Act.put, List.setIfInBounds_toArray, List.set_cons_zero, List.set_cons_succ])
  clear x0 x1 x2 x3 y0 y1 y2 y3
  refine m_s1 1 (by kernel_rfl) rfl ?_
  go_wp2_with fail
  refine Jq.cfgA.mono ?_
  rintro e w4 ⟨q1, r1, rfl, hq1, hb4⟩
  have J4 := Jq.next hb4
  go_wp2_with fail
  refine m_next (hd.trans (hb4.mono hd.size)) ?_
  refine m_s1 3 (by kernel_rfl) rfl ?_
  go_wp2_with fail
  refine J4.cfgB.mono ?_
  rintro e w5 ⟨q2, r2, rfl, hq2, hb5⟩
  have J5 := J4.next hb5
  go_wp2_with fail
  refine m_next hb5 ?_
  refine m_s1 4 (by kernel_rfl) rfl ?_
  go_wp2_with fail
  refine (J5.plan (Below.refl _ _) (hq1.below hb5) hq2).mono ?_
  rintro e w6 ⟨A, c, rfl, hr, hb6⟩
  have J6 := J5.next hb6
  go_wp2_with fail
  refine m_next hb6 ?_
  (refine m_q 5 (v := ?_) (by kernel_rfl) rfl rfl (fun W hW => ?_) ?_; rotate_left; (go_simp; first | done | with_reducible rfl); simp only [Act.put, List.setIfInBounds_toArray, List.set_cons_zero, List.set_cons_succ]); (refine m_q 6 (v := ?_) (by kernel_rfl) rfl rfl (fun W hW => ?_) ?_; rotate_left; (go_simp; first | done | with_reducible rfl); simp only [Act.put, List.setIfInBounds_toArray, List.set_cons_zero, List.set_cons_succ]); (refine m_q 7 (v := ?_) (by kernel_rfl) rfl rfl (fun W hW => ?_) ?_; rotate_left; (go_simp; first | done | with_reducible rfl); simp only [Act.put, List.setIfInBounds_toArray, List.set_cons_zero, List.set_cons_succ]); (refine m_q 8 (v := ?_) (by kernel_rfl) rfl rfl (fun W hW => ?_) ?_; rotate_left; (go_simp; first | done | with_reducible rfl); simp only [Act.put, List.setIfInBounds_toArray, List.set_cons_zero, List.set_cons_succ]); (refine m_q 9 (v := ?_) (by kernel_rfl) rfl rfl (fun W hW => ?_) ?_; rotate_left; (go_simp; first | done | with_reducible rfl); simp only [Act.put, List.setIfInBounds_toArray, List.set_cons_zero, List.set_cons_succ])
  refine m_end (by kernel_rfl) ?_
  clear J Jq J4 J5 hq1 hq2 hb4 hb5 hb6 hd
  have x0 := J6.old.cell 0
  have x1 := J6.old.cell 1
  have x2 := J6.old.cell 2
  have x3 := J6.old.cell 3
  have y0 := J6.new.cell 0
  have y1 := J6.new.cell 1
  have y2 := J6.new.cell 2
  have y3 := J6.new.cell 3
  go_wp2_with fail
  refine J6.rplan.mono ?_
  rintro e w7 ⟨A7, c7, rfl, hr7, hb7⟩
  have J7 := J6.next hb7
  have hrr := hr.below hb7
  have hsm := J7.small
  have hST := steps_any A7 c7 (toZ (planJ p M P M' P')) w7 hr7 planJ_kindZ (by rw [toZ_len]; omega)
  rw [toZ_len, ← cellsS_Z] at hST
  have HST := hideC hST
  clear x0 x1 x2 x3 y0 y1 y2 y3 hST hr7 hr hb7 J6
  go_wp2_with fail
  refine HST.out.mono ?_
  rintro e w8 ⟨v8, rfl, ho8, hb8⟩
  obtain ⟨A8, c8, rfl, hr8⟩ := row_of_own3 ho8
  have J8 := J7.next hb8
  have HEQ := hideC (eqsteps_yes A A8 c c8 _ (planJ p M P M' P') w8 (hrr.below hb8) hr8 rfl (by omega))
  go_wp2_with fail
  refine HEQ.out.mono ?_
  rintro e w9 ⟨rfl, hb9⟩
  go_wp2_with fail
  go_ret
  exact ⟨rfl, (J8.next hb9).below⟩
end Go.Proofs.YthkjigggfeejdaaDoor
