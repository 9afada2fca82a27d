/-
  The law RankConcepts.
-/
import Derived.Test.YtgpooflcbljidaaDoorRn7
import Derived.Test.YtgpooflcbljidaaDoorRrA
import Derived.Test.YtgpooflcbljidaaDoorClo12
import Derived.Test.YtgpooflcbljidaaDoorMix2
import Derived.Test.YtgpooflcbljidaaDoorJoin
import Derived.Deep.DeepCutAuto
import Derived.Deep.CutBlock
namespace Go.Proofs.YtgpooflcbljidaaDoor
open Go.RowKit
set_option maxRecDepth 100000 in
set_option maxHeartbeats 2000000 in
theorem set14_any (x : Nat) (hx : x < 2 ^ 64) (w : World) :
    Calls Tryd.prog 29 #[.int .u64 x] w fun e w' => ∃ r, e = .returned (.agg #[r]) ∧ IsSet w' r x ∧ Below w.heap.size w w' := by
  go_enter Tryd.func29, Tryd.ntmps29
  go_wp2_with fail
  refine absC1 fun W0 hO hb0 hz => ?_
  refine (members_any x W0).mono ?_
  rintro e w1 ⟨A, c, rfl, hr, hb1⟩
  have hof := of_any A c ((bitsTo x 64).map Int.ofNat) w1 (by rw [List.map_map]; exact hr) (by have := bitsTo_len x 64; rw [List.length_map]; omega)
  rw [setOf_bits hx, List.length_map] at hof
  have HOF := hideC hof
  have b1 := hb0.trans (hb1.mono hb0.size)
  have hO1 := hO.below hb1 hO.lt
  clear hof
  go_wp2_with fail
  refine HOF.out.mono ?_
  rintro e w2 ⟨r, rfl, hr2, hb2⟩
  obtain ⟨A2, c2, rfl, _⟩ := id hr2
  have b2 := b1.trans (hb2.mono b1.size)
  have hO2 := hO1.below hb2 hO1.lt
  have f0 := hO2.frozen 0
  have o0 := hO2.cell 0
  have lO := hO2.lt
  go_wp2_with fail
  have hOX := hO2.set_ 0 (.slice A2 (nw x) c2)
  have cX := hOX.cell 0
  exact bodyPost_ret (v := .agg #[.slice A2 (nw x) c2]) (by simp [results, Tryd.results29, go_sem, cX]) rfl ⟨_, rfl, hr2.put hO2 (by decide) 0 _, b2.setCell (p := ⟨w.heap.size, 0, none⟩) (by simp) _⟩
theorem con_lt {C : Nat} {M : List (List Bool)} {i j : Int} {s : Nat} (hC : C ≤ 60) (h : s ∈ conR C M i j) : s < 2 ^ 64 := by
  unfold conR at h
  split at h
  · rw [mem_conL, inC, Bool.and_eq_true, Bool.and_eq_true, decide_eq_true_eq] at h
    rw [← h.1.1]
    exact Nat.lt_of_lt_of_le (clo_lt C _ s) (Nat.pow_le_pow_right (by omega) (by omega))
  · simp at h
theorem conP_conR {C : Nat} {M : List (List Bool)} (hC : C ≤ 12) (i j : Int) : conP C (nsOf C M) i j = conR C M i j := by
  unfold conP conR
  rw [mhas_nsOf C M (by omega)]
  by_cases h : hasR C M i j = true
  · have hc : card (mrow (nsOf C M) i) ≤ 12 := by
      obtain ⟨a, b, rfl, rfl, ha, hb⟩ := hasR_parts h
      rw [mrow, if_pos (by omega), Int.toNat_natCast]
      refine Nat.le_trans (card_bits (C := C) fun y hy => ?_) hC
      have := rowsIn_nsOf C M (by omega) a (by rw [nsTo_len]; exact ha)
      rw [← this, Nat.testBit_and, testBit_lowN, Bool.and_eq_true, decide_eq_true_eq] at hy
      exact hy.2
    rw [if_pos h, if_pos ⟨h, hc⟩]
  · rw [if_neg h, if_neg fun e => h e.1]
theorem wrap7 {x : Nat} (hx : x ≤ 255) : IntKind.i64.wrap (IntKind.i64.wrap ((x : Int).tmod 7) - 1) = (x : Int) % 7 - 1 := by
  rw [Int.tmod_eq_emod_of_nonneg (by omega), show IntKind.i64.wrap ((x : Int) % 7) = (x : Int) % 7 from i64w ⟨by omega, by omega⟩, i64w ⟨by omega, by omega⟩]
theorem conP_nil (i j : Int) : conP 0 [] i j = [] := by
  unfold conP
  rw [if_neg]
  rintro ⟨h, _⟩
  obtain ⟨a, b, rfl, rfl, ha, hb, _⟩ := mhas_parts h
  simp at ha
theorem eq_same14 {w : World} {v u : Value} {N : Nat} (hs : IsSet w v N) (ho : IsSet w u N) :
    Calls Tryd.prog 27 #[.agg #[v], .agg #[u]] w fun e w' => e = .returned (.bool true) ∧ Below w.heap.size w w' := by
  have := equal_any v u N N w hs ho
  rwa [decide_eq_true rfl] at this
namespace Mix2
set_option maxRecDepth 100000 in
set_option maxHeartbeats 2000000 in
theorem eq1_any (v : Value) (N : Nat) (hN : N < 2 ^ 64) (w : World) (hs : IsSet w v N) :
    Calls Tryd.prog 38 #[.agg #[v], .int .u64 N] w fun e w' => e = .returned (.bool true) ∧ Below w.heap.size w w' := by
  obtain ⟨A, c, rfl, _⟩ := id hs
  go_enter Tryd.func38, Tryd.ntmps38
  go_wp2_with fail
  refine abs1 fun W0 hX hb0 hz => ?_
  clear hz
  have x0 := hX.cell 0
  have hs0 := hs.below hb0
  have hr : Below W0.heap.size W0 W0.drew := (Below.refl _ _).drew
  refine wp_mix (fun V => Below W0.heap.size W0 V) 5 (by kernel_rfl) (by kernel_rfl) (Below.refl _ _).drew ?_
  obtain ⟨u, hu⟩ : ∃ V, V = W0.drew := ⟨_, rfl⟩
  rw [← hu] at hr ⊢
  clear hu
  (refine m_q 0 (v := ?_) (by kernel_rfl) rfl rfl (fun W hW => ?_) ?_; rotate_left; (have z0 := onB hW x0; go_simp; first | done | with_reducible rfl); simp only [Act.put, List.setIfInBounds_toArray, List.set_cons_zero, List.set_cons_succ])
  (refine m_q 1 (v := ?_) (by kernel_rfl) rfl rfl (fun W hW => ?_) ?_; rotate_left; (go_simp; first | done | with_reducible rfl); simp only [Act.put, List.setIfInBounds_toArray, List.set_cons_zero, List.set_cons_succ])
  refine m_s1 2 (by kernel_rfl) rfl ?_
  go_wp2_with fail
  refine (res3 rfl (set14_any N hN u)).mono ?_
  rintro e u2 ⟨A2, n2, c2, rfl, s2, hb2⟩
  have hr2 := hr.trans (hb2.mono hr.size)
  go_wp2_with fail
  refine m_keep hr2 ?_
  refine m_s1 3 (by kernel_rfl) rfl ?_
  go_wp2_with fail
  refine (eq_same14 (hs0.below hr2) s2).mono ?_
  rintro e u3 ⟨rfl, hb3⟩
  have hr3 := hr2.trans (hb3.mono hr2.size)
  go_wp2_with fail
  refine m_keep hr3 ?_
  (refine m_q 4 (v := ?_) (by kernel_rfl) rfl rfl (fun W hW => ?_) ?_; rotate_left; (go_simp; first | done | with_reducible rfl); simp only [Act.put, List.setIfInBounds_toArray, List.set_cons_zero, List.set_cons_succ])
  refine m_end (by kernel_rfl) ?_
  go_wp2_with fail
  go_ret
  exact ⟨rfl, hb0.trans (hr3.mono hb0.size)⟩
end Mix2
set_option maxRecDepth 100000 in
set_option maxHeartbeats 2000000 in
theorem eqf_core (fv : Value) (hfv : fv = .func (.func 38) #[] #[]) (A B : Option Addr) (c d : Nat) (vs : List Value) (L : List Nat) (w : World) (hr : Row w A vs) (hs : Sets w vs L) (hq : Row w B (u64L L)) (hL : L.length ≤ 4096) (hb64 : ∀ s ∈ L, s < 2 ^ 64) :
    Calls Tryd.prog 36 #[.slice A L.length c, .slice B L.length d, fv] w fun e w' => e = .returned (.bool true) ∧ Below w.heap.size w w' := by
  go_enter Tryd.func36, Tryd.ntmps36
  go_wp2_with fail
  refine wp_loopF (β := Nat) (fun i f => #[f 0, .slice B L.length d, fv, f 3, f 4, f 5, .bool false, f 7, f 8, f 9, f 10, f 11, f 12, f 13, f 14, .slice A L.length c, .int .i64 (L.length : Int), .int .i64 (i : Int), f 18, f 19, f 20, f 21, f 22, f 23, f 24, f 25, f 26, f 27, f 28, f 29, f 30, f 31])
    (fun i ds W => i ≤ L.length ∧ ds = [] ∧ Below w.heap.size w W) (fun i => L.length - i) 0 rfl ⟨Nat.zero_le _, rfl, Below.refl _ _⟩ ?_
  rintro i f ds W ⟨hi, rfl, hbW⟩
  dsimp only at hi ⊢
  by_cases hlt : i < L.length
  · obtain ⟨s, hsx⟩ : ∃ s, L[i]? = some s := ⟨_, List.getElem?_eq_getElem hlt⟩
    have hv : i < vs.length := by rw [hs.1]; exact hlt
    obtain ⟨v, hvx⟩ : ∃ v, vs[i]? = some v := ⟨_, List.getElem?_eq_getElem hv⟩
    have sv := (hs.2 i v s hvx hsx).below hbW
    obtain ⟨Av, cv, rfl, _⟩ := id sv
    obtain ⟨g1, o1, rfl, hg1, hc1⟩ := hr (by omega)
    obtain ⟨g2, o2, rfl, hg2, hc2⟩ := hq (by rw [List.length_map]; omega)
    have d1 := onB hbW (hc1 i _ hvx)
    have d2 := onB hbW (hc2 i (.int .u64 (s : Int)) (by rw [List.getElem?_map, hsx]; rfl))
    have h64 := hb64 s (List.mem_of_getElem? hsx)
    have hg2W := Nat.lt_of_lt_of_le hg2 hbW.size
    have HC := Lib.hid (fun W' hW => Mix2.eq1_any _ s h64 W' (sv.below (w' := W') hW))
    clear hvx hc1 hc2 hsx
    subst hfv
    go_wp2_with fail
    refine absC1 fun W1 hB hb1 hz1 => ?_
    refine (HC.out W1 hb1).mono ?_
    rintro e W2 ⟨rfl, hb2⟩
    go_wp2_with fail
    exact ⟨i + 1, rfl, ⟨by omega, by first | rfl | trivial, (hbW.trans (hb1.mono hbW.size)).trans (hb2.mono (hbW.trans (hb1.mono hbW.size)).size)⟩, by omega⟩
  · obtain rfl : i = L.length := by omega
    go_wp2_with fail
    go_ret
    exact ⟨rfl, hbW⟩
namespace Mix2
set_option maxRecDepth 100000 in
set_option maxHeartbeats 8000000 in
theorem concepts_walk (v : Value) (R C : Nat) (zs : List Int) (x y : Nat) (w : World) (hT : Tab w) (h : IsRaw w v R C zs) (hx : x ≤ 255) (hy : y ≤ 255) :
    Calls Tryd.prog 9 #[v, .agg #[.int .u8 x, .int .u8 y]] w fun e w' => e = .returned (.bool true) ∧ Below w.heap.size w w' := by
  have hbd := h.bd
  obtain ⟨r, c, A0, d0, hv, _⟩ := id h
  subst hv
  have HIN := hideC h; clear h
  go_enter Tryd.func9, Tryd.ntmps9
  go_wp2_with fail
  refine absC2 fun W0 hX hP hbel0 hz => ?_
  clear hz
  refine (awake_any47 W0 (hT.below hbel0)).mono ?_
  rintro e w1 ⟨rfl, hb1⟩
  have b1 := hbel0.trans (hb1.mono hbel0.size)
  replace hX := hX.below hb1 hX.lt
  replace hP := hP.below hb1 hP.lt
  have x0 := hX.cell 0
  have x1 := hX.cell 1
  have x2 := hX.cell 2
  have HM := hideC (make_raw _ R C zs w1 (HIN.out.below b1))
  go_wp2_with fail
  refine HM.out.mono ?_
  rintro e w2 ⟨A2, c2, rfl, hI, hb2⟩
  have b2 := b1.trans (hb2.mono b1.size)
  replace hP := hP.below hb2 hP.lt
  obtain ⟨M, hMd⟩ : ∃ M, M = rawM R C zs := ⟨_, rfl⟩
  have hML : M.length = R := by rw [hMd, mat_len]
  rw [← hMd] at hI
  subst hML
  obtain ⟨hR5, hC5⟩ := hbd
  have hl : (nsOf C M).length ≤ 4096 := by rw [nsTo_len]; omega
  have hin := rowsIn_nsOf C M (by omega)
  clear hMd HM HIN hbel0 hb1 hb2 b1 x0 x1 x2
  replace hT := hT.below b2
  clear hX
  go_wp2_with fail
  refine abs1 fun w3 hY hb hz => ?_
  clear hz
  replace hP := hP.below hb hP.lt; replace hI := hI.below hb; replace hT := hT.below hb; replace b2 := b2.trans (hb.mono b2.size)
  clear hb
  go_wp2_with fail
  refine wp_mix (fun V => Below w3.heap.size w3 V) 12 (by kernel_rfl) (by kernel_rfl) (Below.refl _ _).drew ?_
  have hr : Below w3.heap.size w3 w3.drew := (Below.refl _ _).drew
  obtain ⟨u1, hw⟩ : ∃ V, V = w3.drew := ⟨_, rfl⟩
  rw [← hw] at hr ⊢; clear hw
  have hb := hr
  have p0 := hP.cell 0
  have p1 := hP.cell 1
  replace hP := hP.below hb hP.lt; replace hI := hI.below hb; replace hT := hT.below hb; replace b2 := b2.trans (hb.mono b2.size); replace hY := hY.below hb hY.lt
  clear hb
  (refine m_q 0 (v := ?_) (by kernel_rfl) rfl rfl (fun W hW => ?_) ?_; rotate_left; (have zp0 := onB hW p0; have zp1 := onB hW p1; go_simp; first | done | with_reducible rfl); simp only [Act.put, List.setIfInBounds_toArray, List.set_cons_zero, List.set_cons_succ]); (refine m_q 1 (v := ?_) (by kernel_rfl) rfl rfl (fun W hW => ?_) ?_; rotate_left; (have zp0 := onB hW p0; have zp1 := onB hW p1; go_simp; first | done | with_reducible rfl); simp only [Act.put, List.setIfInBounds_toArray, List.set_cons_zero, List.set_cons_succ]); (refine m_q 2 (v := ?_) (by kernel_rfl) rfl rfl (fun W hW => ?_) ?_; rotate_left; (have zp0 := onB hW p0; have zp1 := onB hW p1; go_simp; first | done | with_reducible rfl); simp only [Act.put, List.setIfInBounds_toArray, List.set_cons_zero, List.set_cons_succ]); (refine m_q 3 (v := ?_) (by kernel_rfl) rfl rfl (fun W hW => ?_) ?_; rotate_left; (have zp0 := onB hW p0; have zp1 := onB hW p1; go_simp; first | done | with_reducible rfl); simp only [Act.put, List.setIfInBounds_toArray, List.set_cons_zero, List.set_cons_succ]); (refine m_q 4 (v := ?_) (by kernel_rfl) rfl rfl (fun W hW => ?_) ?_; rotate_left; (have zp0 := onB hW p0; have zp1 := onB hW p1; go_simp; first | done | with_reducible rfl); simp only [Act.put, List.setIfInBounds_toArray, List.set_cons_zero, List.set_cons_succ]); (refine m_q 5 (v := ?_) (by kernel_rfl) rfl rfl (fun W hW => ?_) ?_; rotate_left; (have zp0 := onB hW p0; have zp1 := onB hW p1; go_simp; first | done | with_reducible rfl); simp only [Act.put, List.setIfInBounds_toArray, List.set_cons_zero, List.set_cons_succ]); (refine m_q 6 (v := ?_) (by kernel_rfl) rfl rfl (fun W hW => ?_) ?_; rotate_left; (have zp0 := onB hW p0; have zp1 := onB hW p1; go_simp; first | done | with_reducible rfl); simp only [Act.put, List.setIfInBounds_toArray, List.set_cons_zero, List.set_cons_succ]); (refine m_q 7 (v := ?_) (by kernel_rfl) rfl rfl (fun W hW => ?_) ?_; rotate_left; (have zp0 := onB hW p0; have zp1 := onB hW p1; go_simp; first | done | with_reducible rfl); simp only [Act.put, List.setIfInBounds_toArray, List.set_cons_zero, List.set_cons_succ]); (refine m_q 8 (v := ?_) (by kernel_rfl) rfl rfl (fun W hW => ?_) ?_; rotate_left; (have zp0 := onB hW p0; have zp1 := onB hW p1; go_simp; first | done | with_reducible rfl); simp only [Act.put, List.setIfInBounds_toArray, List.set_cons_zero, List.set_cons_succ]); (refine m_q 9 (v := ?_) (by kernel_rfl) rfl rfl (fun W hW => ?_) ?_; rotate_left; (have zp0 := onB hW p0; have zp1 := onB hW p1; go_simp; first | done | with_reducible rfl); simp only [Act.put, List.setIfInBounds_toArray, List.set_cons_zero, List.set_cons_succ]); (refine m_q 10 (v := ?_) (by kernel_rfl) rfl rfl (fun W hW => ?_) ?_; rotate_left; (have zp0 := onB hW p0; have zp1 := onB hW p1; go_simp; first | done | with_reducible rfl); simp only [Act.put, List.setIfInBounds_toArray, List.set_cons_zero, List.set_cons_succ]); (refine m_q 11 (v := ?_) (by kernel_rfl) rfl rfl (fun W hW => ?_) ?_; rotate_left; (have zp0 := onB hW p0; have zp1 := onB hW p1; go_simp; first | done | with_reducible rfl); simp only [Act.put, List.setIfInBounds_toArray, List.set_cons_zero, List.set_cons_succ])
  refine m_end (by kernel_rfl) ?_
  clear p0 p1
  obtain ⟨i, hi⟩ : ∃ i : Int, i = (x : Int) % 7 - 1 := ⟨_, rfl⟩
  obtain ⟨j, hj⟩ : ∃ j : Int, j = (y : Int) % 7 - 1 := ⟨_, rfl⟩
  rw [wrap7 hx, wrap7 hy, ← hi, ← hj]
  clear hi hj hP
  have y0 := hY.cell 0; have y1 := hY.cell 1
  go_wp2_with fail
  refine (matrixl_any C A2 c2 M _ hI (by omega) (by omega)).mono ?_
  rintro e u2 ⟨q1, rfl, m1, _, hb⟩
  replace hI := hI.below hb; replace hT := hT.below hb; replace b2 := b2.trans (hb.mono b2.size); replace hY := hY.below hb hY.lt
  clear hb
  clear y0 y1
  have hcr := conP_conR (M := M) (show C ≤ 12 by omega) i j
  obtain ⟨L, hL⟩ : ∃ L, L = conR C M i j := ⟨_, rfl⟩
  have hLl : L.length ≤ 4096 := by rw [hL, ← hcr]; exact conP_len hl hin i j
  have h64 : ∀ s ∈ L, s < 2 ^ 64 := fun s hs => by rw [hL] at hs; exact con_lt (by omega) hs
  rw [← hL] at hcr
  have HCR := Lib.hid hcr; have HL := Lib.hid hL
  clear hcr hL
  have hcc := conc_any (some ⟨q1, 0, none⟩) C (nsOf C M) i j _ m1.mv hin hT
  rw [HCR.out] at hcc
  have HCC := hideC hcc
  clear hcc
  go_wp2_with fail
  refine (HCC.out).mono ?_
  rintro e u3 ⟨A9, n9, c9, vs9, rfl, rfl, hr9, hs9, hb⟩
  replace hI := hI.below hb; replace hT := hT.below hb; replace b2 := b2.trans (hb.mono b2.size); replace hY := hY.below hb hY.lt; replace m1 := m1.below hb
  clear hb
  have y0 := hY.cell 0; have y1 := hY.cell 1
  have hcc := concr_any C A2 c2 M i j _ hI (by omega) (by omega)
  rw [← HL.out] at hcc
  clear HCC
  have HCC := hideC hcc
  clear hcc
  go_wp2_with fail
  refine (HCC.out).mono ?_
  rintro e u4 ⟨v8, rfl, ho8, hb⟩
  replace hI := hI.below hb; replace hT := hT.below hb; replace b2 := b2.trans (hb.mono b2.size); replace hY := hY.below hb hY.lt; replace m1 := m1.below hb; replace hr9 := hr9.below hb; replace hs9 := hs9.below hb
  clear hb
  obtain ⟨A8, c8, rfl, hlc8, -, hr8, -⟩ := row_of_own ho8
  clear ho8 y0 y1
  go_wp2_with fail
  refine (eqf_core _ rfl A9 A8 c9 c8 vs9 L _ hr9 hs9 hr8 hLl h64).mono ?_
  rintro e u5 ⟨rfl, hb⟩
  replace hI := hI.below hb; replace hT := hT.below hb; replace b2 := b2.trans (hb.mono b2.size); replace hY := hY.below hb hY.lt; replace m1 := m1.below hb; replace hr9 := hr9.below hb; replace hs9 := hs9.below hb; replace hr8 := hr8.below hb
  clear hb
  have hnn := conc_any none 0 [] i j u5 (.inl ⟨rfl, rfl, rfl⟩) (fun k hk => by simp at hk) hT
  rw [conP_nil] at hnn
  have HNN := hideC hnn
  clear hnn
  go_wp2_with fail
  refine HNN.out.mono ?_
  rintro e u6 ⟨A7, n7, c7, vs7, rfl, rfl, -, -, hb⟩
  replace hI := hI.below hb; replace hT := hT.below hb; replace b2 := b2.trans (hb.mono b2.size); replace hY := hY.below hb hY.lt; replace m1 := m1.below hb; replace hr9 := hr9.below hb; replace hs9 := hs9.below hb; replace hr8 := hr8.below hb
  clear hb
  go_wp2_with fail
  go_ret
  exact ⟨rfl, b2⟩
end Mix2
end Go.Proofs.YtgpooflcbljidaaDoor

