import Derived.Test.YthnphekhgaefdaaDoorRf3
import Derived.Test.YthnphekhgaefdaaDoorRn7
import Derived.Test.YthnphekhgaefdaaDoorMix2
import Derived.Test.YthnphekhgaefdaaDoorJoin
import Derived.Deep.DeepCutAuto
import Derived.Deep.CutBlock
/-
  The reference's Check.
-/
namespace Go.Proofs.YthnphekhgaefdaaDoor
open Go.RowKit

namespace Mix2
set_option maxRecDepth 100000 in
set_option maxHeartbeats 8000000 in
theorem checkr_any (C : Nat) (A : Option Addr) (c : Nat) (M : List (List Bool)) (hC : C ≤ 5) (hR : M.length ≤ 5) (size : Int) (Ap : Option Addr) (cp : Nat) (P : List Nd) (hok : ∀ x ∈ P, NdOK x) (hl : P.length ≤ 100000000) (hcp : P.length ≤ cp) (w : World) (hI : IsRef w C A M) (hP : IsNR w Ap P) :
    Calls Tryd.prog 11 #[refV C A M.length c, .agg #[.int .i64 size, .slice Ap P.length cp]] w fun e w' => e = .returned (.tuple #[.int .i64 (checkR C (nsOf C M) size P).1, .int .i64 (checkR C (nsOf C M) size P).2]) ∧ Below w.heap.size w w' := by
  obtain ⟨r, hr⟩ : ∃ r, r = checkR C (nsOf C M) size P := ⟨_, rfl⟩
  rw [← hr]
  have HR := Lib.hid hr
  have HOK := Lib.hid hok
  clear hr hok
  go_enter Tryd.func11, Tryd.ntmps11
  go_upto_region 1 with fail
  refine abs2 fun w1 hX hY hb hz => ?_
  clear hz
  obtain ⟨X, hXe⟩ : ∃ X, X = w.heap.size := ⟨_, rfl⟩
  rw [← hXe] at hX hY ⊢
  clear hXe
  have y0 := hY.cell 0
  have y1 := hY.cell 1
  by_cases hbad : size < 0 ∨ 256 < size ∨ P.length < 1 ∨ 5000 < P.length
  · have HRE := Lib.hid (show r = (2, 0) by rw [HR.out]; unfold checkR; rw [if_pos hbad])
    by_cases h1 : size < 0
    · clear hbad
      go_wp2_with fail
      go_ret2
      exact ⟨ret_two HRE.out, hb⟩
    · by_cases h2 : 256 < size
      · clear hbad
        go_wp2_with fail
        go_ret2
        exact ⟨ret_two HRE.out, hb⟩
      · by_cases h3 : P.length < 1
        · clear hbad
          go_wp2_with fail
          go_ret2
          exact ⟨ret_two HRE.out, hb⟩
        · have h4 : 5000 < P.length := by omega
          clear hbad
          go_wp2_with fail
          go_ret2
          exact ⟨ret_two HRE.out, hb⟩
  · have h1 : ¬ size < 0 := fun e => hbad (.inl e)
    have h2 : ¬ 256 < size := fun e => hbad (.inr (.inl e))
    have h3 : ¬ P.length < 1 := fun e => hbad (.inr (.inr (.inl e)))
    have h4 : ¬ 5000 < P.length := fun e => hbad (.inr (.inr (.inr e)))
    have hr := HR.out
    unfold checkR at hr
    rw [if_neg hbad] at hr
    have HR2 := Lib.hid hr
    clear hr HR hbad
    go_wp2_with fail
    refine wp_loopF (β := Nat) (fun n f => #[f 0, f 1, ptr X, .pointer (some ⟨X + 1, 0, none⟩), .int .i64 0, .int .i64 0, .int .i64 (n : Int), f 7, f 8, f 9, f 10, f 11, f 12, f 13, f 14, f 15, f 16, f 17, f 18, f 19, f 20, f 21, f 22, f 23, f 24, f 25, f 26, f 27, f 28, f 29, f 30, f 31, f 32, f 33, f 34, f 35, f 36, f 37, f 38, f 39, f 40, f 41, f 42, f 43, f 44, f 45, f 46, f 47, f 48, f 49, f 50])
      (fun n ds V => n ≤ P.length ∧ ds = [] ∧ Below w1.heap.size w1 V ∧ ∀ m, m < n → wrongR P m = false) (fun n => P.length - n) 0 rfl ⟨Nat.zero_le _, rfl, Below.refl _ _, fun m hm => by omega⟩ ?_
    rintro n f ds W ⟨hn, rfl, hbW, hpre⟩
    dsimp only at hn ⊢
    have HP := Lib.hid hpre
    clear hpre y0 y1
    have bW := hb.trans (hbW.mono hb.size)
    have hXW := hX.below hbW hX.lt
    have hYW := hY.below hbW hY.lt
    have y0 := hYW.cell 0
    have y1 := hYW.cell 1
    by_cases hlt : n < P.length
    · have hw := wrong_any size Ap cp P n W (hP.below bW) HOK.out hlt hl hcp
      obtain ⟨b, hb3⟩ : ∃ b, b = wrongR P n := ⟨_, rfl⟩
      rw [← hb3] at hw
      have HW := hideC hw
      have HB := Lib.hid hb3
      clear hw hb3
      go_wp2_with fail
      refine HW.out.mono ?_
      rintro e W2 ⟨rfl, hb2⟩
      have b2 := hbW.trans (hb2.mono hbW.size)
      cases b with
      | true =>
        have HRE := Lib.hid (show r = (2, (n : Int)) by rw [HR2.out, firstWrong_some hlt HB.out.symm HP.out])
        go_wp2_with fail
        go_ret2
        exact ⟨ret_two HRE.out, hb.trans (b2.mono hb.size)⟩
      | false =>
        have HN2 := Lib.hid (fun m (hm : m < n + 1) => (by
          by_cases e : m = n
          · subst e; exact HB.out.symm
          · exact HP.out m (by omega) : wrongR P m = false))
        go_wp2_with fail
        exact ⟨n + 1, rfl, ⟨by omega, by first | rfl | trivial, b2, HN2.out⟩, by omega⟩
    · obtain rfl : n = P.length := by omega
      have hr := HR2.out
      rw [firstWrong_none HP.out] at hr
      dsimp only at hr
      have hfo := form_okR HP.out
      have HR3 := Lib.hid hr
      clear hr HR2
      by_cases h0 : size = 0
      · have HRE := Lib.hid (show r = (1, 0) by rw [HR3.out, if_pos h0])
        subst h0
        go_wp2_with fail
        go_ret2
        exact ⟨ret_two HRE.out, bW⟩
      · have h0b : (size == 0) = false := by rw [beq_eq_false_iff_ne]; exact h0
        obtain ⟨b, hbe⟩ : ∃ b : Nat, size - 1 = (b : Int) := ⟨(size - 1).toNat, by omega⟩
        have hr := HR3.out
        rw [if_neg h0, hbe] at hr
        have hcl := cells_len (rowsIn_nsOf C M (by omega)) (show C ≤ 12 by omega) (by rw [nsTo_len]; omega)
        have HON := Lib.hid (fun V (hV : Below w.heap.size w V) => ones_ref C A c M V (hI.below hV) (by omega) (by omega))
        have HND := Lib.hid (fun V u (hV : Below w.heap.size w V) (hu : IsPairs V u (cz (cellsOf (nsOf C M)))) => (by
          have := noder_any C A c M hC hR size Ap cp P hfo HOK.out P.length 0 b u (cellsOf (nsOf C M)) V (by omega) (by omega) (by omega) (hI.below hV) (hP.below hV) hu (fun d hd => hd)
          rw [← hr] at this
          exact this : Calls Tryd.prog 33 #[refV C A M.length c, .agg #[.int .i64 size, .slice Ap P.length cp], .int .i64 0, .int .i64 b, u] V fun e w' => e = .returned (.tuple #[.int .i64 r.1, .int .i64 r.2]) ∧ Below V.heap.size V w'))
        have hbw : wrap64 (size - 1) = (b : Int) := by rw [hbe]; exact IntWalk.wrap64_in _ ⟨by omega, by omega⟩
        have hbi : IntKind.i64.wrap (size - 1) = (b : Int) := by rw [i64w ⟨by omega, by omega⟩]; exact hbe
        clear hr HR3 hbe hfo
        go_upto_region 10 with fail
        refine wp_mix (fun V => Below W.heap.size W V) 12 (by kernel_rfl) (by kernel_rfl) (Below.refl _ _).drew ?_
        have hr : Below W.heap.size W W.drew := (Below.refl _ _).drew
        obtain ⟨u3, hw⟩ : ∃ U, U = W.drew := ⟨_, rfl⟩
        rw [← hw] at hr ⊢; clear hw
        have x0 := hXW.cell 0
        have x1 := hXW.cell 1
        (refine m_q 0 (v := ?_) (by kernel_rfl) rfl rfl (fun W hW => ?_) ?_; rotate_left; (have z0 := onB hW x0; have z1 := onB hW x1; go_simp; first | done | with_reducible rfl); simp only [Act.put, List.setIfInBounds_toArray, List.set_cons_zero, List.set_cons_succ]); (refine m_q 1 (v := ?_) (by kernel_rfl) rfl rfl (fun W hW => ?_) ?_; rotate_left; (have z0 := onB hW y0; have z1 := onB hW y1; go_simp; first | done | with_reducible rfl); simp only [Act.put, List.setIfInBounds_toArray, List.set_cons_zero, List.set_cons_succ]); (refine m_q 2 (v := ?_) (by kernel_rfl) rfl rfl (fun W hW => ?_) ?_; rotate_left; (go_simp; first | done | with_reducible rfl); simp only [Act.put, List.setIfInBounds_toArray, List.set_cons_zero, List.set_cons_succ]); (refine m_q 3 (v := ?_) (by kernel_rfl) rfl rfl (fun W hW => ?_) ?_; rotate_left; (have z0 := onB hW y0; go_simp; first | done | with_reducible rfl); simp only [Act.put, List.setIfInBounds_toArray, List.set_cons_zero, List.set_cons_succ]); (refine m_q 4 (v := ?_) (by kernel_rfl) rfl rfl (fun W hW => ?_) ?_; rotate_left; (go_simp; first | done | with_reducible rfl); simp only [Act.put, List.setIfInBounds_toArray, List.set_cons_zero, List.set_cons_succ]); (refine m_q 5 (v := ?_) (by kernel_rfl) rfl rfl (fun W hW => ?_) ?_; rotate_left; (have z0 := onB hW x0; have z1 := onB hW x1; go_simp; first | done | with_reducible rfl); simp only [Act.put, List.setIfInBounds_toArray, List.set_cons_zero, List.set_cons_succ])
        have bu := bW.trans (hr.mono bW.size)
        have HO2 := hideC (HON.out u3 bu)
        refine m_s1 6 (by kernel_rfl) rfl ?_
        go_wp2_with fail
        refine HO2.out.mono ?_
        rintro e u4 ⟨u5, rfl, hu5, hb2⟩
        replace bu := bu.trans (hb2.mono bu.size)
        replace hr := hr.trans (hb2.mono hr.size)
        have hp5 := hu5.pairs (by rw [cz_len]; omega)
        clear hb2 hu5 HO2
        go_wp2_with fail
        refine m_keep hr ?_
        have HN2 := hideC (HND.out u4 u5 bu hp5)
        refine m_s1 7 (by kernel_rfl) rfl ?_
        go_wp2_with fail
        refine HN2.out.mono ?_
        rintro e u6 ⟨rfl, hb2⟩
        replace bu := bu.trans (hb2.mono bu.size)
        replace hr := hr.trans (hb2.mono hr.size)
        clear hb2 HN2 hp5
        go_wp2_with fail
        refine m_keep hr ?_
        (refine m_q 8 (v := ?_) (by kernel_rfl) rfl rfl (fun W hW => ?_) ?_; rotate_left; (go_simp; first | done | with_reducible rfl); simp only [Act.put, List.setIfInBounds_toArray, List.set_cons_zero, List.set_cons_succ]); (refine m_q 9 (v := ?_) (by kernel_rfl) rfl rfl (fun W hW => ?_) ?_; rotate_left; (go_simp; first | done | with_reducible rfl); simp only [Act.put, List.setIfInBounds_toArray, List.set_cons_zero, List.set_cons_succ]); (refine m_q 10 (v := ?_) (by kernel_rfl) rfl rfl (fun W hW => ?_) ?_; rotate_left; (go_simp; first | done | with_reducible rfl); simp only [Act.put, List.setIfInBounds_toArray, List.set_cons_zero, List.set_cons_succ]); (refine m_q 11 (v := ?_) (by kernel_rfl) rfl rfl (fun W hW => ?_) ?_; rotate_left; (go_simp; first | done | with_reducible rfl); simp only [Act.put, List.setIfInBounds_toArray, List.set_cons_zero, List.set_cons_succ])
        refine m_end (by kernel_rfl) ?_
        obtain ⟨r1, r2⟩ := r
        go_wp2_with fail
        go_ret2
        exact ⟨rfl, bu⟩
end Mix2
end Go.Proofs.YthnphekhgaefdaaDoor

/-
  The law RankForms.
-/
namespace Go.Proofs.YthnphekhgaefdaaDoor
open Go.RowKit
theorem kidsF_bd {g : Nat → Int → Int × Int} (h : ∀ s c, 1 ≤ (g s c).1 ∧ (g s c).1 ≤ 5) : ∀ l, 1 ≤ (kidsF g l).1 ∧ (kidsF g l).1 ≤ 5
  | [] => by simp [kidsF]
  | (s, c) :: t => by
    rw [kidsF]
    split
    · exact h s c
    · exact kidsF_bd h t
theorem nodeR_bd {C : Nat} {Ns : List Nat} {P : List Nd} : ∀ f n b o, 1 ≤ (nodeR C Ns P f n b o).1 ∧ (nodeR C Ns P f n b o).1 ≤ 5
  | 0 => fun n b o => by simp [nodeR]
  | f + 1 => fun n b o => by
    rw [nodeR]
    repeat' split
    all_goals first | exact kidsF_bd (fun s c => nodeR_bd f _ _ _) _ | simp
theorem checkR_bd (C : Nat) (Ns : List Nat) (size : Int) (P : List Nd) : 1 ≤ (checkR C Ns size P).1 ∧ (checkR C Ns size P).1 ≤ 5 := by
  unfold checkR
  repeat' split
  all_goals first | exact nodeR_bd _ _ _ _ | simp
theorem odds_at {w : World} {A : Option Addr} {l : List Odd4} (h : OddsAt w A l) (w' : World) (hb : Below w.heap.size w w') : OddsAt w' A l := fun hp => by
  obtain ⟨g, off, e, hg, hc⟩ := h hp
  refine ⟨g, off, e, Nat.lt_of_lt_of_le hg hb.size, fun k x hx => ?_⟩
  obtain ⟨h0, h1, h2, h3⟩ := hc k x hx
  exact ⟨onB hb h0, onB hb h1, onB hb h2, onB hb h3⟩
namespace Mix2
set_option maxRecDepth 100000 in
set_option maxHeartbeats 8000000 in
theorem forms_walk (v : Value) (R C : Nat) (zs : List Int) (vl : Value) (l : List Odd4) (size : Int) (w : World) (hT : Tab w) (h : IsRaw w v R C zs) (hl0 : IsOdds w vl l) (hsz : -9223372036854775808 ≤ size ∧ size ≤ 9223372036854775807) :
    Calls Tryd.prog 3 #[v, vl, .int .i64 size] w fun e w' => e = .returned (.bool true) ∧ Below w.heap.size w w' := by
  obtain ⟨Ao, co, hoe, hO, hoc, hom, hok⟩ := hl0
  subst hoe
  have HO := Lib.hid hO; have HOK := Lib.hid hok
  clear hO hok
  have hbd := h.bd
  obtain ⟨r, c, A0, d0, hv, _⟩ := id h
  subst hv
  have HIN := hideC h; clear h
  go_enter Tryd.func3, Tryd.ntmps3
  go_wp2_with fail
  refine absC1 fun W0 hX hbel0 hz => ?_
  clear hz
  refine (awake_any47 W0 (hT.below hbel0)).mono ?_
  rintro e w1 ⟨rfl, hb1⟩
  have b1 := hbel0.trans (hb1.mono hbel0.size)
  replace hX := hX.below hb1 hX.lt
  have x0 := hX.cell 0
  have x1 := hX.cell 1
  have x2 := hX.cell 2
  have HM := hideC (make_raw _ R C zs w1 (HIN.out.below b1))
  go_wp2_with fail
  refine HM.out.mono ?_
  rintro e w2 ⟨A2, c2, rfl, hI, hb2⟩
  have b2 := b1.trans (hb2.mono b1.size)
  obtain ⟨M, hMd⟩ : ∃ M, M = rawM R C zs := ⟨_, rfl⟩
  have hML : M.length = R := by rw [hMd, mat_len]
  rw [← hMd] at hI
  subst hML
  obtain ⟨hR5, hC5⟩ := hbd
  have hl : (nsOf C M).length ≤ 4096 := by rw [nsTo_len]; omega
  have hin := rowsIn_nsOf C M (by omega)
  clear hMd HM HIN hbel0 hb1 hb2 b1 x0 x1 x2
  replace hT := hT.below b2
  clear hX
  have hbw0 := b2
  obtain ⟨i0, hi0, hz0, hz1, hz2⟩ := info_parts info_node
  obtain ⟨j0, hj0, hw0, hw1, hw2⟩ := info_parts info_int
  go_upto_region 5 with fail
  refine abs2 fun w3 hY hZ hb hz => ?_
  clear hz
  have hI2 := hI; have hT2 := hT
  replace hI := hI.below hb; replace hT := hT.below hb; replace b2 := b2.trans (hb.mono b2.size)
  have hb23 := hb
  have hs23 := hb23.size
  clear hb
  obtain ⟨gY, hgY⟩ : ∃ g, g = w2.heap.size := ⟨_, rfl⟩
  rw [← hgY] at hY hZ ⊢
  have hYl := hY.lt; have hZl := hZ.lt
  have hg2 : w2.heap.size ≤ gY := Nat.le_of_eq hgY.symm
  clear hgY
  obtain ⟨K, hK4, hKl, hKe⟩ : ∃ K : Nat, K ≤ 6 ∧ K ≤ l.length ∧ min (l.length : Int) 6 = (K : Int) := ⟨min l.length 6, Nat.min_le_right _ _, Nat.min_le_left _ _, by omega⟩
  go_wp2_with fail
  clear hKe
  refine wp_loopF (β := Nat × Value × List Nd) (fun x f => #[f 0, f 1, .int .i64 size, f 3, f 4, f 5, .bool false, ptr gY, .pointer (some ⟨gY + 1, 0, none⟩), f 9, f 10, f 11, f 12, f 13, f 14, f 15, f 16, f 17, f 18, f 19, f 20, f 21, f 22, f 23, f 24, f 25, .slice Ao K co, .int .i64 (K : Int), .int .i64 (x.1 : Int), f 29, f 30, f 31, f 32, f 33, f 34, f 35, f 36, f 37, f 38, f 39, f 40, f 41, f 42, f 43, f 44, f 45, f 46, f 47, f 48, f 49, f 50, f 51, f 52, f 53, f 54, f 55, f 56, f 57, f 58, f 59, f 60, f 61, f 62, f 63, f 64, f 65, f 66, f 67, f 68, f 69, f 70, f 71, f 72, f 73, f 74, f 75, f 76, f 77, f 78, f 79, f 80, f 81, f 82, f 83, f 84, f 85, f 86, f 87, f 88, f 89, f 90, f 91, f 92, f 93, f 94, f 95, f 96, f 97, f 98, f 99, f 100, f 101, f 102, f 103, f 104, f 105, f 106, f 107, f 108, f 109, f 110, f 111, f 112, f 113, f 114, f 115])
    (fun x ds V => x.1 ≤ K ∧ ds = [] ∧ Below w2.heap.size w2 V ∧ w3.heap.size ≤ V.heap.size ∧ Blk V gY 29 #[.int .i64 (C : Int), .slice A2 M.length c2] ∧ Blk V (gY + 1) 33 #[.int .i64 size, x.2.1] ∧ x.2.2.length = x.1 ∧ (∀ (k : Nat) y, x.2.2[k]? = some y → NdB 3 y ∧ ∀ c ∈ y.ch, (k : Int) < c) ∧ ∃ vss, ON V w3.heap.size x.2.1 x.2.2 vss) (fun x => K - x.1) (0, .slice none 0 0, []) rfl
    ⟨Nat.zero_le _, rfl, hb23, Nat.le_refl _, hY, hZ, rfl, fun k y h => by simp at h, [], rfl, fun k x h => by simp at h, fun i j a b _ h => by simp at h, World.ownsRow_nil _ _ _ _⟩ ?_
  rintro ⟨i, v, P⟩ f ds W ⟨hi, rfl, hbW, hs3W, hYW, hZW, hPl, hPc, vss, hON⟩
  dsimp only at hi hZW hPl hPc hON ⊢
  have bW := hbw0.trans (hbW.mono hbw0.size)
  by_cases hlt : i < K
  · obtain ⟨x, hx⟩ : ∃ x, l[i]? = some x := ⟨_, List.getElem?_eq_getElem (by omega)⟩
    obtain ⟨k0, k1, k2, k3⟩ := HOK.out x (List.mem_of_getElem? hx)
    obtain ⟨g, off, rfl, hg, hc⟩ := odds_at HO.out W bW (by omega)
    obtain ⟨m0, m1, m2, m3⟩ := hc i x hx
    obtain ⟨xk, xn, xa, xb⟩ := x
    dsimp only at k0 k1 k2 k3 m0 m1 m2 m3
    clear hc hx
    go_upto_region 8 with fail
    refine abs1 fun W1 h10 hb1 hz => ?_
    clear hz m0 m1 m2 m3
    obtain ⟨sW, hsW⟩ : ∃ n, n = W.heap.size := ⟨_, rfl⟩
    have hw3 : w3.heap.size ≤ sW := by rw [hsW]; exact hs3W
    have l8 : gY + 1 < sW := by rw [hsW]; exact hZW.lt
    rw [← hsW] at h10 hb1 ⊢
    have HSW := Lib.hid hsW
    clear hsW
    have q0 := h10.cell 0; have q1 := h10.cell 1; have q2 := h10.cell 2; have q3 := h10.cell 3
    go_upto_region 9 with fail
    refine abs1 fun W2 hN hb2 hz => ?_
    clear hz q0 q1 q2 q3
    have hbs := hb1.trans (hb2.mono (Nat.le_of_lt h10.lt))
    have h10' := h10.below hb2 h10.lt
    obtain ⟨gN, hgN⟩ : ∃ n, n = W1.heap.size := ⟨_, rfl⟩
    have lN : sW < gN := by rw [hgN]; exact h10.lt
    rw [← hgN] at hN ⊢
    obtain ⟨kd, hkd⟩ : ∃ z : Int, z = (xk : Int) % 5 := ⟨_, rfl⟩
    obtain ⟨ra, hra⟩ : ∃ z : Int, z = (xa : Int) % 3 := ⟨_, rfl⟩
    obtain ⟨rb, hrb⟩ : ∃ z : Int, z = (xb : Int) % 3 := ⟨_, rfl⟩
    have hkb : 0 ≤ kd ∧ kd ≤ 4 := by omega
    have hrab : (0 ≤ ra ∧ ra ≤ 2) ∧ 0 ≤ rb ∧ rb ≤ 2 := by omega
    rw [← hkd, ← hra, ← hrb] at hN
    have HKD := Lib.hid hkd
    clear hgN hb1 hb2 h10 hra hrb
    obtain ⟨bb, hbb⟩ : ∃ q, q = (decide (kd = 1) || decide ((xn : Int) % 16 = 0)) := ⟨_, rfl⟩
    have HBB := Lib.hid hbb
    clear hbb
    go_cut [54] (fun s wx => s = .bool bb ∧ wx = W2)
    case first =>
      have n0 := hN.cell 0
      have o1 := h10'.cell 1
      clear hkd
      by_cases e1 : kd = 1
      · have HB := Lib.hid (show bb = true by rw [HBB.out, decide_eq_true e1]; rfl)
        subst e1
        go_wp2_with fail
        go_meet
        rw [HB.out]
        exact ⟨rfl, rfl⟩
      · have e1b : (kd == 1) = false := by rw [beq_eq_false_iff_ne]; exact e1
        by_cases e2 : (xn : Int) % 16 = 0
        · have HB := Lib.hid (show bb = true by rw [HBB.out, decide_eq_true e2]; simp)
          go_wp2_with fail
          go_meet
          rw [HB.out]
          exact ⟨rfl, rfl⟩
        · have e2b : (((xn : Int) % 16) == 0) = false := by rw [beq_eq_false_iff_ne]; exact e2
          have HB := Lib.hid (show bb = false by rw [HBB.out, decide_eq_false e1, decide_eq_false e2]; rfl)
          go_wp2_with fail
          go_meet
          rw [HB.out]
          exact ⟨rfl, rfl⟩
    case rest =>
      obtain ⟨rfl, hwc⟩ := hcut
      obtain ⟨W3, hW3⟩ : ∃ V, V = wc := ⟨_, rfl⟩
      subst hW3
      subst hwc
      go_upto_if 54 with fail
      go_cut [] (fun wx => ∃ (A3 : Option Addr) (n3 c3 : Nat) (ch : List Int), Blk wx gN 39 #[.int .i64 kd, .int .i64 ra, .int .i64 rb, .slice A3 n3 c3, .slice none 0 0] ∧ wx.ownsRow sW 3 1 (.slice A3 n3 c3) ch.length (ch.map (.int .i64)) ∧ n3 = ch.length ∧ ch.length ≤ 1 ∧ (∀ c ∈ ch, (i : Int) < c) ∧ Below sW W wx ∧ Blk wx sW 35 #[.int .u8 xk, .int .u8 xn, .int .u8 xa, .int .u8 xb])
      case first =>
        have o1 := h10'.cell 1
        have n3f := hN.frozen 3
        have n3c := hN.cell 3
        have lN2 := hN.lt
        cases bb with
        | true =>
          obtain ⟨cc, hcc, hcb⟩ : ∃ cc : Int, (i : Int) + 1 + ((xn : Int) % 4) / 2 = cc ∧ (i : Int) < cc := ⟨_, rfl, by omega⟩
          clear hkd
          go_wp2_with fail
          go_meet
          have hsz : (W3.setCell ⟨gN, 3, none⟩ (.slice (some ⟨W3.heap.size, 0, none⟩) 1 1)).heap.size = W3.heap.size := by simp [World.setCell]
          have hbx := hbs.setCell (p := ⟨gN, 3, none⟩) (Nat.le_of_lt lN) (.slice (some ⟨W3.heap.size, 0, none⟩) 1 1)
          have hsx : sW ≤ W3.heap.size := by omega
          have hown := World.ownsRow_lit (base := sW) (e := 3) (size := 1) (W3.setCell ⟨gN, 3, none⟩ (.slice (some ⟨W3.heap.size, 0, none⟩) 1 1)) #[.int .i64 cc] 1 (by rw [hsz]; exact hsx) (by decide) rfl
          rw [hsz] at hown
          exact ⟨some ⟨W3.heap.size, 0, none⟩, 1, 1, [cc], Blk.alloc (hN.set_ 3 _) _, hown, rfl, by simp, fun c hc => by rw [List.mem_singleton.1 hc]; exact hcb, hbx.alloc (by rw [hsz]; exact hsx) _, (h10'.far (p := ⟨gN, 3, none⟩) (by simp; omega) _).alloc _⟩
        | false =>
          go_wp2_with fail
          go_meet
          exact ⟨none, 0, 0, [], hN, World.ownsRow_nil _ _ _ _, rfl, by simp, fun c hc => by simp at hc, hbs, h10'⟩
      case rest =>
        obtain ⟨A3, n3, c3, ch, hN3, hown3, rfl, hch1, hch2, hb3, h103⟩ := hcut
        obtain ⟨W4, hW4⟩ : ∃ V, V = wc := ⟨_, rfl⟩
        subst hW4
        clear hN hbs h10' HBB
        obtain ⟨b8, hb8⟩ : ∃ q, q = decide ((xn : Int) % 8 = 7) := ⟨_, rfl⟩
        have HB8 := Lib.hid hb8
        clear hb8
        have o1 := h103.cell 1
        go_upto_if 68 with fail
        go_cut [] (fun wx => ∃ (A3 : Option Addr) (n3 c3 : Nat) (ch : List Int), Blk wx gN 39 #[.int .i64 kd, .int .i64 ra, .int .i64 rb, .slice A3 n3 c3, .slice none 0 0] ∧ wx.ownsRow sW 3 1 (.slice A3 n3 c3) ch.length (ch.map (.int .i64)) ∧ n3 = ch.length ∧ ch.length ≤ 2 ∧ (∀ c ∈ ch, (i : Int) < c) ∧ Below sW W wx)
        case first =>
          by_cases e8 : (xn : Int) % 8 = 7
          · have n3c := hN3.cell 3
            have hsx : sW ≤ W4.heap.size := Nat.le_of_lt h103.lt
            have hownA := hown3.alloc (.cells #[.int .i64 ((i : Int) + 2)] 3)
            have HNA := Lib.hid (Blk.alloc hN3 (.cells #[.int .i64 ((i : Int) + 2)] 3))
            clear o1
            go_wp2_with (at_builtin; refine wpList_append_own _ rfl _ _ 36 rfl sW 3 j0 (.int .i64 0) 1 8 Tryd.underlying36 hj0 hw0 hw1 hw2 rfl (by decide) _ _ _ rfl hownA ⟨W4.heap.size, 0, none⟩ 1 1 [.int .i64 ((i : Int) + 2)] rfl rfl (cell_one_new _ _ _) (by simp [Value.oneCell']) (by unfold maxLen; omega) (by omega) (by simp; omega) ?_)
            intro v' w5 hown' hgrow _
            obtain ⟨g', cap', rfl⟩ := own_succP hown'
            have hN5 := HNA.out.grown hgrow (own_ne hownA HNA.out (by decide))
            have hb5 := (hb3.alloc (by exact hsx) (.cells #[.int .i64 ((i : Int) + 2)] 3)).grown hgrow (by simp; omega) (fun p hp => (hownA.lt p hp).1)
            have n3c := hN5.cell 3
            have n3f := hN5.frozen 3
            have lN5 := hN5.lt
            have hne5 : Value.ownBlock (.slice (some ⟨g', 0, none⟩) (ch.length + 1) cap') ≠ some gN := fun e => (own_ne hown' hN5 (by decide)) e.symm
            clear hgrow HNA hownA
            go_wp2_with fail
            go_meet
            refine ⟨some ⟨g', 0, none⟩, ch.length + 1, cap', ch ++ [(i : Int) + 2], hN5.set_ 3 _, ?_, by simp, by simp; omega, fun c hc => ?_, hb5.setCell (p := ⟨gN, 3, none⟩) (Nat.le_of_lt lN) _⟩
            · have := ownsRow_setCell_other hown' (a := ⟨gN, 3, none⟩) hne5 (.slice (some ⟨g', 0, none⟩) (ch.length + 1) cap')
              rw [List.length_append, List.map_append]
              exact this
            · rcases List.mem_append.1 hc with h | h
              · exact hch2 c h
              · rw [List.mem_singleton.1 h]; omega
          · have e8b : (((xn : Int) % 8) == 7) = false := by rw [beq_eq_false_iff_ne]; exact e8
            go_wp2_with fail
            go_meet
            exact ⟨A3, _, c3, ch, hN3, hown3, rfl, by omega, hch2, hb3⟩
        case rest =>
          obtain ⟨A5, n5, c5, ch5, hN5, hown5, rfl, hch51, hch52, hb5⟩ := hcut
          obtain ⟨W6, hW6⟩ : ∃ V, V = wc := ⟨_, rfl⟩
          subst hW6
          clear hN3 hown3 hch1 hch2 hb3 h103 o1
          have n0 := hN5.cell 0
          have hne5 : Value.ownBlock (.slice A5 ch5.length c5) ≠ some gN := fun e => (own_ne hown5 hN5 (by decide)) e.symm
          have hsx : sW ≤ W6.heap.size := by have := hN5.lt; omega
          obtain ⟨b2', hb2'⟩ : ∃ q, q = decide (kd = 2) := ⟨_, rfl⟩
          have HB2 := Lib.hid hb2'
          clear hb2'
          go_upto_region 13 with fail
          go_cut [78] (fun s wx => s = .bool b2' ∧ wx = W6)
          case first =>
            clear hkd
            by_cases e2 : kd = 2
            · have HB := Lib.hid (show b2' = true by rw [HB2.out, decide_eq_true e2])
              subst e2
              go_wp2_with fail
              go_meet
              rw [HB.out]
              exact ⟨rfl, rfl⟩
            · have e2b : (kd == 2) = false := by rw [beq_eq_false_iff_ne]; exact e2
              have HB := Lib.hid (show b2' = false by rw [HB2.out, decide_eq_false e2])
              go_wp2_with fail
              go_meet
              rw [HB.out]
              exact ⟨rfl, rfl⟩
          case rest =>
          obtain ⟨rfl, hwc⟩ := hcut
          obtain ⟨W9, hW9⟩ : ∃ V, V = wc := ⟨_, rfl⟩
          subst hW9
          subst hwc
          have hsx : sW ≤ W9.heap.size := by have := hN5.lt; omega
          go_upto_if 78 with fail
          go_cut [] (fun wx => ∃ (A6 : Option Addr) (n6 c6 : Nat) (cs : List (Int × Int)), Blk wx gN 39 #[.int .i64 kd, .int .i64 ra, .int .i64 rb, .slice A5 ch5.length c5, .slice A6 n6 c6] ∧ wx.ownsRow sW 3 1 (.slice A5 ch5.length c5) ch5.length (ch5.map (.int .i64)) ∧ OwnP wx sW (.slice A6 n6 c6) cs ∧ n6 = cs.length ∧ cs.length ≤ 1 ∧ Below sW W wx)
          case first =>
            cases b2' with
            | true =>
              have n1 := hN5.cell 1
              have n2 := hN5.cell 2
              have n4c := hN5.cell 4
              have n4f := hN5.frozen 4
              have lN5 := hN5.lt
              clear hkd n0
              go_wp2_with fail
              go_meet
              have hsz : (W9.setCell ⟨gN, 4, none⟩ (.slice (some ⟨W9.heap.size, 0, none⟩) 1 1)).heap.size = W9.heap.size := by simp [World.setCell]
              have hbx := hb5.setCell (p := ⟨gN, 4, none⟩) (Nat.le_of_lt lN) (.slice (some ⟨W9.heap.size, 0, none⟩) 1 1)
              have hown := World.ownsRow_lit (base := sW) (e := 40) (size := 2) (W9.setCell ⟨gN, 4, none⟩ (.slice (some ⟨W9.heap.size, 0, none⟩) 1 1)) #[.int .i64 ra, .int .i64 rb] 1 (by rw [hsz]; exact hsx) (by decide) rfl
              rw [hsz] at hown
              exact ⟨some ⟨W9.heap.size, 0, none⟩, 1, 1, [(ra, rb)], Blk.alloc (hN5.set_ 4 _) _, (ownsRow_setCell_other hown5 (a := ⟨gN, 4, none⟩) hne5 _).alloc _, hown, rfl, by simp, hbx.alloc (by rw [hsz]; exact hsx) _⟩
            | false =>
              go_wp2_with fail
              go_meet
              exact ⟨none, 0, 0, [], hN5, hown5, OwnP.nil _ _, rfl, by simp, hb5⟩
          case rest =>
            obtain ⟨A7, n7, c7, cs, hN7, hown7, hcs7, rfl, hcs1, hb7⟩ := hcut
            obtain ⟨W7, hW7⟩ : ∃ V, V = wc := ⟨_, rfl⟩
            subst hW7
            clear hN5 hown5 hne5 hb5 n0 hsx hkd
            have hb7' : Below W.heap.size W W7 := by rw [← HSW.out]; exact hb7
            have hON7 := hON.below hb7'
            have hY7 := hYW.below hb7' hYW.lt
            have hZ7 := hZW.below hb7' hZW.lt
            have hrl := hON.rows_lt
            obtain ⟨cells, hcells⟩ : ∃ q : List Value, q = [.int .i64 kd, .int .i64 ra, .int .i64 rb, .slice A5 ch5.length c5, .slice A7 cs.length c7] := ⟨_, rfl⟩
            have hWB : Below W7.heap.size W7 (W7.alloc (.cells #[.int .i64 kd, .int .i64 ra, .int .i64 rb, .slice A5 ch5.length c5, .slice A7 cs.length c7] 39)) := (Below.refl _ _).alloc (Nat.le_refl _) _
            have hON8 := hON7.below hWB
            have hownB := own_below hON7.own hWB
            have HY8 := Lib.hid (hY7.below hWB hY7.lt)
            have HZ8 := Lib.hid (hZ7.below hWB hZ7.lt)
            have HR8 := Lib.hid (show RNodeAt _ w3.heap.size cells ⟨kd, ra, rb, ch5, cs⟩ from ⟨_, _, hcells, own_low (own_below hown7 hWB) hw3, (hcs7.below hWB).low hw3⟩)
            have HC8 := Lib.hid (fun g0 (hg0 : chB cells = some g0) (k : Nat) a (hk : vss[k]? = some a) (he : chB a = some g0) => (by
              rw [hcells] at hg0
              have h1 := (hown7.lt g0 hg0).1
              have h2 := (hrl k a hk g0).1 he
              rw [← HSW.out] at h2
              omega : False))
            have HB7 := Lib.hid hb7
            have HNW := hideC (World.news_of_block (Blk.new W7 39 #[.int .i64 kd, .int .i64 ra, .int .i64 rb, .slice A5 ch5.length c5, .slice A7 cs.length c7]))
            have HON8 := Lib.hid hON8
            have m0 := hN7.cell 0; have m1 := hN7.cell 1; have m2 := hN7.cell 2; have m3 := hN7.cell 3; have m4 := hN7.cell 4
            have p1 := hZ7.cell 1
            have hPb : P.length ≤ 6 := by omega
            have hszB : w3.heap.size ≤ W7.heap.size := Nat.le_trans hs3W hb7'.size
            clear hON7 hON8 hb7 hcs7 hown7 hrl
            go_wp2_with (at_builtin; refine wpList_append_own _ rfl _ _ 31 rfl w3.heap.size 39 i0 (.agg #[.int .i64 0, .int .i64 0, .int .i64 0, .slice none 0 0, .slice none 0 0]) 5 72 Tryd.underlying31 hi0 hz0 hz1 hz2 rfl (by decide) _ _ _ rfl hownB ⟨W7.heap.size, 0, none⟩ 1 1 [.int .i64 kd, .int .i64 ra, .int .i64 rb, .slice A5 ch5.length c5, .slice A7 cs.length c7] rfl rfl HNW.out (by simp [Value.oneCell']) (by unfold maxLen; omega) (by omega) (by simp; omega) ?_)
            intro v' w8 hown' hgrow _
            obtain ⟨g9, cap9, rfl⟩ := own_succP hown'
            have hON9 := HON8.out.app2 HR8.out HC8.out hgrow (by rw [hPl, hcells]; exact hown')
            have hZ9 := HZ8.out.grown hgrow (own_ne hownB HZ8.out (by decide))
            have hY9 := HY8.out.grown hgrow (own_ne hownB HY8.out (by decide))
            have hbA : Below w2.heap.size w2 w8 := ((hbW.trans (hb7'.mono hbW.size)).trans (hWB.mono (Nat.le_trans hbW.size hb7'.size))).grown hgrow (by simp; have := hb7'.size; have := hbW.size; omega) (fun p hp => Nat.le_trans hs23 (hownB.lt p hp).1)
            have hs9 : w3.heap.size ≤ w8.heap.size := Nat.le_trans (by simp; omega) ((Below.refl w3.heap.size _).grown hgrow (by simp; omega) (fun p hp => (hownB.lt p hp).1)).size
            have lZ9 := hZ9.lt
            have z1c := hZ9.cell 1
            have z1f := hZ9.frozen 1
            have hlen : (P ++ [(⟨kd, ra, rb, ch5, cs⟩ : Nd)]).length = i + 1 := by rw [List.length_append, hPl]; rfl
            have hPc' : ∀ (k : Nat) y, (P ++ [(⟨kd, ra, rb, ch5, cs⟩ : Nd)])[k]? = some y → NdB 3 y ∧ ∀ c ∈ y.ch, (k : Int) < c := fun k y hy => by
              by_cases hk : k < P.length
              · rw [List.getElem?_append_left hk] at hy
                exact hPc k y hy
              · have hk2 : k = P.length := by have := (List.getElem?_eq_some_iff.1 hy).1; simp at this; omega
                subst hk2
                rw [List.getElem?_append_right (Nat.le_refl _), Nat.sub_self] at hy
                obtain rfl : (⟨kd, ra, rb, ch5, cs⟩ : Nd) = y := by simpa using hy
                exact ⟨⟨by show ch5.length ≤ 3; omega, by show cs.length ≤ 3; omega, by show 0 ≤ kd; omega, by show kd ≤ 255; omega⟩, fun c hc => by have := hch52 c hc; omega⟩
            clear hgrow hown' hownB hWB HON8 HR8 HC8 HNW HY8 HZ8 m0 m1 m2 m3 m4 p1
            go_wp2_with fail
            refine ⟨(i + 1, .slice (some ⟨g9, 0, none⟩) (i + 1) cap9, P ++ [⟨kd, ra, rb, ch5, cs⟩]), by first | rfl | trivial, ⟨by show i + 1 ≤ K; omega, by first | rfl | trivial, hbA.setCell (p := ⟨gY + 1, 1, none⟩) (by show w2.heap.size ≤ gY + 1; omega) _, by simpa using hs9, hY9.far (p := ⟨gY + 1, 1, none⟩) (by show gY ≠ gY + 1; omega) _, hZ9.set_ 1 _, hlen, hPc', _, hON9.far (p := ⟨gY + 1, 1, none⟩) hZ9 (by decide) (by decide) (by decide) _⟩, by show K - (i + 1) < K - i; omega⟩
  · obtain ⟨A5, c5, rfl, hc5, hn5, hNT⟩ := hON.nt
    have hNR := hNT.nr
    have hok : ∀ x ∈ P, NdOK x := fun x hx => by
      obtain ⟨k, hk, e⟩ := List.getElem_of_mem hx
      have := (hPc k x (by rw [List.getElem?_eq_getElem hk, e])).1
      exact ⟨by have := this.1; omega, by have := this.2.1; omega, this.2.2.1, this.2.2.2⟩
    obtain ⟨f2, a2, hfa⟩ : ∃ f2 a2, checkP C (nsOf C M) size P = (f2, a2) := ⟨_, _, rfl⟩
    have hfr : checkR C (nsOf C M) size P = (f2, a2) := by rw [checkR_eq (by omega) hl hin fun k x h => (hPc k x h).2]; exact hfa
    have hbd := checkR_bd C (nsOf C M) size P
    rw [hfr] at hbd
    dsimp only at hbd
    have e64 : wrap64 f2 = f2 := IntWalk.wrap64_in _ ⟨by omega, by omega⟩
    have HFA := Lib.hid hfa; have HFR := Lib.hid hfr; have HOK2 := Lib.hid hok
    have y0 := hYW.cell 0; have y1 := hYW.cell 1
    have z0 := hZW.cell 0; have z1 := hZW.cell 1
    replace hI := hI2.below hbW; replace hT := hT2.below hbW
    clear hI2 hT2
    have := hsz
    clear this
    replace b2 := bW
    have hP6 : P.length ≤ 6 := by omega
    have hcr := fun W' (h1 : IsRef W' C A2 M) (h2 : IsNR W' A5 P) => checkr_any C A2 c2 M (by omega) (by omega) size A5 c5 P hok (by omega) hc5 W' h1 h2
    rw [hfr] at hcr
    dsimp only at hcr
    have HCR := Lib.hid hcr
    clear hcr hfa hfr hok hPc hON hNT hbW hb23 hs23 bW y0 y1 z0 z1 hPl
    go_upto_region 17 with fail
    refine wp_mix (fun V => Below W.heap.size W V) 10 (by kernel_rfl) (by kernel_rfl) (Below.refl _ _).drew ?_
    have hr : Below W.heap.size W W.drew := (Below.refl _ _).drew
    obtain ⟨u1, hw⟩ : ∃ V, V = W.drew := ⟨_, rfl⟩
    rw [← hw] at hr ⊢; clear hw
    have hb := hr
    have y0 := hYW.cell 0
    have y1 := hYW.cell 1
    have z0 := hZW.cell 0
    have z1 := hZW.cell 1
    replace hI := hI.below hb; replace hT := hT.below hb; replace b2 := b2.trans (hb.mono b2.size); replace hNR := hNR.below hb; replace hYW := hYW.below hb hYW.lt; replace hZW := hZW.below hb hZW.lt
    clear hb
    (refine m_q 0 (v := ?_) (by kernel_rfl) rfl rfl (fun W hW => ?_) ?_; rotate_left; (have zy0 := onB hW y0; have zy1 := onB hW y1; have zz0 := onB hW z0; have zz1 := onB hW z1; go_simp; first | done | with_reducible rfl); simp only [Act.put, List.setIfInBounds_toArray, List.set_cons_zero, List.set_cons_succ]); (refine m_q 2 (v := ?_) (by kernel_rfl) rfl rfl (fun W hW => ?_) ?_; rotate_left; (have zy0 := onB hW y0; have zy1 := onB hW y1; have zz0 := onB hW z0; have zz1 := onB hW z1; go_simp; first | done | with_reducible rfl); simp only [Act.put, List.setIfInBounds_toArray, List.set_cons_zero, List.set_cons_succ])
    refine m_s1 1 (by kernel_rfl) rfl ?_
    go_wp2_with fail
    refine (matrixl_any C A2 c2 M _ hI (by omega) (by omega)).mono ?_
    rintro e u2 ⟨q1, rfl, m1, _, hb⟩
    replace hI := hI.below hb; replace hT := hT.below hb; replace b2 := b2.trans (hb.mono b2.size); replace hNR := hNR.below hb; replace hYW := hYW.below hb hYW.lt; replace hZW := hZW.below hb hZW.lt; replace hr := hr.trans (hb.mono hr.size)
    clear hb
    go_wp2_with fail
    refine m_keep hr ?_
    refine m_s1 3 (by kernel_rfl) rfl ?_
    go_wp2_with fail
    refine (proof_any size A5 c5 P _ hNR HOK2.out (by omega)).mono ?_
    rintro e u3 ⟨A6, c6, rfl, -, hK6, hb⟩
    replace hI := hI.below hb; replace hT := hT.below hb; replace b2 := b2.trans (hb.mono b2.size); replace hNR := hNR.below hb; replace hYW := hYW.below hb hYW.lt; replace hZW := hZW.below hb hZW.lt; replace hr := hr.trans (hb.mono hr.size); replace m1 := m1.below hb
    clear hb
    go_wp2_with fail
    refine m_keep hr ?_
    refine m_s1 4 (by kernel_rfl) rfl ?_
    go_wp2_with fail
    refine (check_is HFA.out rfl m1 hin hK6 hT).mono ?_
    rintro e u4 ⟨rfl, hb⟩
    replace hI := hI.below hb; replace hT := hT.below hb; replace b2 := b2.trans (hb.mono b2.size); replace hNR := hNR.below hb; replace hYW := hYW.below hb hYW.lt; replace hZW := hZW.below hb hZW.lt; replace hr := hr.trans (hb.mono hr.size); replace m1 := m1.below hb; replace hK6 := hK6.below hb
    clear hb
    go_wp2_with fail
    refine m_keep hr ?_
    (refine m_q 5 (v := ?_) (by kernel_rfl) rfl rfl (fun W hW => ?_) ?_; rotate_left; (go_simp; first | done | with_reducible rfl); simp only [Act.put, List.setIfInBounds_toArray, List.set_cons_zero, List.set_cons_succ]); (refine m_q 6 (v := ?_) (by kernel_rfl) rfl rfl (fun W hW => ?_) ?_; rotate_left; (go_simp; first | done | with_reducible rfl); simp only [Act.put, List.setIfInBounds_toArray, List.set_cons_zero, List.set_cons_succ]); (refine m_q 7 (v := ?_) (by kernel_rfl) rfl rfl (fun W hW => ?_) ?_; rotate_left; (go_simp; first | done | with_reducible rfl); simp only [Act.put, List.setIfInBounds_toArray, List.set_cons_zero, List.set_cons_succ]); (refine m_q 8 (v := ?_) (by kernel_rfl) rfl rfl (fun W hW => ?_) ?_; rotate_left; (go_simp; first | done | with_reducible rfl); simp only [Act.put, List.setIfInBounds_toArray, List.set_cons_zero, List.set_cons_succ]); (refine m_q 9 (v := ?_) (by kernel_rfl) rfl rfl (fun W hW => ?_) ?_; rotate_left; (go_simp; first | done | with_reducible rfl); simp only [Act.put, List.setIfInBounds_toArray, List.set_cons_zero, List.set_cons_succ])
    refine m_end (by kernel_rfl) ?_
    clear y0 y1 z0 z1
    clear m1 hK6
    have y0 := hYW.cell 0; have y1 := hYW.cell 1; have z0 := hZW.cell 0; have z1 := hZW.cell 1
    go_wp2_with fail
    refine (HCR.out _ hI hNR).mono ?_
    rintro e u5 ⟨rfl, hb⟩
    replace hI := hI.below hb; replace hT := hT.below hb; replace b2 := b2.trans (hb.mono b2.size); replace hNR := hNR.below hb; replace hYW := hYW.below hb hYW.lt; replace hZW := hZW.below hb hZW.lt
    clear hb
    go_wp2_with fail
    go_ret
    exact ⟨rfl, b2⟩
end Mix2
end Go.Proofs.YthnphekhgaefdaaDoor
