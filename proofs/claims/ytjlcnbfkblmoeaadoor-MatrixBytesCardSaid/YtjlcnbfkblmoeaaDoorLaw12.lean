import Derived.Test.YtjlcnbfkblmoeaaDoorLaw11
import Derived.Test.YtjlcnbfkblmoeaaDoorLaw7
namespace Go.Proofs.YtjlcnbfkblmoeaaDoor
open Go.RowKit

theorem equal_self (p q C : Nat) (Ns : List Nat) (w : World) (h : IsMat w p C Ns) (h' : IsMat w q C Ns) :
    Calls Tryd.prog 27 #[ptr p, ptr q] w fun e w' => e = .returned (.bool true) ∧ Below w.heap.size w w' := by
  have := equalm_any p q C C Ns Ns w h h'
  have hw : withinM Ns Ns := fun i hi => by simp
  rwa [decide_eq_true ⟨rfl, rfl, hw, hw⟩] at this
theorem text_empty : pOK (txt []) ∧ pC (txt []) = 0 ∧ pNs (txt []) = [] := by decide +kernel
set_option maxRecDepth 100000 in
set_option maxHeartbeats 40000000 in
theorem texts_walk (v : Value) (R C : Nat) (zs : List Int) (s : ByteArray) (w : World) (hT : Tab w) (h : IsRaw w v R C zs) :
    Calls Tryd.prog 5 #[v, .string s] w fun e w' => e = .returned (.bool true) ∧ Below w.heap.size w w' := by
  have hbd := h.bd
  obtain ⟨r, c, A0, d0, hv, _⟩ := id h
  subst hv
  have HIN := hideC h; clear h
  go_enter Tryd.func5, Tryd.ntmps5
  go_wp2_with fail
  refine absC1 fun W0 hX hbel0 hz => ?_
  have HZ := Lib.hid hz; clear hz
  refine (awake_any W0 (hT.below hbel0)).mono ?_
  rintro e w1 ⟨rfl, hb1⟩
  have b1 := hbel0.trans (hb1.mono hbel0.size)
  have hX1 := hX.below hb1 hX.lt
  have x0 := hX1.cell 0
  have x1 := hX1.cell 1
  have x2 := hX1.cell 2
  have HM := hideC (make_raw _ R C zs w1 (HIN.out.below b1))
  go_wp2_with fail
  refine HM.out.mono ?_
  rintro e w2 ⟨A2, c2, rfl, hI2, hb2⟩
  have b2 := b1.trans (hb2.mono b1.size)
  obtain ⟨M, hMd⟩ : ∃ M, M = rawM R C zs := ⟨_, rfl⟩
  have hML : M.length = R := by rw [hMd, mat_len]
  rw [← hMd] at hI2
  subst hML
  clear hMd HM HIN hX hX1 x0 x1 x2
  go_wp2_with fail
  refine absC1 fun W3 hY hb3 hz3 => ?_
  have HZ3 := Lib.hid hz3; clear hz3
  have b3 := b2.trans (hb3.mono b2.size)
  have hI3 := hI2.below hb3
  refine (matrixl_any C A2 c2 M W3 hI3 (by omega) (by omega)).mono ?_
  rintro e w4 ⟨q, rfl, hm4, _, hb4⟩
  have b4 := b3.trans (hb4.mono b3.size)
  have hY4 := hY.below hb4 hY.lt
  have y0 := hY4.cell 0
  have y1 := hY4.cell 1
  have hI4 := hI3.below hb4
  clear hY hI2 hI3 hb3 b2 b3 hb1 hb2 hb4 b1 hbel0 hT
  have HTX := Lib.hid (mtext_ns (C := C) (M := M) (by omega) (ref_wide hI4))
  obtain ⟨T, hTd⟩ : ∃ T, T = mtext C (nsOf C M) M.length := ⟨_, rfl⟩
  have HTD := Lib.hid hTd
  have key1 : ∀ W, IsMat W q C (nsOf C M) → Calls Tryd.prog 24 #[ptr q] W fun e w' => e = .returned (.string ⟨T.toArray⟩) ∧ Below W.heap.size W w' := fun W hm => by
    have := text_any q C (nsOf C M) W hm
    rwa [nsTo_len, ← hTd] at this
  have key2 : ∀ W, IsRef W C A2 M → Calls Tryd.prog 25 #[refV C A2 M.length c2] W fun e w' => e = .returned (.string ⟨T.toArray⟩) ∧ Below W.heap.size W w' := fun W hm => by
    have := textr_any C A2 c2 M W hm
    rwa [← hTd] at this
  have K1 := hideC key1
  have K2 := hideC key2
  clear hTd key1 key2
  go_wp2_with fail
  refine wp_spine (fun W => Below w4.heap.size w4 W) [0, 1, 2, 3, 5] [4, 6, 7, 8] (by kernel_rfl) (by kernel_rfl) ?_
  iterate 3 (refine wpE_op (v := ?_) rfl rfl (fun W hW => ?_) ?_; rotate_left; (go_simp; first | done | with_reducible rfl); simp only [Act.put, List.setIfInBounds_toArray, List.set_cons_zero, List.set_cons_succ])
  iterate 2 (refine wpE_yes (v := ?_) rfl (by rfl) (fun W hW => ?_) ?_; rotate_left; (have z0 := onB hW y0; have z1 := onB hW y1; go_simp; first | done | with_reducible rfl); simp only [Act.put, List.setIfInBounds_toArray, List.set_cons_zero, List.set_cons_succ])
  refine wpE_nil ⟨fun h => (by cases h), wpSp_op rfl (Below.refl _ _).drew ?_⟩
  go_wp2_with fail
  refine (K1.out _ (hm4.below (Below.refl _ _).drew)).mono ?_
  rintro e w5 ⟨rfl, hb5⟩
  have k5 : Below w4.heap.size w4 w5 := (Below.refl _ _).drew.trans hb5
  go_wp2_with fail
  refine nxt_op rfl k5 ?_
  go_wp2_with fail
  refine (K2.out _ (hI4.below k5)).mono ?_
  rintro e w6 ⟨rfl, hb6⟩
  have k6 := k5.trans (hb6.mono k5.size)
  go_wp2_with fail
  refine nxt_op rfl k6 ?_
  go_wp2_with fail
  refine nxt_op rfl k6 ?_
  go_wp2_with fail
  refine nxt_nil ?_
  have hY6 := hY4.below k6 hY4.lt
  have hm6 := hm4.below k6
  have hI6 := hI4.below k6
  have b6 := b4.trans (k6.mono b4.size)
  clear hY4 hm4 hI4 b4 k5 k6 y0 y1 hb5 hb6
  go_wp2_with fail
  refine (K1.out _ hm6).mono ?_
  rintro e w7 ⟨rfl, hb7⟩
  have b7 := b6.trans (hb7.mono b6.size)
  have hTlen : T.length ≤ 100 := by
    rw [HTD.out]
    have := mtext_len C (nsOf C M) M.length
    have hmul : (C + 1) * M.length ≤ 6 * 5 := Nat.mul_le_mul (by omega) (by omega)
    omega
  have hsz : (⟨T.toArray⟩ : ByteArray).size = T.length := by simp [ByteArray.size]
  have hlist : (⟨T.toArray⟩ : ByteArray).data.toList = T := by simp
  have HP := hideC (parse_any ⟨T.toArray⟩ w7 (by rw [hsz]; omega))
  rw [hlist] at HP
  have HL := Lib.hid hlist
  clear hlist hsz
  go_wp2_with fail
  refine HP.out.mono ?_
  rintro e w8 ⟨hb8, hcase⟩
  have hok : pOK T ∧ ((0 < M.length ∧ pC T = C ∧ pNs T = nsOf C M) ∨ (M.length = 0 ∧ pC T = 0 ∧ pNs T = [])) := by
    rw [HTD.out, HTX.out]
    by_cases h0 : 0 < M.length
    · have hwf : WfM C M := ⟨ref_wide hI6, by omega, fun e => by rw [e] at h0; simp at h0⟩
      exact ⟨pOK_txt hwf (by omega), .inl ⟨h0, pC_txt hwf, pNs_txt hwf⟩⟩
    · have e : M = [] := List.eq_nil_of_length_eq_zero (by omega)
      subst e
      exact ⟨text_empty.1, .inr ⟨rfl, text_empty.2⟩⟩
  rcases hcase with ⟨_, hno⟩ | ⟨q8, rfl, _, hm8⟩
  · exact absurd hok.1 hno
  have b8 := b7.trans (hb8.mono b7.size)
  have k8 := hb7.trans (hb8.mono hb7.size)
  have hm8' := hm6.below k8
  have hY8 := hY6.below k8 hY6.lt
  have y0 := hY8.cell 0
  have y1 := hY8.cell 1
  rcases hok.2 with ⟨h0, e1, e2⟩ | ⟨h0, e1, e2⟩
  · rw [e1, e2] at hm8
    have HE := hideC (equal_self q8 q C (nsOf C M) w8 hm8 hm8')
    clear e1 e2 hok HP HL
    have h0' : ¬ M.length = 0 := by omega
    go_wp2_with fail
    refine HE.out.mono ?_
    rintro e w9 ⟨rfl, hb9⟩
    have b9 := b8.trans (hb9.mono b8.size)
    have y0 := onB hb9 y0
    have y1 := onB hb9 y1
    go_wp2_with fail
    have bz := b9
    clear y0 y1 hb9 b9 HE
    have hS0 : (s.extract 0 (min (s.size : Int) 60).toNat).size ≤ 60 := by
      rw [ByteArray.size_extract]; omega
    generalize s.extract 0 (min (s.size : Int) 60).toNat = S0 at *
    refine (readr_any S0 _ (by omega)).mono ?_
    rintro e wr ⟨hbr, hres⟩
    have br := bz.trans (hbr.mono bz.size)
    rcases hres with ⟨hn, rfl⟩ | ⟨D, P, A7, c7, hsome, rfl, hIP⟩
    · have hno := runP_none hn
      have HP2 := hideC (fun W => parse_any S0 W (by omega))
      clear hn
      go_wp2_with fail
      refine absC1 fun Wt hY9 hb9 hz9 => ?_
      have HZ9 := Lib.hid hz9; clear hz9
      have b9 := br.trans (hb9.mono br.size)
      refine (HP2.out _).mono ?_
      rintro e w10 ⟨hb10, ⟨rfl, _⟩ | ⟨_, _, hyes, _⟩⟩
      · go_wp2_with fail
        go_ret
        exact ⟨rfl, b9.trans (hb10.mono b9.size)⟩
      · exact absurd hyes hno
    · obtain ⟨hyes, rfl, rfl⟩ := runP_some hsome
      have HP2 := hideC (fun W => parse_any S0 W (by omega))
      clear hsome
      go_wp2_with fail
      refine absC1 fun Wt hY9 hb9 hz9 => ?_
      have HZ9 := Lib.hid hz9; clear hz9
      have b9 := br.trans (hb9.mono br.size)
      refine (HP2.out _).mono ?_
      rintro e w10 ⟨hb10, ⟨rfl, hno⟩ | ⟨p10, rfl, _, hm10⟩⟩
      · exact absurd hyes hno
      · have hY10 := hY9.below hb10 hY9.lt
        have v0 := hY10.cell 0
        have v1 := hY10.cell 1
        have hl := pNs_len S0.data.toList
        obtain ⟨g1, g2, _⟩ := hyes
        have hIP10 := (hIP.below hb9).below hb10
        have hsm := samel_any p10 (pC S0.data.toList) (pC S0.data.toList) (pNs S0.data.toList) A7 c7 _ w10 hm10 g1 (by omega) hIP10
        rw [sameB_refl] at hsm
        have HSM := hideC hsm
        clear hsm g1 g2 hl hm10
        go_wp2_with fail
        refine HSM.out.mono ?_
        rintro e w11 ⟨rfl, hb11⟩
        go_wp2_with fail
        go_ret
        have b10 := b9.trans (hb10.mono b9.size)
        exact ⟨rfl, b10.trans (hb11.mono b10.size)⟩
  · rw [e1, e2] at hm8
    have HR := hideC (rows_any q8 0 [] w8 hm8)
    have HC := hideC (cols_any q8 0 [] w8 hm8)
    clear e1 e2 hok HP HL
    go_wp2_with fail
    refine HR.out.mono ?_
    rintro e w9 ⟨rfl, rfl⟩
    go_wp2_with fail
    refine HC.out.mono ?_
    rintro e w9 ⟨rfl, rfl⟩
    go_wp2_with fail
    have bz := b8
    clear y0 y1 HR HC
    have hS0 : (s.extract 0 (min (s.size : Int) 60).toNat).size ≤ 60 := by
      rw [ByteArray.size_extract]; omega
    generalize s.extract 0 (min (s.size : Int) 60).toNat = S0 at *
    refine (readr_any S0 _ (by omega)).mono ?_
    rintro e wr ⟨hbr, hres⟩
    have br := bz.trans (hbr.mono bz.size)
    rcases hres with ⟨hn, rfl⟩ | ⟨D, P, A7, c7, hsome, rfl, hIP⟩
    · have hno := runP_none hn
      have HP2 := hideC (fun W => parse_any S0 W (by omega))
      clear hn
      go_wp2_with fail
      refine absC1 fun Wt hY9 hb9 hz9 => ?_
      have HZ9 := Lib.hid hz9; clear hz9
      have b9 := br.trans (hb9.mono br.size)
      refine (HP2.out _).mono ?_
      rintro e w10 ⟨hb10, ⟨rfl, _⟩ | ⟨_, _, hyes, _⟩⟩
      · go_wp2_with fail
        go_ret
        exact ⟨rfl, b9.trans (hb10.mono b9.size)⟩
      · exact absurd hyes hno
    · obtain ⟨hyes, rfl, rfl⟩ := runP_some hsome
      have HP2 := hideC (fun W => parse_any S0 W (by omega))
      clear hsome
      go_wp2_with fail
      refine absC1 fun Wt hY9 hb9 hz9 => ?_
      have HZ9 := Lib.hid hz9; clear hz9
      have b9 := br.trans (hb9.mono br.size)
      refine (HP2.out _).mono ?_
      rintro e w10 ⟨hb10, ⟨rfl, hno⟩ | ⟨p10, rfl, _, hm10⟩⟩
      · exact absurd hyes hno
      · have hY10 := hY9.below hb10 hY9.lt
        have v0 := hY10.cell 0
        have v1 := hY10.cell 1
        have hl := pNs_len S0.data.toList
        obtain ⟨g1, g2, _⟩ := hyes
        have hIP10 := (hIP.below hb9).below hb10
        have hsm := samel_any p10 (pC S0.data.toList) (pC S0.data.toList) (pNs S0.data.toList) A7 c7 _ w10 hm10 g1 (by omega) hIP10
        rw [sameB_refl] at hsm
        have HSM := hideC hsm
        clear hsm g1 g2 hl hm10
        go_wp2_with fail
        refine HSM.out.mono ?_
        rintro e w11 ⟨rfl, hb11⟩
        go_wp2_with fail
        go_ret
        have b10 := b9.trans (hb10.mono b9.size)
        exact ⟨rfl, b10.trans (hb11.mono b10.size)⟩
end Go.Proofs.YtjlcnbfkblmoeaaDoor
