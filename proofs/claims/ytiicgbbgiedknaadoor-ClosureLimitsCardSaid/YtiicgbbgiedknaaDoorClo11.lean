/-
  closure.Minimal at a matrix: the minimal sets, sorted.
-/
import Derived.Test.YtiicgbbgiedknaaDoorClo10
namespace Go.Proofs.YtiicgbbgiedknaaDoor
open Go.RowKit

set_option maxRecDepth 100000 in
set_option maxHeartbeats 8000000 in
theorem minimal_any (p C : Nat) (Ns : List Nat) (v : Value) (S : Nat) (w : World) (h : IsMat w p C Ns) (hs : IsSet w v S) (hT : Tab w) (hK : card (cloN C Ns S) ≤ 12) :
    Calls Tryd.prog 16 #[ptr p, .agg #[v]] w fun e w' => ∃ A n c vs Ls, e = .returned (.tuple #[.slice A n c, .int .i64 0]) ∧ n = Ls.length ∧ Ls.Perm (minL C Ns (cloN C Ns S)) ∧ Ls.Pairwise (fun a b => ltR b a = false) ∧ Row w' A vs ∧ Sets w' vs Ls ∧ Below w.heap.size w w' := by
  obtain ⟨A, c, rfl, _⟩ := id hs
  have hm : IsMV w (some ⟨p, 0, none⟩) C Ns := .inr ⟨p, rfl, h⟩
  have hcl := fun W (hb : Below w.heap.size w W) => close_any _ C Ns _ S W (hm.below hb) (hs.below hb) (hT.below hb)
  obtain ⟨K, hKe⟩ : ∃ K, K = cloN C Ns S := ⟨_, rfl⟩
  rw [← hKe] at hcl hK ⊢
  clear hKe
  have HCL := hideC hcl
  clear hcl
  go_enter Tryd.func16, Tryd.ntmps16
  go_wp2_with fail
  refine absC1 fun W0 hX hb0 hz => ?_
  refine (HCL.out W0 hb0).mono ?_
  rintro e w1 ⟨r1, rfl, hr1, hb1⟩
  obtain ⟨A1, c1, rfl, _⟩ := id hr1
  have b1 := hb0.trans (hb1.mono hb0.size)
  go_wp2_with fail
  refine absC1 fun W2 hY hb2 hz2 => ?_
  have b2 := b1.trans (hb2.mono b1.size)
  have hr2 := hr1.below hb2
  refine (len_any _ K W2 hr2).mono ?_
  rintro e w3 ⟨rfl, hb3⟩
  have b3 := b2.trans (hb3.mono b2.size)
  have hY3 := hY.below hb3 hY.lt
  have y0 := hY3.cell 0
  go_wp2_with fail
  have hmv3 := hm.below b3
  have hr3 := hr2.below hb3
  have HAV := hideC (having_any _ C Ns _ K w3 hmv3 hr3 (hT.below b3))
  obtain ⟨T, hTe⟩ : ∃ T, T = havN C Ns K := ⟨_, rfl⟩
  rw [← hTe] at HAV
  have HTE := Lib.hid hTe
  clear hTe
  refine HAV.out.mono ?_
  rintro e w4 ⟨r4, rfl, hr4, hb4⟩
  obtain ⟨A4, c4, rfl, _⟩ := id hr4
  have b4 := b3.trans (hb4.mono b3.size)
  have hY4 := hY3.below hb4 hY3.lt
  clear y0
  have y0 := hY4.cell 0
  have lY := hY4.lt
  go_wp2_with fail
  refine absC1 fun W5 hZ hb5 hz5 => ?_
  have b5 := b4.trans (hb5.mono b4.size)
  have hr5 := (hr3.below hb4).below hb5
  refine (list_any _ K W5 hr5 (hT.below b5)).mono ?_
  rintro e w6 ⟨AL, cL, rfl, hLc, hLm, hrL, hb6⟩
  have b6 := b5.trans (hb6.mono b5.size)
  have hZ6 := hZ.below hb6 hZ.lt
  have hT6 := (hr4.below hb5).below hb6
  have hlen : (mems K).length ≤ 12 := by rw [mems_len]; exact hK
  obtain ⟨l, hl⟩ : ∃ l, l = (mems K).length := ⟨_, rfl⟩
  rw [← hl] at hLc hlen ⊢
  have HL := Lib.hid hl
  clear hl
  obtain ⟨E, hE⟩ : ∃ E : Nat, E = 2 ^ l := ⟨_, rfl⟩
  have hE2 : E ≤ 4096 := by rw [hE]; exact Nat.le_trans (Nat.pow_le_pow_right (by omega) hlen) (by decide)
  have e2 : wrap64 ((2 : Int) ^ l) = (E : Int) := by
    have : ((2 : Int) ^ l) = (E : Int) := by rw [hE]; simp
    rw [this]
    exact IntWalk.wrap64_in _ ⟨by omega, by omega⟩
  have HEE := Lib.hid hE
  clear hE
  have hY6 := (hY4.below hb5 hY4.lt).below hb6 (Nat.lt_of_lt_of_le hY4.lt hb5.size)
  have hr6 := hr5.below hb6
  have hmv6 := hm.below b6
  have hT6t := hT.below b6
  clear hmv3 hr3 hr4 hY3 hY hZ hb5 hb6 hb4 hr1 hr2 hb3 hb2 hb1 hz hz2 hz5 b1 b2 b3 b4 b5 HAV HCL
  obtain ⟨i0, hi0, hz0, hz1, hz2⟩ := info_parts info_set
  go_wp2_with fail
  rw [e2]
  clear e2
  refine wp_loopF (β := Nat × Value) (fun s f => #[ptr p, f 1, f 2, f 3, f 4, f 5, .pointer (some ⟨w1.heap.size, 0, none⟩), .pointer (some ⟨w4.heap.size, 0, none⟩), .slice AL l cL, s.2, f 10, f 11, f 12, f 13, f 14, f 15, f 16, f 17, f 18, f 19, f 20, f 21, f 22, f 23, f 24, f 25, f 26, f 27, f 28, .int .i64 (E : Int), .int .i64 (s.1 : Int), f 31, f 32, f 33, f 34, f 35, f 36, f 37, f 38, f 39, f 40, f 41, f 42, f 43, f 44, f 45, f 46, f 47, f 48, f 49, f 50, f 51, f 52, f 53, f 54, f 55, f 56, f 57, f 58, f 59, f 60, f 61, f 62, f 63, f 64, f 65, f 66, f 67, f 68])
    (fun s ds wr => s.1 ≤ E ∧ ds = [] ∧ Below w6.heap.size w6 wr ∧ ∃ vs, wr.ownsRow w6.heap.size 25 1 s.2 (minTo C Ns K s.1).length vs ∧ Sets wr vs (minTo C Ns K s.1)) (fun s => E - s.1) (0, .slice none 0 0) rfl
    ⟨Nat.zero_le _, rfl, Below.refl _ _, [], World.ownsRow_nil _ _ _ _, Sets.nil _⟩ ?_
  rintro ⟨n, v9⟩ f ds wr ⟨hnE, rfl, hbr, vs, hown, hsets⟩
  dsimp only at hnE hown hsets ⊢
  by_cases hlt : n < E
  · go_wp2_with fail
    refine abs1 fun W7 hG hb7 hz7 => ?_
    have hb67 := hbr.trans (hb7.mono hbr.size)
    have hown7 := own_below hown hb7
    have hsets7 := hsets.below hb7
    have lG := hG.lt
    refine wp_loopF (β := Nat) (fun i f => #[ptr p, f 1, f 2, f 3, f 4, f 5, .pointer (some ⟨w1.heap.size, 0, none⟩), .pointer (some ⟨w4.heap.size, 0, none⟩), .slice AL l cL, v9, .int .i64 (n : Int), .pointer (some ⟨wr.heap.size, 0, none⟩), f 12, f 13, f 14, f 15, f 16, f 17, f 18, f 19, f 20, f 21, f 22, f 23, f 24, f 25, f 26, f 27, f 28, .int .i64 (E : Int), .int .i64 (n : Int), f 31, f 32, f 33, .slice AL l cL, .int .i64 (l : Int), .int .i64 (i : Int), f 37, f 38, f 39, f 40, f 41, f 42, f 43, f 44, f 45, f 46, f 47, f 48, f 49, f 50, f 51, f 52, f 53, f 54, f 55, f 56, f 57, f 58, f 59, f 60, f 61, f 62, f 63, f 64, f 65, f 66, f 67, f 68])
      (fun i ds wi => i ≤ l ∧ ds = [] ∧ But (some wr.heap.size) W7 wi ∧ Below w6.heap.size w6 wi ∧ KeepW W7 wi ∧ ∃ v11, Blk wi wr.heap.size 25 #[v11] ∧ IsSet wi v11 (subTo (mems K) n i)) (fun i => l - i) 0 rfl
      ⟨Nat.zero_le _, rfl, But.refl _ _, hb67, KeepW.refl _, _, hG, IsSet.empty _⟩ ?_
    rintro i f ds wi ⟨hil, rfl, hbut, hbi, hki, v11, hG2, hs11⟩
    dsimp only
    by_cases hi : i < l
    · obtain ⟨g0, off0, rfl, hg0, hcell⟩ := hrL (by rw [List.length_map, ← HL.out]; omega)
      have hjm : i < (mems K).length := by rw [← HL.out]; exact hi
      obtain ⟨j, hj⟩ : ∃ j, (mems K)[i]? = some j := ⟨_, List.getElem?_eq_getElem hjm⟩
      have d0 := onB hbi (hcell i (i64 j) (by rw [List.getElem?_map, hj]; rfl))
      have hjK : K.testBit j = true := mem_mems.1 (List.mem_of_getElem? hj)
      have hj4 : j ≤ 4095 := by
        by_cases h : j ≤ 4095
        · exact h
        · obtain ⟨_, _, _, hnk, _⟩ := id hr6
          rw [testBit_big hnk (by omega)] at hjK; cases hjK
      have hgd : (mems K).getD i 0 = j := by rw [List.getD_eq_getElem?_getD, hj]; rfl
      have hstep : subTo (mems K) n (i + 1) = if n.testBit i = true then subTo (mems K) n i ||| 2 ^ j else subTo (mems K) n i := by rw [subTo, hgd]
      have ebit := bit_form n i (by omega)
      obtain ⟨st, hst⟩ : ∃ s, s = subTo (mems K) n i := ⟨_, rfl⟩
      rw [← hst] at hs11 hstep
      obtain ⟨A9, c9, rfl, _⟩ := id hs11
      have cG := hG2.cell 0
      have fG := hG2.frozen 0
      have lG2 := hG2.lt
      have HHL := HL
      clear hst hj hgd hjK hjm hcell
      by_cases hb : n.testBit i = true
      · rw [if_pos hb] at hstep
        rw [hb] at ebit
        have HST := Lib.hid hstep
        have hwi := with_any _ st (j : Int) wi hs11
        rw [withB, if_pos ⟨by omega, by omega⟩, Int.toNat_natCast] at hwi
        have HWI := hideC hwi
        clear hstep hb hwi
        go_wp2_with fail
        refine HWI.out.mono ?_
        rintro e wj ⟨r, rfl, hr, hbj⟩
        obtain ⟨A10, c10, rfl, _⟩ := id hr
        have hG3 := hG2.below hbj hG2.lt
        have cG3 := hG3.cell 0
        have fG3 := hG3.frozen 0
        have lG3 := hG3.lt
        clear cG fG lG2
        go_wp2_with fail
        exact ⟨i + 1, rfl, ⟨by omega, by first | rfl | trivial, (hbut.below hbj).trans (But.setCell _ _ _), (hbi.trans (hbj.mono hbi.size)).setCell (p := ⟨wr.heap.size, 0, none⟩) hbr.size (.slice A10 (nw (st ||| 2 ^ j)) c10), (hki.trans (KeepW.of_below hbj)).trans (KeepW.setCell (p := ⟨wr.heap.size, 0, none⟩) hG3 (by decide) (.slice A10 (nw (st ||| 2 ^ j)) c10)), _, hG3.set_ 0 (.slice A10 (nw (st ||| 2 ^ j)) c10), by rw [HST.out]; exact hr.put hG3 (by decide) 0 _⟩, by omega⟩
      · rw [if_neg hb] at hstep
        rw [Bool.not_eq_true] at hb
        rw [hb] at ebit
        have HST := Lib.hid hstep
        clear hstep hb
        go_wp2_with fail
        exact ⟨i + 1, rfl, ⟨by omega, by first | rfl | trivial, hbut, hbi, hki, _, hG2, by rw [HST.out]; exact hs11⟩, by omega⟩
    · have hss : subTo (mems K) n i = subN (mems K) n := by rw [show i = l by omega, HL.out]; rfl
      rw [hss] at hs11
      have hms := minTo_succ C Ns K n
      rw [minB_eq, ← HTE.out] at hms
      obtain ⟨sn, hsn⟩ : ∃ s, s = subN (mems K) n := ⟨_, rfl⟩
      rw [← hsn] at hs11 hms
      obtain ⟨A9, c9, rfl, _⟩ := id hs11
      have cG := hG2.cell 0
      have cT := onB hbi (hZ6.cell 0)
      have hmvi := hmv6.below hbi
      have hTi := hT6t.below hbi
      have hTset := hT6.below hbi
      have hd : Below wi.heap.size wi wi.drew := (Below.refl _ _).drew
      have hav := having_any _ C Ns _ sn wi.drew (hmvi.below hd) (hs11.below hd) (hTi.below hd)
      obtain ⟨hv, hhv⟩ : ∃ h, h = havN C Ns sn := ⟨_, rfl⟩
      rw [← hhv] at hav hms
      have HAV := hideC hav
      have HMS := Lib.hid hms
      clear hav hms hss hsn hhv
      go_wp2_with fail
      refine wp_mix (fun V => Below wi.heap.size wi V) 11 (by kernel_rfl) (by kernel_rfl) (Below.refl _ _).drew ?_
      (refine m_q 0 (v := ?_) (by kernel_rfl) rfl rfl (fun W hW => ?_) ?_; rotate_left; (go_simp; first | done | with_reducible rfl); simp only [Act.put, List.setIfInBounds_toArray, List.set_cons_zero, List.set_cons_succ])
      (refine m_q 1 (v := ?_) (by kernel_rfl) rfl rfl (fun W hW => ?_) ?_; rotate_left; (have z0 := onB hW cG; go_simp; first | done | with_reducible rfl); simp only [Act.put, List.setIfInBounds_toArray, List.set_cons_zero, List.set_cons_succ])
      (refine m_q 3 (v := ?_) (by kernel_rfl) rfl rfl (fun W hW => ?_) ?_; rotate_left; (have z0 := onB hW cT; go_simp; first | done | with_reducible rfl); simp only [Act.put, List.setIfInBounds_toArray, List.set_cons_zero, List.set_cons_succ])
      refine m_s1 2 (by kernel_rfl) rfl ?_
      go_wp2_with fail
      refine HAV.out.mono ?_
      rintro e wa ⟨ra, rfl, hra, hba⟩
      obtain ⟨A11, c11, rfl, _⟩ := id hra
      have hia := hd.trans (hba.mono hd.size)
      go_wp2_with fail
      refine m_next hia ?_
      have hownI := own_but hown7 hbut fun g hg => by have := (hown.lt g hg).2; simp; omega
      have hsetsI := hsets7.keep hki
      have HE := equal_any _ _ _ _ wa hra (hTset.below hia)
      by_cases hyes : hv = T
      · rw [decide_eq_true hyes] at HE
        have HEE2 := hideC HE
        have hms := HMS.out
        rw [decide_eq_true hyes, Bool.true_and] at hms
        have HMS2 := Lib.hid hms
        clear HE hyes hms HMS
        refine m_s1 4 (by kernel_rfl) rfl ?_
        go_wp2_with fail
        refine HEE2.out.mono ?_
        rintro e wb ⟨rfl, hbb⟩
        have hib := hia.trans (hbb.mono hia.size)
        have cGb := onB hib cG
        have cTb := onB hib cT
        have HLE := hideC (least_any _ C Ns _ _ sn T wb (hmvi.below hib) (hs11.below hib) (hTset.below hib) (hTi.below hib))
        obtain ⟨lb, hlb⟩ : ∃ b, b = leastB C Ns sn T := ⟨_, rfl⟩
        have hms := HMS2.out
        rw [← hlb] at HLE hms
        have HMS3 := Lib.hid hms
        clear hlb hms HMS2
        go_wp2_with fail
        refine m_next hbb ?_
        (refine m_q 5 (v := ?_) (by kernel_rfl) rfl rfl (fun W hW => ?_) ?_; rotate_left; (go_simp; first | done | with_reducible rfl); simp only [Act.put, List.setIfInBounds_toArray, List.set_cons_zero, List.set_cons_succ])
        (refine m_yes 6 (v := ?_) (by kernel_rfl) rfl (by rfl) (fun W hW => ?_) ?_; rotate_left; (go_simp; first | done | with_reducible rfl); simp only [Act.put, List.setIfInBounds_toArray, List.set_cons_zero, List.set_cons_succ])
        (refine m_yes 7 (v := ?_) (by kernel_rfl) rfl (by rfl) (fun W hW => ?_) ?_; rotate_left; (have z0 := onB hW cGb; go_simp; first | done | with_reducible rfl); simp only [Act.put, List.setIfInBounds_toArray, List.set_cons_zero, List.set_cons_succ])
        (refine m_yes 8 (v := ?_) (by kernel_rfl) rfl (by rfl) (fun W hW => ?_) ?_; rotate_left; (have z0 := onB hW cTb; go_simp; first | done | with_reducible rfl); simp only [Act.put, List.setIfInBounds_toArray, List.set_cons_zero, List.set_cons_succ])
        refine m_s1 9 (by kernel_rfl) rfl ?_
        go_wp2_with fail
        refine HLE.out.mono ?_
        rintro e wc ⟨rfl, hbc⟩
        have hic := hib.trans (hbc.mono hib.size)
        go_wp2_with fail
        refine m_next hbc ?_
        (refine m_q 10 (v := ?_) (by kernel_rfl) rfl rfl (fun W hW => ?_) ?_; rotate_left; (go_simp; first | done | with_reducible rfl); simp only [Act.put, List.setIfInBounds_toArray, List.set_cons_zero, List.set_cons_succ])
        refine m_end (by kernel_rfl) ?_
        have hownC := own_below hownI hic
        have hsetsC := hsetsI.below hic
        have hbC := hbi.trans (hic.mono hbi.size)
        have hsC := hs11.below hic
        have cGc := onB hic cG
        have lGc := cell_lt cGc
        cases lb
        · have hms := HMS3.out
          rw [if_neg (by simp)] at hms
          have HMS4 := Lib.hid hms
          clear hms
          go_wp2_with fail
          exact ⟨n + 1, v9, ⟨rfl, by omega⟩, ⟨by omega, vs, by rw [HMS4.out]; exact hownC, by rw [HMS4.out]; exact hsetsC⟩, by omega⟩
        · have hms := HMS3.out
          rw [if_pos rfl] at hms
          have HMS4 := Lib.hid hms
          clear hms
          have hbCs := hbC.size
          have hloc := own_below hownC ((Below.refl wc.heap.size wc).alloc (Nat.le_refl _) (.cells #[.slice A9 (nw sn) c9] 25))
          have hml := minTo_le C Ns K n
          go_wp2_with (at_builtin; refine wpList_append_own _ rfl _ _ 31 rfl (w6.heap.size) 25 i0 (.agg #[.slice none 0 0]) 1 24 Tryd.underlying31 hi0 hz0 hz1 hz2 rfl (by decide) _ _ _ rfl (hloc) ⟨wc.heap.size, 0, none⟩ 1 1 [.slice A9 (nw sn) c9] rfl rfl (cell_one_new _ _ _) (by simp [Value.oneCell']) (by unfold maxLen; omega) (by omega) (by simp; omega) ?_; intro v' w3 hown' hgrow _)
          have hb3 := (hbC.alloc hbC.size (.cells #[.slice A9 (nw sn) c9] 25)).grown hgrow (by simp; omega) (fun q hq => (hloc.lt q hq).1)
          have hs3 := ((hsetsC.snoc hsC).below ((Below.refl wc.heap.size wc).alloc (Nat.le_refl _) (.cells #[.slice A9 (nw sn) c9] 25))).keep (KeepW.grown hgrow hloc (by decide))
          exact ⟨n + 1, v', ⟨rfl, by omega⟩, ⟨by omega, hb3, _, by rw [HMS4.out, List.length_append]; exact hown', by rw [HMS4.out]; exact hs3⟩, by omega⟩
      · rw [decide_eq_false hyes] at HE
        have HEE2 := hideC HE
        have hms := HMS.out
        rw [decide_eq_false hyes, Bool.false_and, if_neg (by simp)] at hms
        have HMS2 := Lib.hid hms
        clear HE hyes hms HMS
        refine m_s1 4 (by kernel_rfl) rfl ?_
        go_wp2_with fail
        refine HEE2.out.mono ?_
        rintro e wb ⟨rfl, hbb⟩
        have hib := hia.trans (hbb.mono hia.size)
        go_wp2_with fail
        refine m_next hbb ?_
        (refine m_q 5 (v := ?_) (by kernel_rfl) rfl rfl (fun W hW => ?_) ?_; rotate_left; (go_simp; first | done | with_reducible rfl); simp only [Act.put, List.setIfInBounds_toArray, List.set_cons_zero, List.set_cons_succ])
        (refine m_no 6 (by kernel_rfl) rfl (by rfl) ?_; simp only [Act.put, List.setIfInBounds_toArray, List.set_cons_zero, List.set_cons_succ]); (refine m_no 7 (by kernel_rfl) rfl (by rfl) ?_; simp only [Act.put, List.setIfInBounds_toArray, List.set_cons_zero, List.set_cons_succ]); (refine m_no 8 (by kernel_rfl) rfl (by rfl) ?_; simp only [Act.put, List.setIfInBounds_toArray, List.set_cons_zero, List.set_cons_succ]); (refine m_no 9 (by kernel_rfl) rfl (by rfl) ?_; simp only [Act.put, List.setIfInBounds_toArray, List.set_cons_zero, List.set_cons_succ])
        (refine m_q 10 (v := ?_) (by kernel_rfl) rfl rfl (fun W hW => ?_) ?_; rotate_left; (go_simp; first | done | with_reducible rfl); simp only [Act.put, List.setIfInBounds_toArray, List.set_cons_zero, List.set_cons_succ])
        refine m_end (by kernel_rfl) ?_
        go_wp2_with fail
        exact ⟨(n + 1, v9), rfl, ⟨by show n + 1 ≤ E; omega, by first | rfl | trivial, hbi.trans (hib.mono hbi.size), vs, by show wb.ownsRow _ _ _ v9 (minTo C Ns K (n + 1)).length _; rw [HMS2.out]; exact own_below hownI hib, by show Sets _ _ (minTo C Ns K (n + 1)); rw [HMS2.out]; exact hsetsI.below hib⟩, by show E - (n + 1) < E - n; omega⟩
  · have hnE2 : n = E := by omega
    have hmin : minTo C Ns K n = minL C Ns K := by rw [hnE2, HEE.out, HL.out]; rfl
    rw [hmin] at hown hsets
    have hml := minTo_le C Ns K n
    rw [hmin] at hml
    have hTw := hT6t.below hbr
    have hpos : 0 < w6.heap.size := cell_lt (hT6t 0 (by decide))
    rcases id hown.2 with ⟨hv9, hlen0⟩ | ⟨g, cap, cur, hv9, hg, hB, hc1, hc2, hsz, htk⟩
    · subst hv9
      have hmn : minL C Ns K = [] := List.eq_nil_of_length_eq_zero hlen0
      have hcon := AnyF.slices_SortFunc_none Tryd.sortSet none 0 (.func (.func 48) #[] #[]) wr
      have HCON := hideC hcon
      have hb9 := b6.trans (hbr.mono b6.size)
      clear hcon hmin hml
      go_wp2_with fail
      refine Calls.mono HCON.out ?_
      rintro e w9 ⟨rfl, rfl⟩
      go_wp2_with fail
      go_ret2
      exact ⟨none, 0, 0, [], [], rfl, rfl, by rw [hmn], List.Pairwise.nil, Row.empty _ _, Sets.nil _, hb9⟩
    · subst hv9
      obtain ⟨N9, hN9⟩ : ∃ N, N = (minL C Ns K).length := ⟨_, rfl⟩
      have hvl : vs.length = N9 := by rw [hsets.1, hN9]
      have hcon := sort_sets g cur vs (minL C Ns K) cap wr hB (fun k u hu => by
        have hk : k < vs.length := (List.getElem?_eq_some_iff.1 hu).1
        rw [← htk, List.getElem?_take_of_lt (by rw [Nat.mul_one, ← hN9, ← hvl]; exact hk), Array.getElem?_toList] at hu
        exact hu) hsets hTw (by rw [hvl]; omega) (by omega)
      rw [hvl] at hcon
      rw [← hN9]
      have HCON := hideC hcon
      have HN9 := Lib.hid hN9
      have HVL := Lib.hid hvl
      have hbw := b6.trans (hbr.mono b6.size)
      clear hcon hmin hml hN9 hvl
      go_wp2_with fail
      refine HCON.out.mono ?_
      rintro e w9 ⟨rfl, vs', Ls, hperm, hpw, hvl', hrow, hsets', hb9, _⟩
      have hlen9 : N9 = Ls.length := by rw [HN9.out, hperm.length_eq]
      have hb10 := hbw.trans (hb9.mono (by have := b6.size; omega))
      have HLEN9 := Lib.hid hlen9
      clear hlen9
      go_wp2_with fail
      go_ret2
      exact ⟨_, _, _, vs', Ls, rfl, HLEN9.out, hperm, hpw, hrow, hsets', hb10⟩
end Go.Proofs.YtiicgbbgiedknaaDoor
