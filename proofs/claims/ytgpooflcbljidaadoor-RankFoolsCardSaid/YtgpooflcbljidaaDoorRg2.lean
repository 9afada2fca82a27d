/-
  bits.Set.Least, and rank.lectic: the answers; behind them the world is the old one but for draws and new blocks.
-/
import Derived.Test.YtgpooflcbljidaaDoorRg1
import Derived.Test.YtgpooflcbljidaaDoorMix2
namespace Go.Proofs.YtgpooflcbljidaaDoor
open Go.RowKit

theorem wd_all {N : Nat} (h : ∀ i, i < nw N → wd N i = 0) : N = 0 := wd_ext fun k => by
  rw [wd_zero]
  by_cases hk : k < nw N
  · exact h k hk
  · exact wd_ge (by omega)
set_option maxRecDepth 100000 in
set_option maxHeartbeats 2000000 in
theorem least_no (v : Value) (w : World) (hs : IsSet w v 0) :
    Calls Tryd.prog 105 #[.agg #[v]] w fun e w' => e = .returned (.tuple #[.int .i64 0, .bool false]) ∧ Below w.heap.size w w' ∧ Dn w w' := by
  obtain ⟨A, c, rfl, hN, _⟩ := id hs
  rw [nw_zero]
  go_enter Tryd.func105, Tryd.ntmps105
  go_wp2_with fail
  refine wp_loopF (β := Unit) (fun _ f => #[f 0, f 1, f 2, f 3, f 4, f 5, f 6, .slice A 0 c, .int .i64 0, .int .i64 0, f 10, f 11, f 12, f 13, f 14, f 15, f 16, f 17, f 18, f 19, f 20, f 21])
    (fun _ ds wr => ds = [] ∧ Below w.heap.size w wr ∧ Dn w wr) (fun _ => 0) () rfl ⟨rfl, (Below.refl _ _).alloc (Nat.le_refl _) _, Dn.refl _⟩ ?_
  rintro _ f ds wr ⟨rfl, hb, hd⟩
  dsimp only
  go_wp2_with fail
  go_ret2
  exact ⟨rfl, hb, hd⟩
set_option maxRecDepth 100000 in
set_option maxHeartbeats 2000000 in
theorem least_yes (v : Value) (N L : Nat) (w : World) (hs : IsSet w v N) (hL : N.testBit L = true) (hlo : ∀ j, j < L → N.testBit j = false) (hT : Tab w) :
    Calls Tryd.prog 105 #[.agg #[v]] w fun e w' => e = .returned (.tuple #[.int .i64 L, .bool true]) ∧ Below w.heap.size w w' ∧ Dn w w' := by
  obtain ⟨A, c, rfl, hN, hNc, _, h4⟩ := id hs
  have hN0 : N ≠ 0 := by rintro rfl; simp at hL
  have hLl : L < 64 * nw N := by
    by_cases h : L < 64 * nw N
    · exact h
    · rw [testBit_ge (Nat.le_refl _) (by omega)] at hL; cases hL
  have hn0 : 0 < nw N := by omega
  obtain ⟨g, cs, rfl, hg, hcs⟩ := h4 hn0
  clear h4
  go_enter Tryd.func105, Tryd.ntmps105
  go_wp2_with fail
  refine wp_loopF (β := Nat) (fun k f => #[f 0, f 1, f 2, f 3, f 4, f 5, f 6, .slice (some ⟨g, 0, none⟩) (nw N) c, .int .i64 (nw N : Int), .int .i64 (k : Int), f 10, f 11, f 12, f 13, f 14, f 15, f 16, f 17, f 18, f 19, f 20, f 21])
    (fun k ds wr => k ≤ nw N ∧ ds = [] ∧ Below w.heap.size w wr ∧ Dn w wr ∧ ∀ i, i < k → wd N i = 0) (fun k => nw N - k) 0 rfl ⟨Nat.zero_le _, rfl, (Below.refl _ _).alloc (Nat.le_refl _) _, Dn.refl _, fun i hi => by omega⟩ ?_
  rintro k f ds wr ⟨hk, rfl, hb, hd, hz⟩
  dsimp only at hk ⊢
  have HZ := Lib.hid hz; clear hz
  by_cases hlt : k < nw N
  · have cN := ((hg.below hb hg.lt).cell k).trans (hcs k hlt)
    have lg := (hg.below hb hg.lt).lt
    by_cases h0 : wd N k = 0
    · have e0 : ((wd N k : Int) != 0) = false := by simp [h0]
      have H0 := Lib.hid h0
      clear h0 hcs
      go_wp2_with fail
      exact ⟨k + 1, rfl, ⟨by omega, by first | rfl | trivial, hb, hd, fun i hi => by
        by_cases e : i = k
        · subst e; exact H0.out
        · exact HZ.out i (by omega)⟩, by omega⟩
    · obtain ⟨b, hbe, hb64, hbt, hblow, _⟩ := ctz_spec (wd N k) h0 (wd_lt N k)
      have htz := tz_any (wd N k) h0 (wd_lt N k) wr (fun j hj => onB hb (hT j hj))
      rw [hbe] at htz
      have hLe : 64 * k + b = L := by
        have h1 : N.testBit (64 * k + b) = true := by
          have := hbt; rw [testBit_wd] at this; simp at this; exact this.2
        rcases Nat.lt_trichotomy (64 * k + b) L with h | h | h
        · rw [hlo _ h] at h1; cases h1
        · exact h
        · -- L lies below: its word is zero, or the bit below b
          exfalso
          have hq : (wd N (L / 64)).testBit (L % 64) = true := by
            rw [testBit_wd, show 64 * (L / 64) + L % 64 = L by omega, hL]; simp; omega
          by_cases hlk : L / 64 < k
          · rw [HZ.out _ hlk] at hq; simp at hq
          · have e : L / 64 = k := by omega
            rw [e, hblow _ (by omega)] at hq; cases hq
      have e0 : ((wd N k : Int) != 0) = true := by rw [bne_iff_ne]; omega
      have HTZ := hideC htz
      have HLE := Lib.hid hLe
      clear h0 hcs htz hbt hblow hbe hlo hL hLe
      go_wp2_with fail
      refine HTZ.out.mono ?_
      rintro e w1 ⟨rfl, rfl⟩
      have e9 : (64 : Int) * (k : Int) + (b : Int) = (L : Int) := by have := HLE.out; omega
      go_wp2_with fail
      go_ret2
      exact ⟨by first | rfl | rw [e9], hb, hd⟩
  · obtain rfl : k = nw N := by omega
    exact absurd (wd_all HZ.out) hN0
/-! The order of the program. -/
def lecN (N M : Nat) : Int := if N = M then 0 else if lecR N M = true then -1 else 1
theorem lecN_lt (N M : Nat) : decide (lecN N M < 0) = lecR N M := by
  unfold lecN
  by_cases h : N = M
  · subst h; simp [lecR_irrefl]
  · rw [if_neg h]; cases lecR N M <;> simp
def symD (N M : Nat) : Nat := minusN N M ||| minusN M N
theorem testBit_symD (N M i : Nat) : (symD N M).testBit i = (N.testBit i != M.testBit i) := by
  unfold symD
  rw [Nat.testBit_or, testBit_minusN, testBit_minusN]
  cases N.testBit i <;> cases M.testBit i <;> rfl
theorem symD_yes {N M L : Nat} (h : (symD N M).testBit L = true) : N.testBit L = !M.testBit L := by
  rw [testBit_symD] at h
  cases h1 : N.testBit L <;> cases h2 : M.testBit L <;> rw [h1, h2] at h <;> first | rfl | cases h
theorem symD_same {N M j : Nat} (h : (symD N M).testBit j = false) : N.testBit j = M.testBit j := by
  rw [testBit_symD] at h
  cases h1 : N.testBit j <;> cases h2 : M.testBit j <;> rw [h1, h2] at h <;> first | rfl | cases h
theorem symD_self (N : Nat) : symD N N = 0 := Nat.eq_of_testBit_eq fun i => by rw [testBit_symD]; simp
theorem symD_low {N M : Nat} (h : N ≠ M) : ∃ L, (symD N M).testBit L = true ∧ ∀ j, j < L → (symD N M).testBit j = false := by
  have h0 : symD N M ≠ 0 := fun e => h (Nat.eq_of_testBit_eq fun i => by
    have := testBit_symD N M i
    rw [e, Nat.zero_testBit] at this
    cases h1 : N.testBit i <;> cases h2 : M.testBit i <;> simp_all)
  obtain ⟨L, h1, h2⟩ := least_ex (p := fun i => (symD N M).testBit i = true) _ (Nat.testBit_log2 h0)
  refine ⟨L, h1, fun j hj => ?_⟩
  cases hb : (symD N M).testBit j with
  | false => rfl
  | true => have := h2 j hb; omega
namespace Mix2
set_option maxRecDepth 100000 in
set_option maxHeartbeats 4000000 in
theorem lectic_b (v u : Value) (N M : Nat) (w : World) (hs : IsSet w v N) (ho : IsSet w u M) (hT : Tab w) :
    Calls Tryd.prog 67 #[.agg #[v], .agg #[u]] w fun e w' => e = .returned (.int .i64 (lecN N M)) ∧ Below w.heap.size w w' ∧ Dn w w' := by
  obtain ⟨A, c, rfl, _⟩ := id hs
  obtain ⟨A', c', rfl, _⟩ := id ho
  go_enter Tryd.func67, Tryd.ntmps67
  go_wp2_with fail
  refine dabs2 fun W0 hA hB hb0 hd0 => ?_
  have a0 := hA.cell 0
  have b0 := hB.cell 0
  refine wp_mix (fun V => Below W0.heap.size W0 V) 13 (by kernel_rfl) (by kernel_rfl) (Below.refl _ _).drew ?_
  have hr : Below W0.heap.size W0 W0.drew := (Below.refl _ _).drew
  have hd : Dn w W0.drew := hd0.drew
  obtain ⟨w1, hw⟩ : ∃ V, V = W0.drew := ⟨_, rfl⟩
  rw [← hw] at hr hd ⊢
  clear hw
  have k := hb0.trans (hr.mono hb0.size)
  (refine m_q 0 (v := ?_) (by kernel_rfl) rfl rfl (fun W hW => ?_) ?_; rotate_left; (have z0 := onB hW a0; have z1 := onB hW b0; go_simp; first | done | with_reducible rfl); simp only [Act.put, List.setIfInBounds_toArray, List.set_cons_zero, List.set_cons_succ]); (refine m_q 1 (v := ?_) (by kernel_rfl) rfl rfl (fun W hW => ?_) ?_; rotate_left; (have z0 := onB hW a0; have z1 := onB hW b0; go_simp; first | done | with_reducible rfl); simp only [Act.put, List.setIfInBounds_toArray, List.set_cons_zero, List.set_cons_succ]); (refine m_q 3 (v := ?_) (by kernel_rfl) rfl rfl (fun W hW => ?_) ?_; rotate_left; (have z0 := onB hW a0; have z1 := onB hW b0; go_simp; first | done | with_reducible rfl); simp only [Act.put, List.setIfInBounds_toArray, List.set_cons_zero, List.set_cons_succ]); (refine m_q 4 (v := ?_) (by kernel_rfl) rfl rfl (fun W hW => ?_) ?_; rotate_left; (have z0 := onB hW a0; have z1 := onB hW b0; go_simp; first | done | with_reducible rfl); simp only [Act.put, List.setIfInBounds_toArray, List.set_cons_zero, List.set_cons_succ])
  refine m_s1 2 (by kernel_rfl) rfl ?_
  go_wp2_with fail
  refine (minus_g _ _ N M _ (hs.below k) (ho.below k)).mono ?_
  rintro e w2 ⟨r1, rfl, s1, hb, hd2⟩
  obtain ⟨A1, c1, rfl, _⟩ := id s1
  replace hr := hr.trans (hb.mono hr.size); replace k := k.trans (hb.mono k.size); replace hd := hd.trans hd2
  go_wp2_with fail
  refine m_keep hr ?_
  refine m_s1 5 (by kernel_rfl) rfl ?_
  go_wp2_with fail
  refine (minus_g _ _ M N _ (ho.below k) (hs.below k)).mono ?_
  rintro e w3 ⟨r2, rfl, s2, hb, hd2⟩
  obtain ⟨A2, c2, rfl, _⟩ := id s2
  replace s1 := s1.below hb
  replace hr := hr.trans (hb.mono hr.size); replace k := k.trans (hb.mono k.size); replace hd := hd.trans hd2
  go_wp2_with fail
  refine m_keep hr ?_
  refine m_s1 6 (by kernel_rfl) rfl ?_
  go_wp2_with fail
  refine (or_g _ _ (minusN N M) (minusN M N) _ s1 s2).mono ?_
  rintro e w4 ⟨r3, rfl, s3, hb, hd2⟩
  obtain ⟨A3, c3, rfl, _⟩ := id s3
  replace hr := hr.trans (hb.mono hr.size); replace k := k.trans (hb.mono k.size); replace hd := hd.trans hd2
  go_wp2_with fail
  refine m_keep hr ?_
  have hT4 := hT.below k
  by_cases hne : N = M
  · subst hne
    have e3 : minusN N N ||| minusN N N = 0 := symD_self N
    rw [e3] at s3 ⊢
    refine m_s1 7 (by kernel_rfl) rfl ?_
    go_wp2_with fail
    refine (least_no _ _ s3).mono ?_
    rintro e w5 ⟨rfl, hb, hd2⟩
    replace hr := hr.trans (hb.mono hr.size); replace k := k.trans (hb.mono k.size); replace hd := hd.trans hd2
    go_wp2_with fail
    refine m_keep hr ?_
    (refine m_q 8 (v := ?_) (by kernel_rfl) rfl rfl (fun W hW => ?_) ?_; rotate_left; (go_simp; first | done | with_reducible rfl); simp only [Act.put, List.setIfInBounds_toArray, List.set_cons_zero, List.set_cons_succ]); (refine m_q 9 (v := ?_) (by kernel_rfl) rfl rfl (fun W hW => ?_) ?_; rotate_left; (go_simp; first | done | with_reducible rfl); simp only [Act.put, List.setIfInBounds_toArray, List.set_cons_zero, List.set_cons_succ]); (refine m_q 10 (v := ?_) (by kernel_rfl) rfl rfl (fun W hW => ?_) ?_; rotate_left; (go_simp; first | done | with_reducible rfl); simp only [Act.put, List.setIfInBounds_toArray, List.set_cons_zero, List.set_cons_succ]); (refine m_q 11 (v := ?_) (by kernel_rfl) rfl rfl (fun W hW => ?_) ?_; rotate_left; (go_simp; first | done | with_reducible rfl); simp only [Act.put, List.setIfInBounds_toArray, List.set_cons_zero, List.set_cons_succ]); (refine m_q 12 (v := ?_) (by kernel_rfl) rfl rfl (fun W hW => ?_) ?_; rotate_left; (go_simp; first | done | with_reducible rfl); simp only [Act.put, List.setIfInBounds_toArray, List.set_cons_zero, List.set_cons_succ])
    refine m_end (by kernel_rfl) ?_
    go_wp2_with fail
    go_ret
    exact ⟨ret_int (by unfold lecN; rw [if_pos rfl]), k, hd⟩
  · obtain ⟨L, hL, hlo⟩ := symD_low hne
    have HLL := Lib.hid hL; have HLO := Lib.hid hlo
    have hL4 : L ≤ 4095 := by
      by_cases h : L ≤ 4095
      · exact h
      · obtain ⟨_, _, _, hn, _⟩ := id s3
        rw [symD, testBit_big hn (by omega)] at hL; cases hL
    clear hL hlo
    refine m_s1 7 (by kernel_rfl) rfl ?_
    go_wp2_with fail
    refine (least_yes _ _ L _ s3 HLL.out HLO.out hT4).mono ?_
    rintro e w5 ⟨rfl, hb, hd2⟩
    replace hr := hr.trans (hb.mono hr.size); replace k := k.trans (hb.mono k.size); replace hd := hd.trans hd2
    go_wp2_with fail
    refine m_keep hr ?_
    (refine m_q 8 (v := ?_) (by kernel_rfl) rfl rfl (fun W hW => ?_) ?_; rotate_left; (go_simp; first | done | with_reducible rfl); simp only [Act.put, List.setIfInBounds_toArray, List.set_cons_zero, List.set_cons_succ]); (refine m_q 9 (v := ?_) (by kernel_rfl) rfl rfl (fun W hW => ?_) ?_; rotate_left; (go_simp; first | done | with_reducible rfl); simp only [Act.put, List.setIfInBounds_toArray, List.set_cons_zero, List.set_cons_succ]); (refine m_q 10 (v := ?_) (by kernel_rfl) rfl rfl (fun W hW => ?_) ?_; rotate_left; (go_simp; first | done | with_reducible rfl); simp only [Act.put, List.setIfInBounds_toArray, List.set_cons_zero, List.set_cons_succ]); (refine m_q 11 (v := ?_) (by kernel_rfl) rfl rfl (fun W hW => ?_) ?_; rotate_left; (go_simp; first | done | with_reducible rfl); simp only [Act.put, List.setIfInBounds_toArray, List.set_cons_zero, List.set_cons_succ]); (refine m_q 12 (v := ?_) (by kernel_rfl) rfl rfl (fun W hW => ?_) ?_; rotate_left; (go_simp; first | done | with_reducible rfl); simp only [Act.put, List.setIfInBounds_toArray, List.set_cons_zero, List.set_cons_succ])
    refine m_end (by kernel_rfl) ?_
    have c0 := onB hr b0
    have hho := ho.below k
    cases hm : M.testBit L with
    | true =>
      have HM := Lib.hid hm
      have hh := has_g _ M L w5 hho hL4
      rw [hm] at hh
      have HH := hideC hh
      clear hm hh
      go_wp2_with fail
      refine HH.out.mono ?_
      rintro e w6 ⟨rfl, hg6⟩
      go_wp2_with fail
      go_ret
      exact ⟨ret_int (by
        have hn : N.testBit L = false := by rw [symD_yes HLL.out, HM.out]; rfl
        have hj : ∀ j, j < L → N.testBit j = M.testBit j := fun j hj => symD_same (HLO.out j hj)
        unfold lecN
        rw [if_neg hne, if_pos (lecR_at L N M hj hn HM.out)]), k.trans (hg6.below.mono k.size), hd.trans hg6.dn⟩
    | false =>
      have HM := Lib.hid hm
      have hh := has_g _ M L w5 hho hL4
      rw [hm] at hh
      have HH := hideC hh
      clear hm hh
      go_wp2_with fail
      refine HH.out.mono ?_
      rintro e w6 ⟨rfl, hg6⟩
      go_wp2_with fail
      go_ret
      exact ⟨ret_int (by
        have hn : N.testBit L = true := by rw [symD_yes HLL.out, HM.out]; rfl
        have hj : ∀ j, j < L → M.testBit j = N.testBit j := fun j hj => (symD_same (HLO.out j hj)).symm
        unfold lecN
        rw [if_neg hne, if_neg (by rw [lecR_asymm _ _ (lecR_at L M N hj HM.out hn)]; simp)]), k.trans (hg6.below.mono k.size), hd.trans hg6.dn⟩
end Mix2
theorem lectic_g (v u : Value) (N M : Nat) (w : World) (hs : IsSet w v N) (ho : IsSet w u M) (hT : Tab w) :
    Calls Tryd.prog 67 #[.agg #[v], .agg #[u]] w fun e w' => e = .returned (.int .i64 (lecN N M)) ∧ Gw w w' := by
  refine (Mix2.lectic_b v u N M w hs ho hT).mono ?_
  rintro e w' ⟨rfl, hb, hd⟩
  exact ⟨rfl, Gw.of hb hd⟩
end Go.Proofs.YtgpooflcbljidaaDoor
