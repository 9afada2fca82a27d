/-
  bits.Set.Compare.
-/
import Derived.Test.YtfbkcdhmggjbaaaGreatDoorCloA
namespace Go.Proofs.YtfbkcdhmggjbaaaGreatDoor
open Go.RowKit

theorem bey_at {M i : Nat} (h : M.testBit i = false) : decide (M / 2 ^ i ≠ 0) = beyB M i := by
  unfold beyB
  rw [decide_eq_decide, Nat.pow_succ, ← Nat.div_div_eq_div_mul]
  have : M / 2 ^ i % 2 = 0 := by
    have h2 : ¬ (M / 2 ^ i % 2 = 1) := by rw [testBit_mod]; simp [h]
    omega
  omega
theorem cmp_one {N M i : Nat} (hj : ∀ j, j < i → N.testBit j = M.testBit j) (hN : N.testBit i = true) (hM : M.testBit i = false) : cmpN N M = if beyB M i then -1 else 1 := by
  have hne : N ≠ M := fun e => by rw [e, hM] at hN; cases hN
  unfold cmpN
  rw [if_neg hne, ltR_at i N M hj hN hM, bey_at hM]
theorem cmp_two {N M i : Nat} (hj : ∀ j, j < i → N.testBit j = M.testBit j) (hN : N.testBit i = false) (hM : M.testBit i = true) : cmpN N M = if beyB N i then 1 else -1 := by
  have hne : N ≠ M := fun e => by rw [e, hM] at hN; cases hN
  unfold cmpN
  rw [if_neg hne]
  have h1 := ltR_at i M N (fun j h => (hj j h).symm) hM hN
  rw [bey_at hN] at h1
  cases hb : beyB N i
  · rw [hb] at h1
    rw [ltR_total _ _ (Ne.symm hne) h1]; simp
  · rw [hb] at h1
    rw [ltR_asymm h1]; simp
set_option maxRecDepth 100000 in
set_option maxHeartbeats 4000000 in
theorem compare_g (v u : Value) (N M : Nat) (w : World) (hs : IsSet w v N) (ho : IsSet w u M) (hT : Tab w) :
    Calls Tryz.prog 112 #[.agg #[v], .agg #[u]] w fun e w' => e = .returned (.int .i64 (cmpN N M)) ∧ Gw w w' := by
  obtain ⟨A, c, rfl, hN, _⟩ := id hs
  obtain ⟨A', c', rfl, hM, _⟩ := id ho
  obtain ⟨n, hn⟩ : ∃ n, n = max (nw N) (nw M) := ⟨_, rfl⟩
  have n64 : n ≤ 64 := by omega
  have emax : max (nw N : Int) (nw M : Int) = (n : Int) := by omega
  have hbig : ∀ k, n ≤ k → wd N k = wd M k := fun k hk => by rw [wd_ge (by omega), wd_ge (by omega)]
  have HBIG := hideC hbig
  clear hbig hn
  go_enter Tryz.func112, Tryz.ntmps112
  go_wp2_with fail
  refine gabs2 fun W0 hX hY hg0 => ?_
  clear emax
  refine wp_loopF (β := Nat) (fun k f => #[f 0, f 1, .pointer (some ⟨w.heap.size, 0, none⟩), .pointer (some ⟨w.heap.size + 1, 0, none⟩), f 4, f 5, f 6, f 7, f 8, f 9, f 10, f 11, f 12, f 13, .int .i64 (n : Int), .int .i64 (k : Int), f 16, f 17, f 18, f 19, f 20, f 21, f 22, f 23, f 24, f 25, f 26, f 27, f 28, f 29, f 30, f 31, f 32, f 33, f 34, f 35, f 36, f 37, f 38, f 39, f 40, f 41, f 42, f 43, f 44, f 45, f 46, f 47, f 48, f 49, f 50, f 51, f 52, f 53, f 54, f 55, f 56, f 57, f 58])
    (fun k ds wr => k ≤ n ∧ ds = [] ∧ Gw w wr ∧ Blk wr w.heap.size 74 #[.slice A (nw N) c] ∧ Blk wr (w.heap.size + 1) 74 #[.slice A' (nw M) c'] ∧ Hid (∀ j, j < k → wd N j = wd M j)) (fun k => n - k) 0 rfl ⟨Nat.zero_le _, rfl, hg0, hX, hY, hideC fun j hj => by omega⟩ ?_
  rintro k f ds wr ⟨hk, rfl, hg, hX, hY, HE⟩
  dsimp only
  clear hg0
  by_cases hlt : k < n
  · have x0 := hX.cell 0
    have y0 := hY.cell 0
    have hgd := hg.trans (Gw.drew wr)
    have ex := u64_xor_nat (wd N k) (wd M k) (wd_lt _ _) (wd_lt _ _)
    have hxl : wd N k ^^^ wd M k < 2 ^ 64 := Nat.xor_lt_two_pow (wd_lt _ _) (wd_lt _ _)
    obtain ⟨x, hx⟩ : ∃ x, x = wd N k ^^^ wd M k := ⟨_, rfl⟩
    rw [← hx] at ex hxl
    have HW1 := hideC (fun W h => word_g (.slice A (nw N) c) N k W h)
    have HW2 := hideC (fun W h => word_g (.slice A' (nw M) c') M k W h)
    obtain ⟨a, ha⟩ : ∃ a, a = wd N k := ⟨_, rfl⟩
    obtain ⟨b, hb⟩ : ∃ b, b = wd M k := ⟨_, rfl⟩
    rw [← ha] at ex HW1 hx
    rw [← hb] at ex HW2 hx
    have HA := Lib.hid ha
    have HB := Lib.hid hb
    have HX := Lib.hid hx
    clear ha hb hx
    go_wp2_with fail
    refine wp_spine (fun W => Below wr.heap.size wr W) [0, 1, 3, 4] [2, 5, 6, 7] (by kernel_rfl) (by kernel_rfl) ?_
    iterate 4 (refine wpE_op (v := ?_) rfl rfl (fun W hW => ?_) ?_; rotate_left; (have z0 := onB hW x0; have z1 := onB hW y0; go_simp; first | done | with_reducible rfl); simp only [Act.put, List.setIfInBounds_toArray, List.set_cons_zero, List.set_cons_succ])
    refine wpE_nil ⟨fun h => (by cases h), wpSp_op rfl (Below.refl _ _).drew ?_⟩
    go_wp2_with fail
    refine (HW1.out _ (hs.below hgd.below)).mono ?_
    rintro e w1 ⟨rfl, hg1⟩
    have b1 : Below wr.heap.size wr w1 := ((Gw.drew wr).trans hg1).below
    have g1 := hgd.trans hg1
    go_wp2_with fail
    refine nxt_op rfl b1 ?_
    go_wp2_with fail
    refine (HW2.out _ (ho.below g1.below)).mono ?_
    rintro e w2 ⟨rfl, hg2⟩
    have b2 : Below wr.heap.size wr w2 := (((Gw.drew wr).trans hg1).trans hg2).below
    have g2 := g1.trans hg2
    go_wp2_with fail
    refine nxt_op rfl b2 ?_
    go_wp2_with fail
    refine nxt_op rfl b2 ?_
    go_wp2_with fail
    refine nxt_nil ?_
    have hX2 := hX.below b2 hX.lt
    have hY2 := hY.below b2 hY.lt
    clear ex x0 y0 HW1 HW2
    by_cases hx0 : x = 0
    · have hab : wd N k = wd M k := by
        rw [← HA.out, ← HB.out]
        have := HX.out
        rw [hx0] at this
        exact Nat.eq_of_testBit_eq fun j => by
          have h2 := congrArg (fun y => y.testBit j) this.symm
          simp only [Nat.testBit_xor, Nat.zero_testBit] at h2
          revert h2
          cases a.testBit j <;> cases b.testBit j <;> simp
      subst hx0
      have HAB := Lib.hid hab
      clear hab
      go_wp2_with fail
      exact ⟨k + 1, rfl, ⟨by omega, by first | rfl | trivial, g2, hX2, hY2, hideC fun j hj => by
        by_cases e : j = k
        · rw [e]; exact HAB.out
        · exact HE.out j (by omega)⟩, by omega⟩
    · have e0 : ((x : Int) == 0) = false := by rw [beq_eq_false_iff_ne]; omega
      obtain ⟨bb, hb1, hb2, hb3, hb4, _⟩ := ctz_spec x hx0 hxl
      have HTZ := tz_any x hx0 hxl w2 (hT.below g2.below)
      rw [hb1] at HTZ
      have HTZ := hideC HTZ
      obtain ⟨i, hi⟩ : ∃ i, i = 64 * k + bb := ⟨_, rfl⟩
      have hi64 : i ≤ 4095 := by omega
      have e1 : (64 : Int) * (k : Int) + (bb : Int) = (i : Int) := by omega
      have e2 : IntKind.i64.wrap ((64 : Int) * (k : Int)) = (64 : Int) * (k : Int) := i64w ⟨by omega, by omega⟩
      have hbit : ∀ j, j < 64 → (N.testBit (64 * k + j) == M.testBit (64 * k + j)) = !x.testBit j := fun j hj => by
        have t1 := testBit_wd N k j
        have t2 := testBit_wd M k j
        rw [decide_eq_true hj, Bool.true_and] at t1 t2
        rw [← t1, ← t2, HX.out, HA.out, HB.out, Nat.testBit_xor]
        cases (wd N k).testBit j <;> cases (wd M k).testBit j <;> rfl
      have hlow : ∀ j, j < i → N.testBit j = M.testBit j := fun j hj => by
        by_cases h : j < 64 * k
        · rw [testBit_div N j, testBit_div M j, HE.out (j / 64) (by omega)]
        · have := hbit (j - 64 * k) (by omega)
          rw [hb4 _ (by omega)] at this
          have e : 64 * k + (j - 64 * k) = j := by omega
          rw [e] at this
          simpa using this
      have hdif := hbit bb hb2
      rw [hb3, ← hi] at hdif
      have HLOW := hideC hlow
      clear hbit hlow hb1 hb3 hb4 hx0 hi HX HA HB
      go_wp2_with fail
      refine HTZ.out.mono ?_
      rintro e w3 ⟨rfl, rfl⟩
      have hs2 := hs.below g2.below
      have ho2 := ho.below g2.below
      have x0 := hX2.cell 0
      have y0 := hY2.cell 0
      have HH1 := hideC (fun W h => has_g (.slice A (nw N) c) N i W h hi64)
      have HH2 := hideC (fun W h => has_g (.slice A' (nw M) c') M i W h hi64)
      have HB1 := hideC (fun W h => beyond_g (.slice A (nw N) c) N i W h)
      have HB2 := hideC (fun W h => beyond_g (.slice A' (nw M) c') M i W h)
      have hcases : (N.testBit i = true ∧ M.testBit i = false) ∨ (N.testBit i = false ∧ M.testBit i = true) := by
        revert hdif
        cases N.testBit i <;> cases M.testBit i <;> simp
      clear hdif
      rcases hcases with ⟨hNi, hMi⟩ | ⟨hNi, hMi⟩
      · rw [hNi] at HH1
        rw [hMi] at HH2
        have hc := cmp_one HLOW.out hNi hMi
        have HCM := Lib.hid hc
        clear hc hNi hMi
        go_wp2_with fail
        refine wp_spine (fun W => Below w2.heap.size w2 W) [0, 1, 3, 4] [2, 5, 6] (by kernel_rfl) (by kernel_rfl) ?_
        iterate 4 (refine wpE_op (v := ?_) rfl rfl (fun W hW => ?_) ?_; rotate_left; (have z0 := onB hW x0; have z1 := onB hW y0; go_simp; first | done | with_reducible rfl); simp only [Act.put, List.setIfInBounds_toArray, List.set_cons_zero, List.set_cons_succ])
        refine wpE_nil ⟨fun h => (by cases h), wpSp_op rfl (Below.refl _ _).drew ?_⟩
        go_wp2_with fail
        refine (HH1.out _ (hs.below (g2.trans (Gw.drew w2)).below)).mono ?_
        rintro e w4 ⟨rfl, hg4⟩
        have g4 := (g2.trans (Gw.drew w2)).trans hg4
        have b4 : Below w2.heap.size w2 w4 := ((Gw.drew w2).trans hg4).below
        go_wp2_with fail
        refine nxt_op rfl b4 ?_
        go_wp2_with fail
        refine (HH2.out _ (ho.below g4.below)).mono ?_
        rintro e w5 ⟨rfl, hg5⟩
        have g5 := g4.trans hg5
        have b5 : Below w2.heap.size w2 w5 := (((Gw.drew w2).trans hg4).trans hg5).below
        go_wp2_with fail
        refine nxt_op rfl b5 ?_
        go_wp2_with fail
        refine nxt_nil ?_
        have hX5 := hX2.below b5 hX2.lt
        have hY5 := hY2.below b5 hY2.lt
        clear x0 y0
        have x0 := hX5.cell 0
        have y0 := hY5.cell 0
        go_wp2_with fail
        refine (HH1.out _ (hs.below g5.below)).mono ?_
        rintro e w6 ⟨rfl, hg6⟩
        have g6 := g5.trans hg6
        have hX6 := hX5.below hg6.below hX5.lt
        have hY6 := hY5.below hg6.below hY5.lt
        clear x0 y0
        have x0 := hX6.cell 0
        have y0 := hY6.cell 0
        go_wp2_with fail
        refine (HB2.out _ (ho.below g6.below)).mono ?_
        rintro e w7 ⟨rfl, hg7⟩
        have g7 := g6.trans hg7
        cases hbey : beyB M i
        · have hcm := HCM.out
          rw [hbey, if_neg (by simp)] at hcm
          have HCM2 := Lib.hid hcm
          have hX7 := hX6.below hg7.below hX6.lt
          have hY7 := hY6.below hg7.below hY6.lt
          clear x0 y0 hcm
          have x0 := hX7.cell 0
          have y0 := hY7.cell 0
          go_wp2_with fail
          refine (HH2.out _ (ho.below g7.below)).mono ?_
          rintro e w8 ⟨rfl, hg8⟩
          have g8 := g7.trans hg8
          go_wp2_with fail
          go_ret
          exact ⟨ret_int HCM2.out.symm, g8⟩
        · have hcm := HCM.out
          rw [hbey, if_pos rfl] at hcm
          have HCM2 := Lib.hid hcm
          clear hcm
          go_wp2_with fail
          go_ret
          exact ⟨ret_int HCM2.out.symm, g7⟩
      · rw [hNi] at HH1
        rw [hMi] at HH2
        have hc := cmp_two HLOW.out hNi hMi
        have HCM := Lib.hid hc
        clear hc hNi hMi
        go_wp2_with fail
        refine wp_spine (fun W => Below w2.heap.size w2 W) [0, 1, 3, 4] [2, 5, 6] (by kernel_rfl) (by kernel_rfl) ?_
        iterate 4 (refine wpE_op (v := ?_) rfl rfl (fun W hW => ?_) ?_; rotate_left; (have z0 := onB hW x0; have z1 := onB hW y0; go_simp; first | done | with_reducible rfl); simp only [Act.put, List.setIfInBounds_toArray, List.set_cons_zero, List.set_cons_succ])
        refine wpE_nil ⟨fun h => (by cases h), wpSp_op rfl (Below.refl _ _).drew ?_⟩
        go_wp2_with fail
        refine (HH1.out _ (hs.below (g2.trans (Gw.drew w2)).below)).mono ?_
        rintro e w4 ⟨rfl, hg4⟩
        have g4 := (g2.trans (Gw.drew w2)).trans hg4
        have b4 : Below w2.heap.size w2 w4 := ((Gw.drew w2).trans hg4).below
        go_wp2_with fail
        refine nxt_op rfl b4 ?_
        go_wp2_with fail
        refine (HH2.out _ (ho.below g4.below)).mono ?_
        rintro e w5 ⟨rfl, hg5⟩
        have g5 := g4.trans hg5
        have b5 : Below w2.heap.size w2 w5 := (((Gw.drew w2).trans hg4).trans hg5).below
        go_wp2_with fail
        refine nxt_op rfl b5 ?_
        go_wp2_with fail
        refine nxt_nil ?_
        have hX5 := hX2.below b5 hX2.lt
        have hY5 := hY2.below b5 hY2.lt
        clear x0 y0
        have x0 := hX5.cell 0
        have y0 := hY5.cell 0
        go_wp2_with fail
        refine (HH1.out _ (hs.below g5.below)).mono ?_
        rintro e w6 ⟨rfl, hg6⟩
        have g6 := g5.trans hg6
        have hX6 := hX5.below hg6.below hX5.lt
        have hY6 := hY5.below hg6.below hY5.lt
        clear x0 y0
        have x0 := hX6.cell 0
        have y0 := hY6.cell 0
        go_wp2_with fail
        refine (HH2.out _ (ho.below g6.below)).mono ?_
        rintro e w7 ⟨rfl, hg7⟩
        have g7 := g6.trans hg7
        have hX7 := hX6.below hg7.below hX6.lt
        have hY7 := hY6.below hg7.below hY6.lt
        clear x0 y0
        have x0 := hX7.cell 0
        have y0 := hY7.cell 0
        go_wp2_with fail
        refine (HB1.out _ (hs.below g7.below)).mono ?_
        rintro e w8 ⟨rfl, hg8⟩
        have g8 := g7.trans hg8
        cases hbey : beyB N i
        · have hcm := HCM.out
          rw [hbey, if_neg (by simp)] at hcm
          have HCM2 := Lib.hid hcm
          clear hcm
          go_wp2_with fail
          go_ret
          exact ⟨ret_int HCM2.out.symm, g8⟩
        · have hcm := HCM.out
          rw [hbey, if_pos rfl] at hcm
          have HCM2 := Lib.hid hcm
          clear hcm
          go_wp2_with fail
          go_ret
          exact ⟨ret_int HCM2.out.symm, g8⟩
  · obtain rfl : k = n := by omega
    have hNM : N = M := wd_ext fun j => by
      by_cases h : j < k
      · exact HE.out j h
      · exact HBIG.out j (by omega)
    have e : cmpN N M = 0 := by unfold cmpN; rw [if_pos hNM]
    have HEE := Lib.hid e
    clear e hNM HE HBIG
    go_wp2_with fail
    go_ret
    exact ⟨ret_int HEE.out.symm, hg⟩
end Go.Proofs.YtfbkcdhmggjbaaaGreatDoor
