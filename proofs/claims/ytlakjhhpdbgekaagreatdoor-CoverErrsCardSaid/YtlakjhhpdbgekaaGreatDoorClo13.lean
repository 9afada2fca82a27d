/-
  The reference of chapter 45: all, compare, Common, Having, Close.
-/
import Derived.Test.YtlakjhhpdbgekaaGreatDoorCloA
import Derived.Test.YtlakjhhpdbgekaaGreatDoorLaw
import Derived.Test.YtlakjhhpdbgekaaGreatDoorLoop
namespace Go.Proofs.YtlakjhhpdbgekaaGreatDoor
open Go.RowKit
theorem two_form {n : Nat} (hn : n < 64) : IntKind.u64.wrap ((2 : Int) ^ n) = ((2 ^ n : Nat) : Int) := by
  have h : 2 ^ n < 2 ^ 64 := Nat.pow_lt_pow_right (by omega) hn
  have e : ((2 : Int) ^ n) = ((2 ^ n : Nat) : Int) := by simp
  rw [e, u64_wrap_nat _ h]
theorem all_ref (n : Nat) (hn : n ≤ 60) (w : World) :
    Calls Tryz.prog 117 #[.int .i64 n] w fun e w' => e = .returned (.int .u64 (lowN n : Nat)) ∧ w = w' := by
  have hf := pow_form n (by omega)
  go_enter Tryz.func117, Tryz.ntmps117
  go_wp2_with fail
  go_ret
  exact ⟨rfl, rfl⟩
theorem tmod_form (x k : Nat) : (((x : Int) / 2 ^ k).tmod 2) = if x.testBit k = true then 1 else 0 := by
  have e : ((x : Int) / 2 ^ k) = ((x / 2 ^ k : Nat) : Int) := by simp
  rw [e, Int.tmod_eq_emod_of_nonneg (Int.natCast_nonneg _)]
  have := testBit_mod x k
  split <;> rename_i h <;> simp only [h] at this <;> simp at this <;> omega

/-- A bit is cleared. -/
def clr (N j : Nat) : Nat := N &&& (18446744073709551615 - 2 ^ j)
theorem clr_form {N j : Nat} (hN : N < 2 ^ 64) (hj : j < 64) : bits .andNot .u64 (N : Int) ((2 ^ j : Nat) : Int) = (clr N j : Int) :=
  u64_andNot_nat _ _ hN (Nat.pow_lt_pow_right (by omega) hj)
theorem testBit_clr {N j x : Nat} (hN : N < 2 ^ 64) (hj : j < 64) : (clr N j).testBit x = (N.testBit x && !decide (j = x)) := by
  unfold clr
  rw [Nat.testBit_and, show 18446744073709551615 - 2 ^ j = 2 ^ 64 - (2 ^ j + 1) by omega, Nat.testBit_two_pow_sub_succ (Nat.pow_lt_pow_right (by omega) hj), Nat.testBit_two_pow]
  by_cases hx : x < 64
  · simp [hx]
  · rw [Nat.testBit_lt_two_pow (Nat.lt_of_lt_of_le hN (Nat.pow_le_pow_right (by omega) (by omega)))]; simp
theorem clr_lt {N j : Nat} (hN : N < 2 ^ 64) : clr N j < 2 ^ 64 := Nat.lt_of_le_of_lt Nat.and_le_left hN
theorem lowN_lt {n : Nat} (h : n ≤ 60) : lowN n < 2 ^ 64 := by
  have : 2 ^ n < 2 ^ 64 := Nat.pow_lt_pow_right (by omega) (by omega)
  unfold lowN; omega
/-- The element of a matrix by its numbers. -/
theorem nsOf_bit {C : Nat} {M : List (List Bool)} (hC : C ≤ 4096) {i j : Nat} (hi : i < M.length) (hj : j < C) : ((nsOf C M).getD i 0).testBit j = mget M i j := by
  rw [nsOf_get hi, testBit_rowN _ _ _ _ hC, hasR_in hi hj]
set_option maxRecDepth 100000 in
set_option maxHeartbeats 2000000 in
theorem comr_any (C : Nat) (A : Option Addr) (c : Nat) (M : List (List Bool)) (S : Nat) (w : World) (h : IsRef w C A M) (hC : C ≤ 60) (hR : M.length ≤ 60) :
    Calls Tryz.prog 146 #[refV C A M.length c, .int .u64 S] w fun e w' => e = .returned (.int .u64 (comN C (nsOf C M) S : Nat)) ∧ Below w.heap.size w w' := by
  go_enter Tryz.func146, Tryz.ntmps146
  go_wp2_with fail
  refine absC1 fun W0 hX hb0 hz => ?_
  have x0 := hX.cell 0
  have x1 := hX.cell 1
  have lX := hX.lt
  have hM := h.below hb0
  have HZ := Lib.hid hz; clear hz
  go_wp2_with fail
  refine (all_ref C hC W0).mono ?_
  rintro e w' ⟨rfl, rfl⟩
  go_wp2_with fail
  refine wp_loopF (β := Nat × Nat) (fun s f => #[f 0, .int .u64 (S : Int), .pointer (some ⟨w.heap.size, 0, none⟩), f 3, .int .u64 0, .int .u64 (s.2 : Int), f 6, f 7, f 8, f 9, f 10, f 11, f 12, .int .i64 (M.length : Int), .int .i64 (s.1 : Int), f 15, f 16, f 17, f 18, f 19, f 20, f 21, f 22, f 23, f 24, f 25, f 26, f 27, f 28, f 29, f 30, f 31, f 32, f 33, f 34, f 35, f 36, f 37, f 38, f 39, f 40, f 41, f 42, f 43, f 44])
    (fun s ds wr => s.1 ≤ M.length ∧ ds = [] ∧ wr = W0 ∧ s.2 < 2 ^ 64 ∧ ∀ x, s.2.testBit x = true ↔ x < C ∧ ∀ a, a < s.1 → S.testBit a = true → mget M a x = true) (fun s => M.length - s.1) (0, lowN C) rfl
    ⟨Nat.zero_le _, rfl, rfl, lowN_lt hC, fun x => by rw [testBit_lowN]; simp⟩ ?_
  rintro ⟨k, N⟩ f ds wr ⟨hk, rfl, rfl, hN64, hN⟩
  dsimp only at hk hN hN64 ⊢
  have HN := Lib.hid hN; clear hN
  by_cases hlt : k < M.length
  · go_wp2_with fail
    refine wp_loopF (β := Nat × Nat) (fun s f => #[f 0, .int .u64 (S : Int), .pointer (some ⟨w.heap.size, 0, none⟩), f 3, .int .u64 0, .int .u64 (s.2 : Int), .int .i64 (k : Int), .int .i64 (s.1 : Int), f 8, f 9, f 10, f 11, f 12, .int .i64 (M.length : Int), .int .i64 (k : Int), f 15, f 16, f 17, f 18, f 19, f 20, f 21, f 22, f 23, f 24, f 25, f 26, f 27, f 28, f 29, f 30, f 31, f 32, f 33, f 34, f 35, f 36, f 37, f 38, f 39, f 40, f 41, f 42, f 43, f 44])
      (fun s ds w1 => s.1 ≤ C ∧ ds = [] ∧ w1 = wr ∧ s.2 < 2 ^ 64 ∧ ∀ x, s.2.testBit x = true ↔ (x < C ∧ ∀ a, a < k → S.testBit a = true → mget M a x = true) ∧ (x < s.1 → S.testBit k = true → mget M k x = true)) (fun s => C - s.1) (0, N) rfl
      ⟨Nat.zero_le _, rfl, rfl, hN64, fun x => by rw [HN.out x]; simp⟩ ?_
    rintro ⟨n, N'⟩ f ds w1 ⟨hn, rfl, rfl, hN64', hN'⟩
    dsimp only at hn hN' hN64' ⊢
    have HN' := Lib.hid hN'; clear hN'
    by_cases hnC : n < C
    · obtain ⟨g, off, g2, off2, d1, rfl, hg, hg2, c1, c2⟩ := hM.at_ hlt hnC
      have ea := tmod_form S k
      by_cases hs : S.testBit k = true
      · rw [if_pos hs] at ea
        have HS := Lib.hid hs; clear hs
        cases ha : mget M k n with
        | true =>
          rw [ha] at c2
          have HA := Lib.hid ha; clear ha
          clear hM
          go_wp2_with fail
          exact ⟨(n + 1, N'), rfl, ⟨by show n + 1 ≤ C; omega, by first | rfl | trivial, by first | rfl | trivial, hN64', fun x => by
            show N'.testBit x = true ↔ _ ∧ (x < n + 1 → _)
            rw [HN'.out x]
            refine and_congr_right fun _ => ⟨fun h hx hs => ?_, fun h hx => h (by omega)⟩
            by_cases e : x = n
            · subst e; exact HA.out
            · exact h (by omega) hs⟩, by show C - (n + 1) < C - n; omega⟩
        | false =>
          rw [ha] at c2
          have HA := Lib.hid ha; clear ha
          have hpw := two_form (n := n) (by omega)
          have hcl := clr_form (N := N') (j := n) hN64' (by omega)
          clear hM
          go_wp2_with fail
          refine ⟨(n + 1, clr N' n), by first | rfl | (show _ = _; rw [← hcl]; rfl), ⟨by show n + 1 ≤ C; omega, by first | rfl | trivial, by first | rfl | trivial, clr_lt hN64', fun x => ?_⟩, by show C - (n + 1) < C - n; omega⟩
          show (clr N' n).testBit x = true ↔ _ ∧ (x < n + 1 → _)
          rw [testBit_clr hN64' (by omega), Bool.and_eq_true, HN'.out x, and_assoc]
          refine and_congr_right fun _ => ⟨fun h hx hs => ?_, fun h => ⟨fun hx => h (by omega), ?_⟩⟩
          · have hne : ¬ n = x := by simpa using h.2
            exact h.1 (by omega) hs
          · by_cases e : n = x
            · subst e
              have := h (by omega) HS.out
              rw [HA.out] at this; cases this
            · simp [e]
      · rw [if_neg hs] at ea
        have HS := Lib.hid hs; clear hs
        clear hM
        go_wp2_with fail
        exact ⟨(n + 1, N'), rfl, ⟨by show n + 1 ≤ C; omega, by first | rfl | trivial, by first | rfl | trivial, hN64', fun x => by
          show N'.testBit x = true ↔ _ ∧ (x < n + 1 → _)
          rw [HN'.out x]
          exact and_congr_right fun _ => ⟨fun h hx hs => absurd hs HS.out, fun h hx => h (by omega)⟩⟩, by show C - (n + 1) < C - n; omega⟩
    · obtain rfl : n = C := by omega
      clear hM
      go_wp2_with fail
      refine ⟨(k + 1, N'), rfl, ⟨by show k + 1 ≤ M.length; omega, by first | rfl | trivial, by first | rfl | trivial, hN64', fun x => ?_⟩, by show M.length - (k + 1) < M.length - k; omega⟩
      show N'.testBit x = true ↔ _ ∧ ∀ a, a < k + 1 → _
      rw [HN'.out x]
      constructor
      · rintro ⟨⟨h1, h2⟩, h3⟩
        refine ⟨h1, fun a ha hs => ?_⟩
        by_cases e : a = k
        · subst e; exact h3 h1 hs
        · exact h2 a (by omega) hs
      · rintro ⟨h1, h2⟩
        exact ⟨⟨h1, fun a ha hs => h2 a (by omega) hs⟩, fun _ hs => h2 k (by omega) hs⟩
  · obtain rfl : k = M.length := by omega
    have e : N = comN C (nsOf C M) S := nat_ext fun x => by
      rw [HN.out x, testBit_comN, nsTo_len]
      refine and_congr_right fun hx => ⟨fun h a hs ha => ?_, fun h a ha hs => ?_⟩
      · rw [nsOf_bit (by omega) ha hx]; exact h a ha hs
      · rw [← nsOf_bit (by omega) ha hx]; exact h a hs ha
    have HE := Lib.hid e; clear e
    clear hM
    go_wp2_with fail
    go_ret
    exact ⟨by rw [HE.out]; rfl, hb0⟩
set_option maxRecDepth 100000 in
set_option maxHeartbeats 2000000 in
theorem havr_any (C : Nat) (A : Option Addr) (c : Nat) (M : List (List Bool)) (S : Nat) (w : World) (h : IsRef w C A M) (hC : C ≤ 60) (hR : M.length ≤ 60) :
    Calls Tryz.prog 60 #[refV C A M.length c, .int .u64 S] w fun e w' => e = .returned (.int .u64 (havN C (nsOf C M) S : Nat)) ∧ Below w.heap.size w w' := by
  go_enter Tryz.func60, Tryz.ntmps60
  go_wp2_with fail
  refine absC1 fun W0 hX hb0 hz => ?_
  have x0 := hX.cell 0
  have x1 := hX.cell 1
  have lX := hX.lt
  have hM := h.below hb0
  have HZ := Lib.hid hz; clear hz
  go_wp2_with fail
  refine (all_ref M.length hR W0).mono ?_
  rintro e w' ⟨rfl, rfl⟩
  go_wp2_with fail
  refine wp_loopF (β := Nat × Nat) (fun s f => #[f 0, .int .u64 (S : Int), .pointer (some ⟨w.heap.size, 0, none⟩), f 3, .int .u64 0, .int .u64 (s.2 : Int), f 6, f 7, f 8, f 9, f 10, f 11, f 12, f 13, .int .i64 (M.length : Int), .int .i64 (s.1 : Int), f 16, f 17, f 18, f 19, f 20, f 21, f 22, f 23, f 24, f 25, f 26, f 27, f 28, f 29, f 30, f 31, f 32, f 33, f 34, f 35, f 36, f 37, f 38, f 39, f 40, f 41, f 42, f 43, f 44, f 45])
    (fun s ds wr => s.1 ≤ M.length ∧ ds = [] ∧ wr = W0 ∧ s.2 < 2 ^ 64 ∧ ∀ x, s.2.testBit x = true ↔ x < M.length ∧ (x < s.1 → ∀ j, j < C → S.testBit j = true → mget M x j = true)) (fun s => M.length - s.1) (0, lowN M.length) rfl
    ⟨Nat.zero_le _, rfl, rfl, lowN_lt hR, fun x => by rw [testBit_lowN]; simp⟩ ?_
  rintro ⟨k, N⟩ f ds wr ⟨hk, rfl, rfl, hN64, hN⟩
  dsimp only at hk hN hN64 ⊢
  have HN := Lib.hid hN; clear hN
  by_cases hlt : k < M.length
  · go_wp2_with fail
    refine wp_loopF (β := Nat × Nat) (fun s f => #[f 0, .int .u64 (S : Int), .pointer (some ⟨w.heap.size, 0, none⟩), f 3, .int .u64 0, .int .u64 (s.2 : Int), .int .i64 (k : Int), .int .i64 (s.1 : Int), f 8, f 9, f 10, f 11, f 12, f 13, .int .i64 (M.length : Int), .int .i64 (k : Int), f 16, f 17, f 18, f 19, f 20, f 21, f 22, f 23, f 24, f 25, f 26, f 27, f 28, f 29, f 30, f 31, f 32, f 33, f 34, f 35, f 36, f 37, f 38, f 39, f 40, f 41, f 42, f 43, f 44, f 45])
      (fun s ds w1 => s.1 ≤ C ∧ ds = [] ∧ w1 = wr ∧ s.2 < 2 ^ 64 ∧ ∀ x, s.2.testBit x = true ↔ (x < M.length ∧ (x < k → ∀ j, j < C → S.testBit j = true → mget M x j = true)) ∧ (x = k → ∀ j, j < s.1 → S.testBit j = true → mget M k j = true)) (fun s => C - s.1) (0, N) rfl
      ⟨Nat.zero_le _, rfl, rfl, hN64, fun x => by rw [HN.out x]; simp⟩ ?_
    rintro ⟨n, N'⟩ f ds w1 ⟨hn, rfl, rfl, hN64', hN'⟩
    dsimp only at hn hN' hN64' ⊢
    have HN' := Lib.hid hN'; clear hN'
    by_cases hnC : n < C
    · obtain ⟨g, off, g2, off2, d1, rfl, hg, hg2, c1, c2⟩ := hM.at_ hlt hnC
      have ea := tmod_form S n
      by_cases hs : S.testBit n = true
      · rw [if_pos hs] at ea
        have HS := Lib.hid hs; clear hs
        cases ha : mget M k n with
        | true =>
          rw [ha] at c2
          have HA := Lib.hid ha; clear ha
          clear hM
          go_wp2_with fail
          exact ⟨(n + 1, N'), rfl, ⟨by show n + 1 ≤ C; omega, by first | rfl | trivial, by first | rfl | trivial, hN64', fun x => by
            show N'.testBit x = true ↔ _ ∧ (_ → ∀ j, j < n + 1 → _)
            rw [HN'.out x]
            refine and_congr_right fun _ => ⟨fun h hx j hj hs => ?_, fun h hx j hj => h hx j (by omega)⟩
            by_cases e : j = n
            · subst e; exact HA.out
            · exact h hx j (by omega) hs⟩, by show C - (n + 1) < C - n; omega⟩
        | false =>
          rw [ha] at c2
          have HA := Lib.hid ha; clear ha
          have hpw := two_form (n := k) (by omega)
          have hcl := clr_form (N := N') (j := k) hN64' (by omega)
          clear hM
          go_wp2_with fail
          refine ⟨(n + 1, clr N' k), by first | rfl | (show _ = _; rw [← hcl]; rfl), ⟨by show n + 1 ≤ C; omega, by first | rfl | trivial, by first | rfl | trivial, clr_lt hN64', fun x => ?_⟩, by show C - (n + 1) < C - n; omega⟩
          show (clr N' k).testBit x = true ↔ _ ∧ (_ → ∀ j, j < n + 1 → _)
          rw [testBit_clr hN64' (by omega), Bool.and_eq_true, HN'.out x, and_assoc]
          refine and_congr_right fun _ => ⟨fun h hx j hj hs => ?_, fun h => ⟨fun hx j hj => h hx j (by omega), ?_⟩⟩
          · have hne : ¬ k = x := by simpa using h.2
            omega
          · by_cases e : k = x
            · have := h e.symm n (by omega) HS.out
              rw [HA.out] at this; cases this
            · simp [e]
      · rw [if_neg hs] at ea
        have HS := Lib.hid hs; clear hs
        clear hM
        go_wp2_with fail
        exact ⟨(n + 1, N'), rfl, ⟨by show n + 1 ≤ C; omega, by first | rfl | trivial, by first | rfl | trivial, hN64', fun x => by
          show N'.testBit x = true ↔ _ ∧ (_ → ∀ j, j < n + 1 → _)
          rw [HN'.out x]
          refine and_congr_right fun _ => ⟨fun h hx j hj hs => ?_, fun h hx j hj => h hx j (by omega)⟩
          by_cases e : j = n
          · subst e; exact absurd hs HS.out
          · exact h hx j (by omega) hs⟩, by show C - (n + 1) < C - n; omega⟩
    · obtain rfl : n = C := by omega
      clear hM
      go_wp2_with fail
      refine ⟨(k + 1, N'), rfl, ⟨by show k + 1 ≤ M.length; omega, by first | rfl | trivial, by first | rfl | trivial, hN64', fun x => ?_⟩, by show M.length - (k + 1) < M.length - k; omega⟩
      show N'.testBit x = true ↔ _ ∧ (x < k + 1 → _)
      rw [HN'.out x]
      constructor
      · rintro ⟨⟨h1, h2⟩, h3⟩
        refine ⟨h1, fun hx j hj hs => ?_⟩
        by_cases e : x = k
        · subst e; exact h3 rfl j hj hs
        · exact h2 (by omega) j hj hs
      · rintro ⟨h1, h2⟩
        exact ⟨⟨h1, fun hx => h2 (by omega)⟩, fun hx j hj hs => by subst hx; exact h2 (by omega) j hj hs⟩
  · obtain rfl : k = M.length := by omega
    have e : N = havN C (nsOf C M) S := nat_ext fun x => by
      rw [HN.out x, testBit_havN _ _ (by rw [nsTo_len]; omega), nsTo_len]
      refine and_congr_right fun hx => ⟨fun h j hs hj => ?_, fun h _ j hj hs => ?_⟩
      · rw [nsOf_bit (by omega) hx hj]; exact h hx j hj hs
      · rw [← nsOf_bit (by omega) hx hj]; exact h j hs hj
    have HE := Lib.hid e; clear e
    clear hM
    go_wp2_with fail
    go_ret
    exact ⟨by rw [HE.out]; rfl, hb0⟩
set_option maxRecDepth 100000 in
set_option maxHeartbeats 2000000 in
theorem closer_any (C : Nat) (A : Option Addr) (c : Nat) (M : List (List Bool)) (S : Nat) (w : World) (h : IsRef w C A M) (hC : C ≤ 60) (hR : M.length ≤ 60) :
    Calls Tryz.prog 118 #[refV C A M.length c, .int .u64 S] w fun e w' => e = .returned (.int .u64 (cloN C (nsOf C M) S : Nat)) ∧ Below w.heap.size w w' := by
  go_enter Tryz.func118, Tryz.ntmps118
  go_wp2_with fail
  refine abs1 fun W0 hX hb0 hz => ?_
  have x0 := hX.cell 0
  have x1 := hX.cell 1
  have hd : Below W0.heap.size W0 W0.drew := (Below.refl _ _).drew
  have bd := hb0.trans (hd.mono hb0.size)
  refine wp_spine (fun W => Below W0.heap.size W0 W) [0, 1, 2] [3, 4, 5] (by kernel_rfl) (by kernel_rfl) ?_
  iterate 3 (refine wpE_op (v := ?_) rfl rfl (fun W hW => ?_) ?_; rotate_left; (have z0 := onB hW x0; have z1 := onB hW x1; go_simp; first | done | with_reducible rfl); simp only [Act.put, List.setIfInBounds_toArray, List.set_cons_zero, List.set_cons_succ])
  refine wpE_nil ⟨fun h => (by cases h), wpSp_op rfl hd ?_⟩
  go_wp2_with fail
  refine (havr_any C A c M S _ (h.below bd) hC hR).mono ?_
  rintro e w1 ⟨rfl, hb1⟩
  have hb01 := hd.trans (hb1.mono hd.size)
  have b1 := hb0.trans (hb01.mono hb0.size)
  go_wp2_with fail
  refine nxt_op rfl hb01 ?_
  go_wp2_with fail
  refine (comr_any C A c M _ w1 (h.below b1) hC hR).mono ?_
  rintro e w2 ⟨rfl, hb2⟩
  have hb02 := hb01.trans (hb2.mono hb01.size)
  have b2 := hb0.trans (hb02.mono hb0.size)
  go_wp2_with fail
  refine nxt_op rfl hb02 ?_
  go_wp2_with fail
  refine nxt_nil ?_
  go_wp2_with fail
  go_ret
  exact ⟨rfl, b2⟩
end Go.Proofs.YtlakjhhpdbgekaaGreatDoor
