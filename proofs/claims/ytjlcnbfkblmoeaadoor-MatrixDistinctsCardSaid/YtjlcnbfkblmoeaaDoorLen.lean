import Derived.Test.YtjlcnbfkblmoeaaDoorOnes
namespace Go.Proofs.YtjlcnbfkblmoeaaDoor
open Go.RowKit
/-- How many members. -/
def card (N : Nat) : Nat := pc (64 * nw N) N
theorem pc_word (N k : Nat) : pc 64 (wd N k) = pc 64 (N / 2 ^ (64 * k)) := by
  unfold pc
  apply List.countP_congr
  intro i hi
  have : i < 64 := List.mem_range.1 hi
  rw [testBit_wd, Nat.testBit_div_two_pow]
  simp [this, Nat.add_comm]
theorem pc_words (N k : Nat) : pc (64 * (k + 1)) N = pc (64 * k) N + pc 64 (wd N k) := by
  rw [pc_word, show 64 * (k + 1) = 64 * k + 64 by omega, pc_add]
set_option maxRecDepth 100000 in
set_option maxHeartbeats 400000 in
theorem len_any (v : Value) (N : Nat) (w : World) (hs : IsSet w v N) :
    Calls Tryd.prog 75 #[.agg #[v]] w fun e w' => e = .returned (.int .i64 (card N)) ∧ Below w.heap.size w w' := by
  obtain ⟨A, c, rfl, hN, _, _, h4⟩ := hs
  go_enter Tryd.func75, Tryd.ntmps75
  go_wp2_with fail
  refine abs1 fun W0 hA0 hbel0 hz => ?_
  go_loop [3, 9] (fun n i => ∃ k : Nat, k ≤ nw N ∧ i = .int .i64 k ∧ n = .int .i64 (pc (64 * k) N)) (fun _ i => nw N - (intOf i).toNat)
  case atStart => exact ⟨0, Nat.zero_le _, rfl, rfl⟩
  case round =>
    obtain ⟨k, hk, rfl, rfl⟩ := hrel
    have hb1 := pc_le (64 * k) N
    by_cases hlt : k < nw N
    · obtain ⟨g, cs, rfl, hg, hcs⟩ := h4 (by omega)
      have cN := ((hg.below hbel0 hg.lt).cell k).trans (hcs k hlt)
      clear hcs h4
      have hb2 := pc_le 64 (wd N k)
      go_wp2_with (go_at_call 95; refine (ones_any (wd N k) _ (wd_lt N k)).mono ?_; rintro e w1 ⟨rfl, rfl⟩)
      exact ⟨⟨k + 1, by omega, by go_num, by rw [pc_words]; go_num⟩, by simp [intOf]; omega⟩
    · obtain rfl : k = nw N := by omega
      clear h4
      go_wp2
      go_ret
      exact ⟨rfl, hbel0⟩
theorem pow_form (j : Nat) (hj : j < 64) : IntKind.u64.wrap (IntKind.u64.wrap ((2 : Int) ^ j) - 1) = ((2 ^ j - 1 : Nat) : Int) := by
  have h1 : 2 ^ j < 2 ^ 64 := Nat.pow_lt_pow_right (by omega) hj
  have h2 : 0 < 2 ^ j := Nat.two_pow_pos j
  have e : ((2 : Int) ^ j) = ((2 ^ j : Nat) : Int) := by simp
  rw [e, u64_wrap_nat _ h1]
  have e2 : ((2 ^ j : Nat) : Int) - 1 = ((2 ^ j - 1 : Nat) : Int) := by omega
  rw [e2, u64_wrap_nat _ (by omega)]
set_option maxRecDepth 100000 in
set_option maxHeartbeats 400000 in
theorem below_core (n : Int) (a m : Nat) (w : World) (hm : m ≤ 4096) (e1 : (if n < 0 then 0 else n) = (a : Int)) (e2 : (if (4096 : Int) < (a : Int) then (4096 : Int) else (a : Int)) = (m : Int)) :
    Calls Tryd.prog 77 #[.int .i64 n] w fun e w' => ∃ r, e = .returned (.agg #[r]) ∧ IsSet w' r (lowN m) ∧ Below w.heap.size w w' := by
  obtain ⟨L, hLe⟩ : ∃ L, L = (m + 63) / 64 := ⟨_, rfl⟩
  have hL : L ≤ 64 := by omega
  have eL : ((m : Int) + 63) / 64 = (L : Int) := by omega
  have HL := Lib.hid hLe; clear hLe
  have hmk := make_u64 L (by omega)
  go_enter Tryd.func77, Tryd.ntmps77
  go_wp2_with fail
  refine abs2 fun W0 hR0 hW0 hbel0 hz => ?_
  have hw0 := hW0.fill0 (fun _ => .int .u64 18446744073709551615)
  go_loopw [14] (fun i wr => ∃ k : Nat, k ≤ L ∧ i = .int .i64 k ∧ Blk wr (w.heap.size + 1) 105 (filled (.int .u64 0) (fun _ => .int .u64 18446744073709551615) k L) ∧ Below (w.heap.size + 1) W0 wr)
    (fun i _ => L - (intOf i).toNat)
  case atStart => exact ⟨0, Nat.zero_le _, rfl, hw0, Below.refl _ _⟩
  case round =>
    obtain ⟨k, hk, rfl, hb, hbel⟩ := hrel
    by_cases hlt : k < L
    · have cW := hb.cell k
      have fW := hb.frozen k
      rw [filled_get _ _ hlt, if_neg (by omega)] at cW
      have hset := filled_set (.int .u64 0) (fun _ => .int .u64 18446744073709551615) hlt
      have HSET := Lib.hid hset; clear hset
      go_wp2
      have hb2 := hb.set_ k (.int .u64 18446744073709551615)
      rw [HSET.out] at hb2
      exact ⟨⟨k + 1, by omega, by go_num, hb2, hbel.setCell (by simp) _⟩, by simp [intOf]; omega⟩
    · obtain rfl : k = L := by omega
      have hR := hR0.below hbel (by omega)
      have cR := hR.cell 0
      have fR := hR.frozen 0
      have hbw : Below w.heap.size w wr := hbel0.trans (hbel.mono (by omega))
      by_cases hmm : 0 < m % 64
      · have h64 : m % 64 < 64 := Nat.mod_lt _ (by omega)
        have hL0 : 0 < k := by have := HL.out; omega
        have cW := hb.cell (k - 1)
        have fW := hb.frozen (k - 1)
        rw [filled_get _ _ (by omega), if_pos (by omega)] at cW
        have hpf := pow_form (m % 64) h64
        go_wp2
        have hX := ((hR.far (p := ⟨w.heap.size + 1, k - 1, none⟩) (by simp) (.int .u64 ((2 ^ (m % 64) - 1 : Nat) : Int))).set_ 0 (.slice (some ⟨w.heap.size + 1, 0, none⟩) k k))
        have cX := hX.cell 0
        have hB := ((hb.set_ (k - 1) (.int .u64 ((2 ^ (m % 64) - 1 : Nat) : Int))).far (p := ⟨w.heap.size, 0, none⟩) (by simp) (.slice (some ⟨w.heap.size + 1, 0, none⟩) k k))
        refine bodyPost_ret (v := .agg #[.slice (some ⟨w.heap.size + 1, 0, none⟩) k k]) (by simp [results, Tryd.results77, go_sem, cX]) rfl ⟨_, rfl, ?_, (hbw.setCell (by simp) _).setCell (by simp) _⟩
        have hk' := HL.out
        have hn : nw (lowN m) = k := by rw [nw_lowN, hk']
        rw [← hn] at hB ⊢
        refine IsSet.mk_ hB (by omega) (Nat.le_refl _) (by omega) (fun j hj => ?_)
        rw [Array.getElem?_setIfInBounds, filled_size]
        by_cases hj2 : nw (lowN m) - 1 = j
        · rw [if_pos hj2, if_pos (by omega), wd_part (by omega) (by omega), show m - 64 * j = m % 64 by omega]
        · rw [if_neg hj2, filled_get _ _ hj, if_pos hj, wd_full (by omega)]
          rfl
      · have e0 : (m : Int) % 64 = 0 := by omega
        go_wp2
        have hX := hR.set_ 0 (.slice (some ⟨w.heap.size + 1, 0, none⟩) k k)
        have cX := hX.cell 0
        have hB := hb.far (p := ⟨w.heap.size, 0, none⟩) (by simp) (.slice (some ⟨w.heap.size + 1, 0, none⟩) k k)
        refine bodyPost_ret (v := .agg #[.slice (some ⟨w.heap.size + 1, 0, none⟩) k k]) (by simp [results, Tryd.results77, go_sem, cX]) rfl ⟨_, rfl, ?_, hbw.setCell (by simp) _⟩
        have hk' := HL.out
        have hn : nw (lowN m) = k := by rw [nw_lowN, hk']
        rw [← hn] at hB ⊢
        refine IsSet.mk_ hB (by omega) (Nat.le_refl _) (by omega) (fun j hj => ?_)
        rw [filled_get _ _ hj, if_pos hj, wd_full (by omega)]
        rfl
/-- What bits.Below makes of a number. -/
def clamp (n : Int) : Nat := min (max n 0) 4096 |>.toNat
theorem below_any (n : Int) (w : World) : Calls Tryd.prog 77 #[.int .i64 n] w fun e w' => ∃ r, e = .returned (.agg #[r]) ∧ IsSet w' r (lowN (clamp n)) ∧ Below w.heap.size w w' := by
  refine below_core n (max n 0).toNat (clamp n) w (by unfold clamp; omega) ?_ ?_
  · split <;> omega
  · unfold clamp; split <;> omega
theorem clamp_nat {n : Nat} (h : n ≤ 4096) : clamp n = n := by unfold clamp; omega
end Go.Proofs.YtjlcnbfkblmoeaaDoor
