/-
  arbacref01.Members, arbaclaw13.Roles, arbaclaw45.set: the set of the bits of a number.
-/
import Derived.Test.YtgpooflcbljidaaDoorCloA
namespace Go.Proofs.YtgpooflcbljidaaDoor
open Go.RowKit

def bitsTo (x k : Nat) : List Nat := (List.range k).filter x.testBit
theorem bitsTo_succ (x k : Nat) : bitsTo x (k + 1) = if x.testBit k = true then bitsTo x k ++ [k] else bitsTo x k := by
  unfold bitsTo
  rw [List.range_succ, List.filter_append]
  by_cases h : x.testBit k = true
  · rw [if_pos h]; simp [h]
  · rw [if_neg h]; simp [h]
theorem bitsTo_len (x k : Nat) : (bitsTo x k).length ≤ k := by unfold bitsTo; exact Nat.le_trans (List.length_filter_le _ _) (by simp)
theorem setOf_bits {x : Nat} (hx : x < 2 ^ 64) : setOf ((bitsTo x 64).map Int.ofNat) = x := by
  refine Nat.eq_of_testBit_eq fun i => ?_
  rw [testBit_setOf, Bool.eq_iff_iff, decide_eq_true_eq]
  unfold bitsTo
  constructor
  · rintro ⟨_, h⟩
    obtain ⟨j, hj, e⟩ := List.mem_map.1 h
    have e2 : j = i := Int.ofNat.inj e
    subst e2
    exact (List.mem_filter.1 hj).2
  · intro h
    have hi : i < 64 := by
      by_cases hh : i < 64
      · exact hh
      · rw [Nat.testBit_lt_two_pow (Nat.lt_of_lt_of_le hx (Nat.pow_le_pow_right (by omega) (by omega)))] at h; cases h
    exact ⟨by omega, List.mem_map.2 ⟨i, List.mem_filter.2 ⟨List.mem_range.2 hi, h⟩, rfl⟩⟩
theorem shr_form (x k : Nat) : (((x : Int) / 2 ^ k) % 2 == 1) = x.testBit k := by
  have e : ((x : Int) / 2 ^ k) = ((x / 2 ^ k : Nat) : Int) := by simp
  rw [e, Bool.eq_iff_iff, ← testBit_mod, beq_iff_eq]
  omega
theorem shr_formT (x k : Nat) : (((x : Int) / 2 ^ k).tmod 2 == 1) = x.testBit k := by
  have e : ((x : Int) / 2 ^ k) = ((x / 2 ^ k : Nat) : Int) := by simp
  rw [← shr_form, e, Int.tmod_eq_emod_of_nonneg (Int.natCast_nonneg _)]
set_option maxRecDepth 100000 in
set_option maxHeartbeats 2000000 in
theorem members_any (x : Nat) (w : World) :
    Calls Tryd.prog 75 #[.int .u64 x] w fun e w' => ∃ A c, e = .returned (.slice A (bitsTo x 64).length c) ∧ Row w' A ((bitsTo x 64).map i64) ∧ Below w.heap.size w w' := by
  obtain ⟨i0, hi0, hz0, hz1, hz2⟩ := info_parts info_int
  go_enter Tryd.func75, Tryd.ntmps75
  go_wp2_with fail
  refine wp_loopF (β := Nat × Value) (fun s f => #[.int .u64 (x : Int), f 1, f 2, s.2, .int .i64 (s.1 : Int), f 5, f 6, f 7, f 8, f 9, f 10, f 11, f 12, f 13, f 14, f 15, f 16, f 17, f 18])
    (fun s ds wr => s.1 ≤ 64 ∧ ds = [] ∧ wr.ownsRow w.heap.size 3 1 s.2 (bitsTo x s.1).length ((bitsTo x s.1).map i64) ∧ Below w.heap.size w wr) (fun s => 64 - s.1) (0, .slice none 0 0) rfl ⟨Nat.zero_le _, rfl, World.ownsRow_nil _ _ _ _, Below.refl _ _⟩ ?_
  rintro ⟨k, v3⟩ f ds wr ⟨hk, rfl, hown, hbr⟩
  dsimp only at hk hown ⊢
  by_cases hlt : k < 64
  · have hsf := shr_form x k
    have hst := shr_formT x k
    have hbs := bitsTo_succ x k
    have hbl := bitsTo_len x k
    have hbz := hbr.size
    by_cases hb : x.testBit k = true
    · rw [if_pos hb] at hbs
      rw [hb] at hsf hst
      have HBS := Lib.hid hbs
      have hloc := own_below hown ((Below.refl wr.heap.size wr).alloc (Nat.le_refl _) (.cells #[.int .i64 (k : Int)] 3))
      clear hbs hb
      go_wp2_with (at_builtin; refine wpList_append_own _ rfl _ _ 51 rfl (w.heap.size) 3 i0 (.int .i64 0) 1 8 Tryd.underlying51 hi0 hz0 hz1 hz2 rfl (by decide) _ _ _ rfl (hloc) ⟨wr.heap.size, 0, none⟩ 1 1 [.int .i64 (k : Int)] rfl rfl (cell_one_new _ _ _) (by simp [Value.oneCell']) (by unfold maxLen; omega) (by omega) (by simp; omega) ?_; intro v' w3 hown' hgrow _)
      exact ⟨(k + 1, v'), rfl, ⟨by show k + 1 ≤ 64; omega, by first | rfl | trivial, by show w3.ownsRow _ _ _ v' (bitsTo x (k + 1)).length _; rw [HBS.out, List.length_append, List.map_append]; exact hown', (hbr.alloc hbr.size _).grown hgrow (by simp; omega) (fun q hq => (hloc.lt q hq).1)⟩, by show 64 - (k + 1) < 64 - k; omega⟩
    · rw [if_neg hb] at hbs
      rw [Bool.not_eq_true] at hb
      rw [hb] at hsf hst
      have HBS := Lib.hid hbs
      clear hbs hb
      go_wp2_with fail
      exact ⟨(k + 1, v3), rfl, ⟨by show k + 1 ≤ 64; omega, by first | rfl | trivial, by show wr.ownsRow _ _ _ v3 (bitsTo x (k + 1)).length _; rw [HBS.out]; exact hown, hbr⟩, by show 64 - (k + 1) < 64 - k; omega⟩
  · obtain rfl : k = 64 := by omega
    obtain ⟨A, c, rfl, _, _, hrow, _⟩ := row_of_own hown
    go_wp2_with fail
    go_ret
    exact ⟨A, c, rfl, hrow, hbr⟩
end Go.Proofs.YtgpooflcbljidaaDoor
