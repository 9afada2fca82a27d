/-
  closure.Minimal.
-/
import Derived.Test.YtiicgbbgiedknaaDoorClo9
namespace Go.Proofs.YtiicgbbgiedknaaDoor
open Go.RowKit

theorem minB_eq (C : Nat) (Ns : List Nat) (K S : Nat) : minB C Ns K S = (decide (havN C Ns S = havN C Ns K) && leastB C Ns S (havN C Ns K)) := rfl
/-- The first n subsets that are minimal. -/
def minTo (C : Nat) (Ns : List Nat) (K n : Nat) : List Nat := ((List.range n).map (subN (mems K))).filter (minB C Ns K)
theorem minTo_succ (C : Nat) (Ns : List Nat) (K n : Nat) : minTo C Ns K (n + 1) = if minB C Ns K (subN (mems K) n) = true then minTo C Ns K n ++ [subN (mems K) n] else minTo C Ns K n := by
  unfold minTo
  rw [List.range_succ, List.map_append, List.filter_append]
  by_cases h : minB C Ns K (subN (mems K) n) = true
  · rw [if_pos h]; simp [h]
  · rw [if_neg h]; simp [h]
theorem bit_form (n i : Nat) (hn : n < 2 ^ 62) : (bits .and .i64 ((n : Int) / 2 ^ i) 1 == 1) = n.testBit i := by
  have e : ((n : Int) / 2 ^ i) = ((n / 2 ^ i : Nat) : Int) := by simp
  have hx : n / 2 ^ i < 2 ^ 63 := Nat.lt_of_le_of_lt (Nat.div_le_self _ _) (by omega)
  have e2 : bits .and .i64 ((n / 2 ^ i : Nat) : Int) 1 = ((n / 2 ^ i % 2 : Nat) : Int) := by
    generalize n / 2 ^ i = x at hx
    show IntKind.i64.wrap ((BitVec.ofInt 64 (x : Int) &&& BitVec.ofInt 64 1).toNat : Int) = _
    rw [BitVec.toNat_and, show (BitVec.ofInt 64 1).toNat = 2 ^ 1 - 1 by decide, Nat.and_two_pow_sub_one_eq_mod, IntKind.wrap_i64]
    have : (BitVec.ofInt 64 (x : Int)).toNat = x := by
      rw [BitVec.toNat_ofInt]; omega
    rw [this]
    omega
  rw [e, e2, Bool.eq_iff_iff, ← testBit_mod]
  simp only [beq_iff_eq]
  omega
theorem minTo_le (C : Nat) (Ns : List Nat) (K n : Nat) : (minTo C Ns K n).length ≤ n := by
  unfold minTo; exact Nat.le_trans (List.length_filter_le _ _) (by simp)
set_option maxRecDepth 100000 in
set_option maxHeartbeats 2000000 in
theorem minimal_nil (v : Value) (w : World) :
    Calls Tryd.prog 16 #[.pointer none, .agg #[v]] w fun e w' => e = .returned (.tuple #[.slice none 0 0, .int .i64 1]) ∧ Below w.heap.size w w' := by
  go_enter Tryd.func16, Tryd.ntmps16
  go_wp2_with fail
  go_ret2
  exact ⟨rfl, (Below.refl _ _).alloc (Nat.le_refl _) _⟩
set_option maxRecDepth 100000 in
set_option maxHeartbeats 2000000 in
theorem minimal_big (p C : Nat) (Ns : List Nat) (v : Value) (S : Nat) (w : World) (h : IsMat w p C Ns) (hs : IsSet w v S) (hT : Tab w) (hK : 12 < card (cloN C Ns S)) :
    Calls Tryd.prog 16 #[ptr p, .agg #[v]] w fun e w' => e = .returned (.tuple #[.slice none 0 0, .int .i64 3]) ∧ Below w.heap.size w w' := by
  obtain ⟨A, c, rfl, _⟩ := id hs
  have hm : IsMV w (some ⟨p, 0, none⟩) C Ns := .inr ⟨p, rfl, h⟩
  go_enter Tryd.func16, Tryd.ntmps16
  go_wp2_with fail
  refine absC1 fun W0 hX hb0 hz => ?_
  refine (close_any _ C Ns _ S W0 (hm.below hb0) (hs.below hb0) (hT.below hb0)).mono ?_
  rintro e w1 ⟨r1, rfl, hr1, hb1⟩
  obtain ⟨K, hKe⟩ : ∃ K, K = cloN C Ns S := ⟨_, rfl⟩
  rw [← hKe] at hr1 hK
  clear hKe
  obtain ⟨A1, c1, rfl, _⟩ := id hr1
  have b1 := hb0.trans (hb1.mono hb0.size)
  go_wp2_with fail
  refine absC1 fun W2 hY hb2 hz2 => ?_
  refine (len_any _ K W2 (hr1.below hb2)).mono ?_
  rintro e w3 ⟨rfl, hb3⟩
  have b3 := (b1.trans (hb2.mono b1.size)).trans (hb3.mono (Nat.le_trans b1.size hb2.size))
  go_wp2_with fail
  go_ret2
  exact ⟨rfl, b3⟩
end Go.Proofs.YtiicgbbgiedknaaDoor
