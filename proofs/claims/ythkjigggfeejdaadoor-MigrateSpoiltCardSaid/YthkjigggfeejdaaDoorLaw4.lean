import Derived.Test.YthkjigggfeejdaaDoorLaw
import Derived.Test.YthkjigggfeejdaaDoorSets
namespace Go.Proofs.YthkjigggfeejdaaDoor
open Go.RowKit

theorem testBit_withoutB (N J j : Nat) : (withoutB N J).testBit j = (N.testBit j && decide (j ≠ J)) := by
  unfold withoutB
  rw [hasB_nat]
  by_cases h : N.testBit J = true
  · rw [if_pos h, Int.toNat_natCast, testBit_without h]
  · rw [if_neg h]
    by_cases e : j = J
    · subst e; simpa using h
    · simp [e]
theorem testBit_withB {N J : Nat} (hJ : J ≤ 4095) (j : Nat) : (withB N J).testBit j = (N.testBit j || decide (j = J)) := by
  unfold withB
  rw [if_pos (by omega), Int.toNat_natCast, Nat.testBit_or, Nat.testBit_two_pow]
  by_cases e : J = j
  · simp [e]
  · simp [e, show ¬ j = J from fun e' => e e'.symm]
theorem mset_has {C : Nat} {M : List (List Bool)} {I J : Nat} {one : Bool} (hC : C ≤ 4096) (_hI : I < M.length) (hJ : J < C) : ∀ i, i < M.length → ∀ j, j < C → mhas C (mset (nsOf C M) I J one) i j = withF M I J one i j := fun i hi j hj => by
  have hl : (mset (nsOf C M) I J one).length = M.length := by unfold mset; rw [List.length_set, nsTo_len]
  rw [mhas_in (by rw [hl]; exact hi) hj]
  unfold mset withF
  rw [List.getD_eq_getElem?_getD, List.getElem?_set]
  by_cases e : I = i
  · subst e
    rw [if_pos rfl, if_pos (by rw [nsTo_len]; exact hi), Option.getD_some]
    cases one
    · rw [if_neg (by decide), testBit_withoutB, bit_nsOf hC hi hj]
      by_cases e2 : j = J
      · subst e2; simp
      · rw [if_neg fun h => e2 h.2]; simp [e2]
    · rw [if_pos rfl, testBit_withB (by omega), bit_nsOf hC hi hj]
      by_cases e2 : j = J
      · subst e2; simp
      · rw [if_neg fun h => e2 h.2]; simp [e2]
  · rw [if_neg e, if_neg fun h => e h.1.symm, ← List.getD_eq_getElem?_getD, bit_nsOf hC hi hj]
end Go.Proofs.YthkjigggfeejdaaDoor
