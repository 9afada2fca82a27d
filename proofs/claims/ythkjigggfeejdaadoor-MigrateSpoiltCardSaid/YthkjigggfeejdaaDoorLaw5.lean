import Derived.Test.YthkjigggfeejdaaDoorLaw3
namespace Go.Proofs.YthkjigggfeejdaaDoor
open Go.RowKit

/-! Plain: what the program's Within and Equal say of the elements. -/
theorem sub_iff {N K : Nat} : N &&& K = N ↔ ∀ j, N.testBit j = true → K.testBit j = true := by
  constructor
  · intro h j hj
    have := congrArg (fun x => x.testBit j) h
    simp only [Nat.testBit_and, hj, Bool.true_and] at this
    exact this
  · intro h
    apply Nat.eq_of_testBit_eq
    intro j
    rw [Nat.testBit_and]
    cases hj : N.testBit j with
    | false => rfl
    | true => rw [h j hj]; rfl
theorem bit_out {C : Nat} {M : List (List Bool)} (hC : C ≤ 4096) {i j : Nat} (hi : i < M.length) (h : ((nsOf C M).getD i 0).testBit j = true) : j < C ∧ mget M i j = true := by
  rw [nsOf_get hi, testBit_rowN _ _ _ _ hC, hasR_nat] at h
  simp only [Bool.and_eq_true, decide_eq_true_eq] at h
  exact ⟨h.1.2, h.2⟩
theorem within_same {C D : Nat} {M P : List (List Bool)} (hC : C ≤ 4096) : decide (C = D ∧ (nsOf C M).length = (nsOf D P).length ∧ withinM (nsOf C M) (nsOf D P)) = withinB C D M P := by
  unfold withinB
  rw [nsTo_len, nsTo_len, Bool.eq_iff_iff, decide_eq_true_eq, decide_eq_true_eq]
  constructor
  · rintro ⟨rfl, hL, hw⟩
    refine ⟨⟨hL, rfl⟩, fun i hi j hj hm => ?_⟩
    have h1 := sub_iff.1 (hw i (by rw [nsTo_len]; exact hi)) j (by rw [bit_nsOf hC hi hj]; exact hm)
    rwa [bit_nsOf hC (by omega) hj] at h1
  · rintro ⟨⟨hL, rfl⟩, hw⟩
    refine ⟨rfl, hL, fun i hi => sub_iff.2 fun j hj => ?_⟩
    rw [nsTo_len] at hi
    obtain ⟨hjC, hm⟩ := bit_out hC hi hj
    rw [bit_nsOf hC (by omega) hjC]
    exact hw i hi j hjC hm
theorem equal_same {C D : Nat} {M P : List (List Bool)} (hC : C ≤ 4096) (hD : D ≤ 4096) : decide (C = D ∧ (nsOf C M).length = (nsOf D P).length ∧ withinM (nsOf C M) (nsOf D P) ∧ withinM (nsOf D P) (nsOf C M)) = sameB C D M P := by
  unfold sameB
  rw [← within_same hC, ← within_same hD, Bool.eq_iff_iff, Bool.and_eq_true, decide_eq_true_eq, decide_eq_true_eq, decide_eq_true_eq]
  constructor
  · rintro ⟨rfl, hL, h1, h2⟩; exact ⟨⟨rfl, hL, h1⟩, rfl, hL.symm, h2⟩
  · rintro ⟨⟨rfl, hL, h1⟩, _, _, h2⟩; exact ⟨rfl, hL, h1, h2⟩
end Go.Proofs.YthkjigggfeejdaaDoor
