/-
  Closures of rows and columns as numbers, in plain words: what rows have in common, who has columns, the order of sets.
-/
import Derived.Test.YtgpooflcbljidaaDoorMatx
namespace Go.Proofs.YtgpooflcbljidaaDoor
open Go.RowKit

/-- The columns that the rows ks have in common; numbers outside are left out. -/
def comTo (C : Nat) (Ns ks : List Nat) : Nat := ks.foldl (fun r i => if i < Ns.length then r &&& Ns.getD i 0 else r) (lowN C)
theorem comTo_snoc (C : Nat) (Ns ks : List Nat) (i : Nat) : comTo C Ns (ks ++ [i]) = if i < Ns.length then comTo C Ns ks &&& Ns.getD i 0 else comTo C Ns ks := by simp [comTo]
theorem testBit_comGo (Ns : List Nat) (j : Nat) : ∀ (ks : List Nat) (r : Nat), (ks.foldl (fun r i => if i < Ns.length then r &&& Ns.getD i 0 else r) r).testBit j = true ↔ r.testBit j = true ∧ ∀ i ∈ ks, i < Ns.length → (Ns.getD i 0).testBit j = true
  | [], r => by simp
  | k :: ks, r => by
    rw [List.foldl_cons, testBit_comGo Ns j ks]
    by_cases hk : k < Ns.length
    · rw [if_pos hk, Nat.testBit_and, Bool.and_eq_true]
      constructor
      · rintro ⟨⟨h1, h2⟩, h3⟩
        refine ⟨h1, fun i hi hl => ?_⟩
        rcases List.mem_cons.1 hi with rfl | hi
        · exact h2
        · exact h3 i hi hl
      · rintro ⟨h1, h2⟩
        exact ⟨⟨h1, h2 k (by simp) hk⟩, fun i hi hl => h2 i (by simp [hi]) hl⟩
    · rw [if_neg hk]
      constructor
      · rintro ⟨h1, h3⟩
        refine ⟨h1, fun i hi hl => ?_⟩
        rcases List.mem_cons.1 hi with rfl | hi
        · exact absurd hl hk
        · exact h3 i hi hl
      · rintro ⟨h1, h2⟩
        exact ⟨h1, fun i hi hl => h2 i (by simp [hi]) hl⟩
def comN (C : Nat) (Ns : List Nat) (S : Nat) : Nat := comTo C Ns (mems S)
theorem testBit_comN (C : Nat) (Ns : List Nat) (S j : Nat) : (comN C Ns S).testBit j = true ↔ j < C ∧ ∀ i, S.testBit i = true → i < Ns.length → (Ns.getD i 0).testBit j = true := by
  unfold comN comTo
  rw [testBit_comGo, testBit_lowN, decide_eq_true_eq]
  exact and_congr_right fun _ => ⟨fun h i hi => h i (mem_mems.2 hi), fun h i hi => h i (mem_mems.1 hi)⟩
/-- The rows that have the columns ks. -/
def havTo (C : Nat) (Ns ks : List Nat) : Nat := ks.foldl (fun r j => if j < C then r &&& mcol C Ns (j : Nat) else r) (lowN Ns.length)
theorem havTo_snoc (C : Nat) (Ns ks : List Nat) (j : Nat) : havTo C Ns (ks ++ [j]) = if j < C then havTo C Ns ks &&& mcol C Ns (j : Nat) else havTo C Ns ks := by simp [havTo]
theorem testBit_havGo (C : Nat) (Ns : List Nat) (hl : Ns.length ≤ 4096) (i : Nat) : ∀ (ks : List Nat) (r : Nat), (ks.foldl (fun r j => if j < C then r &&& mcol C Ns (j : Nat) else r) r).testBit i = true ↔ r.testBit i = true ∧ ∀ j ∈ ks, j < C → mhas C Ns i j = true
  | [], r => by simp
  | k :: ks, r => by
    rw [List.foldl_cons, testBit_havGo C Ns hl i ks]
    by_cases hk : k < C
    · rw [if_pos hk, Nat.testBit_and, Bool.and_eq_true, testBit_mcol C Ns _ i hl]
      constructor
      · rintro ⟨⟨h1, h2⟩, h3⟩
        refine ⟨h1, fun j hj hc => ?_⟩
        rcases List.mem_cons.1 hj with rfl | hj
        · exact h2
        · exact h3 j hj hc
      · rintro ⟨h1, h2⟩
        exact ⟨⟨h1, h2 k (by simp) hk⟩, fun j hj hc => h2 j (by simp [hj]) hc⟩
    · rw [if_neg hk]
      constructor
      · rintro ⟨h1, h3⟩
        refine ⟨h1, fun j hj hc => ?_⟩
        rcases List.mem_cons.1 hj with rfl | hj
        · exact absurd hc hk
        · exact h3 j hj hc
      · rintro ⟨h1, h2⟩
        exact ⟨h1, fun j hj hc => h2 j (by simp [hj]) hc⟩
def havN (C : Nat) (Ns : List Nat) (S : Nat) : Nat := havTo C Ns (mems S)
theorem mhas_at {C : Nat} {Ns : List Nat} {i j : Nat} (hi : i < Ns.length) (hj : j < C) : mhas C Ns i j = (Ns.getD i 0).testBit j := by
  unfold mhas insideB
  simp [hi, hj]
theorem testBit_havN (C : Nat) (Ns : List Nat) (hl : Ns.length ≤ 4096) (S i : Nat) : (havN C Ns S).testBit i = true ↔ i < Ns.length ∧ ∀ j, S.testBit j = true → j < C → (Ns.getD i 0).testBit j = true := by
  unfold havN havTo
  rw [testBit_havGo C Ns hl, testBit_lowN, decide_eq_true_eq]
  refine and_congr_right fun hi => ⟨fun h j hj hc => ?_, fun h j hj hc => ?_⟩
  · rw [← mhas_at hi hc]; exact h j (mem_mems.2 hj) hc
  · rw [mhas_at hi hc]; exact h j (mem_mems.1 hj) hc
def cloN (C : Nat) (Ns : List Nat) (S : Nat) : Nat := comN C Ns (havN C Ns S)

/-! The order of sets: their ascending lists, a prefix first. -/
def ltR (N M : Nat) : Bool := if M = 0 then false else if N = 0 then true else if N % 2 = 1 ∧ M % 2 = 0 then true else if N % 2 = 0 ∧ M % 2 = 1 then false else ltR (N / 2) (M / 2)
termination_by N
decreasing_by omega
theorem ltR_zero (N : Nat) : ltR N 0 = false := by rw [ltR]; simp
theorem ltR_irrefl : ∀ N, ltR N N = false := by
  intro N
  induction N using Nat.strongRecOn with
  | _ N ih =>
    rw [ltR]
    by_cases h : N = 0
    · simp [h]
    · rw [if_neg h, if_neg h, if_neg (by omega), if_neg (by omega)]
      exact ih _ (by omega)
theorem ltR_trans : ∀ N M K, ltR N M = true → ltR M K = true → ltR N K = true := by
  intro N
  induction N using Nat.strongRecOn with
  | _ N ih =>
    intro M K h1 h2
    rw [ltR] at h1 h2 ⊢
    by_cases hK : K = 0
    · simp [hK] at h2
    · rw [if_neg hK] at h2 ⊢
      by_cases hN : N = 0
      · simp [hN]
      · rw [if_neg hN]
        by_cases hM : M = 0
        · simp [hM] at h1
        · rw [if_neg hM, if_neg hN] at h1
          rw [if_neg hM] at h2
          by_cases n1 : N % 2 = 1 <;> by_cases m1 : M % 2 = 1 <;> by_cases k1 : K % 2 = 1 <;>
            simp only [show N % 2 = 0 ↔ ¬ N % 2 = 1 by omega, show M % 2 = 0 ↔ ¬ M % 2 = 1 by omega, show K % 2 = 0 ↔ ¬ K % 2 = 1 by omega, n1, m1, k1] at h1 h2 ⊢ <;> simp at h1 h2 ⊢ <;> exact ih _ (by omega) _ _ h1 h2
theorem ltR_total : ∀ N M, N ≠ M → ltR N M = false → ltR M N = true := by
  intro N
  induction N using Nat.strongRecOn with
  | _ N ih =>
    intro M hne h
    rw [ltR] at h ⊢
    by_cases hN : N = 0
    · by_cases hM : M = 0
      · omega
      · simp [hN, hM] at h
    · rw [if_neg hN]
      by_cases hM : M = 0
      · simp [hM]
      · rw [if_neg hM]
        rw [if_neg hM, if_neg hN] at h
        by_cases n1 : N % 2 = 1 <;> by_cases m1 : M % 2 = 1 <;>
          simp only [show N % 2 = 0 ↔ ¬ N % 2 = 1 by omega, show M % 2 = 0 ↔ ¬ M % 2 = 1 by omega, n1, m1] at h ⊢ <;> simp at h ⊢ <;> exact ih _ (by omega) _ (by omega) h
theorem ltR_asymm {N M : Nat} (h : ltR N M = true) : ltR M N = false := by
  cases h2 : ltR M N
  · rfl
  · rw [← ltR_irrefl N, ltR_trans _ _ _ h h2]
/-- The lowest bit in which they differ decides. -/
theorem ltR_at : ∀ (i N M : Nat), (∀ j, j < i → N.testBit j = M.testBit j) → N.testBit i = true → M.testBit i = false → ltR N M = decide (M / 2 ^ i ≠ 0)
  | 0, N, M, _, hN, hM => by
    have n1 : N % 2 = 1 := by simpa using hN
    have m1 : M % 2 = 0 := by
      have : ¬ M % 2 = 1 := by simpa using hM
      omega
    rw [ltR]
    by_cases h0 : M = 0
    · simp [h0]
    · rw [if_neg h0, if_neg (by omega), if_pos ⟨n1, m1⟩]; simp [h0]
  | i + 1, N, M, hj, hN, hM => by
    have h0 := hj 0 (by omega)
    have hp : N % 2 = M % 2 := by
      have := Nat.testBit_zero N
      have := Nat.testBit_zero M
      by_cases a : N % 2 = 1 <;> by_cases b : M % 2 = 1 <;> simp_all <;> omega
    have hN0 : N ≠ 0 := by rintro rfl; simp at hN
    rw [ltR]
    by_cases hM0 : M = 0
    · simp [hM0]
    · rw [if_neg hM0, if_neg hN0, if_neg (by omega), if_neg (by omega)]
      rw [ltR_at i (N / 2) (M / 2) (fun j hj' => by rw [Nat.testBit_div_two, Nat.testBit_div_two]; exact hj (j + 1) (by omega)) (by rw [Nat.testBit_div_two]; exact hN) (by rw [Nat.testBit_div_two]; exact hM)]
      rw [Nat.div_div_eq_div_mul, Nat.pow_succ, Nat.mul_comm (2 ^ i) 2]
def cmpN (N M : Nat) : Int := if N = M then 0 else if ltR N M then -1 else 1
theorem cmpN_lt (N M : Nat) : decide (cmpN N M < 0) = ltR N M := by
  unfold cmpN
  by_cases h : N = M
  · subst h; simp [ltR_irrefl]
  · rw [if_neg h]; cases ltR N M <;> simp
/-- A list in ascending order is known by its members. -/
theorem sorted_ext : ∀ (l m : List Nat), l.Pairwise (fun a b => ltR a b = true) → m.Pairwise (fun a b => ltR a b = true) → (∀ x, x ∈ l ↔ x ∈ m) → l = m
  | [], [], _, _, _ => rfl
  | [], b :: m, _, _, h => by have := (h b).2 (by simp); simp at this
  | a :: l, [], _, _, h => by have := (h a).1 (by simp); simp at this
  | a :: l, b :: m, hl, hm, h => by
    rw [List.pairwise_cons] at hl hm
    have e : a = b := by
      rcases List.mem_cons.1 ((h a).1 (by simp)) with e | ha
      · exact e
      · rcases List.mem_cons.1 ((h b).2 (by simp)) with e | hb
        · exact e.symm
        · have h1 := hm.1 a ha
          have h2 := hl.1 b hb
          rw [ltR_asymm h1] at h2; cases h2
    subst e
    rw [sorted_ext l m hl.2 hm.2 fun x => ?_]
    constructor
    · intro hx
      rcases List.mem_cons.1 ((h x).1 (by simp [hx])) with rfl | hm'
      · have := hl.1 _ hx; rw [ltR_irrefl] at this; cases this
      · exact hm'
    · intro hx
      rcases List.mem_cons.1 ((h x).2 (by simp [hx])) with rfl | hm'
      · have := hm.1 _ hx; rw [ltR_irrefl] at this; cases this
      · exact hm'
end Go.Proofs.YtgpooflcbljidaaDoor
