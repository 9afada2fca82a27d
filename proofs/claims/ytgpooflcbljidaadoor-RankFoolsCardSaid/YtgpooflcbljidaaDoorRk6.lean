/-
  The reference's list of all concepts with a one, in plain words.
-/
import Derived.Test.YtgpooflcbljidaaDoorRk3
namespace Go.Proofs.YtgpooflcbljidaaDoor
open Go.RowKit

theorem foldl_max_bound (B : Nat) : ∀ (l : List Nat) (a : Nat), a ≤ B → (∀ x ∈ l, x ≤ B) → l.foldl max a ≤ B
  | [], a, ha, _ => ha
  | x :: l, a, ha, h => by
    rw [List.foldl_cons]
    exact foldl_max_bound B l _ (by have := h x (by simp); omega) fun y hy => h y (by simp [hy])
theorem clo_lt (C : Nat) (Ns : List Nat) (s : Nat) : cloN C Ns s < 2 ^ C := Nat.lt_pow_two_of_testBit _ fun x hx => by
  cases hb : (cloN C Ns s).testBit x
  · rfl
  · have := comN_lt hb; omega

/-- The set s is the columns of a concept with a one. -/
def oneS (C : Nat) (Ns : List Nat) (s : Nat) : Bool := decide (cloN C Ns s = s) && !decide (havN C Ns s = 0)
/-- All of them below n, without 0, in lectic order. -/
def allTo (C : Nat) (Ns : List Nat) : Nat → List Nat
  | 0 => []
  | n + 1 => if n ≠ 0 ∧ oneS C Ns n = true then insL n (allTo C Ns n) else allTo C Ns n
def allL (C : Nat) (Ns : List Nat) : List Nat := allTo C Ns (2 ^ C)
theorem mem_allTo {C : Nat} {Ns : List Nat} {s : Nat} : ∀ n, s ∈ allTo C Ns n ↔ s < n ∧ s ≠ 0 ∧ oneS C Ns s = true
  | 0 => by simp [allTo]
  | n + 1 => by
    have ih := mem_allTo (C := C) (Ns := Ns) (s := s) n
    rw [allTo]
    by_cases h : n ≠ 0 ∧ oneS C Ns n = true
    · rw [if_pos h, mem_insL, ih]
      constructor
      · rintro (rfl | ⟨h1, h2⟩)
        · exact ⟨by omega, h⟩
        · exact ⟨by omega, h2⟩
      · rintro ⟨h1, h2⟩
        by_cases e : s = n
        · exact .inl e
        · exact .inr ⟨by omega, h2⟩
    · rw [if_neg h, ih]
      constructor
      · rintro ⟨h1, h2⟩; exact ⟨by omega, h2⟩
      · rintro ⟨h1, h2⟩
        refine ⟨?_, h2⟩
        by_cases e : s = n
        · subst e; exact absurd h2 h
        · omega
theorem allTo_lec (C : Nat) (Ns : List Nat) : ∀ n, Lec (allTo C Ns n)
  | 0 => by simp [allTo, Lec]
  | n + 1 => by
    rw [allTo]
    split
    · exact Lec.ins (allTo_lec C Ns n) fun h => by have := ((mem_allTo n).1 h).1; omega
    · exact allTo_lec C Ns n
theorem insL_len (s : Nat) : ∀ l, (insL s l).length = l.length + 1
  | [] => rfl
  | t :: l => by
    rw [insL]
    split
    · rw [List.length_cons, insL_len s l, List.length_cons]
    · rfl
theorem allTo_len (C : Nat) (Ns : List Nat) : ∀ n, (allTo C Ns n).length ≤ n
  | 0 => by simp [allTo]
  | n + 1 => by
    have := allTo_len C Ns n
    rw [allTo]
    split
    · rw [insL_len]; omega
    · omega
theorem insL_at (s : Nat) : ∀ (l : List Nat) (i : Nat), i ≤ l.length → (∀ j x, j < i → l[j]? = some x → lecR x s = true) → (∀ x, l[i]? = some x → lecR x s = false) → insL s l = l.take i ++ s :: l.drop i
  | [], i, hi, _, _ => by
    obtain rfl : i = 0 := by simpa using hi
    rfl
  | t :: l, 0, _, _, h => by
    rw [insL, if_neg (by rw [h t rfl]; simp)]; rfl
  | t :: l, i + 1, hi, h1, h2 => by
    rw [insL, if_pos (h1 0 t (by omega) rfl), insL_at s l i (by simpa using hi) (fun j x hj hx => h1 (j + 1) x (by omega) (by simpa using hx)) (fun x hx => h2 x (by simpa using hx))]
    simp
/-- The concepts that contain a cell are those among all. -/
theorem allL_con {C : Nat} {Ns : List Nat} {i j : Nat} : (allL C Ns).filter (fun s => inS C Ns s (i, j)) = conL C Ns i j := by
  refine Lec.ext (List.Pairwise.filter _ (allTo_lec C Ns _)) (conL_lec C Ns i j) fun s => ?_
  rw [List.mem_filter, mem_conL, allL, mem_allTo, inC]
  unfold oneS inS
  simp only [Bool.and_eq_true, decide_eq_true_eq, Bool.not_eq_true', decide_eq_false_iff_not]
  constructor
  · rintro ⟨⟨_, _, h1, _⟩, h2, h3⟩; exact ⟨⟨h1, h2⟩, h3⟩
  · rintro ⟨⟨h1, h2⟩, h3⟩
    refine ⟨⟨by rw [← h1]; exact clo_lt C Ns s, fun e => ?_, h1, fun e => ?_⟩, h2, h3⟩
    · subst e; simp at h2
    · rw [e] at h3; simp at h3
/-- How many cells one of them covers, at most. -/
theorem most_all {C : Nat} {Ns : List Nat} (o : List (Nat × Nat)) : ((allL C Ns).map fun s => o.length - (lessL C Ns o s).length).foldl max 0 = mostL C Ns o := by
  refine Nat.le_antisymm ?_ ?_
  · refine foldl_max_bound _ _ _ (Nat.zero_le _) fun x hx => ?_
    obtain ⟨s, hs, rfl⟩ := List.mem_map.1 hx
    rw [allL, mem_allTo, oneS, Bool.and_eq_true, decide_eq_true_eq] at hs
    exact mostL_le hs.2.2.1
  · refine foldl_max_bound _ _ _ (Nat.zero_le _) fun x hx => ?_
    obtain ⟨s, hs, rfl⟩ := List.mem_map.1 hx
    rw [List.mem_filter, List.mem_range, decide_eq_true_eq] at hs
    by_cases h : s ∈ allL C Ns
    · exact (foldl_max_le _ 0).2 _ (List.mem_map.2 ⟨s, h, rfl⟩)
    · -- nothing is covered
      rw [gain_eq]
      have : o.countP (inS C Ns s) = 0 := by
        rw [List.countP_eq_zero]
        intro c _ hc
        refine h ?_
        rw [allL, mem_allTo, oneS, Bool.and_eq_true, decide_eq_true_eq]
        unfold inS at hc
        rw [Bool.and_eq_true] at hc
        refine ⟨hs.1, fun e => ?_, hs.2, ?_⟩
        · subst e; simp at hc
        · rw [Bool.not_eq_true', decide_eq_false_iff_not]
          intro e; rw [e] at hc; simp at hc
      omega
end Go.Proofs.YtgpooflcbljidaaDoor
