/-
  The lectic order of sets, sorted lists, the concepts that contain a cell, in plain words.
-/
import Derived.Test.YtgpooflcbljidaaDoorClo2
namespace Go.Proofs.YtgpooflcbljidaaDoor
open Go.RowKit

/-! The lectic order: the set that has the least number in which two sets differ comes later. -/
def lecR (N M : Nat) : Bool := if N = M then false else if N % 2 = M % 2 then lecR (N / 2) (M / 2) else decide (M % 2 = 1)
termination_by N + M
decreasing_by omega
theorem lecR_irrefl (N : Nat) : lecR N N = false := by rw [lecR]; simp
theorem lecR_step {N M : Nat} (h : N % 2 = M % 2) : lecR N M = lecR (N / 2) (M / 2) := by
  by_cases e : N = M
  · subst e; rw [lecR_irrefl, lecR_irrefl]
  · rw [lecR, if_neg e, if_pos h]
theorem lecR_diff {N M : Nat} (h : N % 2 ≠ M % 2) : lecR N M = decide (M % 2 = 1) := by
  rw [lecR, if_neg (fun e => h (by rw [e])), if_neg h]
theorem lecR_total : ∀ N M, N ≠ M → lecR N M = false → lecR M N = true := by
  intro N
  induction N using Nat.strongRecOn with
  | _ N ih =>
    intro M hne h
    by_cases hp : N % 2 = M % 2
    · rw [lecR_step hp] at h
      rw [lecR_step hp.symm]
      by_cases h0 : N = 0
      · -- N = 0: M is even and not zero
        subst h0
        have key : ∀ M, M ≠ 0 → lecR 0 M = true := by
          intro M
          induction M using Nat.strongRecOn with
          | _ M ih2 =>
            intro hM
            by_cases hq : 0 % 2 = M % 2
            · rw [lecR_step hq]; exact ih2 _ (by omega) (by omega)
            · rw [lecR_diff hq]; simp; omega
        have := key (M / 2) (by omega)
        rw [Nat.zero_div] at h
        rw [this] at h; cases h
      · exact ih _ (by omega) _ (by omega) h
    · rw [lecR_diff hp] at h
      rw [lecR_diff (Ne.symm hp)]
      simp at h ⊢; omega
theorem lecR_asymm : ∀ N M, lecR N M = true → lecR M N = false := by
  intro N
  induction N using Nat.strongRecOn with
  | _ N ih =>
    intro M h
    by_cases e : N = M
    · subst e; rw [lecR_irrefl] at h; cases h
    · by_cases hp : N % 2 = M % 2
      · rw [lecR_step hp] at h
        rw [lecR_step hp.symm]
        by_cases h0 : N = 0
        · subst h0
          have key : ∀ M, lecR M 0 = false := by
            intro M
            induction M using Nat.strongRecOn with
            | _ M ih2 =>
              by_cases hM : M = 0
              · subst hM; exact lecR_irrefl 0
              · by_cases hq : M % 2 = 0 % 2
                · rw [lecR_step hq]; exact ih2 _ (by omega)
                · rw [lecR_diff hq]; simp
          rw [Nat.zero_div]; exact key _
        · exact ih _ (by omega) _ h
      · rw [lecR_diff hp] at h
        rw [lecR_diff (Ne.symm hp)]
        simp at h ⊢; omega
theorem lecR_trans : ∀ N M K, lecR N M = true → lecR M K = true → lecR N K = true := by
  intro N M K
  induction hs : N + M + K using Nat.strongRecOn generalizing N M K with
  | _ s ih =>
    intro h1 h2
    have n1 : N ≠ M := fun e => by rw [e, lecR_irrefl] at h1; cases h1
    have n2 : M ≠ K := fun e => by rw [e, lecR_irrefl] at h2; cases h2
    by_cases hp : N % 2 = M % 2
    · by_cases hq : M % 2 = K % 2
      · rw [lecR_step hp] at h1
        rw [lecR_step hq] at h2
        rw [lecR_step (hp.trans hq)]
        exact ih _ (by omega) _ _ _ rfl h1 h2
      · rw [lecR_diff hq] at h2
        rw [lecR_diff (by omega)]; exact h2
    · rw [lecR_diff hp] at h1
      by_cases hq : M % 2 = K % 2
      · rw [lecR_diff (by omega)]
        simp at h1 ⊢; omega
      · rw [lecR_diff hq] at h2
        simp at h1 h2; omega
/-- The lowest number in which they differ decides. -/
theorem lecR_at : ∀ (i N M : Nat), (∀ j, j < i → N.testBit j = M.testBit j) → N.testBit i = false → M.testBit i = true → lecR N M = true
  | 0, N, M, _, hN, hM => by
    have m1 : M % 2 = 1 := by simpa using hM
    have n1 : ¬ N % 2 = 1 := by simpa using hN
    rw [lecR_diff (by omega), m1]; rfl
  | i + 1, N, M, hj, hN, hM => by
    have h0 := hj 0 (by omega)
    have hp : N % 2 = M % 2 := by
      have := Nat.testBit_zero N
      have := Nat.testBit_zero M
      by_cases a : N % 2 = 1 <;> by_cases b : M % 2 = 1 <;> simp_all <;> omega
    rw [lecR_step hp]
    exact lecR_at i _ _ (fun j hj' => by rw [Nat.testBit_div_two, Nat.testBit_div_two]; exact hj (j + 1) (by omega)) (by rw [Nat.testBit_div_two]; exact hN) (by rw [Nat.testBit_div_two]; exact hM)

/-! Lists in lectic order. -/
def Lec (l : List Nat) : Prop := l.Pairwise fun a b => lecR a b = true
/-- A list in ascending order is known by its members. -/
theorem Lec.ext : ∀ {l m : List Nat}, Lec l → Lec m → (∀ x, x ∈ l ↔ x ∈ m) → l = m
  | [], [], _, _, _ => rfl
  | [], b :: m, _, _, h => by have := (h b).2 (by simp); simp at this
  | a :: l, [], _, _, h => by have := (h a).1 (by simp); simp at this
  | a :: l, b :: m, hl, hm, h => by
    unfold Lec at hl hm
    rw [List.pairwise_cons] at hl hm
    have e : a = b := by
      rcases List.mem_cons.1 ((h a).1 (by simp)) with e | ha
      · exact e
      · rcases List.mem_cons.1 ((h b).2 (by simp)) with e | hb
        · exact e.symm
        · have h1 := hm.1 a ha
          have h2 := hl.1 b hb
          rw [lecR_asymm _ _ h1] at h2; cases h2
    subst e
    rw [Lec.ext hl.2 hm.2 fun x => ?_]
    constructor
    · intro hx
      rcases List.mem_cons.1 ((h x).1 (by simp [hx])) with rfl | hm'
      · have := hl.1 _ hx; rw [lecR_irrefl] at this; cases this
      · exact hm'
    · intro hx
      rcases List.mem_cons.1 ((h x).2 (by simp [hx])) with rfl | hm'
      · have := hm.1 _ hx; rw [lecR_irrefl] at this; cases this
      · exact hm'
def insL (s : Nat) : List Nat → List Nat
  | [] => [s]
  | t :: l => if lecR t s = true then t :: insL s l else s :: t :: l
theorem mem_insL (s x : Nat) : ∀ l, x ∈ insL s l ↔ x = s ∨ x ∈ l
  | [] => by simp [insL]
  | t :: l => by
    rw [insL]
    split
    · rw [List.mem_cons, mem_insL s x l, List.mem_cons]
      constructor <;> rintro (h | h | h) <;> simp [h]
    · simp
theorem Lec.ins {s : Nat} : ∀ {l : List Nat}, Lec l → s ∉ l → Lec (insL s l)
  | [], _, _ => by simp [insL, Lec]
  | t :: l, h, hn => by
    unfold Lec at *
    rw [insL]
    rw [List.pairwise_cons] at h
    by_cases hs : lecR t s = true
    · rw [if_pos hs, List.pairwise_cons]
      refine ⟨fun x hx => ?_, Lec.ins (l := l) h.2 (fun hm => hn (by simp [hm]))⟩
      rcases (mem_insL s x l).1 hx with rfl | hx
      · exact hs
      · exact h.1 x hx
    · rw [if_neg hs, List.pairwise_cons]
      have hst : lecR s t = true := lecR_total t s (fun e => hn (by simp [e])) (by simpa using hs)
      refine ⟨fun x hx => ?_, List.pairwise_cons.2 h⟩
      rcases List.mem_cons.1 hx with rfl | hx
      · exact hst
      · exact lecR_trans _ _ _ hst (h.1 x hx)
def sortL : List Nat → List Nat
  | [] => []
  | s :: l => insL s (sortL l)
theorem mem_sortL (x : Nat) : ∀ l, x ∈ sortL l ↔ x ∈ l
  | [] => by simp [sortL]
  | s :: l => by rw [sortL, mem_insL, mem_sortL x l, List.mem_cons]
theorem Lec.sort : ∀ {l : List Nat}, l.Nodup → Lec (sortL l)
  | [], _ => by simp [sortL, Lec]
  | s :: l, h => by
    rw [List.nodup_cons] at h
    exact Lec.ins (Lec.sort h.2) (by rw [mem_sortL]; exact h.1)
/-- The set s is the columns of a concept that contains the cell. -/
def inC (C : Nat) (Ns : List Nat) (i j s : Nat) : Bool := decide (cloN C Ns s = s) && s.testBit j && (havN C Ns s).testBit i
/-- The concepts that contain a cell, in lectic order. -/
def conL (C : Nat) (Ns : List Nat) (i j : Nat) : List Nat := sortL ((List.range (2 ^ C)).filter (inC C Ns i j))
theorem conL_lec (C : Nat) (Ns : List Nat) (i j : Nat) : Lec (conL C Ns i j) := Lec.sort (List.nodup_range.filter _)
theorem mem_conL {C : Nat} {Ns : List Nat} {i j s : Nat} : s ∈ conL C Ns i j ↔ inC C Ns i j s = true := by
  unfold conL
  rw [mem_sortL, List.mem_filter, List.mem_range]
  refine ⟨fun h => h.2, fun h => ⟨?_, h⟩⟩
  unfold inC at h
  simp only [Bool.and_eq_true, decide_eq_true_eq] at h
  rw [← h.1.1]
  exact Nat.lt_pow_two_of_testBit _ fun x hx => by
    cases hb : (cloN C Ns s).testBit x
    · rfl
    · have := comN_lt hb; omega
end Go.Proofs.YtgpooflcbljidaaDoor
