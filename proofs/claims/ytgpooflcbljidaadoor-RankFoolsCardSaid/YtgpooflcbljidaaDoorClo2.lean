/-
  Galois: closures, and the minimal sets with a closure, in plain words.
-/
import Derived.Test.YtgpooflcbljidaaDoorClo1
import Derived.Test.YtgpooflcbljidaaDoorSets
namespace Go.Proofs.YtgpooflcbljidaaDoor
open Go.RowKit

section
variable {C : Nat} {Ns : List Nat}
theorem nat_ext {a b : Nat} (h : ∀ i, a.testBit i = true ↔ b.testBit i = true) : a = b := Nat.eq_of_testBit_eq fun i => by
  have := h i
  cases h1 : a.testBit i <;> cases h2 : b.testBit i <;> simp_all
theorem havN_lt (hl : Ns.length ≤ 4096) {S i : Nat} (h : (havN C Ns S).testBit i = true) : i < Ns.length := ((testBit_havN C Ns hl S i).1 h).1
theorem comN_lt {S j : Nat} (h : (comN C Ns S).testBit j = true) : j < C := ((testBit_comN C Ns S j).1 h).1
/-- More columns, fewer rows. -/
theorem havN_anti (hl : Ns.length ≤ 4096) {S T : Nat} (h : ∀ j, j < C → S.testBit j = true → T.testBit j = true) {i : Nat} (hi : (havN C Ns T).testBit i = true) : (havN C Ns S).testBit i = true := by
  rw [testBit_havN C Ns hl] at hi ⊢
  exact ⟨hi.1, fun j hj hc => hi.2 j (h j hc hj) hc⟩
theorem comN_anti {S T : Nat} (h : ∀ i, i < Ns.length → S.testBit i = true → T.testBit i = true) {j : Nat} (hj : (comN C Ns T).testBit j = true) : (comN C Ns S).testBit j = true := by
  rw [testBit_comN] at hj ⊢
  exact ⟨hj.1, fun i hi hl => hj.2 i (h i hl hi) hl⟩
theorem clo_sup (hl : Ns.length ≤ 4096) {S j : Nat} (hc : j < C) (hj : S.testBit j = true) : (cloN C Ns S).testBit j = true := by
  unfold cloN
  rw [testBit_comN]
  exact ⟨hc, fun i hi _ => ((testBit_havN C Ns hl S i).1 hi).2 j hj hc⟩
theorem clo_mono (hl : Ns.length ≤ 4096) {S T : Nat} (h : ∀ j, j < C → S.testBit j = true → T.testBit j = true) {j : Nat} (hj : (cloN C Ns S).testBit j = true) : (cloN C Ns T).testBit j = true := by
  unfold cloN at *
  exact comN_anti (fun i _ hi => havN_anti hl h hi) hj
/-- The rows of a closure are the rows of the columns. -/
theorem hav_clo (hl : Ns.length ≤ 4096) (S : Nat) : havN C Ns (cloN C Ns S) = havN C Ns S := by
  refine nat_ext fun i => ⟨fun h => havN_anti hl (fun j hc hj => clo_sup hl hc hj) h, fun h => ?_⟩
  rw [testBit_havN C Ns hl]
  refine ⟨havN_lt hl h, fun j hj hc => ?_⟩
  unfold cloN at hj
  exact ((testBit_comN C Ns _ j).1 hj).2 i h (havN_lt hl h)
theorem clo_clo (hl : Ns.length ≤ 4096) (S : Nat) : cloN C Ns (cloN C Ns S) = cloN C Ns S := by
  show comN C Ns (havN C Ns (cloN C Ns S)) = comN C Ns (havN C Ns S)
  rw [hav_clo hl]
theorem com_hav_com (hl : Ns.length ≤ 4096) (S : Nat) : comN C Ns (havN C Ns (comN C Ns S)) = comN C Ns S := by
  refine nat_ext fun j => ⟨fun h => ?_, fun h => ?_⟩
  · rw [testBit_comN] at h ⊢
    refine ⟨h.1, fun i hi hil => h.2 i ?_ hil⟩
    rw [testBit_havN C Ns hl]
    exact ⟨hil, fun j' hj' _ => ((testBit_comN C Ns S j').1 hj').2 i hi hil⟩
  · exact clo_sup hl (comN_lt h) h
/-- Numbers outside are left out. -/
theorem havN_in (hl : Ns.length ≤ 4096) {S T : Nat} (h : ∀ j, j < C → S.testBit j = T.testBit j) : havN C Ns S = havN C Ns T :=
  nat_ext fun _ => ⟨fun hi => havN_anti hl (fun j hc hj => by rw [h j hc]; exact hj) hi, fun hi => havN_anti hl (fun j hc hj => by rw [← h j hc]; exact hj) hi⟩
theorem comN_in {S T : Nat} (h : ∀ i, i < Ns.length → S.testBit i = T.testBit i) : comN C Ns S = comN C Ns T :=
  nat_ext fun _ => ⟨fun hi => comN_anti (fun j hc hj => by rw [h j hc]; exact hj) hi, fun hi => comN_anti (fun j hc hj => by rw [← h j hc]; exact hj) hi⟩
/-- Columns with the same rows have the same closure, and the other way round. -/
theorem hav_iff_clo (hl : Ns.length ≤ 4096) (S T : Nat) : havN C Ns S = havN C Ns T ↔ cloN C Ns S = cloN C Ns T :=
  ⟨fun h => by unfold cloN; rw [h], fun h => by rw [← hav_clo hl S, ← hav_clo hl T, h]⟩
end
/-! Subsets of a list of members. -/
def subTo (l : List Nat) (n : Nat) : Nat → Nat
  | 0 => 0
  | k + 1 => if n.testBit k = true then subTo l n k ||| 2 ^ (l.getD k 0) else subTo l n k
theorem testBit_subTo (l : List Nat) (n j : Nat) : ∀ k, (subTo l n k).testBit j = true ↔ ∃ i, i < k ∧ n.testBit i = true ∧ l.getD i 0 = j
  | 0 => by simp [subTo]
  | k + 1 => by
    rw [subTo]
    have ih := testBit_subTo l n j k
    by_cases h : n.testBit k = true
    · rw [if_pos h, Nat.testBit_or, Bool.or_eq_true, ih, Nat.testBit_two_pow, decide_eq_true_eq]
      constructor
      · rintro (⟨i, h1, h2, h3⟩ | e)
        · exact ⟨i, by omega, h2, h3⟩
        · exact ⟨k, by omega, h, e⟩
      · rintro ⟨i, h1, h2, h3⟩
        by_cases e : i = k
        · subst e; exact Or.inr h3
        · exact Or.inl ⟨i, by omega, h2, h3⟩
    · rw [if_neg h, ih]
      constructor
      · rintro ⟨i, h1, h2, h3⟩; exact ⟨i, by omega, h2, h3⟩
      · rintro ⟨i, h1, h2, h3⟩
        by_cases e : i = k
        · subst e; exact absurd h2 h
        · exact ⟨i, by omega, h2, h3⟩
def subN (l : List Nat) (n : Nat) : Nat := subTo l n l.length
theorem bits_ex (f : Nat → Bool) : ∀ k, ∃ n, n < 2 ^ k ∧ ∀ i, i < k → n.testBit i = f i
  | 0 => ⟨0, by simp, fun i h => by omega⟩
  | k + 1 => by
    obtain ⟨n, hn, h⟩ := bits_ex f k
    cases hf : f k
    · exact ⟨n, by rw [Nat.pow_succ]; omega, fun i hi => by
        by_cases e : i = k
        · subst e; rw [hf]; exact Nat.testBit_lt_two_pow hn
        · exact h i (by omega)⟩
    · refine ⟨n ||| 2 ^ k, Nat.or_lt_two_pow (by rw [Nat.pow_succ]; omega) (by rw [Nat.pow_succ]; have := Nat.two_pow_pos k; omega), fun i hi => ?_⟩
      rw [Nat.testBit_or, Nat.testBit_two_pow]
      by_cases e : i = k
      · subst e; simp [hf]
      · rw [h i (by omega)]; simp; omega
theorem mems_nodup (N : Nat) : (mems N).Nodup := by
  unfold mems; rw [mTo_map]; exact List.nodup_range.filter _
theorem subN_mems (K n : Nat) {j : Nat} (h : (subN (mems K) n).testBit j = true) : K.testBit j = true := by
  obtain ⟨i, hi, _, e⟩ := (testBit_subTo _ _ _ _).1 h
  rw [List.getD_eq_getElem?_getD, List.getElem?_eq_getElem hi, Option.getD_some] at e
  rw [← mem_mems, ← e]; exact List.getElem_mem hi
theorem subN_onto {K S : Nat} (h : ∀ j, S.testBit j = true → K.testBit j = true) : ∃ n, n < 2 ^ (mems K).length ∧ subN (mems K) n = S := by
  obtain ⟨n, hn, hb⟩ := bits_ex (fun i => S.testBit ((mems K).getD i 0)) (mems K).length
  refine ⟨n, hn, nat_ext fun j => ?_⟩
  unfold subN
  rw [testBit_subTo]
  constructor
  · rintro ⟨i, hi, h1, rfl⟩
    rw [← hb i hi]; exact h1
  · intro hj
    obtain ⟨i, hi, e⟩ := List.getElem_of_mem (mem_mems.2 (h j hj))
    refine ⟨i, hi, ?_, by rw [List.getD_eq_getElem?_getD, List.getElem?_eq_getElem hi, Option.getD_some]; exact e⟩
    rw [hb i hi, List.getD_eq_getElem?_getD, List.getElem?_eq_getElem hi, Option.getD_some, e]; exact hj
theorem subN_inj {K n m : Nat} (hn : n < 2 ^ (mems K).length) (hm : m < 2 ^ (mems K).length) (h : subN (mems K) n = subN (mems K) m) : n = m := by
  have key : ∀ {a b : Nat}, subN (mems K) a = subN (mems K) b → ∀ i, i < (mems K).length → a.testBit i = true → b.testBit i = true := by
    intro a b e i hi ha
    have h1 : (subN (mems K) a).testBit ((mems K).getD i 0) = true := (testBit_subTo _ _ _ _).2 ⟨i, hi, ha, rfl⟩
    rw [e] at h1
    obtain ⟨i', hi', hb, e'⟩ := (testBit_subTo _ _ _ _).1 h1
    rw [List.getD_eq_getElem?_getD, List.getElem?_eq_getElem hi', Option.getD_some, List.getD_eq_getElem?_getD, List.getElem?_eq_getElem hi, Option.getD_some] at e'
    have e2 : i' = i := (List.getElem_inj (mems_nodup K)).1 e'
    rw [← e2]; exact hb
  refine nat_ext fun i => ?_
  by_cases hi : i < (mems K).length
  · exact ⟨key h i hi, key h.symm i hi⟩
  · have p : 2 ^ (mems K).length ≤ 2 ^ i := Nat.pow_le_pow_right (by omega) (by omega)
    rw [Nat.testBit_lt_two_pow (Nat.lt_of_lt_of_le hn p), Nat.testBit_lt_two_pow (Nat.lt_of_lt_of_le hm p)]
/-- A set of columns with the rows of K, that needs each of its columns. -/
def minB (C : Nat) (Ns : List Nat) (K S : Nat) : Bool := decide (havN C Ns S = havN C Ns K) && (mems S).all fun j => !decide (havN C Ns (withoutB S (j : Nat)) = havN C Ns K)
def minL (C : Nat) (Ns : List Nat) (K : Nat) : List Nat := ((List.range (2 ^ (mems K).length)).map (subN (mems K))).filter (minB C Ns K)
theorem mem_minL {C : Nat} {Ns : List Nat} {K S : Nat} : S ∈ minL C Ns K ↔ (∀ j, S.testBit j = true → K.testBit j = true) ∧ minB C Ns K S = true := by
  unfold minL
  rw [List.mem_filter, List.mem_map]
  refine and_congr_left fun _ => ⟨?_, fun h => ?_⟩
  · rintro ⟨n, _, rfl⟩ j hj
    exact subN_mems K n hj
  · obtain ⟨n, hn, e⟩ := subN_onto h
    exact ⟨n, List.mem_range.2 hn, e⟩
theorem minL_nodup (C : Nat) (Ns : List Nat) (K : Nat) : (minL C Ns K).Nodup := by
  unfold minL
  refine List.Pairwise.filter _ ?_
  rw [List.pairwise_map]
  have h : (List.range (2 ^ (mems K).length)).Pairwise (fun a b => a < b) := List.pairwise_lt_range
  refine h.imp_of_mem fun {a b} ha hb hab e => ?_
  have := subN_inj (List.mem_range.1 ha) (List.mem_range.1 hb) e
  omega
end Go.Proofs.YtgpooflcbljidaaDoor
