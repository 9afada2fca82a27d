/-
  The cells of a list of sets of columns.
-/
import Derived.Test.YtgpooflcbljidaaDoorRk6
namespace Go.Proofs.YtgpooflcbljidaaDoor
open Go.RowKit

/-- The cells of a list of sets. -/
def cellsOf (Os : List Nat) : List (Nat × Nat) := (List.range Os.length).flatMap fun i => (mems (Os.getD i 0)).map fun j => (i, j)
theorem mem_cellsOf {Os : List Nat} {c : Nat × Nat} : c ∈ cellsOf Os ↔ c.1 < Os.length ∧ (Os.getD c.1 0).testBit c.2 = true := by
  unfold cellsOf
  rw [List.mem_flatMap]
  constructor
  · rintro ⟨i, hi, h⟩
    obtain ⟨j, hj, rfl⟩ := List.mem_map.1 h
    exact ⟨List.mem_range.1 hi, mem_mems.1 hj⟩
  · rintro ⟨h1, h2⟩
    exact ⟨c.1, List.mem_range.2 h1, List.mem_map.2 ⟨c.2, mem_mems.2 h2, rfl⟩⟩
theorem mems_is (N : Nat) : ∃ k, ∀ m, k ≤ m → mems N = (List.range m).filter N.testBit := by
  refine ⟨64 * nw N, fun m hm => ?_⟩
  have e : mems N = (List.range (64 * nw N)).filter N.testBit := by unfold mems; rw [mTo_map]
  rw [e]
  obtain ⟨d, rfl⟩ := Nat.exists_eq_add_of_le hm
  clear hm e
  induction d with
  | zero => rfl
  | succ d ih =>
    rw [ih, ← Nat.add_assoc, List.range_succ, List.filter_append]
    have : N.testBit (64 * nw N + d) = false := testBit_ge (Nat.le_refl _) (by omega)
    simp [this]
theorem mems_under {N n : Nat} (h : ∀ j, N.testBit j = true → j < n) : mems N = (List.range n).filter N.testBit := by
  obtain ⟨a, ha⟩ := mems_is N
  rw [ha (max a n) (by omega)]
  have key : ∀ d, (List.range (n + d)).filter N.testBit = (List.range n).filter N.testBit := by
    intro d
    induction d with
    | zero => rfl
    | succ d ih =>
      rw [← Nat.add_assoc, List.range_succ, List.filter_append, ih]
      have : N.testBit (n + d) = false := by
        cases hb : N.testBit (n + d) with
        | false => rfl
        | true => have := h _ hb; omega
      simp [this]
  rw [show max a n = n + (max a n - n) by omega, key]
/-- The ones of a matrix. -/
theorem cells_lt {Ns : List Nat} {c : Nat × Nat} (h : c ∈ cellsOf Ns) : c.1 < Ns.length := (mem_cellsOf.1 h).1
/-- Each one lies in a concept, so there is a cover. -/
theorem cov_all {C : Nat} {Ns : List Nat} (hl : Ns.length ≤ 4096) (hin : rowsIn C Ns) (o : List (Nat × Nat)) (ho : ∀ c ∈ o, c ∈ cellsOf Ns) : Cov C Ns o.length o := by
  refine ⟨o.map fun c => cloN C Ns (2 ^ c.2), by simp, fun s hs => ?_, fun c hc => ⟨_, List.mem_map.2 ⟨c, hc, rfl⟩, ?_⟩⟩
  · obtain ⟨c, _, rfl⟩ := List.mem_map.1 hs
    exact clo_clo hl _
  · obtain ⟨h1, h2⟩ := mem_cellsOf.1 (ho c hc)
    have hjC : c.2 < C := by
      have := hin c.1 h1
      rw [← this, Nat.testBit_and, testBit_lowN, Bool.and_eq_true, decide_eq_true_eq] at h2
      exact h2.2
    unfold inS
    rw [Bool.and_eq_true, hav_clo hl, testBit_havN C Ns hl]
    refine ⟨clo_sup hl hjC (by simp), h1, fun y hy _ => ?_⟩
    rw [Nat.testBit_two_pow, decide_eq_true_eq] at hy
    rw [← hy]; exact h2
end Go.Proofs.YtgpooflcbljidaaDoor
