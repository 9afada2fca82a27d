/-
  The reference of chapter 47: covers, Least.
-/
import Derived.Test.YthnphekhgaefdaaDoorRrA
import Derived.Test.YthnphekhgaefdaaDoorRnA
namespace Go.Proofs.YthnphekhgaefdaaDoor
open Go.RowKit

theorem cells_has {C : Nat} {M : List (List Bool)} (hC : C ≤ 4096) {c : Nat × Nat} (h : c ∈ cellsOf (nsOf C M)) : c.1 < M.length ∧ c.2 < C ∧ hasR C M c.1 c.2 = true := by
  obtain ⟨h1, h2⟩ := mem_cellsOf.1 h
  rw [nsTo_len] at h1
  rw [nsOf_get h1, testBit_rowN _ _ _ _ hC, hasR_nat] at h2
  simp only [Bool.and_eq_true, decide_eq_true_eq] at h2
  exact ⟨h1, h2.1.2, by rw [hasR_nat]; simp [h1, h2.1.2, h2.2]⟩
/-- As many concepts as columns cover all ones. -/
theorem cov_cols {C : Nat} {Ns : List Nat} (hl : Ns.length ≤ 4096) (hin : rowsIn C Ns) (o : List (Nat × Nat)) (ho : ∀ c ∈ o, c ∈ cellsOf Ns) : Cov C Ns C o := by
  refine ⟨(List.range C).map fun j => cloN C Ns (2 ^ j), by simp, fun s hs => ?_, fun c hc => ?_⟩
  · obtain ⟨j, _, rfl⟩ := List.mem_map.1 hs
    exact clo_clo hl _
  · obtain ⟨h1, h2⟩ := mem_cellsOf.1 (ho c hc)
    have hjC : c.2 < C := by
      have := hin c.1 h1
      rw [← this, Nat.testBit_and, testBit_lowN, Bool.and_eq_true, decide_eq_true_eq] at h2
      exact h2.2
    refine ⟨_, List.mem_map.2 ⟨c.2, List.mem_range.2 hjC, rfl⟩, ?_⟩
    unfold inS
    rw [Bool.and_eq_true, hav_clo hl, testBit_havN C Ns hl]
    refine ⟨clo_sup hl hjC (by simp), h1, fun y hy _ => ?_⟩
    rw [Nat.testBit_two_pow, decide_eq_true_eq] at hy
    rw [← hy]; exact h2
theorem con_len {C : Nat} (Ns : List Nat) (i j : Nat) : (conL C Ns i j).length ≤ 2 ^ C := by
  have hnd : (conL C Ns i j).Nodup := (conL_lec C Ns i j).imp fun {x y} h e => by subst e; rw [lecR_irrefl] at h; cases h
  refine Nat.le_trans (List.Nodup.length_le_of_subset (l₂ := List.range (2 ^ C)) hnd fun s hs => ?_) (by simp)
  rw [mem_conL, inC, Bool.and_eq_true, Bool.and_eq_true, decide_eq_true_eq] at hs
  rw [List.mem_range, ← hs.1.1]
  exact clo_lt C Ns s
theorem con_lt64 {C : Nat} {Ns : List Nat} {i j s : Nat} (hC : C ≤ 60) (h : s ∈ conL C Ns i j) : s < 2 ^ 64 := by
  rw [mem_conL, inC, Bool.and_eq_true, Bool.and_eq_true, decide_eq_true_eq] at h
  rw [← h.1.1]
  exact Nat.lt_of_lt_of_le (clo_lt C _ s) (Nat.pow_le_pow_right (by omega) (by omega))
theorem cells_len {C : Nat} {Ns : List Nat} (hin : rowsIn C Ns) (hC : C ≤ 12) (hR : Ns.length ≤ 60) : (cellsOf Ns).length ≤ 1000 := by
  have key : ∀ l : List Nat, (∀ i ∈ l, i < Ns.length) → (l.flatMap fun i => (mems (Ns.getD i 0)).map fun j => (i, j)).length ≤ l.length * C := by
    intro l
    induction l with
    | nil => intro _; simp
    | cons i l ih =>
      intro hl
      have h1 := ih fun k hk => hl k (by simp [hk])
      have h2 : (mems (Ns.getD i 0)).length ≤ C := by
        rw [mems_under (n := C) fun j hj => ?_]
        · exact Nat.le_trans (List.length_filter_le _ _) (by simp)
        · have := hin i (hl i (by simp))
          rw [← this, Nat.testBit_and, testBit_lowN, Bool.and_eq_true, decide_eq_true_eq] at hj
          exact hj.2
      rw [List.flatMap_cons, List.length_append, List.length_map, List.length_cons, Nat.add_mul, Nat.one_mul]
      omega
  have := key (List.range Ns.length) fun i hi => List.mem_range.1 hi
  rw [List.length_range] at this
  exact Nat.le_trans this (Nat.le_trans (Nat.mul_le_mul hR hC) (by decide))
namespace Mix2
end Mix2
end Go.Proofs.YthnphekhgaefdaaDoor
