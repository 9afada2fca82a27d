/-
  Plain: with rows and columns exchanged as many concepts cover; what the least lists give.
-/
import Derived.Test.YtfbkcdhmggjbaaaGreatDoorCvH
namespace Go.Proofs.YtfbkcdhmggjbaaaGreatDoor
open Go.RowKit

section
variable {C : Nat} {Ns L : List Nat}
theorem bit_trans (hl : Ns.length ≤ 4096) (i j : Nat) : ((mtrans C Ns C).getD j 0).testBit i = true ↔ j < C ∧ i < Ns.length ∧ (Ns.getD i 0).testBit j = true := by
  unfold mtrans
  rw [List.getD_eq_getElem?_getD, List.getElem?_map]
  by_cases hj : j < C
  · rw [List.getElem?_range hj]
    show (mcol C Ns (j : Nat)).testBit i = true ↔ _
    rw [testBit_mcol _ _ _ _ hl]
    by_cases hi : i < Ns.length
    · rw [mhas_in hi hj]
      exact ⟨fun h => ⟨hj, hi, h⟩, fun h => h.2.2⟩
    · constructor
      · intro h
        unfold mhas insideB at h
        simp only [Bool.and_eq_true, decide_eq_true_eq] at h
        omega
      · intro h; omega
  · rw [List.getElem?_eq_none (by rw [List.length_range]; omega)]
    simp [hj]
theorem cell_col (hin : rowsIn C Ns) {c : Nat × Nat} (h : c ∈ cellsOf Ns) : c.2 < C := by
  obtain ⟨h1, h2⟩ := mem_cellsOf.1 h
  rw [← hin c.1 h1, Nat.testBit_and, testBit_lowN, Bool.and_eq_true, decide_eq_true_eq] at h2
  exact h2.2
theorem cells_trans (hl : Ns.length ≤ 4096) (hin : rowsIn C Ns) (i j : Nat) : (j, i) ∈ cellsOf (mtrans C Ns C) ↔ (i, j) ∈ cellsOf Ns := by
  rw [mem_cellsOf, mem_cellsOf, mtrans_len, bit_trans hl]
  constructor
  · rintro ⟨_, _, h2, h3⟩; exact ⟨h2, h3⟩
  · rintro ⟨h1, h2⟩
    have := cell_col hin (c := (i, j)) (mem_cellsOf.2 ⟨h1, h2⟩)
    exact ⟨this, this, h1, h2⟩
theorem rows_trans (hl : Ns.length ≤ 4096) : rowsIn Ns.length (mtrans C Ns C) := fun j hj => by
  refine Nat.eq_of_testBit_eq fun x => ?_
  rw [Nat.testBit_and, testBit_lowN]
  cases hx : ((mtrans C Ns C).getD j 0).testBit x with
  | false => rfl
  | true => rw [decide_eq_true ((bit_trans hl x j).1 hx).2.1]; rfl
/-- b rectangles of ones cover all ones. -/
def CovRe (Ns : List Nat) (b : Nat) : Prop := ∃ l : List (Nat × Nat), l.length ≤ b ∧ (∀ r ∈ l, ∀ i j, r.1.testBit i = true → r.2.testBit j = true → (i, j) ∈ cellsOf Ns) ∧ ∀ c ∈ cellsOf Ns, ∃ r ∈ l, r.1.testBit c.1 = true ∧ r.2.testBit c.2 = true
theorem CovRe.trans (hl : Ns.length ≤ 4096) (hin : rowsIn C Ns) {b : Nat} (h : CovRe Ns b) : CovRe (mtrans C Ns C) b := by
  obtain ⟨l, h1, h2, h3⟩ := h
  refine ⟨l.map fun r => (r.2, r.1), by rw [List.length_map]; exact h1, fun r hr i j hi hj => ?_, fun c hc => ?_⟩
  · obtain ⟨r', hr', rfl⟩ := List.mem_map.1 hr
    exact (cells_trans hl hin j i).2 (h2 r' hr' j i hj hi)
  · obtain ⟨r, hr, h4, h5⟩ := h3 (c.2, c.1) ((cells_trans hl hin c.2 c.1).1 hc)
    exact ⟨(r.2, r.1), List.mem_map.2 ⟨r, hr, rfl⟩, h5, h4⟩
/-- What roles give, element for element. -/
theorem valid_of {D E : Nat} {Us Ps : List Nat} (hD : D = Ps.length) (hE : E = C) (hU : Us.length = Ns.length) (h : ∀ i, i < Ns.length → ∀ j, (∃ k, (Us.getD i 0).testBit k = true ∧ (Ps.getD k 0).testBit j = true) ↔ (Ns.getD i 0).testBit j = true) : validN C Ns D Us E Ps = true := by
  unfold validN
  have hb : ∀ i, i < Ns.length → (mprod Us Ps Us.length).getD i 0 = Ns.getD i 0 := fun i hi => by
    refine Nat.eq_of_testBit_eq fun j => ?_
    rw [Bool.eq_iff_iff, mprod_bit (by rw [hU]; exact hi)]
    exact h i hi j
  rw [decide_eq_true hD, Bool.true_and, decide_eq_true_eq]
  refine ⟨hE, by rw [mprod_len, hU], fun i hi => ?_, fun i hi => ?_⟩
  · rw [mprod_len, hU] at hi
    rw [hb i hi, Nat.and_self]
  · rw [hb i hi, Nat.and_self]
theorem users_bit (_hl : Ns.length ≤ 4096) {M : List Nat} (hM : M.length ≤ 4096) (i k : Nat) : ((usersN C Ns M).getD i 0).testBit k = true ↔ i < Ns.length ∧ k < M.length ∧ (havN C Ns (M.getD k 0)).testBit i = true := by
  unfold usersN
  rw [bit_trans (by rw [List.length_map]; exact hM), List.length_map]
  constructor
  · rintro ⟨h1, h2, h3⟩
    refine ⟨h1, h2, ?_⟩
    rw [List.getD_eq_getElem?_getD, List.getElem?_map, List.getElem?_eq_getElem h2] at h3
    rw [List.getD_eq_getElem?_getD, List.getElem?_eq_getElem h2]
    exact h3
  · rintro ⟨h1, h2, h3⟩
    refine ⟨h1, h2, ?_⟩
    rw [List.getD_eq_getElem?_getD, List.getElem?_map, List.getElem?_eq_getElem h2]
    rw [List.getD_eq_getElem?_getD, List.getElem?_eq_getElem h2] at h3
    exact h3
end
end Go.Proofs.YtfbkcdhmggjbaaaGreatDoor
