/-
  Plain: with rows and columns exchanged as many concepts cover; what the least lists give.
-/
import Derived.Test.YtlakjhhpdbgekaaGreatDoorCvH
namespace Go.Proofs.YtlakjhhpdbgekaaGreatDoor
open Go.RowKit

section
variable {C : Nat} {Ns L : List Nat}
theorem bit_trans (hl : Ns.length ≤ 4096) (i j : Nat) : ((mtrans C Ns C).getD j 0).testBit i = true ↔ j < C ∧ i < Ns.length ∧ (Ns.getD i 0).testBit j = true := by
  unfold mtrans
  rw [List.getD_eq_getElem?_getD, List.getElem?_map]
  by_cases hj : j < C
  · rw [List.getElem?_range hj]
    show (mcol C Ns (j : Nat)).testBit i = true ↔ _
    rw [testBit_mcol _ _ _ _ hl]
    by_cases hi : i < Ns.length
    · rw [mhas_in hi hj]
      exact ⟨fun h => ⟨hj, hi, h⟩, fun h => h.2.2⟩
    · constructor
      · intro h
        unfold mhas insideB at h
        simp only [Bool.and_eq_true, decide_eq_true_eq] at h
        omega
      · intro h; omega
  · rw [List.getElem?_eq_none (by rw [List.length_range]; omega)]
    simp [hj]
theorem cell_col (hin : rowsIn C Ns) {c : Nat × Nat} (h : c ∈ cellsOf Ns) : c.2 < C := by
  obtain ⟨h1, h2⟩ := mem_cellsOf.1 h
  rw [← hin c.1 h1, Nat.testBit_and, testBit_lowN, Bool.and_eq_true, decide_eq_true_eq] at h2
  exact h2.2
theorem cells_trans (hl : Ns.length ≤ 4096) (hin : rowsIn C Ns) (i j : Nat) : (j, i) ∈ cellsOf (mtrans C Ns C) ↔ (i, j) ∈ cellsOf Ns := by
  rw [mem_cellsOf, mem_cellsOf, mtrans_len, bit_trans hl]
  constructor
  · rintro ⟨_, _, h2, h3⟩; exact ⟨h2, h3⟩
  · rintro ⟨h1, h2⟩
    have := cell_col hin (c := (i, j)) (mem_cellsOf.2 ⟨h1, h2⟩)
    exact ⟨this, this, h1, h2⟩
theorem rows_trans (hl : Ns.length ≤ 4096) : rowsIn Ns.length (mtrans C Ns C) := fun j hj => by
  refine Nat.eq_of_testBit_eq fun x => ?_
  rw [Nat.testBit_and, testBit_lowN]
  cases hx : ((mtrans C Ns C).getD j 0).testBit x with
  | false => rfl
  | true => rw [decide_eq_true ((bit_trans hl x j).1 hx).2.1]; rfl
/-- b rectangles of ones cover all ones. -/
def CovRe (Ns : List Nat) (b : Nat) : Prop := ∃ l : List (Nat × Nat), l.length ≤ b ∧ (∀ r ∈ l, ∀ i j, r.1.testBit i = true → r.2.testBit j = true → (i, j) ∈ cellsOf Ns) ∧ ∀ c ∈ cellsOf Ns, ∃ r ∈ l, r.1.testBit c.1 = true ∧ r.2.testBit c.2 = true
theorem CovRe.trans (hl : Ns.length ≤ 4096) (hin : rowsIn C Ns) {b : Nat} (h : CovRe Ns b) : CovRe (mtrans C Ns C) b := by
  obtain ⟨l, h1, h2, h3⟩ := h
  refine ⟨l.map fun r => (r.2, r.1), by rw [List.length_map]; exact h1, fun r hr i j hi hj => ?_, fun c hc => ?_⟩
  · obtain ⟨r', hr', rfl⟩ := List.mem_map.1 hr
    exact (cells_trans hl hin j i).2 (h2 r' hr' j i hj hi)
  · obtain ⟨r, hr, h4, h5⟩ := h3 (c.2, c.1) ((cells_trans hl hin c.2 c.1).1 hc)
    exact ⟨(r.2, r.1), List.mem_map.2 ⟨r, hr, rfl⟩, h5, h4⟩
theorem CovRe.back (hl : Ns.length ≤ 4096) (hin : rowsIn C Ns) {b : Nat} (h : CovRe (mtrans C Ns C) b) : CovRe Ns b := by
  obtain ⟨l, h1, h2, h3⟩ := h
  refine ⟨l.map fun r => (r.2, r.1), by rw [List.length_map]; exact h1, fun r hr i j hi hj => ?_, fun c hc => ?_⟩
  · obtain ⟨r', hr', rfl⟩ := List.mem_map.1 hr
    exact (cells_trans hl hin i j).1 (h2 r' hr' j i hj hi)
  · obtain ⟨r, hr, h4, h5⟩ := h3 (c.2, c.1) ((cells_trans hl hin c.1 c.2).2 hc)
    exact ⟨(r.2, r.1), List.mem_map.2 ⟨r, hr, rfl⟩, h5, h4⟩
theorem CovK.rect (hl : Ns.length ≤ 4096) {b : Nat} (h : CovK C Ns (allL C Ns) 0 b (cellsOf Ns)) : CovRe Ns b := by
  obtain ⟨ks, h1, h2, h3⟩ := h
  refine ⟨ks.map fun k => (havN C Ns ((allL C Ns).getD k 0), (allL C Ns).getD k 0), by rw [List.length_map]; exact h1, fun r hr i j hi hj => ?_, fun c hc => ?_⟩
  · obtain ⟨k, hk, rfl⟩ := List.mem_map.1 hr
    have hm : (allL C Ns).getD k 0 ∈ allL C Ns := by rw [List.getD_eq_getElem?_getD, List.getElem?_eq_getElem (h2 k hk).2]; exact List.getElem_mem _
    have hc := allL_clo _ hm
    have hjC : j < C := by dsimp only at hj; rw [← hc] at hj; exact comN_lt hj
    obtain ⟨q1, q2⟩ := (testBit_havN C Ns hl _ _).1 hi
    exact mem_cellsOf.2 ⟨q1, q2 j hj hjC⟩
  · obtain ⟨k, hk, he⟩ := h3 c hc
    unfold inS at he
    rw [Bool.and_eq_true] at he
    exact ⟨_, List.mem_map.2 ⟨k, hk, rfl⟩, he.2, he.1⟩
theorem CovRe.con (hl : Ns.length ≤ 4096) (hin : rowsIn C Ns) {b : Nat} (h : CovRe Ns b) : CovK C Ns (allL C Ns) 0 b (cellsOf Ns) := by
  obtain ⟨l, h1, h2, h3⟩ := h
  have key : ∀ l' : List (Nat × Nat), (∀ r ∈ l', ∀ i j, r.1.testBit i = true → r.2.testBit j = true → (i, j) ∈ cellsOf Ns) →
      ∃ ks : List Nat, ks.length ≤ l'.length ∧ (∀ k ∈ ks, 0 ≤ k ∧ k < (allL C Ns).length) ∧ ∀ c ∈ cellsOf Ns, (∃ r ∈ l', r.1.testBit c.1 = true ∧ r.2.testBit c.2 = true) → ∃ k ∈ ks, inS C Ns ((allL C Ns).getD k 0) c = true := by
    intro l'
    induction l' with
    | nil => intro _; exact ⟨[], by simp, by simp, fun c _ ⟨r, hr, _⟩ => by cases hr⟩
    | cons r l' ih =>
      intro hr
      obtain ⟨ks, k1, k2, k3⟩ := ih fun r' hr' => hr r' (.tail _ hr')
      by_cases hz : ∃ i j, r.1.testBit i = true ∧ r.2.testBit j = true
      · obtain ⟨i, j, hi, hj⟩ := hz
        have hrow : ∀ x, r.1.testBit x = true → (havN C Ns (cloN C Ns r.2)).testBit x = true := fun x hx => by
          rw [hav_clo hl, testBit_havN C Ns hl]
          refine ⟨(mem_cellsOf.1 (hr r (.head _) x j hx hj)).1, fun y hy _ => (mem_cellsOf.1 (hr r (.head _) x y hx hy)).2⟩
        have hcol : ∀ y, r.2.testBit y = true → (cloN C Ns r.2).testBit y = true := fun y hy => clo_sup hl (cell_col hin (hr r (.head _) i y hi hy)) hy
        have hm : cloN C Ns r.2 ∈ allL C Ns := by
          refine (mem_allTo (2 ^ C)).2 ⟨clo_lt C Ns _, fun e => ?_, ?_⟩
          · have := hcol j hj; rw [e] at this; simp at this
          · unfold oneS
            rw [Bool.and_eq_true]
            refine ⟨decide_eq_true (clo_clo hl _), ?_⟩
            rw [Bool.not_eq_true', decide_eq_false_iff_not]
            intro e; have := hrow i hi; rw [e] at this; simp at this
        obtain ⟨k, hk⟩ := List.mem_iff_getElem?.1 hm
        refine ⟨k :: ks, by rw [List.length_cons, List.length_cons]; omega, fun k' hk' => ?_, fun c hc ⟨r', hr', e1, e2⟩ => ?_⟩
        · rcases List.mem_cons.1 hk' with rfl | hk'
          · exact ⟨Nat.zero_le _, (List.getElem?_eq_some_iff.1 hk).1⟩
          · exact k2 k' hk'
        · rcases List.mem_cons.1 hr' with rfl | hr'
          · refine ⟨k, .head _, ?_⟩
            rw [List.getD_eq_getElem?_getD, hk]
            show inS C Ns (cloN C Ns r'.2) c = true
            unfold inS
            rw [hcol _ e2, hrow _ e1]; rfl
          · obtain ⟨k', hk', he⟩ := k3 c hc ⟨r', hr', e1, e2⟩
            exact ⟨k', .tail _ hk', he⟩
      · refine ⟨ks, by rw [List.length_cons]; omega, k2, fun c hc ⟨r', hr', e1, e2⟩ => ?_⟩
        rcases List.mem_cons.1 hr' with rfl | hr'
        · exact absurd ⟨c.1, c.2, e1, e2⟩ hz
        · exact k3 c hc ⟨r', hr', e1, e2⟩
  obtain ⟨ks, k1, k2, k3⟩ := key l h2
  exact ⟨ks, Nat.le_trans k1 h1, k2, fun c hc => k3 c hc (h3 c hc)⟩
/-- The least number is that of the rectangles. -/
theorem sizeM_iff (hl : Ns.length ≤ 4096) (hin : rowsIn C Ns) (b : Nat) : sizeM C Ns ≤ b ↔ CovRe Ns b := by
  have hs := sizeF_spec (C := C) (Ns := Ns) (L := allL C Ns) (n := Ns.length) (b := 0) (by rw [Nat.zero_add]; exact cov_rows hl hin)
  constructor
  · intro h
    exact (CovK.mono hs.2.2.1 h).rect hl
  · intro h
    refine Nat.le_of_not_lt fun hlt => hs.2.2.2 b (Nat.zero_le _) hlt (h.con hl hin)
theorem sizeM_trans (hl : Ns.length ≤ 4096) (hC : C ≤ 4096) (hin : rowsIn C Ns) : sizeM Ns.length (mtrans C Ns C) = sizeM C Ns := by
  have hl' : (mtrans C Ns C).length ≤ 4096 := by rw [mtrans_len]; exact hC
  have h1 := sizeM_iff (C := Ns.length) (Ns := mtrans C Ns C) hl' (rows_trans hl)
  have h2 := sizeM_iff (C := C) (Ns := Ns) hl hin
  refine Nat.le_antisymm ((h1 _).2 (((h2 _).1 (Nat.le_refl _)).trans hl hin)) ((h2 _).2 (((h1 _).1 (Nat.le_refl _)).back hl hin))
/-- The least list covers. -/
theorem leastK_cov : ∀ (n k b : Nat) (o : List (Nat × Nat)), k + n = L.length → CovK C Ns L k b o → (leastK C Ns L n k b o).length ≤ b ∧ ∀ c ∈ o, ∃ j ∈ leastK C Ns L n k b o, inS C Ns (L.getD j 0) c = true
  | 0, k, b, o, hk, h => by
    rw [leastK]
    refine ⟨Nat.zero_le _, fun c hc => ?_⟩
    obtain ⟨ks, _, h2, h3⟩ := h
    obtain ⟨j, hj, _⟩ := h3 c hc
    have := h2 j hj
    omega
  | n + 1, k, b, o, hk, h => by
    rw [leastK]
    by_cases hb : b = 0
    · rw [if_pos hb]
      refine ⟨Nat.zero_le _, fun c hc => ?_⟩
      obtain ⟨ks, h1, _, h3⟩ := h
      obtain ⟨j, hj, _⟩ := h3 c hc
      cases ks with
      | nil => cases hj
      | cons => rw [hb] at h1; simp at h1
    rw [if_neg hb]
    by_cases hc : covK C Ns L (k + 1) (b - 1) (lessL C Ns o (L.getD k 0)) = true
    · rw [if_pos hc]
      obtain ⟨i1, i2⟩ := leastK_cov n (k + 1) (b - 1) _ (by omega) ((covK_iff _ _).1 hc)
      refine ⟨by rw [List.length_cons]; omega, fun c hc => ?_⟩
      cases hi : inS C Ns (L.getD k 0) c with
      | true => exact ⟨k, .head _, hi⟩
      | false =>
        obtain ⟨j, hj, he⟩ := i2 c (mem_lessL.2 ⟨hc, hi⟩)
        exact ⟨j, .tail _ hj, he⟩
    · rw [if_neg hc]
      refine leastK_cov n (k + 1) b o (by omega) ?_
      obtain ⟨ks, h1, h2, h3⟩ := h
      have hnk : k ∉ ks := fun hk' => hc ((covK_iff _ _).2 ⟨ks.filter (fun j => decide (j ≠ k)), ?_, fun j hj => ?_, fun c hc => ?_⟩)
      · refine ⟨ks, h1, fun j hj => ?_, h3⟩
        have h4 := h2 j hj
        have h5 : j ≠ k := fun e => hnk (e ▸ hj)
        omega
      · have hlt : (ks.filter fun j => decide (j ≠ k)).length < ks.length := by
          refine Nat.lt_of_le_of_ne (List.length_filter_le _ _) fun e => ?_
          have := (List.filter_eq_self.1 (List.filter_sublist.eq_of_length e)) k hk'
          simp at this
        omega
      · rw [List.mem_filter, decide_eq_true_eq] at hj
        have h4 := h2 j hj.1
        omega
      · obtain ⟨hc1, hc2⟩ := mem_lessL.1 hc
        obtain ⟨j, hj, he⟩ := h3 c hc1
        refine ⟨j, List.mem_filter.2 ⟨hj, decide_eq_true fun e => ?_⟩, he⟩
        rw [e, hc2] at he; cases he
theorem minK_spec (hl : Ns.length ≤ 4096) (hin : rowsIn C Ns) : (minC C Ns).length = sizeM C Ns ∧ ∀ c ∈ cellsOf Ns, ∃ s ∈ minC C Ns, inS C Ns s c = true := by
  have hs := sizeF_spec (C := C) (Ns := Ns) (L := allL C Ns) (n := Ns.length) (b := 0) (by rw [Nat.zero_add]; exact cov_rows hl hin)
  obtain ⟨h1, h2⟩ := leastK_cov (C := C) (Ns := Ns) (L := allL C Ns) (allL C Ns).length 0 (sizeM C Ns) (cellsOf Ns) (by omega) hs.2.2.1
  have hlt := minK_lt C Ns
  have hlen : (minC C Ns).length = (minK C Ns).length := by unfold minC atL; rw [List.length_map]
  refine ⟨?_, fun c hc => ?_⟩
  · rw [hlen]
    refine Nat.le_antisymm h1 (Nat.le_of_not_lt fun hlt2 => ?_)
    exact sizeM_no hl hin hlt2 ⟨minK C Ns, Nat.le_refl _, fun k hk => ⟨Nat.zero_le _, hlt k hk⟩, h2⟩
  · obtain ⟨j, hj, he⟩ := h2 c hc
    exact ⟨_, List.mem_map.2 ⟨j, hj, rfl⟩, he⟩
/-- What roles give, element for element. -/
theorem valid_of {D E : Nat} {Us Ps : List Nat} (hD : D = Ps.length) (hE : E = C) (hU : Us.length = Ns.length) (h : ∀ i, i < Ns.length → ∀ j, (∃ k, (Us.getD i 0).testBit k = true ∧ (Ps.getD k 0).testBit j = true) ↔ (Ns.getD i 0).testBit j = true) : validN C Ns D Us E Ps = true := by
  unfold validN
  have hb : ∀ i, i < Ns.length → (mprod Us Ps Us.length).getD i 0 = Ns.getD i 0 := fun i hi => by
    refine Nat.eq_of_testBit_eq fun j => ?_
    rw [Bool.eq_iff_iff, mprod_bit (by rw [hU]; exact hi)]
    exact h i hi j
  rw [decide_eq_true hD, Bool.true_and, decide_eq_true_eq]
  refine ⟨hE, by rw [mprod_len, hU], fun i hi => ?_, fun i hi => ?_⟩
  · rw [mprod_len, hU] at hi
    rw [hb i hi, Nat.and_self]
  · rw [hb i hi, Nat.and_self]
theorem users_bit (_hl : Ns.length ≤ 4096) {M : List Nat} (hM : M.length ≤ 4096) (i k : Nat) : ((usersN C Ns M).getD i 0).testBit k = true ↔ i < Ns.length ∧ k < M.length ∧ (havN C Ns (M.getD k 0)).testBit i = true := by
  unfold usersN
  rw [bit_trans (by rw [List.length_map]; exact hM), List.length_map]
  constructor
  · rintro ⟨h1, h2, h3⟩
    refine ⟨h1, h2, ?_⟩
    rw [List.getD_eq_getElem?_getD, List.getElem?_map, List.getElem?_eq_getElem h2] at h3
    rw [List.getD_eq_getElem?_getD, List.getElem?_eq_getElem h2]
    exact h3
  · rintro ⟨h1, h2, h3⟩
    refine ⟨h1, h2, ?_⟩
    rw [List.getD_eq_getElem?_getD, List.getElem?_map, List.getElem?_eq_getElem h2]
    rw [List.getD_eq_getElem?_getD, List.getElem?_eq_getElem h2] at h3
    exact h3
theorem mem_getD {l : List Nat} {s : Nat} : s ∈ l ↔ ∃ k, k < l.length ∧ l.getD k 0 = s := by
  constructor
  · intro h
    obtain ⟨k, hk⟩ := List.mem_iff_getElem?.1 h
    obtain ⟨h1, rfl⟩ := List.getElem?_eq_some_iff.1 hk
    exact ⟨k, h1, by rw [List.getD_eq_getElem?_getD, hk]; rfl⟩
  · rintro ⟨k, hk, rfl⟩
    rw [List.getD_eq_getElem?_getD, List.getElem?_eq_getElem hk]
    exact List.getElem_mem _
/-- Which ones the concepts of the least list give. -/
theorem min_ones (hl : Ns.length ≤ 4096) (hin : rowsIn C Ns) (i j : Nat) : (∃ k, k < (minC C Ns).length ∧ (havN C Ns ((minC C Ns).getD k 0)).testBit i = true ∧ ((minC C Ns).getD k 0).testBit j = true) ↔ i < Ns.length ∧ (Ns.getD i 0).testBit j = true := by
  constructor
  · rintro ⟨k, hk, h1, h2⟩
    have hm : (minC C Ns).getD k 0 ∈ minC C Ns := mem_getD.2 ⟨k, hk, rfl⟩
    have hc := minC_clo _ hm
    have hjC : j < C := by rw [← hc] at h2; exact comN_lt h2
    obtain ⟨q1, q2⟩ := (testBit_havN C Ns hl _ _).1 h1
    exact ⟨q1, q2 j h2 hjC⟩
  · rintro ⟨h1, h2⟩
    obtain ⟨s, hs, he⟩ := (minK_spec hl hin).2 (i, j) (mem_cellsOf.2 ⟨h1, h2⟩)
    obtain ⟨k, hk, rfl⟩ := mem_getD.1 hs
    unfold inS at he
    rw [Bool.and_eq_true] at he
    exact ⟨k, hk, he.2, he.1⟩
/-- The roles of the least list give the matrix. -/
theorem min_valid (hl : Ns.length ≤ 4096) (hin : rowsIn C Ns) (hM : (minC C Ns).length ≤ 4096) : validN C Ns (minC C Ns).length (usersN C Ns (minC C Ns)) C (minC C Ns) = true := by
  refine valid_of rfl rfl (by unfold usersN; rw [mtrans_len]) fun i hi j => ?_
  rw [show ((Ns.getD i 0).testBit j = true) ↔ (i < Ns.length ∧ (Ns.getD i 0).testBit j = true) from ⟨fun h => ⟨hi, h⟩, fun h => h.2⟩, ← min_ones hl hin]
  constructor
  · rintro ⟨k, h1, h2⟩
    obtain ⟨_, q2, q3⟩ := (users_bit hl hM i k).1 h1
    exact ⟨k, q2, q3, h2⟩
  · rintro ⟨k, h1, h2, h3⟩
    exact ⟨k, (users_bit hl hM i k).2 ⟨hi, h1, h2⟩, h3⟩
/-- Exchanged, the roles of the exchanged matrix give the matrix. -/
theorem turn_valid (hl : Ns.length ≤ 4096) (hC : C ≤ 4096) (hin : rowsIn C Ns) (hM : (minC Ns.length (mtrans C Ns C)).length ≤ 4096) :
    validN C Ns (minC Ns.length (mtrans C Ns C)).length (mtrans Ns.length (minC Ns.length (mtrans C Ns C)) Ns.length) (usersN Ns.length (mtrans C Ns C) (minC Ns.length (mtrans C Ns C))).length
      (mtrans (minC Ns.length (mtrans C Ns C)).length (usersN Ns.length (mtrans C Ns C) (minC Ns.length (mtrans C Ns C))) (minC Ns.length (mtrans C Ns C)).length) = true := by
  have hl' : (mtrans C Ns C).length ≤ 4096 := by rw [mtrans_len]; exact hC
  have hul : (usersN Ns.length (mtrans C Ns C) (minC Ns.length (mtrans C Ns C))).length = C := by unfold usersN; rw [mtrans_len, mtrans_len]
  refine valid_of (by rw [mtrans_len]) hul (by rw [mtrans_len]) fun i hi j => ?_
  have hm := min_ones (C := Ns.length) (Ns := mtrans C Ns C) hl' (rows_trans hl) j i
  rw [mtrans_len, bit_trans hl] at hm
  constructor
  · rintro ⟨k, h1, h2⟩
    obtain ⟨_, q2, q3⟩ := (bit_trans hM k i).1 h1
    obtain ⟨_, q5, q6⟩ := (bit_trans (by rw [hul]; exact hC) j k).1 h2
    obtain ⟨_, _, q7⟩ := (users_bit hl' hM j k).1 q6
    exact (hm.1 ⟨k, q2, q7, q3⟩).2.2.2
  · intro h
    have hjC := cell_col hin (c := (i, j)) (mem_cellsOf.2 ⟨hi, h⟩)
    obtain ⟨k, h1, h2, h3⟩ := hm.2 ⟨hjC, hjC, hi, h⟩
    exact ⟨k, (bit_trans hM k i).2 ⟨hi, h1, h3⟩, (bit_trans (by rw [hul]; exact hC) j k).2 ⟨h1, by rw [hul]; exact hjC, (users_bit hl' hM j k).2 ⟨by rw [mtrans_len]; exact hjC, h1, h2⟩⟩⟩
end
end Go.Proofs.YtlakjhhpdbgekaaGreatDoor
