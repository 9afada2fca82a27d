import Derived.Test.YtlakjhhpdbgekaaGreatDoorCvT
/-
  Plain: the reference's search of chapter 48 over the cells that are not covered yet; it finds what the program finds.
-/
namespace Go.Proofs.YtlakjhhpdbgekaaGreatDoor
open Go.RowKit

section
variable {C : Nat} {Ns L : List Nat}
/-- The first answer from number k on, of m numbers. -/
def firstK (g : Nat → Option (List Nat)) : Nat → Nat → Option (List Nat)
  | _, 0 => none
  | k, m + 1 => match g k with
    | some l => some l
    | none => firstK g (k + 1) m
/-- What the reference's choose answers: n numbers from k on. -/
def chooseK (C : Nat) (Ns L : List Nat) : Nat → Nat → List (Nat × Nat) → Option (List Nat)
  | 0, _, o => if o = [] then some [] else none
  | n + 1, k, o => if o = [] then some [] else
    firstK (fun j => if o.countP (inS C Ns (L.getD j 0)) = 0 then none else (chooseK C Ns L n (j + 1) (lessL C Ns o (L.getD j 0))).map (j :: ·)) k (L.length - k)
/-- The same over the sets themselves. -/
def firstS (g : Nat → List Nat → Option (List Nat)) : List Nat → Option (List Nat)
  | [] => none
  | s :: l => match g s l with
    | some l => some l
    | none => firstS g l
def chooseS (C : Nat) (Ns : List Nat) : Nat → List Nat → List (Nat × Nat) → Option (List Nat)
  | 0, _, o => if o = [] then some [] else none
  | n + 1, l, o => if o = [] then some [] else
    firstS (fun s l => if o.countP (inS C Ns s) = 0 then none else (chooseS C Ns n l (lessL C Ns o s)).map (s :: ·)) l
theorem drop_at {k : Nat} (h : k < L.length) : L.drop k = L.getD k 0 :: L.drop (k + 1) := by
  rw [List.drop_eq_getElem_cons h, getD_at h]
theorem firstK_S {g : Nat → Option (List Nat)} {h : Nat → List Nat → Option (List Nat)} (hg : ∀ k, k < L.length → (g k).map (atL L) = h (L.getD k 0) (L.drop (k + 1))) : ∀ (m k : Nat), k + m = L.length → (firstK g k m).map (atL L) = firstS h (L.drop k)
  | 0, k, hk => by rw [List.drop_eq_nil_of_le (by omega)]; rfl
  | m + 1, k, hk => by
    have h1 := hg k (by omega)
    have ih := firstK_S hg m (k + 1) (by omega)
    rw [drop_at (by omega), firstK, firstS]
    cases e : g k with
    | some l => rw [e] at h1; rw [← h1]; rfl
    | none => rw [e] at h1; rw [← h1]; exact ih
theorem chooseK_S : ∀ (n k : Nat) (o : List (Nat × Nat)), k ≤ L.length → (chooseK C Ns L n k o).map (atL L) = chooseS C Ns n (L.drop k) o
  | 0, k, o, hk => by rw [chooseK, chooseS]; split <;> rfl
  | n + 1, k, o, hk => by
    rw [chooseK, chooseS]
    split
    · rfl
    · refine firstK_S (fun j hj => ?_) _ _ (by omega)
      split
      · rfl
      · rw [← chooseK_S n (j + 1) _ (by omega), Option.map_map, Option.map_map]
        rfl
theorem lessL_sub (o : List (Nat × Nat)) (s : Nat) : (lessL C Ns o s).Sublist o := List.filter_sublist
/-- Sets that cover nothing may be left out. -/
theorem chooseS_filter {p : Nat → Bool} (hp : ∀ s, p s = false → ∀ o : List (Nat × Nat), o.countP (inS C Ns s) = 0) : ∀ (n : Nat) (l : List Nat) (o : List (Nat × Nat)), chooseS C Ns n (l.filter p) o = chooseS C Ns n l o
  | 0, l, o => by rw [chooseS, chooseS]
  | n + 1, l, o => by
    rw [chooseS, chooseS]
    split
    · rfl
    · induction l with
      | nil => rfl
      | cons s l ih =>
        cases hs : p s with
        | true =>
          rw [List.filter_cons_of_pos hs, firstS, firstS, ih, chooseS_filter hp n l]
        | false =>
          rw [List.filter_cons_of_neg (by simp [hs]), firstS, if_pos (hp s hs o)]
          exact ih
theorem empty_no {s : Nat} (h : (!decide (havN C Ns s = 0) && !decide (s = 0)) = false) (o : List (Nat × Nat)) : o.countP (inS C Ns s) = 0 := by
  rw [List.countP_eq_zero]
  intro c _ hc
  unfold inS at hc
  rw [Bool.and_eq_true] at hc
  rw [Bool.and_eq_false_iff, Bool.not_eq_false', Bool.not_eq_false', decide_eq_true_eq, decide_eq_true_eq] at h
  rcases h with h | h
  · rw [h] at hc; simp at hc
  · rw [h] at hc; simp at hc
/-- Over all closed sets, and over those with a one. -/
theorem choose_all (n : Nat) (o : List (Nat × Nat)) : (chooseK C Ns (closL C Ns) n 0 o).map (atL (closL C Ns)) = (chooseK C Ns (allL C Ns) n 0 o).map (atL (allL C Ns)) := by
  rw [chooseK_S _ _ _ (Nat.zero_le _), chooseK_S _ _ _ (Nat.zero_le _), List.drop_zero, List.drop_zero, ← closL_all, chooseS_filter fun s h o => empty_no h o]
theorem firstK_some {g : Nat → Option (List Nat)} {l : List Nat} : ∀ (m k : Nat), firstK g k m = some l → ∃ j, k ≤ j ∧ j < k + m ∧ g j = some l
  | 0, k, h => by cases h
  | m + 1, k, h => by
    rw [firstK] at h
    cases e : g k with
    | some l' => rw [e] at h; exact ⟨k, Nat.le_refl _, by omega, by rw [e]; exact h⟩
    | none =>
      rw [e] at h
      obtain ⟨j, h1, h2, h3⟩ := firstK_some m (k + 1) h
      exact ⟨j, by omega, by omega, h3⟩
theorem choose_cov : ∀ (n k : Nat) (o : List (Nat × Nat)) (l : List Nat), chooseK C Ns L n k o = some l → l.length ≤ n ∧ (∀ j ∈ l, k ≤ j ∧ j < L.length) ∧ ∀ c ∈ o, ∃ j ∈ l, inS C Ns (L.getD j 0) c = true
  | 0, k, o, l, h => by
    rw [chooseK] at h
    split at h
    · rename_i ho; cases h; subst ho; simp
    · cases h
  | n + 1, k, o, l, h => by
    rw [chooseK] at h
    split at h
    · rename_i ho; cases h; subst ho; simp
    · obtain ⟨j, h1, h2, h3⟩ := firstK_some _ _ h
      split at h3
      · cases h3
      · cases e : chooseK C Ns L n (j + 1) (lessL C Ns o (L.getD j 0)) with
        | none => rw [e] at h3; cases h3
        | some l' =>
          rw [e] at h3
          cases h3
          obtain ⟨i1, i2, i3⟩ := choose_cov n (j + 1) _ l' e
          refine ⟨by simp; omega, fun x hx => ?_, fun c hc => ?_⟩
          · rcases List.mem_cons.1 hx with rfl | hx
            · omega
            · have := i2 x hx; omega
          · cases hi : inS C Ns (L.getD j 0) c with
            | true => exact ⟨j, by simp, hi⟩
            | false =>
              obtain ⟨x, hx, h⟩ := i3 c (mem_lessL.2 ⟨hc, hi⟩)
              exact ⟨x, by simp [hx], h⟩
theorem choose_covK {n k : Nat} {o : List (Nat × Nat)} {l : List Nat} (h : chooseK C Ns L n k o = some l) : CovK C Ns L k n o := by
  obtain ⟨h1, h2, h3⟩ := choose_cov _ _ _ _ h
  exact ⟨l, h1, h2, h3⟩
theorem CovK.add {k b : Nat} {o : List (Nat × Nat)} (hk : k < L.length) (h : CovK C Ns L (k + 1) b (lessL C Ns o (L.getD k 0))) : CovK C Ns L k (b + 1) o := by
  obtain ⟨ks, h1, h2, h3⟩ := h
  refine ⟨k :: ks, by simp; omega, fun j hj => ?_, fun c hc => ?_⟩
  · rcases List.mem_cons.1 hj with rfl | hj
    · omega
    · have := h2 j hj; omega
  · cases hi : inS C Ns (L.getD k 0) c with
    | true => exact ⟨k, by simp, hi⟩
    | false =>
      obtain ⟨x, hx, h⟩ := h3 c (mem_lessL.2 ⟨hc, hi⟩)
      exact ⟨x, by simp [hx], h⟩
theorem CovK.down {k b : Nat} {o : List (Nat × Nat)} (h : CovK C Ns L (k + 1) b o) : CovK C Ns L k b o := by
  obtain ⟨ks, h1, h2, h3⟩ := h
  exact ⟨ks, h1, fun j hj => by have := h2 j hj; omega, h3⟩
/-- What is covered, but not without number k, is covered by the later numbers. -/
theorem CovK.later {k b : Nat} {o : List (Nat × Nat)} (h : CovK C Ns L k (b + 1) o) (hn : ¬ CovK C Ns L (k + 1) b (lessL C Ns o (L.getD k 0))) : CovK C Ns L (k + 1) (b + 1) o := by
  obtain ⟨ks, h1, h2, h3⟩ := h
  have hnk : k ∉ ks := fun hk' => hn ⟨ks.filter (fun j => decide (j ≠ k)), by
      have hlt : (ks.filter fun j => decide (j ≠ k)).length < ks.length := by
        refine Nat.lt_of_le_of_ne (List.length_filter_le _ _) fun e => ?_
        have := (List.filter_eq_self.1 (List.filter_sublist.eq_of_length e)) k hk'
        simp at this
      omega, fun j hj => by
      rw [List.mem_filter, decide_eq_true_eq] at hj
      have := h2 j hj.1
      omega, fun c hc => by
      rw [mem_lessL] at hc
      obtain ⟨j, hj, h⟩ := h3 c hc.1
      refine ⟨j, List.mem_filter.2 ⟨hj, ?_⟩, h⟩
      rw [decide_eq_true_eq]
      intro e; rw [e, hc.2] at h; cases h⟩
  refine ⟨ks, h1, fun j hj => ?_, h3⟩
  have h4 := h2 j hj
  have h5 : j ≠ k := fun e => hnk (e ▸ hj)
  omega
theorem CovK.nil_ (k b : Nat) : CovK C Ns L k b [] := ⟨[], Nat.zero_le _, by simp, by simp⟩
theorem CovK.zero {k : Nat} {o : List (Nat × Nat)} (h : CovK C Ns L k 0 o) : o = [] := by
  obtain ⟨ks, h1, _, h3⟩ := h
  refine List.eq_nil_iff_forall_not_mem.2 fun c hc => ?_
  obtain ⟨j, hj, _⟩ := h3 c hc
  have e : ks = [] := List.eq_nil_of_length_eq_zero (by omega)
  rw [e] at hj
  cases hj
/-- The reference finds the program's list. -/
theorem choose_least : ∀ (n k b : Nat) (o : List (Nat × Nat)), k + n = L.length → CovK C Ns L k b o → (b = 0 ∨ ¬ CovK C Ns L k (b - 1) o) → chooseK C Ns L b k o = some (leastK C Ns L n k b o)
  | n, k, 0, o, hk, h, hm => by
    have e : o = [] := CovK.zero h
    subst e
    rw [chooseK, if_pos rfl]
    cases n <;> simp [leastK]
  | n, k, b + 1, o, hk, h, hm => by
    have hm' : ¬ CovK C Ns L k b o := by rcases hm with hm | hm; · omega
                                         · simpa using hm
    have hne : o ≠ [] := fun e => hm' (e ▸ CovK.nil_ k b)
    cases n with
    | zero =>
      obtain ⟨ks, _, h2, h3⟩ := h
      obtain ⟨c, hc⟩ := List.exists_mem_of_ne_nil o hne
      obtain ⟨j, hj, _⟩ := h3 c hc
      have := h2 j hj
      omega
    | succ n =>
      have hkl : k < L.length := by omega
      rw [chooseK, if_neg hne, leastK, if_neg (by omega), Nat.add_sub_cancel, show L.length - k = n + 1 by omega, firstK]
      by_cases hc : covK C Ns L (k + 1) b (lessL C Ns o (L.getD k 0)) = true
      · rw [if_pos hc]
        have hc' := (covK_iff _ _).1 hc
        have h0 : ¬ o.countP (inS C Ns (L.getD k 0)) = 0 := fun e => by
          have : lessL C Ns o (L.getD k 0) = o := by
            unfold lessL
            rw [List.filter_eq_self]
            intro c hc
            have := List.countP_eq_zero.1 e c hc
            simpa using this
          rw [this] at hc'
          exact hm' hc'.down
        rw [if_neg h0, choose_least n (k + 1) b _ (by omega) hc' (by
          by_cases hb : b = 0
          · exact .inl hb
          · refine .inr fun h' => hm' ?_
            have := CovK.add hkl h'
            rwa [show b - 1 + 1 = b by omega] at this)]
        rfl
      · rw [if_neg hc]
        have hc' : ¬ CovK C Ns L (k + 1) b (lessL C Ns o (L.getD k 0)) := fun h' => hc ((covK_iff _ _).2 h')
        have hg : (if o.countP (inS C Ns (L.getD k 0)) = 0 then none else (chooseK C Ns L b (k + 1) (lessL C Ns o (L.getD k 0))).map (k :: ·)) = none := by
          split
          · rfl
          · cases e : chooseK C Ns L b (k + 1) (lessL C Ns o (L.getD k 0)) with
            | none => rfl
            | some l => exact absurd (choose_covK e) hc'
        rw [hg]
        have ih := choose_least n (k + 1) (b + 1) o (by omega) (h.later hc') (.inr fun h' => hm' (by rw [Nat.add_sub_cancel] at h'; exact h'.down))
        rw [chooseK, if_neg hne, show L.length - (k + 1) = n by omega] at ih
        exact ih
/-- The reference's numbers for the least cover. -/
theorem min_choose (hl : Ns.length ≤ 4096) (hin : rowsIn C Ns) : (∀ b, b < sizeM C Ns → chooseK C Ns (closL C Ns) b 0 (cellsOf Ns) = none) ∧ ∃ ks, chooseK C Ns (closL C Ns) (sizeM C Ns) 0 (cellsOf Ns) = some ks ∧ atL (closL C Ns) ks = minC C Ns ∧ (∀ k ∈ ks, k < (closL C Ns).length) ∧ ks.length = sizeM C Ns := by
  have hno := fun b (h : b < sizeM C Ns) => sizeM_no (C := C) hl hin h
  refine ⟨fun b hb => ?_, ?_⟩
  · have h := choose_all (C := C) (Ns := Ns) b (cellsOf Ns)
    cases e : chooseK C Ns (allL C Ns) b 0 (cellsOf Ns) with
    | some l => exact absurd (choose_covK e) (hno b hb)
    | none =>
      rw [e] at h
      cases e2 : chooseK C Ns (closL C Ns) b 0 (cellsOf Ns) with
      | none => rfl
      | some l => rw [e2] at h; cases h
  · have h := choose_all (C := C) (Ns := Ns) (sizeM C Ns) (cellsOf Ns)
    have hs := (sizeF_spec (L := allL C Ns) (o := cellsOf Ns) (n := Ns.length) (b := 0) (by rw [Nat.zero_add]; exact cov_rows hl hin)).2.2.1
    have h1 := choose_least (allL C Ns).length 0 (sizeM C Ns) (cellsOf Ns) (by omega) hs (by
      by_cases hb : sizeM C Ns = 0
      · exact .inl hb
      · exact .inr (hno _ (by omega)))
    rw [h1] at h
    cases e : chooseK C Ns (closL C Ns) (sizeM C Ns) 0 (cellsOf Ns) with
    | none => rw [e] at h; cases h
    | some ks =>
      rw [e] at h
      have h2 : atL (closL C Ns) ks = minC C Ns := by injection h
      refine ⟨ks, rfl, h2, fun k hk => ((choose_cov _ _ _ _ e).2.1 k hk).2, ?_⟩
      have := (minK_spec (C := C) hl hin).1
      rw [← this, ← h2, atL, List.length_map]
end
end Go.Proofs.YtlakjhhpdbgekaaGreatDoor
