import Derived.Test.YtlakjhhpdbgekaaGreatDoorCw6
import Derived.Test.YtlakjhhpdbgekaaGreatDoorCvR
/-
  The reference of chapter 48: Greedy; it chooses the program's concepts.
-/
namespace Go.Proofs.YtlakjhhpdbgekaaGreatDoor
open Go.RowKit

section
variable {C : Nat} {Ns L : List Nat} {o : List (Nat × Nat)}
/-- The first of n concepts that covers the most, as the reference looks for it. -/
def bestRk (C : Nat) (Ns L : List Nat) (o : List (Nat × Nat)) : Nat → Nat
  | 0 => 0
  | n + 1 => if o.countP (inS C Ns (L.getD (bestRk C Ns L o n) 0)) < o.countP (inS C Ns (L.getD n 0)) then n else bestRk C Ns L o n
theorem bestRk_spec : ∀ n, (bestRk C Ns L o n < n ∨ n = 0 ∧ bestRk C Ns L o n = 0) ∧ (∀ j, j < n → o.countP (inS C Ns (L.getD j 0)) ≤ o.countP (inS C Ns (L.getD (bestRk C Ns L o n) 0))) ∧ ∀ j, j < bestRk C Ns L o n → o.countP (inS C Ns (L.getD j 0)) < o.countP (inS C Ns (L.getD (bestRk C Ns L o n) 0))
  | 0 => ⟨.inr ⟨rfl, rfl⟩, fun j h => by omega, fun j h => by simp [bestRk] at h⟩
  | n + 1 => by
    obtain ⟨h1, h2, h3⟩ := bestRk_spec n
    rw [bestRk]
    split
    · rename_i h
      refine ⟨.inl (by omega), fun j hj => ?_, fun j hj => ?_⟩
      · by_cases e : j = n
        · subst e; exact Nat.le_refl _
        · exact Nat.le_trans (h2 j (by omega)) (Nat.le_of_lt h)
      · exact Nat.lt_of_le_of_lt (h2 j hj) h
    · rename_i h
      refine ⟨.inl (by omega), fun j hj => ?_, h3⟩
      by_cases e : j = n
      · subst e; omega
      · exact h2 j (by omega)
theorem bestT_first : ∀ n k, k < (bestT C Ns L o n).1 → o.countP (inS C Ns (L.getD k 0)) < (bestT C Ns L o n).2
  | 0, k, h => by simp [bestT] at h
  | n + 1, k, h => by
    rw [bestT] at h ⊢
    split
    · rename_i hc
      rw [if_pos hc] at h
      exact Nat.lt_of_le_of_lt ((bestT_spec (C := C) (Ns := Ns) (L := L) (o := o) n).1 k h) hc
    · rename_i hc
      rw [if_neg hc] at h
      exact bestT_first n k h
/-- The first of the greatest. -/
def FirstM (f : Nat → Nat) (l : List Nat) (s : Nat) : Prop := ∃ pre post, l = pre ++ s :: post ∧ (∀ x ∈ pre, f x < f s) ∧ ∀ x ∈ post, f x ≤ f s
theorem FirstM.of {f : Nat → Nat} {l : List Nat} {b : Nat} (hb : b < l.length) (h1 : ∀ j, j < l.length → f (l.getD j 0) ≤ f (l.getD b 0)) (h2 : ∀ j, j < b → f (l.getD j 0) < f (l.getD b 0)) : FirstM f l (l.getD b 0) := by
  refine ⟨l.take b, l.drop (b + 1), ?_, fun x hx => ?_, fun x hx => ?_⟩
  · rw [getD_at hb, List.getElem_cons_drop, List.take_append_drop]
  · obtain ⟨j, hj, rfl⟩ := List.getElem_of_mem hx
    rw [List.length_take] at hj
    rw [List.getElem_take]
    have := h2 j (by omega)
    rwa [getD_at (k := j) (by omega)] at this
  · obtain ⟨j, hj, rfl⟩ := List.getElem_of_mem hx
    rw [List.length_drop] at hj
    rw [List.getElem_drop]
    have := h1 (b + 1 + j) (by omega)
    rwa [getD_at (k := b + 1 + j) (by omega)] at this
theorem FirstM.filter {f : Nat → Nat} {l : List Nat} {s : Nat} {p : Nat → Bool} (h : FirstM f l s) (hp : p s = true) : FirstM f (l.filter p) s := by
  obtain ⟨pre, post, rfl, h1, h2⟩ := h
  refine ⟨pre.filter p, post.filter p, ?_, fun x hx => h1 x (List.mem_filter.1 hx).1, fun x hx => h2 x (List.mem_filter.1 hx).1⟩
  rw [List.filter_append, List.filter_cons_of_pos hp]
theorem FirstM.uniq {f : Nat → Nat} : ∀ {l : List Nat} {s t : Nat}, FirstM f l s → FirstM f l t → s = t
  | [], s, t, h, _ => by obtain ⟨pre, post, e, _⟩ := h; simp at e
  | x :: l, s, t, h, h' => by
    have hle : ∀ {a b : Nat}, FirstM f (x :: l) a → FirstM f (x :: l) b → f b ≤ f a := fun {a b} ha hb => by
      obtain ⟨p1, q1, e1, k1, k2⟩ := ha
      obtain ⟨p2, q2, e2, _, _⟩ := hb
      have : b ∈ p1 ++ a :: q1 := by rw [← e1, e2]; simp
      rcases List.mem_append.1 this with h | h
      · exact Nat.le_of_lt (k1 b h)
      · rcases List.mem_cons.1 h with rfl | h
        · exact Nat.le_refl _
        · exact k2 b h
    have e1 := hle h h'
    have e2 := hle h' h
    obtain ⟨p1, q1, c1, k1, k2⟩ := h
    obtain ⟨p2, q2, c2, m1, m2⟩ := h'
    cases p1 with
    | nil =>
      injection c1 with c1 c1'
      cases p2 with
      | nil => injection c2 with c2 _; rw [← c1, ← c2]
      | cons y p2 =>
        injection c2 with c2 _
        have := m1 y (by simp)
        rw [← c2, c1] at this
        omega
    | cons y p1 =>
      injection c1 with c1 c1'
      cases p2 with
      | nil =>
        injection c2 with c2 _
        have := k1 y (by simp)
        rw [← c1, c2] at this
        omega
      | cons z p2 =>
        injection c2 with c2 c2'
        exact FirstM.uniq (l := l) ⟨p1, q1, c1', fun x hx => k1 x (by simp [hx]), k2⟩ ⟨p2, q2, c2', fun x hx => m1 x (by simp [hx]), m2⟩
/-- What the reference chooses. -/
def greedyR (C : Nat) (Ns L : List Nat) : Nat → List (Nat × Nat) → List Nat
  | 0, _ => []
  | f + 1, o => if o = [] then [] else bestRk C Ns L o L.length :: greedyR C Ns L f (lessL C Ns o (L.getD (bestRk C Ns L o L.length) 0))
theorem bestR_on (hcov : ∀ c ∈ o, ∃ k, k < L.length ∧ inS C Ns (L.getD k 0) c = true) (hne : o ≠ []) : bestRk C Ns L o L.length < L.length ∧ 0 < o.countP (inS C Ns (L.getD (bestRk C Ns L o L.length) 0)) ∧ (lessL C Ns o (L.getD (bestRk C Ns L o L.length) 0)).length < o.length := by
  obtain ⟨c, hc⟩ := List.exists_mem_of_ne_nil o hne
  obtain ⟨k, hk, hi⟩ := hcov c hc
  obtain ⟨h1, h2, -⟩ := bestRk_spec (C := C) (Ns := Ns) (L := L) (o := o) L.length
  have hp : 0 < o.countP (inS C Ns (L.getD k 0)) := List.countP_pos_iff.2 ⟨c, hc, hi⟩
  have h3 := h2 k hk
  have hcnt := count_less (C := C) (Ns := Ns) o (L.getD (bestRk C Ns L o L.length) 0)
  exact ⟨by omega, by omega, by omega⟩
/-- The reference's best set is the program's. -/
theorem bestRK_same (hl : Ns.length ≤ 4096) (hin : rowsIn C Ns) (ho : ∀ c ∈ o, c ∈ cellsOf Ns) (hne : o ≠ []) : (closL C Ns).getD (bestRk C Ns (closL C Ns) o (closL C Ns).length) 0 = (allL C Ns).getD (bestK C Ns (allL C Ns) o) 0 := by
  have hcA := fun c (hc : c ∈ o) => cov_allL (C := C) hl hin c (ho c hc)
  have hcC : ∀ c ∈ o, ∃ k, k < (closL C Ns).length ∧ inS C Ns ((closL C Ns).getD k 0) c = true := fun c hc => by
    obtain ⟨k, hk, h⟩ := hcA c hc
    have hm : (allL C Ns).getD k 0 ∈ allL C Ns := by rw [getD_at hk]; exact List.getElem_mem hk
    obtain ⟨s, hs⟩ : ∃ s, s = (allL C Ns).getD k 0 := ⟨_, rfl⟩
    rw [← hs] at hm h
    rw [← closL_all, List.mem_filter] at hm
    obtain ⟨j, hj, e⟩ := List.getElem_of_mem hm.1
    exact ⟨j, hj, by rw [getD_at hj, e]; exact h⟩
  obtain ⟨r1, r2, -⟩ := bestR_on hcC hne
  obtain ⟨-, r4, r5⟩ := bestRk_spec (C := C) (Ns := Ns) (L := closL C Ns) (o := o) (closL C Ns).length
  obtain ⟨k1, -⟩ := best_on hcA hne
  have hfC := FirstM.of (f := fun s => o.countP (inS C Ns s)) r1 r4 r5
  have hp : (!decide (havN C Ns ((closL C Ns).getD (bestRk C Ns (closL C Ns) o (closL C Ns).length) 0) = 0) && !decide ((closL C Ns).getD (bestRk C Ns (closL C Ns) o (closL C Ns).length) 0 = 0)) = true := by
    rw [← Bool.not_eq_false]
    intro h
    have := empty_no h o
    omega
  have hfA := hfC.filter (p := fun s => !decide (havN C Ns s = 0) && !decide (s = 0)) hp
  rw [closL_all] at hfA
  obtain ⟨q1, q2, q3⟩ := bestT_spec (C := C) (Ns := Ns) (L := allL C Ns) (o := o) (allL C Ns).length
  have q4 := bestT_first (C := C) (Ns := Ns) (L := allL C Ns) (o := o) (allL C Ns).length
  have hg : (bestT C Ns (allL C Ns) o (allL C Ns).length).2 = o.countP (inS C Ns ((allL C Ns).getD (bestK C Ns (allL C Ns) o) 0)) := by
    rcases q2 with ⟨h, _⟩ | ⟨_, h, _⟩
    · obtain ⟨c, hc⟩ := List.exists_mem_of_ne_nil o hne
      obtain ⟨k, hk, hi⟩ := hcA c hc
      have hp : 0 < o.countP (inS C Ns ((allL C Ns).getD k 0)) := List.countP_pos_iff.2 ⟨c, hc, hi⟩
      have := q1 k hk
      omega
    · exact h
  rw [hg] at q1 q4
  exact hfA.uniq (FirstM.of (f := fun s => o.countP (inS C Ns s)) k1 q1 q4)
theorem greedy_same (hl : Ns.length ≤ 4096) (hin : rowsIn C Ns) : ∀ (f : Nat) (o : List (Nat × Nat)), (∀ c ∈ o, c ∈ cellsOf Ns) → atL (closL C Ns) (greedyR C Ns (closL C Ns) f o) = atL (allL C Ns) (greedyK C Ns (allL C Ns) f o)
  | 0, _, _ => rfl
  | f + 1, o, ho => by
    rw [greedyR, greedyK]
    split
    · rfl
    · rename_i hne
      have hb := bestRK_same hl hin ho hne
      have ih := greedy_same hl hin f (lessL C Ns o ((allL C Ns).getD (bestK C Ns (allL C Ns) o) 0)) (fun c hc => ho c (mem_lessL.1 hc).1)
      unfold atL at ih ⊢
      rw [List.map_cons, List.map_cons, hb]
      exact congrArg _ ih
theorem greedyR_nil (f : Nat) : greedyR C Ns L f [] = [] := by cases f <;> simp [greedyR]
theorem greedyR_len : ∀ (f : Nat) (o : List (Nat × Nat)), (greedyR C Ns L f o).length ≤ f
  | 0, _ => Nat.le_refl _
  | f + 1, o => by
    rw [greedyR]
    split
    · exact Nat.zero_le _
    · rw [List.length_cons]; exact Nat.succ_le_succ (greedyR_len f _)
theorem clos_cov (hl : Ns.length ≤ 4096) (hin : rowsIn C Ns) : ∀ c ∈ cellsOf Ns, ∃ k, k < (closL C Ns).length ∧ inS C Ns ((closL C Ns).getD k 0) c = true := fun c hc => by
  obtain ⟨k, hk, h⟩ := cov_allL (C := C) hl hin c hc
  have hm : (allL C Ns).getD k 0 ∈ allL C Ns := by rw [getD_at hk]; exact List.getElem_mem hk
  obtain ⟨s, hs⟩ : ∃ s, s = (allL C Ns).getD k 0 := ⟨_, rfl⟩
  rw [← hs] at hm h
  rw [← closL_all, List.mem_filter] at hm
  obtain ⟨j, hj, e⟩ := List.getElem_of_mem hm.1
  exact ⟨j, hj, by rw [getD_at hj, e]; exact h⟩
theorem greedyR_lt (hcov : ∀ c ∈ cellsOf Ns, ∃ k, k < L.length ∧ inS C Ns (L.getD k 0) c = true) : ∀ (f : Nat) (o : List (Nat × Nat)), (∀ c ∈ o, c ∈ cellsOf Ns) → ∀ k ∈ greedyR C Ns L f o, k < L.length
  | 0, _, _, k, hk => by cases hk
  | f + 1, o, ho, k, hk => by
    rw [greedyR] at hk
    split at hk
    · cases hk
    · rename_i hne
      rcases List.mem_cons.1 hk with rfl | hk
      · exact (bestR_on (fun c hc => hcov c (ho c hc)) hne).1
      · exact greedyR_lt hcov f _ (fun c hc => ho c (mem_lessL.1 hc).1) k hk
end
end Go.Proofs.YtlakjhhpdbgekaaGreatDoor
