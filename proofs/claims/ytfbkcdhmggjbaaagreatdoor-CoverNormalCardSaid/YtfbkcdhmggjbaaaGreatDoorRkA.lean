import Derived.Test.YtfbkcdhmggjbaaaGreatDoorCloA
/-
  The lectic order of sets, sorted lists, the concepts that contain a cell, in plain words.
-/
namespace Go.Proofs.YtfbkcdhmggjbaaaGreatDoor
open Go.RowKit

/-! The lectic order: the set that has the least number in which two sets differ comes later. -/
def lecR (N M : Nat) : Bool := if N = M then false else if N % 2 = M % 2 then lecR (N / 2) (M / 2) else decide (M % 2 = 1)
termination_by N + M
decreasing_by omega
theorem lecR_irrefl (N : Nat) : lecR N N = false := by rw [lecR]; simp
theorem lecR_step {N M : Nat} (h : N % 2 = M % 2) : lecR N M = lecR (N / 2) (M / 2) := by
  by_cases e : N = M
  · subst e; rw [lecR_irrefl, lecR_irrefl]
  · rw [lecR, if_neg e, if_pos h]
theorem lecR_diff {N M : Nat} (h : N % 2 ≠ M % 2) : lecR N M = decide (M % 2 = 1) := by
  rw [lecR, if_neg (fun e => h (by rw [e])), if_neg h]
theorem lecR_total : ∀ N M, N ≠ M → lecR N M = false → lecR M N = true := by
  intro N
  induction N using Nat.strongRecOn with
  | _ N ih =>
    intro M hne h
    by_cases hp : N % 2 = M % 2
    · rw [lecR_step hp] at h
      rw [lecR_step hp.symm]
      by_cases h0 : N = 0
      · -- N = 0: M is even and not zero
        subst h0
        have key : ∀ M, M ≠ 0 → lecR 0 M = true := by
          intro M
          induction M using Nat.strongRecOn with
          | _ M ih2 =>
            intro hM
            by_cases hq : 0 % 2 = M % 2
            · rw [lecR_step hq]; exact ih2 _ (by omega) (by omega)
            · rw [lecR_diff hq]; simp; omega
        have := key (M / 2) (by omega)
        rw [Nat.zero_div] at h
        rw [this] at h; cases h
      · exact ih _ (by omega) _ (by omega) h
    · rw [lecR_diff hp] at h
      rw [lecR_diff (Ne.symm hp)]
      simp at h ⊢; omega
theorem lecR_asymm : ∀ N M, lecR N M = true → lecR M N = false := by
  intro N
  induction N using Nat.strongRecOn with
  | _ N ih =>
    intro M h
    by_cases e : N = M
    · subst e; rw [lecR_irrefl] at h; cases h
    · by_cases hp : N % 2 = M % 2
      · rw [lecR_step hp] at h
        rw [lecR_step hp.symm]
        by_cases h0 : N = 0
        · subst h0
          have key : ∀ M, lecR M 0 = false := by
            intro M
            induction M using Nat.strongRecOn with
            | _ M ih2 =>
              by_cases hM : M = 0
              · subst hM; exact lecR_irrefl 0
              · by_cases hq : M % 2 = 0 % 2
                · rw [lecR_step hq]; exact ih2 _ (by omega)
                · rw [lecR_diff hq]; simp
          rw [Nat.zero_div]; exact key _
        · exact ih _ (by omega) _ h
      · rw [lecR_diff hp] at h
        rw [lecR_diff (Ne.symm hp)]
        simp at h ⊢; omega
theorem lecR_trans : ∀ N M K, lecR N M = true → lecR M K = true → lecR N K = true := by
  intro N M K
  induction hs : N + M + K using Nat.strongRecOn generalizing N M K with
  | _ s ih =>
    intro h1 h2
    have n1 : N ≠ M := fun e => by rw [e, lecR_irrefl] at h1; cases h1
    have n2 : M ≠ K := fun e => by rw [e, lecR_irrefl] at h2; cases h2
    by_cases hp : N % 2 = M % 2
    · by_cases hq : M % 2 = K % 2
      · rw [lecR_step hp] at h1
        rw [lecR_step hq] at h2
        rw [lecR_step (hp.trans hq)]
        exact ih _ (by omega) _ _ _ rfl h1 h2
      · rw [lecR_diff hq] at h2
        rw [lecR_diff (by omega)]; exact h2
    · rw [lecR_diff hp] at h1
      by_cases hq : M % 2 = K % 2
      · rw [lecR_diff (by omega)]
        simp at h1 ⊢; omega
      · rw [lecR_diff hq] at h2
        simp at h1 h2; omega
/-- The lowest number in which they differ decides. -/
theorem lecR_at : ∀ (i N M : Nat), (∀ j, j < i → N.testBit j = M.testBit j) → N.testBit i = false → M.testBit i = true → lecR N M = true
  | 0, N, M, _, hN, hM => by
    have m1 : M % 2 = 1 := by simpa using hM
    have n1 : ¬ N % 2 = 1 := by simpa using hN
    rw [lecR_diff (by omega), m1]; rfl
  | i + 1, N, M, hj, hN, hM => by
    have h0 := hj 0 (by omega)
    have hp : N % 2 = M % 2 := by
      have := Nat.testBit_zero N
      have := Nat.testBit_zero M
      by_cases a : N % 2 = 1 <;> by_cases b : M % 2 = 1 <;> simp_all <;> omega
    rw [lecR_step hp]
    exact lecR_at i _ _ (fun j hj' => by rw [Nat.testBit_div_two, Nat.testBit_div_two]; exact hj (j + 1) (by omega)) (by rw [Nat.testBit_div_two]; exact hN) (by rw [Nat.testBit_div_two]; exact hM)

/-! Lists in lectic order. -/
def Lec (l : List Nat) : Prop := l.Pairwise fun a b => lecR a b = true
/-- A list in ascending order is known by its members. -/
theorem Lec.ext : ∀ {l m : List Nat}, Lec l → Lec m → (∀ x, x ∈ l ↔ x ∈ m) → l = m
  | [], [], _, _, _ => rfl
  | [], b :: m, _, _, h => by have := (h b).2 (by simp); simp at this
  | a :: l, [], _, _, h => by have := (h a).1 (by simp); simp at this
  | a :: l, b :: m, hl, hm, h => by
    unfold Lec at hl hm
    rw [List.pairwise_cons] at hl hm
    have e : a = b := by
      rcases List.mem_cons.1 ((h a).1 (by simp)) with e | ha
      · exact e
      · rcases List.mem_cons.1 ((h b).2 (by simp)) with e | hb
        · exact e.symm
        · have h1 := hm.1 a ha
          have h2 := hl.1 b hb
          rw [lecR_asymm _ _ h1] at h2; cases h2
    subst e
    rw [Lec.ext hl.2 hm.2 fun x => ?_]
    constructor
    · intro hx
      rcases List.mem_cons.1 ((h x).1 (by simp [hx])) with rfl | hm'
      · have := hl.1 _ hx; rw [lecR_irrefl] at this; cases this
      · exact hm'
    · intro hx
      rcases List.mem_cons.1 ((h x).2 (by simp [hx])) with rfl | hm'
      · have := hm.1 _ hx; rw [lecR_irrefl] at this; cases this
      · exact hm'
def insL (s : Nat) : List Nat → List Nat
  | [] => [s]
  | t :: l => if lecR t s = true then t :: insL s l else s :: t :: l
theorem mem_insL (s x : Nat) : ∀ l, x ∈ insL s l ↔ x = s ∨ x ∈ l
  | [] => by simp [insL]
  | t :: l => by
    rw [insL]
    split
    · rw [List.mem_cons, mem_insL s x l, List.mem_cons]
      constructor <;> rintro (h | h | h) <;> simp [h]
    · simp
theorem Lec.ins {s : Nat} : ∀ {l : List Nat}, Lec l → s ∉ l → Lec (insL s l)
  | [], _, _ => by simp [insL, Lec]
  | t :: l, h, hn => by
    unfold Lec at *
    rw [insL]
    rw [List.pairwise_cons] at h
    by_cases hs : lecR t s = true
    · rw [if_pos hs, List.pairwise_cons]
      refine ⟨fun x hx => ?_, Lec.ins (l := l) h.2 (fun hm => hn (by simp [hm]))⟩
      rcases (mem_insL s x l).1 hx with rfl | hx
      · exact hs
      · exact h.1 x hx
    · rw [if_neg hs, List.pairwise_cons]
      have hst : lecR s t = true := lecR_total t s (fun e => hn (by simp [e])) (by simpa using hs)
      refine ⟨fun x hx => ?_, List.pairwise_cons.2 h⟩
      rcases List.mem_cons.1 hx with rfl | hx
      · exact hst
      · exact lecR_trans _ _ _ hst (h.1 x hx)
end Go.Proofs.YtfbkcdhmggjbaaaGreatDoor

/-
  Covers by concepts, and proofs that few do not do, in plain words.
-/
namespace Go.Proofs.YtfbkcdhmggjbaaaGreatDoor
open Go.RowKit

/-- A cell lies in the concept with the columns s. -/
def inS (C : Nat) (Ns : List Nat) (s : Nat) (c : Nat × Nat) : Bool := s.testBit c.2 && (havN C Ns s).testBit c.1
def lessL (C : Nat) (Ns : List Nat) (o : List (Nat × Nat)) (s : Nat) : List (Nat × Nat) := o.filter fun c => !inS C Ns s c
theorem mem_lessL {C : Nat} {Ns : List Nat} {o : List (Nat × Nat)} {s : Nat} {c : Nat × Nat} : c ∈ lessL C Ns o s ↔ c ∈ o ∧ inS C Ns s c = false := by
  unfold lessL
  rw [List.mem_filter, Bool.not_eq_true']
/-- b concepts cover the cells. -/
def Cov (C : Nat) (Ns : List Nat) (b : Nat) (o : List (Nat × Nat)) : Prop := ∃ l : List Nat, l.length ≤ b ∧ (∀ s ∈ l, cloN C Ns s = s) ∧ ∀ c ∈ o, ∃ s ∈ l, inS C Ns s c = true
theorem Cov.mono {C : Nat} {Ns : List Nat} {b b' : Nat} {o : List (Nat × Nat)} (h : Cov C Ns b o) (hb : b ≤ b') : Cov C Ns b' o := by
  obtain ⟨l, hl, h⟩ := h; exact ⟨l, by omega, h⟩

/-! Nodes of proofs. -/
structure Nd where
  kind : Int
  row : Int
  col : Int
  ch : List Int
  cells : List (Int × Int)
instance : Inhabited Nd := ⟨⟨0, 0, 0, [], []⟩⟩
/-- No rectangle of ones contains two ones. -/
def indep (C : Nat) (Ns : List Nat) (a b : Int × Int) : Bool := !mhas C Ns a.1 b.2 || !mhas C Ns b.1 a.2
def apartB (C : Nat) (Ns : List Nat) (l : List (Int × Int)) : Bool := decide (l.Pairwise fun b a => a ≠ b ∧ indep C Ns a b = true)
theorem foldl_max_le (l : List Nat) : ∀ (a : Nat), a ≤ l.foldl max a ∧ ∀ x ∈ l, x ≤ l.foldl max a := by
  induction l with
  | nil => intro a; simp
  | cons y l ih =>
    intro a
    rw [List.foldl_cons]
    obtain ⟨h1, h2⟩ := ih (max a y)
    refine ⟨by omega, fun x hx => ?_⟩
    rcases List.mem_cons.1 hx with rfl | hx
    · omega
    · exact h2 x hx
end Go.Proofs.YtfbkcdhmggjbaaaGreatDoor

/-
  Proofs that go through all cases: their form, and that they are accepted, in plain words.
-/
namespace Go.Proofs.YtfbkcdhmggjbaaaGreatDoor
open Go.RowKit

/-- A part of a list of nodes stands at a place. -/
def At (P : List Nd) (off : Nat) (L : List Nd) : Prop := ∃ pre post, P = pre ++ L ++ post ∧ pre.length = off
theorem At.left {P : List Nd} {off : Nat} {L K : List Nd} (h : At P off (L ++ K)) : At P off L := by
  obtain ⟨pre, post, rfl, rfl⟩ := h; exact ⟨pre, K ++ post, by simp, rfl⟩
theorem At.right {P : List Nd} {off : Nat} {L K : List Nd} (h : At P off (L ++ K)) : At P (off + L.length) K := by
  obtain ⟨pre, post, rfl, rfl⟩ := h; exact ⟨pre ++ L, post, by simp, by simp⟩
theorem At.tail {P : List Nd} {off : Nat} {x : Nd} {K : List Nd} (h : At P off (x :: K)) : At P (off + 1) K := At.right (L := [x]) h

/-! The form of such a proof. -/
end Go.Proofs.YtfbkcdhmggjbaaaGreatDoor

/-
  The reference's list of all concepts with a one, in plain words.
-/
namespace Go.Proofs.YtfbkcdhmggjbaaaGreatDoor
open Go.RowKit

theorem foldl_max_bound (B : Nat) : ∀ (l : List Nat) (a : Nat), a ≤ B → (∀ x ∈ l, x ≤ B) → l.foldl max a ≤ B
  | [], a, ha, _ => ha
  | x :: l, a, ha, h => by
    rw [List.foldl_cons]
    exact foldl_max_bound B l _ (by have := h x (by simp); omega) fun y hy => h y (by simp [hy])
theorem clo_lt (C : Nat) (Ns : List Nat) (s : Nat) : cloN C Ns s < 2 ^ C := Nat.lt_pow_two_of_testBit _ fun x hx => by
  cases hb : (cloN C Ns s).testBit x
  · rfl
  · have := comN_lt hb; omega

/-- The set s is the columns of a concept with a one. -/
def oneS (C : Nat) (Ns : List Nat) (s : Nat) : Bool := decide (cloN C Ns s = s) && !decide (havN C Ns s = 0)
/-- All of them below n, without 0, in lectic order. -/
def allTo (C : Nat) (Ns : List Nat) : Nat → List Nat
  | 0 => []
  | n + 1 => if n ≠ 0 ∧ oneS C Ns n = true then insL n (allTo C Ns n) else allTo C Ns n
def allL (C : Nat) (Ns : List Nat) : List Nat := allTo C Ns (2 ^ C)
theorem mem_allTo {C : Nat} {Ns : List Nat} {s : Nat} : ∀ n, s ∈ allTo C Ns n ↔ s < n ∧ s ≠ 0 ∧ oneS C Ns s = true
  | 0 => by simp [allTo]
  | n + 1 => by
    have ih := mem_allTo (C := C) (Ns := Ns) (s := s) n
    rw [allTo]
    by_cases h : n ≠ 0 ∧ oneS C Ns n = true
    · rw [if_pos h, mem_insL, ih]
      constructor
      · rintro (rfl | ⟨h1, h2⟩)
        · exact ⟨by omega, h⟩
        · exact ⟨by omega, h2⟩
      · rintro ⟨h1, h2⟩
        by_cases e : s = n
        · exact .inl e
        · exact .inr ⟨by omega, h2⟩
    · rw [if_neg h, ih]
      constructor
      · rintro ⟨h1, h2⟩; exact ⟨by omega, h2⟩
      · rintro ⟨h1, h2⟩
        refine ⟨?_, h2⟩
        by_cases e : s = n
        · subst e; exact absurd h2 h
        · omega
theorem allTo_lec (C : Nat) (Ns : List Nat) : ∀ n, Lec (allTo C Ns n)
  | 0 => by simp [allTo, Lec]
  | n + 1 => by
    rw [allTo]
    split
    · exact Lec.ins (allTo_lec C Ns n) fun h => by have := ((mem_allTo n).1 h).1; omega
    · exact allTo_lec C Ns n
theorem insL_len (s : Nat) : ∀ l, (insL s l).length = l.length + 1
  | [] => rfl
  | t :: l => by
    rw [insL]
    split
    · rw [List.length_cons, insL_len s l, List.length_cons]
    · rfl
theorem allTo_len (C : Nat) (Ns : List Nat) : ∀ n, (allTo C Ns n).length ≤ n
  | 0 => by simp [allTo]
  | n + 1 => by
    have := allTo_len C Ns n
    rw [allTo]
    split
    · rw [insL_len]; omega
    · omega
end Go.Proofs.YtfbkcdhmggjbaaaGreatDoor

/-
  The cells of a list of sets of columns.
-/
namespace Go.Proofs.YtfbkcdhmggjbaaaGreatDoor
open Go.RowKit

/-- The cells of a list of sets. -/
def cellsOf (Os : List Nat) : List (Nat × Nat) := (List.range Os.length).flatMap fun i => (mems (Os.getD i 0)).map fun j => (i, j)
theorem mem_cellsOf {Os : List Nat} {c : Nat × Nat} : c ∈ cellsOf Os ↔ c.1 < Os.length ∧ (Os.getD c.1 0).testBit c.2 = true := by
  unfold cellsOf
  rw [List.mem_flatMap]
  constructor
  · rintro ⟨i, hi, h⟩
    obtain ⟨j, hj, rfl⟩ := List.mem_map.1 h
    exact ⟨List.mem_range.1 hi, mem_mems.1 hj⟩
  · rintro ⟨h1, h2⟩
    exact ⟨c.1, List.mem_range.2 h1, List.mem_map.2 ⟨c.2, mem_mems.2 h2, rfl⟩⟩
theorem mems_is (N : Nat) : ∃ k, ∀ m, k ≤ m → mems N = (List.range m).filter N.testBit := by
  refine ⟨64 * nw N, fun m hm => ?_⟩
  have e : mems N = (List.range (64 * nw N)).filter N.testBit := by unfold mems; rw [mTo_map]
  rw [e]
  obtain ⟨d, rfl⟩ := Nat.exists_eq_add_of_le hm
  clear hm e
  induction d with
  | zero => rfl
  | succ d ih =>
    rw [ih, ← Nat.add_assoc, List.range_succ, List.filter_append]
    have : N.testBit (64 * nw N + d) = false := testBit_ge (Nat.le_refl _) (by omega)
    simp [this]
theorem mems_under {N n : Nat} (h : ∀ j, N.testBit j = true → j < n) : mems N = (List.range n).filter N.testBit := by
  obtain ⟨a, ha⟩ := mems_is N
  rw [ha (max a n) (by omega)]
  have key : ∀ d, (List.range (n + d)).filter N.testBit = (List.range n).filter N.testBit := by
    intro d
    induction d with
    | zero => rfl
    | succ d ih =>
      rw [← Nat.add_assoc, List.range_succ, List.filter_append, ih]
      have : N.testBit (n + d) = false := by
        cases hb : N.testBit (n + d) with
        | false => rfl
        | true => have := h _ hb; omega
      simp [this]
  rw [show max a n = n + (max a n - n) by omega, key]
end Go.Proofs.YtfbkcdhmggjbaaaGreatDoor
