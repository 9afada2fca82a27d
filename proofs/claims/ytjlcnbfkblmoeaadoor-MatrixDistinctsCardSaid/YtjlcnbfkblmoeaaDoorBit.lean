/-
  Sets of small numbers as numbers: word k of N, how many words N has, and what the operations on words do to N. Plain Lean.
-/
namespace Go.Proofs.YtjlcnbfkblmoeaaDoor

/-- Word k (64 bits) of N. -/
def wd (N k : Nat) : Nat := (N >>> (64 * k)) % 2 ^ 64
/-- How many words N has, the last one not zero. -/
def nw (N : Nat) : Nat := if N = 0 then 0 else N.log2 / 64 + 1

theorem wd_lt (N k : Nat) : wd N k < 2 ^ 64 := Nat.mod_lt _ (Nat.two_pow_pos 64)
theorem testBit_wd (N k i : Nat) : (wd N k).testBit i = (decide (i < 64) && N.testBit (64 * k + i)) := by
  unfold wd; rw [Nat.testBit_mod_two_pow, Nat.testBit_shiftRight]
theorem wd_or (N M k : Nat) : wd (N ||| M) k = wd N k ||| wd M k := by
  apply Nat.eq_of_testBit_eq; intro i
  simp only [testBit_wd, Nat.testBit_or]; cases decide (i < 64) <;> simp
theorem wd_and (N M k : Nat) : wd (N &&& M) k = wd N k &&& wd M k := by
  apply Nat.eq_of_testBit_eq; intro i
  simp only [testBit_wd, Nat.testBit_and]; cases decide (i < 64) <;> simp
theorem nw_zero : nw 0 = 0 := rfl
theorem nw_le_iff (N n : Nat) : nw N ≤ n ↔ N < 2 ^ (64 * n) := by
  unfold nw
  by_cases h : N = 0
  · subst h; simp [Nat.two_pow_pos]
  · rw [if_neg h, ← Nat.log2_lt h]; omega
theorem nw_eq_zero {N : Nat} : nw N = 0 ↔ N = 0 := by
  unfold nw; by_cases h : N = 0 <;> simp [h]
theorem testBit_div (N i : Nat) : N.testBit i = (wd N (i / 64)).testBit (i % 64) := by
  rw [testBit_wd, Nat.div_add_mod]; simp [Nat.mod_lt]
theorem wd_ext {N M : Nat} (h : ∀ k, wd N k = wd M k) : N = M := by
  apply Nat.eq_of_testBit_eq; intro i; rw [testBit_div, testBit_div M, h]
theorem wd_ge {N k : Nat} (h : nw N ≤ k) : wd N k = 0 := by
  have h1 := (nw_le_iff N k).1 h
  unfold wd; rw [Nat.shiftRight_eq_div_pow, Nat.div_eq_of_lt h1]
theorem wd_top {N : Nat} (h : 0 < nw N) : wd N (nw N - 1) ≠ 0 := by
  intro hz
  have h1 : ¬ N < 2 ^ (64 * (nw N - 1)) := by rw [← nw_le_iff]; omega
  have h2 : N < 2 ^ (64 * nw N) := (nw_le_iff N _).1 (Nat.le_refl _)
  apply h1
  unfold wd at hz
  rw [Nat.shiftRight_eq_div_pow, Nat.mod_eq_of_lt] at hz
  · rcases Nat.div_eq_zero_iff.1 hz with h | h
    · exact absurd h (Nat.ne_of_gt (Nat.two_pow_pos _))
    · exact h
  · rw [Nat.div_lt_iff_lt_mul (Nat.two_pow_pos _), ← Nat.pow_add]
    have : 64 + 64 * (nw N - 1) = 64 * nw N := by omega
    rw [this]; exact h2
theorem nw_of_top {N n : Nat} (h : ∀ k, n ≤ k → wd N k = 0) (ht : n = 0 ∨ wd N (n - 1) ≠ 0) : nw N = n := by
  have h1 : nw N ≤ n := by
    rcases Nat.lt_or_ge n (nw N) with hl | hl
    · exact absurd (h (nw N - 1) (by omega)) (wd_top (by omega))
    · exact hl
  rcases ht with rfl | ht
  · omega
  · rcases Nat.lt_or_ge (nw N) n with hl | hl
    · exact absurd (wd_ge (by omega)) ht
    · omega
theorem nw_or (N M : Nat) : nw (N ||| M) = max (nw N) (nw M) := by
  apply nw_of_top
  · intro k hk; rw [wd_or, wd_ge (by omega), wd_ge (by omega)]; rfl
  · by_cases hz : max (nw N) (nw M) = 0
    · exact .inl hz
    · right; rw [wd_or]; intro h0
      have hh := Nat.or_eq_zero_iff.1 h0
      rcases Nat.le_total (nw N) (nw M) with h | h
      · rw [Nat.max_eq_right h] at hh; exact wd_top (by omega) hh.2
      · rw [Nat.max_eq_left h] at hh; exact wd_top (by omega) hh.1

/-- The number with these words. -/
def ofW (f : Nat → Nat) : Nat → Nat
  | 0 => 0
  | n + 1 => ofW f n ||| (f n % 2 ^ 64) <<< (64 * n)
theorem wd_shl (x n k : Nat) (hx : x < 2 ^ 64) : wd (x <<< (64 * n)) k = if k = n then x else 0 := by
  apply Nat.eq_of_testBit_eq; intro i
  rw [testBit_wd, Nat.testBit_shiftLeft]
  by_cases hk : k = n
  · subst hk
    by_cases hi : i < 64
    · simp [hi]
    · have : x.testBit i = false := Nat.testBit_lt_two_pow (Nat.lt_of_lt_of_le hx (Nat.pow_le_pow_right (by omega) (by omega)))
      simp [hi, this]
  · rw [if_neg hk, Nat.zero_testBit]
    by_cases hi : i < 64
    · rcases Nat.lt_or_ge (64 * k + i) (64 * n) with hl | hl
      · have : ¬ 64 * n ≤ 64 * k + i := by omega
        simp [this]
      · have : x.testBit (64 * k + i - 64 * n) = false := Nat.testBit_lt_two_pow (Nat.lt_of_lt_of_le hx (Nat.pow_le_pow_right (by omega) (by omega)))
        simp [this]
    · simp [hi]
theorem wd_zero (k : Nat) : wd 0 k = 0 := by simp [wd]
theorem wd_ofW (f : Nat → Nat) (n k : Nat) : wd (ofW f n) k = if k < n then f k % 2 ^ 64 else 0 := by
  induction n with
  | zero => simp [ofW, wd_zero]
  | succ n ih =>
    rw [ofW, wd_or, ih, wd_shl _ _ _ (Nat.mod_lt _ (Nat.two_pow_pos 64))]
    by_cases h1 : k = n
    · subst h1; simp
    · by_cases h2 : k < n
      · rw [if_pos h2, if_neg h1, if_pos (by omega)]; simp
      · rw [if_neg h2, if_neg h1, if_neg (by omega)]; rfl
theorem testBit_mod (x k : Nat) : (x / 2 ^ k % 2 = 1) = (x.testBit k = true) := by
  rw [Nat.testBit_eq_decide_div_mod_eq]; simp
theorem testBit_ge {N n i : Nat} (h : nw N ≤ n) (hi : 64 * n ≤ i) : N.testBit i = false :=
  Nat.testBit_lt_two_pow (Nat.lt_of_lt_of_le ((nw_le_iff N n).1 h) (Nat.pow_le_pow_right (by omega) hi))
/-- 0 to m - 1. -/
def lowN (m : Nat) : Nat := 2 ^ m - 1
theorem testBit_lowN (m i : Nat) : (lowN m).testBit i = decide (i < m) := Nat.testBit_two_pow_sub_one m i
theorem wd_full {m k : Nat} (h : 64 * (k + 1) ≤ m) : wd (lowN m) k = 18446744073709551615 := by
  apply Nat.eq_of_testBit_eq; intro i
  rw [testBit_wd, testBit_lowN, show 18446744073709551615 = 2 ^ 64 - 1 by decide, Nat.testBit_two_pow_sub_one]
  by_cases hi : i < 64
  · simp [hi]; omega
  · simp [hi]
theorem wd_part {m k : Nat} (h1 : 64 * k ≤ m) (h : m ≤ 64 * (k + 1)) : wd (lowN m) k = 2 ^ (m - 64 * k) - 1 := by
  apply Nat.eq_of_testBit_eq; intro i
  rw [testBit_wd, testBit_lowN, Nat.testBit_two_pow_sub_one]
  by_cases hi : i < 64
  · simp [hi]; omega
  · simp [hi]; omega
theorem nw_lowN (m : Nat) : nw (lowN m) = (m + 63) / 64 := by
  apply nw_of_top
  · intro k hk
    apply Nat.eq_of_testBit_eq; intro i
    rw [testBit_wd, testBit_lowN, Nat.zero_testBit]
    have : ¬ 64 * k + i < m := by omega
    simp [this]
  · by_cases hm : m = 0
    · left; omega
    · right
      intro hz
      have h1 := testBit_wd (lowN m) ((m + 63) / 64 - 1) ((m - 1) % 64)
      rw [hz, Nat.zero_testBit, testBit_lowN] at h1
      have h2 : (m - 1) % 64 < 64 := Nat.mod_lt _ (by omega)
      have h3 : 64 * ((m + 63) / 64 - 1) + (m - 1) % 64 < m := by omega
      simp [h2, h3] at h1
theorem wd_pow (i k : Nat) : wd (2 ^ i) k = if k = i / 64 then 2 ^ (i % 64) else 0 := by
  have e : 2 ^ i = (2 ^ (i % 64)) <<< (64 * (i / 64)) := by
    rw [Nat.shiftLeft_eq, ← Nat.pow_add]; congr 1; omega
  rw [e, wd_shl _ _ _ (Nat.pow_lt_pow_right (by omega) (Nat.mod_lt _ (by omega)))]
theorem wd_with (N i k : Nat) : wd (N ||| 2 ^ i) k = if k = i / 64 then wd N k ||| 2 ^ (i % 64) else wd N k := by
  rw [wd_or, wd_pow]; split
  · rfl
  · rw [Nat.or_zero]
theorem nw_pow (i : Nat) : nw (2 ^ i) = i / 64 + 1 := by
  apply nw_of_top
  · intro k hk; rw [wd_pow, if_neg (by omega)]
  · right; rw [wd_pow, if_pos (by omega)]; exact Nat.ne_of_gt (Nat.two_pow_pos _)

/-- The members of a list of numbers, as a set: those from 0 to 4095. -/
def setStep (N : Nat) (x : Int) : Nat := if 0 ≤ x ∧ x ≤ 4095 then N ||| 2 ^ x.toNat else N
def setOf (l : List Int) : Nat := l.foldl setStep 0
def topStep (t x : Int) : Int := if x ≤ 4095 then (if t < x then x else t) else t
def topOf (l : List Int) : Int := l.foldl topStep (-1)
theorem topOf_snoc (l : List Int) (x : Int) : topOf (l ++ [x]) = topStep (topOf l) x := by simp [topOf]
theorem setOf_snoc (l : List Int) (x : Int) : setOf (l ++ [x]) = setStep (setOf l) x := by simp [setOf]
theorem topOf_bd (l : List Int) : -1 ≤ topOf l ∧ topOf l ≤ 4095 := by
  have : ∀ (l : List Int) (t : Int), -1 ≤ t → t ≤ 4095 → -1 ≤ l.foldl topStep t ∧ l.foldl topStep t ≤ 4095 := by
    intro l
    induction l with
    | nil => intro t h1 h2; exact ⟨h1, h2⟩
    | cons x l ih => intro t h1 h2; refine ih _ ?_ ?_ <;> (unfold topStep; split <;> (try split) <;> omega)
  exact this l (-1) (by omega) (by omega)
theorem topOf_ge (l : List Int) : ∀ x ∈ l, x ≤ 4095 → x ≤ topOf l := by
  have mono : ∀ (l : List Int) (t : Int), t ≤ l.foldl topStep t := by
    intro l
    induction l with
    | nil => intro t; exact Int.le_refl _
    | cons x l ih => intro t; refine Int.le_trans ?_ (ih _); unfold topStep; split <;> (try split) <;> omega
  have : ∀ (l : List Int) (t : Int), ∀ x ∈ l, x ≤ 4095 → x ≤ l.foldl topStep t := by
    intro l
    induction l with
    | nil => intro t x hx; cases hx
    | cons y l ih =>
      intro t x hx h
      rcases List.mem_cons.1 hx with rfl | hx
      · refine Int.le_trans ?_ (mono l _); unfold topStep; rw [if_pos h]; split <;> omega
      · exact ih _ x hx h
  exact this l (-1)
theorem testBit_setOf (l : List Int) (i : Nat) : (setOf l).testBit i = decide (i ≤ 4095 ∧ (i : Int) ∈ l) := by
  have : ∀ (l : List Int) (N : Nat), (l.foldl setStep N).testBit i = (N.testBit i || decide (i ≤ 4095 ∧ (i : Int) ∈ l)) := by
    intro l
    induction l with
    | nil => intro N; simp
    | cons x l ih =>
      intro N
      rw [List.foldl_cons, ih]
      unfold setStep
      by_cases hx : 0 ≤ x ∧ x ≤ 4095
      · rw [if_pos hx, Nat.testBit_or, Nat.testBit_two_pow]
        by_cases hi : x.toNat = i
        · have h1 : (i : Int) = x := by omega
          have h2 : i ≤ 4095 := by omega
          simp [hi, h1, h2]
        · have h1 : ¬ (i : Int) = x := by omega
          simp [hi, h1]
      · rw [if_neg hx]
        have h1 : i ≤ 4095 → ¬ (i : Int) = x := by omega
        by_cases h2 : i ≤ 4095
        · simp [h1 h2, h2]
        · simp [h2]
  rw [setOf, this]; simp
theorem nw_setOf (l : List Int) (n : Nat) (h : ∀ x ∈ l, x ≤ 4095 → x < 64 * n) : nw (setOf l) ≤ n := by
  rw [nw_le_iff]
  apply Nat.lt_pow_two_of_testBit
  intro i hi
  rw [testBit_setOf, decide_eq_false_iff_not]
  rintro ⟨h1, h2⟩
  have := h _ h2 (by omega)
  omega
end Go.Proofs.YtjlcnbfkblmoeaaDoor
