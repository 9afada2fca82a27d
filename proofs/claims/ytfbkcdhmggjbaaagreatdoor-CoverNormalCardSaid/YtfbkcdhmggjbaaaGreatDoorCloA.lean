import Derived.Test.YtfbkcdhmggjbaaaGreatDoorMatx
import Derived.Test.YtfbkcdhmggjbaaaGreatDoorSets
import Derived.Test.YtfbkcdhmggjbaaaGreatDoorMix2
import Derived.Test.YtfbkcdhmggjbaaaGreatDoorShelf
import Derived.Test.YtfbkcdhmggjbaaaGreatDoorLoop
import Derived.Sort.Grow
/-
  Closures of rows and columns as numbers, in plain words: what rows have in common, who has columns, the order of sets.
-/
namespace Go.Proofs.YtfbkcdhmggjbaaaGreatDoor
open Go.RowKit

/-- The columns that the rows ks have in common; numbers outside are left out. -/
def comTo (C : Nat) (Ns ks : List Nat) : Nat := ks.foldl (fun r i => if i < Ns.length then r &&& Ns.getD i 0 else r) (lowN C)
theorem comTo_snoc (C : Nat) (Ns ks : List Nat) (i : Nat) : comTo C Ns (ks ++ [i]) = if i < Ns.length then comTo C Ns ks &&& Ns.getD i 0 else comTo C Ns ks := by simp [comTo]
theorem testBit_comGo (Ns : List Nat) (j : Nat) : ∀ (ks : List Nat) (r : Nat), (ks.foldl (fun r i => if i < Ns.length then r &&& Ns.getD i 0 else r) r).testBit j = true ↔ r.testBit j = true ∧ ∀ i ∈ ks, i < Ns.length → (Ns.getD i 0).testBit j = true
  | [], r => by simp
  | k :: ks, r => by
    rw [List.foldl_cons, testBit_comGo Ns j ks]
    by_cases hk : k < Ns.length
    · rw [if_pos hk, Nat.testBit_and, Bool.and_eq_true]
      constructor
      · rintro ⟨⟨h1, h2⟩, h3⟩
        refine ⟨h1, fun i hi hl => ?_⟩
        rcases List.mem_cons.1 hi with rfl | hi
        · exact h2
        · exact h3 i hi hl
      · rintro ⟨h1, h2⟩
        exact ⟨⟨h1, h2 k (by simp) hk⟩, fun i hi hl => h2 i (by simp [hi]) hl⟩
    · rw [if_neg hk]
      constructor
      · rintro ⟨h1, h3⟩
        refine ⟨h1, fun i hi hl => ?_⟩
        rcases List.mem_cons.1 hi with rfl | hi
        · exact absurd hl hk
        · exact h3 i hi hl
      · rintro ⟨h1, h2⟩
        exact ⟨h1, fun i hi hl => h2 i (by simp [hi]) hl⟩
def comN (C : Nat) (Ns : List Nat) (S : Nat) : Nat := comTo C Ns (mems S)
theorem testBit_comN (C : Nat) (Ns : List Nat) (S j : Nat) : (comN C Ns S).testBit j = true ↔ j < C ∧ ∀ i, S.testBit i = true → i < Ns.length → (Ns.getD i 0).testBit j = true := by
  unfold comN comTo
  rw [testBit_comGo, testBit_lowN, decide_eq_true_eq]
  exact and_congr_right fun _ => ⟨fun h i hi => h i (mem_mems.2 hi), fun h i hi => h i (mem_mems.1 hi)⟩
/-- The rows that have the columns ks. -/
def havTo (C : Nat) (Ns ks : List Nat) : Nat := ks.foldl (fun r j => if j < C then r &&& mcol C Ns (j : Nat) else r) (lowN Ns.length)
theorem havTo_snoc (C : Nat) (Ns ks : List Nat) (j : Nat) : havTo C Ns (ks ++ [j]) = if j < C then havTo C Ns ks &&& mcol C Ns (j : Nat) else havTo C Ns ks := by simp [havTo]
theorem testBit_havGo (C : Nat) (Ns : List Nat) (hl : Ns.length ≤ 4096) (i : Nat) : ∀ (ks : List Nat) (r : Nat), (ks.foldl (fun r j => if j < C then r &&& mcol C Ns (j : Nat) else r) r).testBit i = true ↔ r.testBit i = true ∧ ∀ j ∈ ks, j < C → mhas C Ns i j = true
  | [], r => by simp
  | k :: ks, r => by
    rw [List.foldl_cons, testBit_havGo C Ns hl i ks]
    by_cases hk : k < C
    · rw [if_pos hk, Nat.testBit_and, Bool.and_eq_true, testBit_mcol C Ns _ i hl]
      constructor
      · rintro ⟨⟨h1, h2⟩, h3⟩
        refine ⟨h1, fun j hj hc => ?_⟩
        rcases List.mem_cons.1 hj with rfl | hj
        · exact h2
        · exact h3 j hj hc
      · rintro ⟨h1, h2⟩
        exact ⟨⟨h1, h2 k (by simp) hk⟩, fun j hj hc => h2 j (by simp [hj]) hc⟩
    · rw [if_neg hk]
      constructor
      · rintro ⟨h1, h3⟩
        refine ⟨h1, fun j hj hc => ?_⟩
        rcases List.mem_cons.1 hj with rfl | hj
        · exact absurd hc hk
        · exact h3 j hj hc
      · rintro ⟨h1, h2⟩
        exact ⟨h1, fun j hj hc => h2 j (by simp [hj]) hc⟩
def havN (C : Nat) (Ns : List Nat) (S : Nat) : Nat := havTo C Ns (mems S)
theorem mhas_at {C : Nat} {Ns : List Nat} {i j : Nat} (hi : i < Ns.length) (hj : j < C) : mhas C Ns i j = (Ns.getD i 0).testBit j := by
  unfold mhas insideB
  simp [hi, hj]
theorem testBit_havN (C : Nat) (Ns : List Nat) (hl : Ns.length ≤ 4096) (S i : Nat) : (havN C Ns S).testBit i = true ↔ i < Ns.length ∧ ∀ j, S.testBit j = true → j < C → (Ns.getD i 0).testBit j = true := by
  unfold havN havTo
  rw [testBit_havGo C Ns hl, testBit_lowN, decide_eq_true_eq]
  refine and_congr_right fun hi => ⟨fun h j hj hc => ?_, fun h j hj hc => ?_⟩
  · rw [← mhas_at hi hc]; exact h j (mem_mems.2 hj) hc
  · rw [mhas_at hi hc]; exact h j (mem_mems.1 hj) hc
def cloN (C : Nat) (Ns : List Nat) (S : Nat) : Nat := comN C Ns (havN C Ns S)

/-! The order of sets: their ascending lists, a prefix first. -/
def ltR (N M : Nat) : Bool := if M = 0 then false else if N = 0 then true else if N % 2 = 1 ∧ M % 2 = 0 then true else if N % 2 = 0 ∧ M % 2 = 1 then false else ltR (N / 2) (M / 2)
termination_by N
decreasing_by omega
theorem ltR_zero (N : Nat) : ltR N 0 = false := by rw [ltR]; simp
theorem ltR_irrefl : ∀ N, ltR N N = false := by
  intro N
  induction N using Nat.strongRecOn with
  | _ N ih =>
    rw [ltR]
    by_cases h : N = 0
    · simp [h]
    · rw [if_neg h, if_neg h, if_neg (by omega), if_neg (by omega)]
      exact ih _ (by omega)
theorem ltR_trans : ∀ N M K, ltR N M = true → ltR M K = true → ltR N K = true := by
  intro N
  induction N using Nat.strongRecOn with
  | _ N ih =>
    intro M K h1 h2
    rw [ltR] at h1 h2 ⊢
    by_cases hK : K = 0
    · simp [hK] at h2
    · rw [if_neg hK] at h2 ⊢
      by_cases hN : N = 0
      · simp [hN]
      · rw [if_neg hN]
        by_cases hM : M = 0
        · simp [hM] at h1
        · rw [if_neg hM, if_neg hN] at h1
          rw [if_neg hM] at h2
          by_cases n1 : N % 2 = 1 <;> by_cases m1 : M % 2 = 1 <;> by_cases k1 : K % 2 = 1 <;>
            simp only [show N % 2 = 0 ↔ ¬ N % 2 = 1 by omega, show M % 2 = 0 ↔ ¬ M % 2 = 1 by omega, show K % 2 = 0 ↔ ¬ K % 2 = 1 by omega, n1, m1, k1] at h1 h2 ⊢ <;> simp at h1 h2 ⊢ <;> exact ih _ (by omega) _ _ h1 h2
theorem ltR_total : ∀ N M, N ≠ M → ltR N M = false → ltR M N = true := by
  intro N
  induction N using Nat.strongRecOn with
  | _ N ih =>
    intro M hne h
    rw [ltR] at h ⊢
    by_cases hN : N = 0
    · by_cases hM : M = 0
      · omega
      · simp [hN, hM] at h
    · rw [if_neg hN]
      by_cases hM : M = 0
      · simp [hM]
      · rw [if_neg hM]
        rw [if_neg hM, if_neg hN] at h
        by_cases n1 : N % 2 = 1 <;> by_cases m1 : M % 2 = 1 <;>
          simp only [show N % 2 = 0 ↔ ¬ N % 2 = 1 by omega, show M % 2 = 0 ↔ ¬ M % 2 = 1 by omega, n1, m1] at h ⊢ <;> simp at h ⊢ <;> exact ih _ (by omega) _ (by omega) h
theorem ltR_asymm {N M : Nat} (h : ltR N M = true) : ltR M N = false := by
  cases h2 : ltR M N
  · rfl
  · rw [← ltR_irrefl N, ltR_trans _ _ _ h h2]
/-- The lowest bit in which they differ decides. -/
theorem ltR_at : ∀ (i N M : Nat), (∀ j, j < i → N.testBit j = M.testBit j) → N.testBit i = true → M.testBit i = false → ltR N M = decide (M / 2 ^ i ≠ 0)
  | 0, N, M, _, hN, hM => by
    have n1 : N % 2 = 1 := by simpa using hN
    have m1 : M % 2 = 0 := by
      have : ¬ M % 2 = 1 := by simpa using hM
      omega
    rw [ltR]
    by_cases h0 : M = 0
    · simp [h0]
    · rw [if_neg h0, if_neg (by omega), if_pos ⟨n1, m1⟩]; simp [h0]
  | i + 1, N, M, hj, hN, hM => by
    have h0 := hj 0 (by omega)
    have hp : N % 2 = M % 2 := by
      have := Nat.testBit_zero N
      have := Nat.testBit_zero M
      by_cases a : N % 2 = 1 <;> by_cases b : M % 2 = 1 <;> simp_all <;> omega
    have hN0 : N ≠ 0 := by rintro rfl; simp at hN
    rw [ltR]
    by_cases hM0 : M = 0
    · simp [hM0]
    · rw [if_neg hM0, if_neg hN0, if_neg (by omega), if_neg (by omega)]
      rw [ltR_at i (N / 2) (M / 2) (fun j hj' => by rw [Nat.testBit_div_two, Nat.testBit_div_two]; exact hj (j + 1) (by omega)) (by rw [Nat.testBit_div_two]; exact hN) (by rw [Nat.testBit_div_two]; exact hM)]
      rw [Nat.div_div_eq_div_mul, Nat.pow_succ, Nat.mul_comm (2 ^ i) 2]
def cmpN (N M : Nat) : Int := if N = M then 0 else if ltR N M then -1 else 1
theorem cmpN_lt (N M : Nat) : decide (cmpN N M < 0) = ltR N M := by
  unfold cmpN
  by_cases h : N = M
  · subst h; simp [ltR_irrefl]
  · rw [if_neg h]; cases ltR N M <;> simp
/-- A list in ascending order is known by its members. -/
theorem sorted_ext : ∀ (l m : List Nat), l.Pairwise (fun a b => ltR a b = true) → m.Pairwise (fun a b => ltR a b = true) → (∀ x, x ∈ l ↔ x ∈ m) → l = m
  | [], [], _, _, _ => rfl
  | [], b :: m, _, _, h => by have := (h b).2 (by simp); simp at this
  | a :: l, [], _, _, h => by have := (h a).1 (by simp); simp at this
  | a :: l, b :: m, hl, hm, h => by
    rw [List.pairwise_cons] at hl hm
    have e : a = b := by
      rcases List.mem_cons.1 ((h a).1 (by simp)) with e | ha
      · exact e
      · rcases List.mem_cons.1 ((h b).2 (by simp)) with e | hb
        · exact e.symm
        · have h1 := hm.1 a ha
          have h2 := hl.1 b hb
          rw [ltR_asymm h1] at h2; cases h2
    subst e
    rw [sorted_ext l m hl.2 hm.2 fun x => ?_]
    constructor
    · intro hx
      rcases List.mem_cons.1 ((h x).1 (by simp [hx])) with rfl | hm'
      · have := hl.1 _ hx; rw [ltR_irrefl] at this; cases this
      · exact hm'
    · intro hx
      rcases List.mem_cons.1 ((h x).2 (by simp [hx])) with rfl | hm'
      · have := hm.1 _ hx; rw [ltR_irrefl] at this; cases this
      · exact hm'
end Go.Proofs.YtfbkcdhmggjbaaaGreatDoor

/-
  Galois: closures, and the minimal sets with a closure, in plain words.
-/
namespace Go.Proofs.YtfbkcdhmggjbaaaGreatDoor
open Go.RowKit

section
variable {C : Nat} {Ns : List Nat}
theorem nat_ext {a b : Nat} (h : ∀ i, a.testBit i = true ↔ b.testBit i = true) : a = b := Nat.eq_of_testBit_eq fun i => by
  have := h i
  cases h1 : a.testBit i <;> cases h2 : b.testBit i <;> simp_all
theorem havN_lt (hl : Ns.length ≤ 4096) {S i : Nat} (h : (havN C Ns S).testBit i = true) : i < Ns.length := ((testBit_havN C Ns hl S i).1 h).1
theorem comN_lt {S j : Nat} (h : (comN C Ns S).testBit j = true) : j < C := ((testBit_comN C Ns S j).1 h).1
/-- More columns, fewer rows. -/
theorem havN_anti (hl : Ns.length ≤ 4096) {S T : Nat} (h : ∀ j, j < C → S.testBit j = true → T.testBit j = true) {i : Nat} (hi : (havN C Ns T).testBit i = true) : (havN C Ns S).testBit i = true := by
  rw [testBit_havN C Ns hl] at hi ⊢
  exact ⟨hi.1, fun j hj hc => hi.2 j (h j hc hj) hc⟩
theorem comN_anti {S T : Nat} (h : ∀ i, i < Ns.length → S.testBit i = true → T.testBit i = true) {j : Nat} (hj : (comN C Ns T).testBit j = true) : (comN C Ns S).testBit j = true := by
  rw [testBit_comN] at hj ⊢
  exact ⟨hj.1, fun i hi hl => hj.2 i (h i hl hi) hl⟩
theorem clo_sup (hl : Ns.length ≤ 4096) {S j : Nat} (hc : j < C) (hj : S.testBit j = true) : (cloN C Ns S).testBit j = true := by
  unfold cloN
  rw [testBit_comN]
  exact ⟨hc, fun i hi _ => ((testBit_havN C Ns hl S i).1 hi).2 j hj hc⟩
theorem clo_mono (hl : Ns.length ≤ 4096) {S T : Nat} (h : ∀ j, j < C → S.testBit j = true → T.testBit j = true) {j : Nat} (hj : (cloN C Ns S).testBit j = true) : (cloN C Ns T).testBit j = true := by
  unfold cloN at *
  exact comN_anti (fun i _ hi => havN_anti hl h hi) hj
/-- The rows of a closure are the rows of the columns. -/
theorem hav_clo (hl : Ns.length ≤ 4096) (S : Nat) : havN C Ns (cloN C Ns S) = havN C Ns S := by
  refine nat_ext fun i => ⟨fun h => havN_anti hl (fun j hc hj => clo_sup hl hc hj) h, fun h => ?_⟩
  rw [testBit_havN C Ns hl]
  refine ⟨havN_lt hl h, fun j hj hc => ?_⟩
  unfold cloN at hj
  exact ((testBit_comN C Ns _ j).1 hj).2 i h (havN_lt hl h)
theorem clo_clo (hl : Ns.length ≤ 4096) (S : Nat) : cloN C Ns (cloN C Ns S) = cloN C Ns S := by
  show comN C Ns (havN C Ns (cloN C Ns S)) = comN C Ns (havN C Ns S)
  rw [hav_clo hl]
/-- Columns with the same rows have the same closure, and the other way round. -/
theorem hav_iff_clo (hl : Ns.length ≤ 4096) (S T : Nat) : havN C Ns S = havN C Ns T ↔ cloN C Ns S = cloN C Ns T :=
  ⟨fun h => by unfold cloN; rw [h], fun h => by rw [← hav_clo hl S, ← hav_clo hl T, h]⟩
end
/-! Subsets of a list of members. -/
end Go.Proofs.YtfbkcdhmggjbaaaGreatDoor

/-
  closure.Common and closure.Having at every matrix, nil too.
-/
namespace Go.Proofs.YtfbkcdhmggjbaaaGreatDoor
open Go.RowKit
attribute [local go_sem] Oper.semAt_some

/-- A matrix, or nil, which is like one without rows and columns. -/
def IsMV (w : World) (m : Option Addr) (C : Nat) (Ns : List Nat) : Prop := (m = none ∧ C = 0 ∧ Ns = []) ∨ ∃ p, m = some ⟨p, 0, none⟩ ∧ IsMat w p C Ns
section
variable {w w' : World} {m : Option Addr} {C : Nat} {Ns : List Nat}
theorem IsMV.below (h : IsMV w m C Ns) (hb : Below w.heap.size w w') : IsMV w' m C Ns := h.imp id fun ⟨p, e, h⟩ => ⟨p, e, h.below hb⟩
theorem IsMV.bd (h : IsMV w m C Ns) : C ≤ 4096 ∧ Ns.length ≤ 4096 := by
  rcases h with ⟨_, rfl, rfl⟩ | ⟨p, _, h⟩
  · simp
  · exact ⟨h.1, h.2.1⟩
theorem rows_v (h : IsMV w m C Ns) : Calls Tryz.prog 16 #[.pointer m] w fun e w' => e = .returned (.int .i64 Ns.length) ∧ w = w' := by
  rcases h with ⟨rfl, rfl, rfl⟩ | ⟨p, rfl, h⟩
  · exact rows_nil w
  · exact rows_any p C Ns w h
theorem cols_v (h : IsMV w m C Ns) : Calls Tryz.prog 15 #[.pointer m] w fun e w' => e = .returned (.int .i64 C) ∧ w = w' := by
  rcases h with ⟨rfl, rfl, rfl⟩ | ⟨p, rfl, h⟩
  · exact cols_nil w
  · exact cols_any p C Ns w h
theorem row_v (h : IsMV w m C Ns) {i : Nat} (hi : i < Ns.length) : Calls Tryz.prog 79 #[.pointer m, .int .i64 i] w fun e w' => ∃ r, e = .returned (.agg #[r]) ∧ IsSet w' r (Ns.getD i 0) ∧ Below w.heap.size w w' := by
  rcases h with ⟨rfl, rfl, rfl⟩ | ⟨p, rfl, h⟩
  · simp at hi
  · have := row_any p C Ns i w h
    rw [mrow, if_pos (by omega), Int.toNat_natCast] at this
    exact this
theorem col_v (h : IsMV w m C Ns) {j : Nat} (hj : j < C) : Calls Tryz.prog 83 #[.pointer m, .int .i64 j] w fun e w' => ∃ r, e = .returned (.agg #[r]) ∧ IsSet w' r (mcol C Ns (j : Nat)) ∧ Below w.heap.size w w' := by
  rcases h with ⟨rfl, rfl, rfl⟩ | ⟨p, rfl, h⟩
  · omega
  · exact col_any p C Ns j w h
end
set_option maxRecDepth 100000 in
set_option maxHeartbeats 4000000 in
theorem common_any (m : Option Addr) (C : Nat) (Ns : List Nat) (v : Value) (S : Nat) (w : World) (h : IsMV w m C Ns) (hs : IsSet w v S) (hT : Tab w) :
    Calls Tryz.prog 182 #[.pointer m, .agg #[v]] w fun e w' => ∃ r, e = .returned (.agg #[r]) ∧ IsSet w' r (comN C Ns S) ∧ Below w.heap.size w w' := by
  obtain ⟨hC, hR⟩ := h.bd
  refine (callsIn_wide (n := 9)).1 (callsIn_of_wp_marks Tryz.func182 rfl trivial (wpIn_wide.2 ?_) rfl)
  simp only [Tryz.ntmps182, List.size_toArray, List.length_cons, List.length_nil, Nat.reduceAdd, Nat.reduceSub, Array.replicate_succ, Array.replicate_zero, List.push_toArray, List.append_toArray, List.nil_append, List.cons_append]
  go_wp2_with fail
  refine absC3 fun W0 hM0 hR0 hO0 hb0 hz0 => ?_
  refine (cols_v (h.below hb0)).mono ?_
  rintro e w1 ⟨rfl, rfl⟩
  have x0 := hM0.cell 0
  go_wp2_with fail
  refine (below_any _ _).mono ?_
  rintro e w2 ⟨r, rfl, hset, hb2⟩
  rw [clamp_nat (by omega)] at hset
  have b2 := hb0.trans (hb2.mono hb0.size)
  have hM2 := hM0.below hb2 hM0.lt
  have hR2 := hR0.below hb2 hR0.lt
  have hO2 := hO0.below hb2 hO0.lt
  have y0 := hR2.cell 0
  obtain ⟨Ar, cr, rfl, _⟩ := id hset
  obtain ⟨Av, cv, rfl, _⟩ := id hs
  have lR := hR2.lt
  clear x0 hM0 hR0 hO0
  go_wp2_with fail
  refine absC1 fun W3 hX3 hb3 hz3 => ?_
  refine (all_any Av (nw S) cv W3).mono ?_
  rintro e w4 ⟨rfl, hw4⟩
  have hY := hw4 ▸ Blk.new W3 74 #[.slice Av (nw S) cv]
  have hb4 : Below W3.heap.size W3 w4 := by rw [hw4]; exact (Below.refl _ _).alloc (Nat.le_refl _) _
  have hb24 := hb3.trans (hb4.mono hb3.size)
  have b4 := b2.trans (hb24.mono b2.size)
  have hM4 := hM2.below hb24 hM2.lt
  have hO4 := hO2.below hb24 hO2.lt
  have hX4 := hX3.below hb4 hX3.lt
  have hset4 := hset.below hb24
  have hs4 := hs.below b4
  have hT4 := hT.below b4
  have hz2 : w.heap.size + 3 ≤ w2.heap.size := by have := hb2.size; omega
  have hsz4 : w4.heap.size = w2.heap.size + 2 := by rw [hw4]; simp [hz3]
  rw [hz3] at hY ⊢
  clear hw4 hX3 hM2 hR2 hO2 hb2 hset y0
  have HSZ := Lib.hid hsz4
  have HZ3 := Lib.hid hz3
  have HZ0 := Lib.hid hz0
  clear hsz4 hz3 hz0
  have hXne : some (w.heap.size) ≠ some w2.heap.size := by simp; omega
  go_wp2_with fail
  refine wp_rangeAll (v := .slice Av (nw S) cv) (N := S) (Bx := w2.heap.size + 1) rfl (hY.cell 0) hs4 hT4 rfl
    (fun pre W => (∃ rv', Blk W w2.heap.size 74 #[rv'] ∧ IsSet W rv' (comTo C Ns pre)) ∧ But (some w2.heap.size) w4 W ∧ Below w.heap.size w W) (fun _ _ _ => False)
    ?hI (fun _ _ _ _ _ hs _ _ => hs) ?h0 ?a1 ?assign ?body ?done (fun _ _ _ _ _ h _ => h.elim)
  case assign =>
    intro l x W K hK
    gi_wp2
    exact hK
  case hI =>
    rintro s W W' row ⟨⟨rv', hb, hsr⟩, hbut, hbl⟩ hg hrow
    have hcells : ∀ (g : Nat) cs t fz, W.heap[g]? = some (Obj.cells cs t fz) → W'.heap[g]? = some (Obj.cells cs t fz) := fun g cs t fz hb => (hg.block g (Array.getElem?_eq_some_iff.1 hb).1 fun e => by
      obtain ⟨_, o, ho, hc⟩ := hrow g e.symm
      rw [ho] at hb; cases hb; cases hc).trans hb
    refine ⟨⟨rv', hcells _ _ _ _ hb, hsr.keep ⟨hg.size, fun g cs h => hcells _ _ _ _ h⟩⟩, ⟨Nat.le_trans hbut.1 hg.size, fun g hg' hne => (hg.block g (Nat.lt_of_lt_of_le hg' hbut.1) fun e => ?_).trans (hbut.2 g hg' hne)⟩, hbl.grown hg hbl.size fun k e => ?_⟩
    · have := (hrow g e.symm).1; omega
    · have := (hrow k e).1; have := b4.size; omega
  case h0 => exact ⟨⟨_, hX4, by simpa [comTo] using hset4⟩, But.refl _ _, b4⟩
  case body =>
    rintro l pre x W hx ⟨⟨rv', hX, hsr⟩, hbut, hbl⟩ hlen hkp
    have cM := hbut.on (hM4.cell 0) hXne
    have cX := hX.cell 0
    have lX := hX.lt
    have lM := cell_lt cM
    have hmv := h.below hbl
    have hd : Below W.heap.size W W.drew := (Below.refl _ _).drew
    have hst : comTo C Ns (pre ++ [x]) = _ := comTo_snoc C Ns pre x
    by_cases hxl : x < Ns.length
    · rw [if_pos hxl] at hst
      have hgt := row_v (hmv.below hd) hxl
      obtain ⟨rx, hrx⟩ : ∃ n, n = Ns.getD x 0 := ⟨_, rfl⟩
      rw [← hrx] at hst hgt
      have HST := Lib.hid hst
      have HC := hideC (rows_v hmv)
      have HR := hideC hgt
      clear hst hrx hgt
      gi_wp2_with (refine ⟨trivial, ?_⟩; gi_at_call 16; refine (CallsIn.inRound l (callsIn_wide.2 HC.out)).mono ?_; rintro e w5 ⟨rfl, rfl⟩)
      refine wpIn_spine (fun V => Below W.heap.size W V) [0, 1, 2] [3, 4, 5] (fun _ => trivial) (by kernel_rfl) (by kernel_rfl) (by kernel_rfl) ?_
      iterate 3 (refine wpE_op (v := ?_) rfl rfl (fun W hW => ?_) ?_; rotate_left; (have x1 := onB hW cX; have x2 := onB hW cM; go_simp; first | done | with_reducible rfl); simp only [Act.put, List.setIfInBounds_toArray, List.set_cons_zero, List.set_cons_succ])
      refine wpE_nil ⟨fun h => (by cases h), wpSpI_op rfl hd ?_⟩
      gi_wp2_with (refine ⟨trivial, ?_⟩; gi_at_call 79; refine (CallsIn.inRound l (callsIn_wide.2 HR.out)).mono ?_; rintro e w6 ⟨r1, rfl, hr1, hb6⟩; obtain ⟨A6, c6, rfl, _⟩ := id hr1)
      have hb6' := hd.trans (hb6.mono hd.size)
      have HA := hideC (and_any _ _ _ _ w6 (hsr.below hb6') hr1)
      refine nxtI_op rfl hb6' ?_
      gi_wp2_with (refine ⟨trivial, ?_⟩; gi_at_call 104; refine (CallsIn.inRound l (callsIn_wide.2 HA.out)).mono ?_; rintro e w7 ⟨r2, rfl, hr2, hb7⟩; obtain ⟨A7, c7, rfl, _⟩ := id hr2)
      have hb7' := hb6'.trans (hb7.mono hb6'.size)
      have hX7 := hX.below hb7' hX.lt
      have cX7 := hX7.cell 0
      have fX7 := hX7.frozen 0
      refine nxtI_op rfl hb7' ?_
      gi_wp2_with fail
      refine nxtI_nil ?_
      gi_wp2_with fail
      have hk8 := (KeepW.of_below hb7').trans (KeepW.setCell (p := ⟨w2.heap.size, 0, none⟩) hX7 (by decide) (.slice A7 (nw (comTo C Ns pre &&& rx)) c7))
      have hb8 := (hb7'.mono hbl.size).setCell (p := ⟨w2.heap.size, 0, none⟩) (by simp; omega) (.slice A7 (nw (comTo C Ns pre &&& rx)) c7)
      exact ⟨((KeepsOthers.of_below hb7').trans (KeepsOthers.setCell _ _ _)).from _, KpA.mk_ hk8 hb8 hT.pos,
        ⟨_, hX7.set_ 0 (.slice A7 (nw (comTo C Ns pre &&& rx)) c7), by rw [HST.out]; exact hr2.keep (KeepW.setCell (p := ⟨w2.heap.size, 0, none⟩) hX7 (by decide) (.slice A7 (nw (comTo C Ns pre &&& rx)) c7))⟩, (hbut.below hb7').trans (But.setCell _ _ _), hbl.trans hb8⟩
    · rw [if_neg hxl] at hst
      have HST := Lib.hid hst
      have HC := hideC (rows_v hmv)
      clear hst
      gi_wp2_with (refine ⟨trivial, ?_⟩; gi_at_call 16; refine (CallsIn.inRound l (callsIn_wide.2 HC.out)).mono ?_; rintro e w5 ⟨rfl, rfl⟩)
      exact ⟨(KeepsOthers.of_below (Below.refl _ _)).from _, KpA.refl _, ⟨_, hX, by rw [HST.out]; exact hsr⟩, hbut, hbl⟩
  case done =>
    rintro D W hD ⟨⟨rv', hX, hsr⟩, hbut, hbl⟩ hK
    obtain ⟨A', c', rfl, _⟩ := id hsr
    have hOW := hbut.blk hO4 (by simp; omega)
    have cX := hX.cell 0
    have cO := hOW.cell 0
    have fO := hOW.frozen 0
    have lO := hOW.lt
    go_wp2_with fail
    have hOX := hOW.set_ 0 (.slice A' (nw (comTo C Ns (mems S))) c')
    have hbX := hbl.setCell (p := ⟨w.heap.size + 1 + 1, 0, none⟩) (by show w.heap.size ≤ w.heap.size + 1 + 1; omega) (.slice A' (nw (comTo C Ns (mems S))) c')
    have hsX := hsr.keep (KeepW.setCell (p := ⟨w.heap.size + 1 + 1, 0, none⟩) hOW (by decide) (.slice A' (nw (comTo C Ns (mems S))) c'))
    have hKX := (KeepsOthers.setCell W ⟨w.heap.size + 1 + 1, 0, none⟩ (.slice A' (nw (comTo C Ns (mems S))) c')).same _ _ hK rfl
    refine leave_marks (n₀ := w.heap.size) [{ target := .collected D, args := #[] }] _ ⟨⟨D, rfl, by have := b4.size; omega, hKX, fun e he => by cases he⟩, trivial⟩ fun W' hW' => ?_
    have hBB : Blk W' (w.heap.size + 1 + 1) 74 _ := hW'.2 _ _ _ _ hOX
    have cX := hBB.cell 0
    exact ⟨_, by simp [results, Tryz.results182, go_sem, cX], _, rfl, hsX.keep hW'.keep, hbX.trans hW'.1⟩
set_option maxRecDepth 100000 in
set_option maxHeartbeats 4000000 in
theorem having_any (m : Option Addr) (C : Nat) (Ns : List Nat) (v : Value) (S : Nat) (w : World) (h : IsMV w m C Ns) (hs : IsSet w v S) (hT : Tab w) :
    Calls Tryz.prog 129 #[.pointer m, .agg #[v]] w fun e w' => ∃ r, e = .returned (.agg #[r]) ∧ IsSet w' r (havN C Ns S) ∧ Below w.heap.size w w' := by
  obtain ⟨hC, hR⟩ := h.bd
  refine (callsIn_wide (n := 9)).1 (callsIn_of_wp_marks Tryz.func129 rfl trivial (wpIn_wide.2 ?_) rfl)
  simp only [Tryz.ntmps129, List.size_toArray, List.length_cons, List.length_nil, Nat.reduceAdd, Nat.reduceSub, Array.replicate_succ, Array.replicate_zero, List.push_toArray, List.append_toArray, List.nil_append, List.cons_append]
  go_wp2_with fail
  refine absC3 fun W0 hM0 hR0 hO0 hb0 hz0 => ?_
  refine (rows_v (h.below hb0)).mono ?_
  rintro e w1 ⟨rfl, rfl⟩
  have x0 := hM0.cell 0
  go_wp2_with fail
  refine (below_any _ _).mono ?_
  rintro e w2 ⟨r, rfl, hset, hb2⟩
  rw [clamp_nat (by omega)] at hset
  have b2 := hb0.trans (hb2.mono hb0.size)
  have hM2 := hM0.below hb2 hM0.lt
  have hR2 := hR0.below hb2 hR0.lt
  have hO2 := hO0.below hb2 hO0.lt
  have y0 := hR2.cell 0
  obtain ⟨Ar, cr, rfl, _⟩ := id hset
  obtain ⟨Av, cv, rfl, _⟩ := id hs
  have lR := hR2.lt
  clear x0 hM0 hR0 hO0
  go_wp2_with fail
  refine absC1 fun W3 hX3 hb3 hz3 => ?_
  refine (all_any Av (nw S) cv W3).mono ?_
  rintro e w4 ⟨rfl, hw4⟩
  have hY := hw4 ▸ Blk.new W3 74 #[.slice Av (nw S) cv]
  have hb4 : Below W3.heap.size W3 w4 := by rw [hw4]; exact (Below.refl _ _).alloc (Nat.le_refl _) _
  have hb24 := hb3.trans (hb4.mono hb3.size)
  have b4 := b2.trans (hb24.mono b2.size)
  have hM4 := hM2.below hb24 hM2.lt
  have hO4 := hO2.below hb24 hO2.lt
  have hX4 := hX3.below hb4 hX3.lt
  have hset4 := hset.below hb24
  have hs4 := hs.below b4
  have hT4 := hT.below b4
  have hz2 : w.heap.size + 3 ≤ w2.heap.size := by have := hb2.size; omega
  have hsz4 : w4.heap.size = w2.heap.size + 2 := by rw [hw4]; simp [hz3]
  rw [hz3] at hY ⊢
  clear hw4 hX3 hM2 hR2 hO2 hb2 hset y0
  have HSZ := Lib.hid hsz4
  have HZ3 := Lib.hid hz3
  have HZ0 := Lib.hid hz0
  clear hsz4 hz3 hz0
  have hXne : some (w.heap.size) ≠ some w2.heap.size := by simp; omega
  go_wp2_with fail
  refine wp_rangeAll (v := .slice Av (nw S) cv) (N := S) (Bx := w2.heap.size + 1) rfl (hY.cell 0) hs4 hT4 rfl
    (fun pre W => (∃ rv', Blk W w2.heap.size 74 #[rv'] ∧ IsSet W rv' (havTo C Ns pre)) ∧ But (some w2.heap.size) w4 W ∧ Below w.heap.size w W) (fun _ _ _ => False)
    ?hI (fun _ _ _ _ _ hs _ _ => hs) ?h0 ?a1 ?assign ?body ?done (fun _ _ _ _ _ h _ => h.elim)
  case assign =>
    intro l x W K hK
    gi_wp2
    exact hK
  case hI =>
    rintro s W W' row ⟨⟨rv', hb, hsr⟩, hbut, hbl⟩ hg hrow
    have hcells : ∀ (g : Nat) cs t fz, W.heap[g]? = some (Obj.cells cs t fz) → W'.heap[g]? = some (Obj.cells cs t fz) := fun g cs t fz hb => (hg.block g (Array.getElem?_eq_some_iff.1 hb).1 fun e => by
      obtain ⟨_, o, ho, hc⟩ := hrow g e.symm
      rw [ho] at hb; cases hb; cases hc).trans hb
    refine ⟨⟨rv', hcells _ _ _ _ hb, hsr.keep ⟨hg.size, fun g cs h => hcells _ _ _ _ h⟩⟩, ⟨Nat.le_trans hbut.1 hg.size, fun g hg' hne => (hg.block g (Nat.lt_of_lt_of_le hg' hbut.1) fun e => ?_).trans (hbut.2 g hg' hne)⟩, hbl.grown hg hbl.size fun k e => ?_⟩
    · have := (hrow g e.symm).1; omega
    · have := (hrow k e).1; have := b4.size; omega
  case h0 => exact ⟨⟨_, hX4, by simpa [havTo] using hset4⟩, But.refl _ _, b4⟩
  case body =>
    rintro l pre x W hx ⟨⟨rv', hX, hsr⟩, hbut, hbl⟩ hlen hkp
    have cM := hbut.on (hM4.cell 0) hXne
    have cX := hX.cell 0
    have lX := hX.lt
    have lM := cell_lt cM
    have hmv := h.below hbl
    have hd : Below W.heap.size W W.drew := (Below.refl _ _).drew
    have hst : havTo C Ns (pre ++ [x]) = _ := havTo_snoc C Ns pre x
    by_cases hxl : x < C
    · rw [if_pos hxl] at hst
      have hgt := col_v (hmv.below hd) hxl
      obtain ⟨rx, hrx⟩ : ∃ n, n = mcol C Ns (x : Nat) := ⟨_, rfl⟩
      rw [← hrx] at hst hgt
      have HST := Lib.hid hst
      have HC := hideC (cols_v hmv)
      have HR := hideC hgt
      clear hst hrx hgt
      gi_wp2_with (refine ⟨trivial, ?_⟩; gi_at_call 15; refine (CallsIn.inRound l (callsIn_wide.2 HC.out)).mono ?_; rintro e w5 ⟨rfl, rfl⟩)
      refine wpIn_spine (fun V => Below W.heap.size W V) [0, 1, 2] [3, 4, 5] (fun _ => trivial) (by kernel_rfl) (by kernel_rfl) (by kernel_rfl) ?_
      iterate 3 (refine wpE_op (v := ?_) rfl rfl (fun W hW => ?_) ?_; rotate_left; (have x1 := onB hW cX; have x2 := onB hW cM; go_simp; first | done | with_reducible rfl); simp only [Act.put, List.setIfInBounds_toArray, List.set_cons_zero, List.set_cons_succ])
      refine wpE_nil ⟨fun h => (by cases h), wpSpI_op rfl hd ?_⟩
      gi_wp2_with (refine ⟨trivial, ?_⟩; gi_at_call 83; refine (CallsIn.inRound l (callsIn_wide.2 HR.out)).mono ?_; rintro e w6 ⟨r1, rfl, hr1, hb6⟩; obtain ⟨A6, c6, rfl, _⟩ := id hr1)
      have hb6' := hd.trans (hb6.mono hd.size)
      have HA := hideC (and_any _ _ _ _ w6 (hsr.below hb6') hr1)
      refine nxtI_op rfl hb6' ?_
      gi_wp2_with (refine ⟨trivial, ?_⟩; gi_at_call 104; refine (CallsIn.inRound l (callsIn_wide.2 HA.out)).mono ?_; rintro e w7 ⟨r2, rfl, hr2, hb7⟩; obtain ⟨A7, c7, rfl, _⟩ := id hr2)
      have hb7' := hb6'.trans (hb7.mono hb6'.size)
      have hX7 := hX.below hb7' hX.lt
      have cX7 := hX7.cell 0
      have fX7 := hX7.frozen 0
      refine nxtI_op rfl hb7' ?_
      gi_wp2_with fail
      refine nxtI_nil ?_
      gi_wp2_with fail
      have hk8 := (KeepW.of_below hb7').trans (KeepW.setCell (p := ⟨w2.heap.size, 0, none⟩) hX7 (by decide) (.slice A7 (nw (havTo C Ns pre &&& rx)) c7))
      have hb8 := (hb7'.mono hbl.size).setCell (p := ⟨w2.heap.size, 0, none⟩) (by simp; omega) (.slice A7 (nw (havTo C Ns pre &&& rx)) c7)
      exact ⟨((KeepsOthers.of_below hb7').trans (KeepsOthers.setCell _ _ _)).from _, KpA.mk_ hk8 hb8 hT.pos,
        ⟨_, hX7.set_ 0 (.slice A7 (nw (havTo C Ns pre &&& rx)) c7), by rw [HST.out]; exact hr2.keep (KeepW.setCell (p := ⟨w2.heap.size, 0, none⟩) hX7 (by decide) (.slice A7 (nw (havTo C Ns pre &&& rx)) c7))⟩, (hbut.below hb7').trans (But.setCell _ _ _), hbl.trans hb8⟩
    · rw [if_neg hxl] at hst
      have HST := Lib.hid hst
      have HC := hideC (cols_v hmv)
      clear hst
      gi_wp2_with (refine ⟨trivial, ?_⟩; gi_at_call 15; refine (CallsIn.inRound l (callsIn_wide.2 HC.out)).mono ?_; rintro e w5 ⟨rfl, rfl⟩)
      exact ⟨(KeepsOthers.of_below (Below.refl _ _)).from _, KpA.refl _, ⟨_, hX, by rw [HST.out]; exact hsr⟩, hbut, hbl⟩
  case done =>
    rintro D W hD ⟨⟨rv', hX, hsr⟩, hbut, hbl⟩ hK
    obtain ⟨A', c', rfl, _⟩ := id hsr
    have hOW := hbut.blk hO4 (by simp; omega)
    have cX := hX.cell 0
    have cO := hOW.cell 0
    have fO := hOW.frozen 0
    have lO := hOW.lt
    go_wp2_with fail
    have hOX := hOW.set_ 0 (.slice A' (nw (havTo C Ns (mems S))) c')
    have hbX := hbl.setCell (p := ⟨w.heap.size + 1 + 1, 0, none⟩) (by show w.heap.size ≤ w.heap.size + 1 + 1; omega) (.slice A' (nw (havTo C Ns (mems S))) c')
    have hsX := hsr.keep (KeepW.setCell (p := ⟨w.heap.size + 1 + 1, 0, none⟩) hOW (by decide) (.slice A' (nw (havTo C Ns (mems S))) c'))
    have hKX := (KeepsOthers.setCell W ⟨w.heap.size + 1 + 1, 0, none⟩ (.slice A' (nw (havTo C Ns (mems S))) c')).same _ _ hK rfl
    refine leave_marks (n₀ := w.heap.size) [{ target := .collected D, args := #[] }] _ ⟨⟨D, rfl, by have := b4.size; omega, hKX, fun e he => by cases he⟩, trivial⟩ fun W' hW' => ?_
    have hBB : Blk W' (w.heap.size + 1 + 1) 74 _ := hW'.2 _ _ _ _ hOX
    have cX := hBB.cell 0
    exact ⟨_, by simp [results, Tryz.results129, go_sem, cX], _, rfl, hsX.keep hW'.keep, hbX.trans hW'.1⟩
end Go.Proofs.YtfbkcdhmggjbaaaGreatDoor

/-
  closure.Close, own, Closed, Of, Implies at every matrix, nil too.
-/
namespace Go.Proofs.YtfbkcdhmggjbaaaGreatDoor
open Go.RowKit

/-- A result cell is written. -/
theorem IsSet.put {w : World} {v : Value} {N g : Nat} {t : TypeId} {cs : Array Value} (h : IsSet w v N) (hB : Blk w g t cs) (ht : 158 ≠ t) (i : Nat) (u : Value) : IsSet (w.setCell ⟨g, i, none⟩ u) v N := h.keep (KeepW.setCell (p := ⟨g, i, none⟩) hB ht u)
set_option maxRecDepth 100000 in
set_option maxHeartbeats 2000000 in
theorem close_any (m : Option Addr) (C : Nat) (Ns : List Nat) (v : Value) (S : Nat) (w : World) (h : IsMV w m C Ns) (hs : IsSet w v S) (hT : Tab w) :
    Calls Tryz.prog 136 #[.pointer m, .agg #[v]] w fun e w' => ∃ r, e = .returned (.agg #[r]) ∧ IsSet w' r (cloN C Ns S) ∧ Below w.heap.size w w' := by
  obtain ⟨A, c, rfl, _⟩ := id hs
  go_enter Tryz.func136, Tryz.ntmps136
  go_wp2_with fail
  refine absC2 fun W0 hX hO hb0 hz => ?_
  refine (having_any m C Ns _ S W0 (h.below hb0) (hs.below hb0) (hT.below hb0)).mono ?_
  rintro e w1 ⟨r1, rfl, hr1, hb1⟩
  obtain ⟨A1, c1, rfl, _⟩ := id hr1
  have b1 := hb0.trans (hb1.mono hb0.size)
  have hO1 := hO.below hb1 hO.lt
  go_wp2_with fail
  refine (common_any m C Ns _ _ w1 (h.below b1) hr1 (hT.below b1)).mono ?_
  rintro e w2 ⟨r2, rfl, hr2, hb2⟩
  obtain ⟨A2, c2, rfl, _⟩ := id hr2
  have b2 := b1.trans (hb2.mono b1.size)
  have hO2 := hO1.below hb2 hO1.lt
  have f0 := hO2.frozen 0
  have o0 := hO2.cell 0
  have lO := hO2.lt
  go_wp2_with fail
  have hOX := hO2.set_ 0 (.slice A2 (nw (comN C Ns (havN C Ns S))) c2)
  have cX := hOX.cell 0
  exact bodyPost_ret (v := .agg #[.slice A2 (nw (comN C Ns (havN C Ns S))) c2]) (by simp [results, Tryz.results136, go_sem, cX]) rfl ⟨_, rfl, hr2.put hO2 (by decide) 0 _, b2.setCell (p := ⟨w.heap.size + 1, 0, none⟩) (by simp) _⟩
set_option maxRecDepth 100000 in
set_option maxHeartbeats 2000000 in
theorem own_any (m : Option Addr) (C : Nat) (Ns : List Nat) (v : Value) (S : Nat) (w : World) (h : IsMV w m C Ns) (hs : IsSet w v S) :
    Calls Tryz.prog 214 #[.pointer m, .agg #[v]] w fun e w' => ∃ r, e = .returned (.agg #[r]) ∧ IsSet w' r (S &&& lowN C) ∧ Below w.heap.size w w' := by
  obtain ⟨A, c, rfl, _⟩ := id hs
  have hC := h.bd.1
  go_enter Tryz.func214, Tryz.ntmps214
  go_wp2_with fail
  refine abs2 fun W0 hX hO hb0 hz => ?_
  have x0 := hX.cell 0
  have hd : Below W0.heap.size W0 W0.drew := (Below.refl _ _).drew
  have bd := hb0.trans (hd.mono hb0.size)
  refine wp_spine (fun W => Below W0.heap.size W0 W) [0, 1] [2, 3, 4, 5] (by kernel_rfl) (by kernel_rfl) ?_
  iterate 2 (refine wpE_op (v := ?_) rfl rfl (fun W hW => ?_) ?_; rotate_left; (have z0 := onB hW x0; go_simp; first | done | with_reducible rfl); simp only [Act.put, List.setIfInBounds_toArray, List.set_cons_zero, List.set_cons_succ])
  refine wpE_nil ⟨fun h => (by cases h), wpSp_op rfl hd ?_⟩
  go_wp2_with fail
  refine (cols_v (h.below bd)).mono ?_
  rintro e w1 ⟨rfl, rfl⟩
  go_wp2_with fail
  refine nxt_op rfl hd ?_
  go_wp2_with fail
  refine (below_any _ _).mono ?_
  rintro e w2 ⟨r2, rfl, hr2, hb2⟩
  rw [clamp_nat hC] at hr2
  obtain ⟨A2, c2, rfl, _⟩ := id hr2
  have hb02 := hd.trans (hb2.mono hd.size)
  have b2 := hb0.trans (hb02.mono hb0.size)
  go_wp2_with fail
  refine nxt_op rfl hb02 ?_
  go_wp2_with fail
  refine (and_any _ _ S (lowN C) w2 (hs.below b2) hr2).mono ?_
  rintro e w3 ⟨r3, rfl, hr3, hb3⟩
  obtain ⟨A3, c3, rfl, _⟩ := id hr3
  have hb03 := hb02.trans (hb3.mono hb02.size)
  have b3 := hb0.trans (hb03.mono hb0.size)
  have hO3 := hO.below hb03 hO.lt
  have f0 := hO3.frozen 0
  have o0 := hO3.cell 0
  have lO := hO3.lt
  go_wp2_with fail
  refine nxt_op rfl hb03 ?_
  go_wp2_with fail
  refine nxt_nil ?_
  go_wp2_with fail
  have hOX := hO3.set_ 0 (.slice A3 (nw (S &&& lowN C)) c3)
  have cX := hOX.cell 0
  exact bodyPost_ret (v := .agg #[.slice A3 (nw (S &&& lowN C)) c3]) (by simp [results, Tryz.results214, go_sem, cX]) rfl ⟨_, rfl, hr3.put hO3 (by decide) 0 _, b3.setCell (p := ⟨w.heap.size + 1, 0, none⟩) (by simp) _⟩
set_option maxRecDepth 100000 in
set_option maxHeartbeats 2000000 in
theorem of_concept (m : Option Addr) (C : Nat) (Ns : List Nat) (v : Value) (S : Nat) (w : World) (h : IsMV w m C Ns) (hs : IsSet w v S) (hT : Tab w) :
    Calls Tryz.prog 137 #[.pointer m, .agg #[v]] w fun e w' => ∃ r q, e = .returned (.agg #[r, q]) ∧ IsSet w' r (havN C Ns S) ∧ IsSet w' q (cloN C Ns S) ∧ Below w.heap.size w w' := by
  obtain ⟨A, c, rfl, _⟩ := id hs
  go_enter Tryz.func137, Tryz.ntmps137
  go_wp2_with fail
  refine abs2 fun W0 hX hO hb0 hz => ?_
  have x0 := hX.cell 0
  have hd : Below W0.heap.size W0 W0.drew := (Below.refl _ _).drew
  have bd := hb0.trans (hd.mono hb0.size)
  refine wp_spine (fun W => Below W0.heap.size W0 W) [0, 1, 3, 4] [2, 5, 6, 7] (by kernel_rfl) (by kernel_rfl) ?_
  iterate 4 (refine wpE_op (v := ?_) rfl rfl (fun W hW => ?_) ?_; rotate_left; (have z0 := onB hW x0; go_simp; first | done | with_reducible rfl); simp only [Act.put, List.setIfInBounds_toArray, List.set_cons_zero, List.set_cons_succ])
  refine wpE_nil ⟨fun h => (by cases h), wpSp_op rfl hd ?_⟩
  go_wp2_with fail
  refine (having_any m C Ns _ S _ (h.below bd) (hs.below bd) (hT.below bd)).mono ?_
  rintro e w1 ⟨r1, rfl, hr1, hb1⟩
  obtain ⟨A1, c1, rfl, _⟩ := id hr1
  have hb01 := hd.trans (hb1.mono hd.size)
  have b1 := hb0.trans (hb01.mono hb0.size)
  go_wp2_with fail
  refine nxt_op rfl hb01 ?_
  go_wp2_with fail
  refine (close_any m C Ns _ S w1 (h.below b1) (hs.below b1) (hT.below b1)).mono ?_
  rintro e w2 ⟨r2, rfl, hr2, hb2⟩
  obtain ⟨A2, c2, rfl, _⟩ := id hr2
  have hb02 := hb01.trans (hb2.mono hb01.size)
  have b2 := hb0.trans (hb02.mono hb0.size)
  have hO3 := hO.below hb02 hO.lt
  have f0 := hO3.frozen 0
  have o0 := hO3.cell 0
  have f1 := hO3.frozen 1
  have o1 := hO3.cell 1
  have lO := hO3.lt
  go_wp2_with fail
  refine nxt_op rfl hb02 ?_
  go_wp2_with fail
  refine nxt_op rfl hb02 ?_
  go_wp2_with fail
  refine nxt_nil ?_
  go_wp2_with fail
  have hOX := (hO3.set_ 0 (.slice A1 (nw (havN C Ns S)) c1)).set_ 1 (.slice A2 (nw (cloN C Ns S)) c2)
  have cX := hOX.cell 0
  have cY := hOX.cell 1
  have hk := KeepW.trans (KeepW.setCell (p := ⟨w.heap.size + 1, 0, none⟩) hO3 (by decide) (.slice A1 (nw (havN C Ns S)) c1)) (KeepW.setCell (p := ⟨w.heap.size + 1, 1, none⟩) (hO3.set_ 0 _) (by decide) (.slice A2 (nw (cloN C Ns S)) c2))
  exact bodyPost_ret (v := .agg #[.slice A1 (nw (havN C Ns S)) c1, .slice A2 (nw (cloN C Ns S)) c2]) (by simp [results, Tryz.results137, go_sem, cX, cY]) rfl ⟨_, _, rfl, (hr1.below hb2).keep hk, hr2.keep hk, (b2.setCell (p := ⟨w.heap.size + 1, 0, none⟩) (by simp) _).setCell (p := ⟨w.heap.size + 1, 1, none⟩) (by simp) _⟩
end Go.Proofs.YtfbkcdhmggjbaaaGreatDoor

/-
  closure.Closed and closure.Implies.
-/
namespace Go.Proofs.YtfbkcdhmggjbaaaGreatDoor
open Go.RowKit

set_option maxRecDepth 100000 in
set_option maxHeartbeats 2000000 in
theorem closed_any (p C : Nat) (Ns : List Nat) (v : Value) (S : Nat) (w : World) (h : IsMat w p C Ns) (hs : IsSet w v S) (hT : Tab w) :
    Calls Tryz.prog 174 #[ptr p, .agg #[v]] w fun e w' => e = .returned (.bool (decide (cloN C Ns S = S &&& lowN C))) ∧ Below w.heap.size w w' := by
  obtain ⟨A, c, rfl, _⟩ := id hs
  have hm : IsMV w (some ⟨p, 0, none⟩) C Ns := .inr ⟨p, rfl, h⟩
  go_enter Tryz.func174, Tryz.ntmps174
  go_wp2_with fail
  refine abs1 fun W0 hX hb0 hz => ?_
  have x0 := hX.cell 0
  have hd : Below W0.heap.size W0 W0.drew := (Below.refl _ _).drew
  have bd := hb0.trans (hd.mono hb0.size)
  refine wp_spine (fun W => Below W0.heap.size W0 W) [0, 1, 2, 3, 4, 6, 7] [5, 8, 9, 10, 11] (by kernel_rfl) (by kernel_rfl) ?_
  iterate 3 (refine wpE_op (v := ?_) rfl rfl (fun W hW => ?_) ?_; rotate_left; (go_simp; first | done | with_reducible rfl); simp only [Act.put, List.setIfInBounds_toArray, List.set_cons_zero, List.set_cons_succ])
  iterate 4 (refine wpE_yes (v := ?_) rfl (by rfl) (fun W hW => ?_) ?_; rotate_left; (have z0 := onB hW x0; go_simp; first | done | with_reducible rfl); simp only [Act.put, List.setIfInBounds_toArray, List.set_cons_zero, List.set_cons_succ])
  refine wpE_nil ⟨fun h => (by cases h), wpSp_op rfl hd ?_⟩
  go_wp2_with fail
  refine (close_any _ C Ns _ S _ (hm.below bd) (hs.below bd) (hT.below bd)).mono ?_
  rintro e w1 ⟨r1, rfl, hr1, hb1⟩
  obtain ⟨A1, c1, rfl, _⟩ := id hr1
  have hb01 := hd.trans (hb1.mono hd.size)
  have b1 := hb0.trans (hb01.mono hb0.size)
  go_wp2_with fail
  refine nxt_op rfl hb01 ?_
  go_wp2_with fail
  refine (own_any _ C Ns _ S w1 (hm.below b1) (hs.below b1)).mono ?_
  rintro e w2 ⟨r2, rfl, hr2, hb2⟩
  obtain ⟨A2, c2, rfl, _⟩ := id hr2
  have hb02 := hb01.trans (hb2.mono hb01.size)
  have b2 := hb0.trans (hb02.mono hb0.size)
  go_wp2_with fail
  refine nxt_op rfl hb02 ?_
  go_wp2_with fail
  refine (equal_any _ _ _ _ w2 (hr1.below hb2) hr2).mono ?_
  rintro e w3 ⟨rfl, hb3⟩
  have hb03 := hb02.trans (hb3.mono hb02.size)
  have b3 := hb0.trans (hb03.mono hb0.size)
  go_wp2_with fail
  refine nxt_op rfl hb03 ?_
  go_wp2_with fail
  refine nxt_op rfl hb03 ?_
  go_wp2_with fail
  refine nxt_nil ?_
  go_wp2_with fail
  go_ret
  exact ⟨rfl, b3⟩
set_option maxRecDepth 100000 in
set_option maxHeartbeats 2000000 in
theorem closed_nil (v : Value) (w : World) :
    Calls Tryz.prog 174 #[.pointer none, .agg #[v]] w fun e w' => e = .returned (.bool false) ∧ Below w.heap.size w w' := by
  go_enter Tryz.func174, Tryz.ntmps174
  go_wp2_with fail
  refine abs1 fun W0 hX hb0 hz => ?_
  have x0 := hX.cell 0
  have hd : Below W0.heap.size W0 W0.drew := (Below.refl _ _).drew
  have bd := hb0.trans (hd.mono hb0.size)
  refine wp_spine (fun W => Below W0.heap.size W0 W) [0, 1, 2, 3, 4, 6, 7] [5, 8, 9, 10, 11] (by kernel_rfl) (by kernel_rfl) ?_
  iterate 3 (refine wpE_op (v := ?_) rfl rfl (fun W hW => ?_) ?_; rotate_left; (go_simp; first | done | with_reducible rfl); simp only [Act.put, List.setIfInBounds_toArray, List.set_cons_zero, List.set_cons_succ])
  iterate 4 (refine wpE_no rfl (by rfl) ?_; simp only [Act.put, List.setIfInBounds_toArray, List.set_cons_zero, List.set_cons_succ])
  refine wpE_nil ⟨fun h => (by cases h), wpSp_op rfl hd ?_⟩
  go_wp2_with fail
  refine nxt_op rfl hd ?_
  go_wp2_with fail
  refine nxt_op rfl hd ?_
  go_wp2_with fail
  refine nxt_op rfl hd ?_
  go_wp2_with fail
  refine nxt_op rfl hd ?_
  go_wp2_with fail
  refine nxt_nil ?_
  go_wp2_with fail
  go_ret
  exact ⟨rfl, bd⟩
end Go.Proofs.YtfbkcdhmggjbaaaGreatDoor

/-
  closure.least: whether every column of a set is needed for its rows.
-/
namespace Go.Proofs.YtfbkcdhmggjbaaaGreatDoor
open Go.RowKit
attribute [local go_sem] Oper.semAt_some

end Go.Proofs.YtfbkcdhmggjbaaaGreatDoor

/-
  bits.Set.Compare: its answer, and a world behind it that is the old one but for draws and new blocks.
-/
namespace Go.Proofs.YtfbkcdhmggjbaaaGreatDoor
open Go.RowKit

/-- New blocks and draws, nothing else. -/
def Gw (w w' : World) : Prop := ∃ q os, w' = Go.Sort.grow (w.drewN q) os
theorem Gw.refl (w : World) : Gw w w := ⟨0, #[], by simp [World.drewN]⟩
theorem Gw.trans {a b c : World} (h : Gw a b) (k : Gw b c) : Gw a c := by
  obtain ⟨q, os, rfl⟩ := h
  obtain ⟨q', os', rfl⟩ := k
  refine ⟨q + q', os ++ os', ?_⟩
  unfold Go.Sort.grow World.drewN
  dsimp only
  rw [Array.append_assoc, Nat.add_assoc]
theorem Gw.alloc (w : World) (o : Obj) : Gw w (w.alloc o) := ⟨0, #[o], by rw [Go.Sort.alloc_eq_grow]; rfl⟩
theorem Gw.drew (w : World) : Gw w w.drew := ⟨1, #[], by rw [Go.Sort.grow_empty]; rfl⟩
theorem Gw.below {w w' : World} (h : Gw w w') : Below w.heap.size w w' := by
  obtain ⟨q, os, rfl⟩ := h
  exact ⟨rfl, rfl, rfl, by simp [Go.Sort.grow, World.drewN], fun k hk => by simp [Go.Sort.grow, World.drewN, Array.getElem?_append_left hk]⟩
theorem gabs1 {P : Program} {c : Code} {Q : Exit → Act → World → Prop} {a : Act} {w : World} {c1 : Array Value} {t1 : TypeId} (h : ∀ W, Blk W w.heap.size t1 c1 → Gw w W → c.wp P Q a W) : c.wp P Q a (w.alloc (.cells c1 t1)) :=
  h _ (Blk.new _ _ _) (Gw.alloc _ _)
theorem gabs2 {P : Program} {c : Code} {Q : Exit → Act → World → Prop} {a : Act} {w : World} {c1 c2 : Array Value} {t1 t2 : TypeId} (h : ∀ W, Blk W w.heap.size t1 c1 → Blk W (w.heap.size + 1) t2 c2 → Gw w W → c.wp P Q a W) : c.wp P Q a ((w.alloc (.cells c1 t1)).alloc (.cells c2 t2)) :=
  h _ ((Blk.new _ _ _).alloc _) (Blk.new_ (by simp) _ _) ((Gw.alloc _ _).trans (Gw.alloc _ _))
theorem gabsC1 {P : Program} {w : World} {f : FuncId} {args : Array Value} {R : Ending → World → Prop} {c1 : Array Value} {t1 : TypeId} (h : ∀ W, Blk W w.heap.size t1 c1 → Gw w W → Calls P f args W R) : Calls P f args (w.alloc (.cells c1 t1)) R :=
  h _ (Blk.new _ _ _) (Gw.alloc _ _)
set_option maxHeartbeats 400000 in
theorem word_g (v : Value) (N k : Nat) (w : World) (hs : IsSet w v N) :
    Calls Tryz.prog 107 #[.agg #[v], .int .i64 k] w fun e w' => e = .returned (u64 (wd N k)) ∧ Gw w w' := by
  obtain ⟨A, c, rfl, h1, _, _, h4⟩ := hs
  by_cases hk : k < nw N
  · obtain ⟨g, cs, rfl, hb, hc⟩ := h4 (by omega)
    have hlt := hb.lt
    have hcell : w.cell? ⟨g, k, none⟩ = some (u64 (wd N k)) := (hb.cell k).trans (hc k hk)
    clear h4 hc hb
    go_enter Tryz.func107, Tryz.ntmps107
    go_wp2
    go_ret
    exact ⟨rfl, Gw.alloc _ _⟩
  · rw [wd_ge (by omega)]
    clear h4
    go_enter Tryz.func107, Tryz.ntmps107
    go_wp2
    go_ret
    exact ⟨rfl, Gw.alloc _ _⟩
set_option maxRecDepth 100000 in
set_option maxHeartbeats 400000 in
theorem has_g (v : Value) (N i : Nat) (w : World) (hs : IsSet w v N) (hi : i ≤ 4095) :
    Calls Tryz.prog 55 #[.agg #[v], .int .i64 i] w fun e w' => e = .returned (.bool (N.testBit i)) ∧ Gw w w' := by
  obtain ⟨A, c, rfl, hN, _⟩ := id hs
  have h1 : (0 : Int) ≤ i := by omega
  go_enter Tryz.func55, Tryz.ntmps55
  have hs1 := hs.keep (KeepW.alloc w (.cells #[Value.slice A (nw N) c] 74))
  go_wp2_with (go_at_call 107; refine (word_g _ N (i / 64) _ hs1).mono ?_; rintro e w1 ⟨rfl, hb1⟩)
  go_ret
  exact ⟨ret_bool (has_form N i), (Gw.alloc _ _).trans hb1⟩
set_option maxRecDepth 100000 in
set_option maxHeartbeats 400000 in
theorem empty_g (v : Value) (N : Nat) (w : World) (hs : IsSet w v N) :
    Calls Tryz.prog 61 #[.agg #[v]] w fun e w' => e = .returned (.bool (decide (N = 0))) ∧ Gw w w' := by
  obtain ⟨A, c, rfl, hN, _, _, h4⟩ := hs
  go_enter Tryz.func61, Tryz.ntmps61
  go_wp2
  go_ret
  refine ⟨ret_bool ?_, Gw.alloc _ _⟩
  rw [Bool.eq_iff_iff, beq_iff_eq, decide_eq_true_eq, ← nw_eq_zero]; omega
set_option maxRecDepth 100000 in
set_option maxHeartbeats 1000000 in
theorem greatest_no_g (v : Value) (w : World) (hs : IsSet w v 0) :
    Calls Tryz.prog 189 #[.agg #[v]] w fun e w' => e = .returned (.tuple #[.int .i64 0, .bool false]) ∧ Gw w w' := by
  obtain ⟨A, c, rfl, hN, _⟩ := id hs
  go_enter Tryz.func189, Tryz.ntmps189
  go_wp2_with fail
  refine gabsC1 fun W0 hA0 hg0 => ?_
  have hbel0 := hg0.below
  refine (empty_g _ _ _ (hs.below hbel0)).mono ?_
  rintro e w1 ⟨rfl, hg1⟩
  have hb1 := hg1.below
  go_wp2_with fail
  go_ret2
  exact ⟨rfl, hg0.trans hg1⟩
set_option maxRecDepth 100000 in
set_option maxHeartbeats 1000000 in
theorem greatest_yes_g (v : Value) (N : Nat) (w : World) (hs : IsSet w v N) (h0 : N ≠ 0) :
    Calls Tryz.prog 189 #[.agg #[v]] w fun e w' => e = .returned (.tuple #[.int .i64 N.log2, .bool true]) ∧ Gw w w' := by
  obtain ⟨A, c, rfl, hN, hNc, _, h4⟩ := id hs
  have hn0 : 0 < nw N := Nat.pos_of_ne_zero fun h => h0 (nw_eq_zero.1 h)
  obtain ⟨g, cs, rfl, hg, hcs⟩ := h4 hn0
  obtain ⟨m, hm⟩ : ∃ m, nw N = m + 1 := ⟨nw N - 1, by omega⟩
  have htop := top_log N h0
  rw [hm, Nat.add_sub_cancel] at htop
  have hcell := hcs m (by omega)
  have hbl : Lib.bitLen (wd N m) ≤ 64 := Lib.bitLen_le (wd N m) 64 (by omega) (wd_lt _ _)
  have hbp : 0 < Lib.bitLen (wd N m) := by
    show 0 < Lib.bitLenAux 64 _
    have hne : wd N m ≠ 0 := by have := wd_top hn0; rwa [hm, Nat.add_sub_cancel] at this
    rw [bitLenAux_eq 64 _ (wd_lt _ _), if_neg hne]; omega
  have HLEN := hideC (fun W => Tryz.bits_Len64 (wd N m) W (by omega) (by have := wd_lt N m; omega))
  obtain ⟨bl, hble⟩ : ∃ bl, bl = Lib.bitLen (wd N m) := ⟨_, rfl⟩
  rw [← hble] at htop hbl hbp
  clear h4 hcs
  have HTOP := Lib.hid htop; clear htop
  rw [hm]
  go_enter Tryz.func189, Tryz.ntmps189
  go_wp2_with fail
  refine gabsC1 fun W0 hA0 hg0 => ?_
  have hbel0 := hg0.below
  have hset := hs.below hbel0
  rw [hm] at hset
  refine (empty_g _ N _ hset).mono ?_
  rw [decide_eq_false h0]
  rintro e w1 ⟨rfl, hg1⟩
  have hb1 := hg1.below
  have cA := onB hb1 (hA0.cell 0)
  have hbw := hbel0.trans (hb1.mono hbel0.size)
  have cg := ((hg.below hbw hg.lt).cell m).trans hcell
  have hm64 : m < 64 := by omega
  clear hm hn0 hNc hN
  go_wp2_with fail
  refine (HLEN.out _).mono ?_
  rintro e w2 ⟨rfl, rfl⟩
  rw [Int.toNat_natCast]
  rw [hble] at hbl hbp
  have e9 : (64 : Int) * (m : Int) + ((Lib.bitLen (wd N m) : Nat) : Int) - 1 = (N.log2 : Int) := by have := HTOP.out; omega
  go_wp2_with fail
  go_ret2
  exact ⟨by first | rfl | rw [e9], hg0.trans hg1⟩
/-- A member greater than i. -/
def beyB (N i : Nat) : Bool := decide (N / 2 ^ (i + 1) ≠ 0)
theorem beyB_log {N i : Nat} (h : N ≠ 0) : beyB N i = decide (i < N.log2) := by
  unfold beyB
  rw [decide_eq_decide]
  have e : i < N.log2 ↔ 2 ^ (i + 1) ≤ N := by rw [← Nat.le_log2 h]; omega
  rw [e, ne_eq, Nat.div_eq_zero_iff]
  have := Nat.two_pow_pos (i + 1)
  omega
set_option maxRecDepth 100000 in
set_option maxHeartbeats 1000000 in
theorem beyond_g (v : Value) (N i : Nat) (w : World) (hs : IsSet w v N) :
    Calls Tryz.prog 150 #[.agg #[v], .int .i64 i] w fun e w' => e = .returned (.bool (beyB N i)) ∧ Gw w w' := by
  obtain ⟨A, c, rfl, hN, _⟩ := id hs
  by_cases h0 : N = 0
  · subst h0
    have e : beyB 0 i = false := by unfold beyB; simp
    rw [e]
    go_enter Tryz.func150, Tryz.ntmps150
    go_wp2_with fail
    refine gabsC1 fun W0 hA0 hg0 => ?_
    refine (greatest_no_g _ _ (hs.below hg0.below)).mono ?_
    rintro e w1 ⟨rfl, hg1⟩
    go_wp2_with fail
    go_ret
    exact ⟨rfl, hg0.trans hg1⟩
  · rw [beyB_log h0]
    obtain ⟨L, hL⟩ : ∃ L, L = N.log2 := ⟨_, rfl⟩
    have HG := hideC (fun W h => greatest_yes_g (.slice A (nw N) c) N W h h0)
    rw [← hL] at HG ⊢
    clear hL
    go_enter Tryz.func150, Tryz.ntmps150
    go_wp2_with fail
    refine gabsC1 fun W0 hA0 hg0 => ?_
    refine (HG.out _ (hs.below hg0.below)).mono ?_
    rintro e w1 ⟨rfl, hg1⟩
    go_wp2_with fail
    go_ret
    exact ⟨by first | rfl | (apply ret_bool; rw [Bool.eq_iff_iff]; simp), hg0.trans hg1⟩
theorem u64_xor_nat (a b : Nat) (ha : a < 18446744073709551616) (hb : b < 18446744073709551616) : bits .xor .u64 (a : Int) (b : Int) = ((a ^^^ b : Nat) : Int) := by
  have hx : a ^^^ b < 2 ^ 64 := Nat.xor_lt_two_pow (by omega) (by omega)
  show IntKind.u64.wrap ((BitVec.ofInt 64 (a : Int) ^^^ BitVec.ofInt 64 (b : Int)).toNat : Int) = _
  rw [BitVec.toNat_xor, ofInt_u64 a ha, ofInt_u64 b hb, IntKind.wrap_u64]
  omega
end Go.Proofs.YtfbkcdhmggjbaaaGreatDoor
