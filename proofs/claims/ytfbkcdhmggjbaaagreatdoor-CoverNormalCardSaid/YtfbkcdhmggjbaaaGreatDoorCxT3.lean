import Derived.Test.YtfbkcdhmggjbaaaGreatDoorCxT1
/-
  The reference of chapter 48: lists of flags; empty, column, compare.
-/
namespace Go.Proofs.YtfbkcdhmggjbaaaGreatDoor
open Go.RowKit
/-- The flags of a number. -/
def flagB (C N : Nat) : List Bool := (List.range C).map fun j => N.testBit j
theorem flagB_len (C N : Nat) : (flagB C N).length = C := by simp [flagB]
/-- A list of flags. -/
def IsFl (w : World) (v : Value) (C N : Nat) : Prop := C ≤ 4096 ∧ (∀ j, N.testBit j = true → j < C) ∧ ∃ B d, v = .slice B C d ∧ Row w B ((flagB C N).map .bool)
theorem IsFl.below {w w' : World} {v : Value} {C N : Nat} (h : IsFl w v C N) (hb : Below w.heap.size w w') : IsFl w' v C N := by
  obtain ⟨h1, h2, B, d, e, hr⟩ := h
  exact ⟨h1, h2, B, d, e, hr.below hb⟩
theorem flag_cell {w : World} {B : Option Addr} {C N : Nat} (h : Row w B ((flagB C N).map .bool)) (h0 : 0 < C) : ∃ g off, B = some ⟨g, off, none⟩ ∧ g < w.heap.size ∧ ∀ k, k < C → w.cell? ⟨g, off + k, none⟩ = some (.bool (N.testBit k)) := by
  obtain ⟨g, off, rfl, hg, hc⟩ := h (by rw [List.length_map, flagB_len]; exact h0)
  refine ⟨g, off, rfl, hg, fun k hk => hc k _ ?_⟩
  rw [List.getElem?_map]
  unfold flagB
  rw [List.getElem?_map, List.getElem?_range hk]; rfl
theorem nat_zero_of {C N : Nat} (h : ∀ j, N.testBit j = true → j < C) (h0 : ∀ j, j < C → N.testBit j = false) : N = 0 := by
  refine Nat.eq_of_testBit_eq fun j => ?_
  rw [Nat.zero_testBit]
  cases hb : N.testBit j
  · rfl
  · rw [h0 j (h j hb)] at hb; cases hb
theorem nat_eq_of {C N M : Nat} (h : ∀ j, N.testBit j = true → j < C) (k : ∀ j, M.testBit j = true → j < C) (h0 : ∀ j, j < C → N.testBit j = M.testBit j) : N = M := by
  refine Nat.eq_of_testBit_eq fun j => ?_
  by_cases hj : j < C
  · exact h0 j hj
  · cases hb : N.testBit j
    · cases hc : M.testBit j
      · rfl
      · exact absurd (k j hc) hj
    · exact absurd (h j hb) hj
/-- A higher bit within the first n. -/
def moreB (N k n : Nat) : Bool := (List.range n).any fun i => decide (k < i) && N.testBit i
theorem moreB_zero (N k : Nat) : moreB N k (k + 1) = false := by
  unfold moreB
  rw [List.any_eq_false]
  intro i hi
  have := List.mem_range.1 hi
  rw [decide_eq_false (by omega)]; simp
theorem moreB_succ {N k n : Nat} (h : k < n) : moreB N k (n + 1) = (moreB N k n || N.testBit n) := by
  unfold moreB
  rw [List.range_succ, List.any_append]
  simp [h]
theorem moreB_div {C N k : Nat} (hN : ∀ j, N.testBit j = true → j < C) (hk : N.testBit k = false) : moreB N k C = decide (N / 2 ^ k ≠ 0) := by
  rw [Bool.eq_iff_iff, decide_eq_true_eq]
  unfold moreB
  rw [List.any_eq_true]
  constructor
  · rintro ⟨i, hi, h⟩
    rw [Bool.and_eq_true, decide_eq_true_eq] at h
    intro h0
    have h1 : (N / 2 ^ k).testBit (i - k) = true := by
      rw [Nat.testBit_div_two_pow, show i - k + k = i by omega]; exact h.2
    rw [h0, Nat.zero_testBit] at h1; cases h1
  · intro h0
    obtain ⟨i, hi⟩ := Nat.exists_testBit_of_ne_zero h0
    rw [Nat.testBit_div_two_pow] at hi
    have hne : i ≠ 0 := by
      rintro rfl
      rw [Nat.zero_add] at hi
      rw [hk] at hi; cases hi
    exact ⟨i + k, List.mem_range.2 (hN _ hi), by rw [hi, decide_eq_true (by omega)]; rfl⟩
/-- The reference's answer at the first place where they differ. -/
theorem cmpN_flag {C N M k : Nat} (hN : ∀ j, N.testBit j = true → j < C) (hM : ∀ j, M.testBit j = true → j < C) (he : ∀ j, j < k → N.testBit j = M.testBit j) (hne : N.testBit k ≠ M.testBit k) :
    cmpN N M = if N.testBit k = moreB (if N.testBit k = true then M else N) k C then -1 else 1 := by
  have hx : N ≠ M := fun e => hne (by rw [e])
  unfold cmpN
  rw [if_neg hx]
  cases h1 : N.testBit k
  · have h2 : M.testBit k = true := by
      cases h : M.testBit k
      · exact absurd (h1.trans h.symm) hne
      · rfl
    show _ = if false = moreB N k C then (-1 : Int) else 1
    rw [moreB_div hN h1]
    have hl := ltR_at k M N (fun j hj => (he j hj).symm) h2 h1
    by_cases h0 : N / 2 ^ k = 0
    · have h3 : ltR M N = false := by rw [hl]; simp [h0]
      rw [if_pos (ltR_total M N (Ne.symm hx) h3), if_pos (by simp [h0])]
    · have h3 : ltR M N = true := by rw [hl]; simp [h0]
      rw [ltR_asymm h3, if_neg (by simp), if_neg (by simp [h0])]
  · have h2 : M.testBit k = false := by
      cases h : M.testBit k
      · rfl
      · exact absurd (h1.trans h.symm) hne
    show _ = if true = moreB M k C then (-1 : Int) else 1
    rw [moreB_div hM h2, ltR_at k N M he h1 h2]
    by_cases h0 : M / 2 ^ k = 0
    · rw [if_neg (by simp [h0]), if_neg (by simp [h0])]
    · rw [if_pos (by simp [h0]), if_pos (by simp [h0])]
namespace Mix2
set_option maxRecDepth 100000 in
set_option maxHeartbeats 2000000 in
theorem empty48_any (v : Value) (C N : Nat) (w : World) (h : IsFl w v C N) :
    Calls Tryz.prog 67 #[v] w fun e w' => e = .returned (.bool (decide (N = 0))) ∧ w = w' := by
  obtain ⟨hC, hN, B, d, rfl, hr⟩ := h
  have HR := Lib.hid hr
  have HN := Lib.hid hN
  clear hr hN
  go_enter Tryz.func67, Tryz.ntmps67
  go_wp2_with fail
  refine wp_loopF (β := Nat) (fun k f => #[.slice B C d, f 1, .bool false, f 3, f 4, .slice B C d, .int .i64 (C : Int), .int .i64 (k : Int), f 8, f 9, f 10, f 11, f 12])
    (fun k ds wr => k ≤ C ∧ ds = [] ∧ wr = w ∧ ∀ x, x < k → N.testBit x = false) (fun k => C - k) 0 rfl ⟨Nat.zero_le _, rfl, rfl, fun x h => by omega⟩ ?_
  rintro k f ds wr ⟨hk, rfl, rfl, hz⟩
  dsimp only at hk hz ⊢
  have HZ := Lib.hid hz; clear hz
  by_cases hlt : k < C
  · obtain ⟨g, off, rfl, hg, hc⟩ := flag_cell HR.out (by omega)
    have c0 := hc k hlt
    have HC := Lib.hid hc
    clear hc
    cases hb : N.testBit k with
    | true =>
      rw [hb] at c0
      have hne : decide (N = 0) = false := decide_eq_false fun e => by rw [e, Nat.zero_testBit] at hb; cases hb
      have HNE := Lib.hid hne
      clear hne
      go_wp2_with fail
      go_ret
      exact ⟨by rw [HNE.out]; rfl, rfl⟩
    | false =>
      rw [hb] at c0
      have HB := Lib.hid hb
      clear hb
      go_wp2_with fail
      exact ⟨k + 1, rfl, ⟨by omega, by first | rfl | trivial, by first | rfl | trivial, fun x hx => by
        by_cases e : x = k
        · subst e; exact HB.out
        · exact HZ.out x (by omega)⟩, by omega⟩
  · obtain rfl : k = C := by omega
    have he : decide (N = 0) = true := decide_eq_true (nat_zero_of HN.out HZ.out)
    have HE := Lib.hid he
    clear he
    go_wp2_with fail
    go_ret
    exact ⟨by rw [HE.out]; rfl, rfl⟩
set_option maxRecDepth 100000 in
set_option maxHeartbeats 4000000 in
theorem column48_any (K R c j : Nat) (A : Option Addr) (M : List (List Bool)) (N : Nat) (w : World) (h : IsRef w K A M) (hR : M.length = R) (hj : j < K) (hN : ∀ x, N.testBit x = true → x < R) (hg : ∀ i, i < R → mget M i j = N.testBit i) :
    Calls Tryz.prog 68 #[refV K A R c, .int .i64 j] w fun e w' => ∃ v, e = .returned v ∧ IsFl w' v R N ∧ Below w.heap.size w w' := by
  obtain ⟨i0, hi0, hz0, hz1, hz2⟩ := info_parts info_bool
  have hK4 := h.1
  have hR4 : R ≤ 4096 := by rw [← hR]; exact h.2.1
  have hat := fun i (hi : i < R) => h.at_ (i := i) (j := j) (by omega) hj
  have HAT := Lib.hid hat
  have HG := Lib.hid hg
  have HN := Lib.hid hN
  clear hat hg hN h hR
  go_enter Tryz.func68, Tryz.ntmps68
  go_upto_region 1 with fail
  refine abs1 fun W0 h2 hb0 hz => ?_
  clear hz
  obtain ⟨g, hg⟩ : ∃ x, x = w.heap.size := ⟨_, rfl⟩
  rw [← hg] at h2 ⊢
  have hgw : w.heap.size ≤ g := by omega
  clear hg
  have p1 := h2.cell 1
  go_wp2_with fail
  refine wp_loopF (β := Nat × Value) (fun x f => #[f 0, .int .i64 (j : Int), ptr g, f 3, .slice none 0 0, x.2, f 6, f 7, f 8, .int .i64 (R : Int), .int .i64 (x.1 : Int), f 11, f 12, f 13, f 14, f 15, f 16, f 17, f 18, f 19, f 20, f 21, f 22, f 23, f 24, f 25])
    (fun x ds V => x.1 ≤ R ∧ ds = [] ∧ Below w.heap.size w V ∧ Blk V g 28 #[.int .i64 (K : Int), .slice A R c] ∧ V.ownsRow w.heap.size 4 1 x.2 x.1 ((flagB x.1 N).map .bool)) (fun x => R - x.1) (0, .slice none 0 0) rfl ⟨Nat.zero_le _, rfl, hb0, h2, World.ownsRow_nil _ _ _ _⟩ ?_
  clear h2 p1 hb0
  rintro ⟨k, v⟩ f ds V ⟨hk, rfl, hbV, h2, hown⟩
  dsimp only at hk h2 hown ⊢
  have p1 := h2.cell 1
  by_cases hlt : k < R
  · obtain ⟨g1, o1, g2, o2, d2, rfl, hg1, hg2, q1, q2⟩ := HAT.out k hlt
    have q1 := onB hbV q1
    have q2 := onB hbV q2
    have hge := HG.out k hlt
    obtain ⟨b, hb⟩ : ∃ b, b = mget M k j := ⟨_, rfl⟩
    rw [← hb] at q2 hge
    have hs : (flagB (k + 1) N).map Value.bool = (flagB k N).map Value.bool ++ [.bool b] := by
      unfold flagB
      rw [List.range_succ, List.map_append, List.map_append, hge]; rfl
    have HS := Lib.hid hs
    have hloc := own_below hown ((Below.refl V.heap.size V).alloc (Nat.le_refl _) (.cells #[.bool b] 4))
    have hVs := hbV.size
    have h2a := h2.below ((Below.refl V.heap.size V).alloc (Nat.le_refl _) (.cells #[.bool b] 4)) h2.lt
    clear hs hge hb
    go_wp2_with (at_builtin; refine wpList_append_own _ rfl _ _ 93 rfl (w.heap.size) 4 i0 (.bool false) 1 1 Tryz.underlying93 hi0 hz0 hz1 hz2 rfl (by decide) _ _ _ rfl (hloc) ⟨V.heap.size, 0, none⟩ 1 1 [.bool b] rfl rfl (cell_one_new _ _ _) (by simp [Value.oneCell']) (by unfold maxLen; omega) (by omega) (by simp; omega) ?_; intro v' w3 hown' hgrow _)
    have h2n := h2a.grown hgrow (own_ne hloc h2a (by decide))
    exact ⟨(k + 1, v'), rfl, ⟨by show k + 1 ≤ R; omega, by first | rfl | trivial, (hbV.alloc hbV.size _).grown hgrow (by simp; omega) (fun q hq => (hloc.lt q hq).1), h2n, by show w3.ownsRow _ _ _ v' (k + 1) _; rw [HS.out]; exact hown'⟩, by show R - (k + 1) < R - k; omega⟩
  · obtain rfl : k = R := by omega
    obtain ⟨A', c', rfl, _, _, hrow, _⟩ := row_of_own hown
    have HRW := Lib.hid hrow
    clear hown hrow
    go_wp2_with fail
    go_ret
    exact ⟨_, rfl, ⟨hR4, HN.out, _, _, rfl, HRW.out⟩, hbV⟩
set_option maxRecDepth 100000 in
set_option maxHeartbeats 4000000 in
theorem compare48_any (C N M : Nat) (va vb : Value) (w : World) (ha : IsFl w va C N) (hb : IsFl w vb C M) :
    Calls Tryz.prog 69 #[va, vb] w fun e w' => e = .returned (.int .i64 (cmpN N M)) ∧ Below w.heap.size w w' := by
  obtain ⟨hC, hN, A, c, rfl, hra⟩ := ha
  obtain ⟨-, hM, B, d, rfl, hrb⟩ := hb
  have HA := Lib.hid hra
  have HB := Lib.hid hrb
  have HN := Lib.hid hN
  have HM := Lib.hid hM
  clear hra hrb hN hM
  go_enter Tryz.func69, Tryz.ntmps69
  go_wp2_with fail
  refine wp_loopF (β := Nat) (fun k f => #[.slice A C c, .slice B C d, f 2, f 3, .int .i64 0, f 5, f 6, f 7, .slice A C c, .int .i64 (C : Int), .int .i64 (k : Int), f 11, f 12, f 13, f 14, f 15, f 16, f 17, f 18, f 19, f 20, f 21, f 22, f 23, f 24, f 25, f 26, f 27, f 28, f 29, f 30, f 31, f 32, f 33, f 34, f 35, f 36, f 37, f 38, f 39, f 40, f 41, f 42, f 43, f 44, f 45, f 46, f 47, f 48, f 49, f 50, f 51, f 52, f 53, f 54, f 55, f 56, f 57, f 58, f 59, f 60, f 61])
    (fun k ds Vc => k ≤ C ∧ ds = [] ∧ Below w.heap.size w Vc ∧ ∀ x, x < k → N.testBit x = M.testBit x) (fun k => C - k) 0 rfl ⟨Nat.zero_le _, rfl, Below.refl _ _, fun x h => by omega⟩ ?_
  rintro k f ds Vc ⟨hk, rfl, hbV, hz⟩
  dsimp only at hk hz ⊢
  have HZ := Lib.hid hz; clear hz
  by_cases hlt : k < C
  · obtain ⟨g1, o1, rfl, hg1, hc1⟩ := flag_cell HA.out (by omega)
    obtain ⟨g2, o2, rfl, hg2, hc2⟩ := flag_cell HB.out (by omega)
    have q1 := onB hbV (hc1 k hlt)
    have q2 := onB hbV (hc2 k hlt)
    have HC1 := Lib.hid (fun U (hb : Below w.heap.size w U) i (hi : i < C) => onB hb (hc1 i hi))
    have HC2 := Lib.hid (fun U (hb : Below w.heap.size w U) i (hi : i < C) => onB hb (hc2 i hi))
    have hcm := fun (he : N.testBit k ≠ M.testBit k) => cmpN_flag HN.out HM.out HZ.out he
    have hag := fun (he : N.testBit k = M.testBit k) => fun x (hx : x < k + 1) => (by
      by_cases e : x = k
      · subst e; exact he
      · exact HZ.out x (by omega) : N.testBit x = M.testBit x)
    obtain ⟨a, ha⟩ : ∃ a, a = N.testBit k := ⟨_, rfl⟩
    obtain ⟨b, hb⟩ : ∃ b, b = M.testBit k := ⟨_, rfl⟩
    have HAE := Lib.hid ha
    have HBE := Lib.hid hb
    rw [← ha] at q1 hcm hag
    rw [← hb] at q2 hcm hag
    have HCM := Lib.hid hcm
    have HAG := Lib.hid hag
    have HMZ := Lib.hid (fun N => moreB_zero N k)
    have HMS := Lib.hid (fun N n (h : k < n) => moreB_succ (N := N) h)
    clear hc1 hc2 ha hb hcm hag
    by_cases hab : a = b
    · subst hab
      have HAG2 := Lib.hid (HAG.out rfl)
      clear HAG HCM
      cases a
      all_goals (
        go_upto_region 4 with fail
        refine wp_mix (fun V => Below Vc.heap.size Vc V) 9 (by kernel_rfl) (by kernel_rfl) (Below.refl _ _).drew ?_
        have hr := (Below.refl Vc.heap.size Vc).drew
        obtain ⟨U, hU⟩ : ∃ U, U = Vc.drew := ⟨_, rfl⟩
        rw [← hU] at hr ⊢
        clear hU
        have bU := hbV.trans (hr.mono hbV.size)
        (refine m_q 0 (v := ?_) (by kernel_rfl) rfl rfl (fun W hW => ?_) ?_; rotate_left; (have x1 := onB hW q1; have x2 := onB hW q2; go_simp; first | done | with_reducible rfl); simp only [Act.put, List.setIfInBounds_toArray, List.set_cons_zero, List.set_cons_succ]); (refine m_q 1 (v := ?_) (by kernel_rfl) rfl rfl (fun W hW => ?_) ?_; rotate_left; (have x1 := onB hW q1; have x2 := onB hW q2; go_simp; first | done | with_reducible rfl); simp only [Act.put, List.setIfInBounds_toArray, List.set_cons_zero, List.set_cons_succ]); (refine m_q 2 (v := ?_) (by kernel_rfl) rfl rfl (fun W hW => ?_) ?_; rotate_left; (have x1 := onB hW q1; have x2 := onB hW q2; go_simp; first | done | with_reducible rfl); simp only [Act.put, List.setIfInBounds_toArray, List.set_cons_zero, List.set_cons_succ]); (refine m_q 3 (v := ?_) (by kernel_rfl) rfl rfl (fun W hW => ?_) ?_; rotate_left; (have x1 := onB hW q1; have x2 := onB hW q2; go_simp; first | done | with_reducible rfl); simp only [Act.put, List.setIfInBounds_toArray, List.set_cons_zero, List.set_cons_succ]); (refine m_q 4 (v := ?_) (by kernel_rfl) rfl rfl (fun W hW => ?_) ?_; rotate_left; (have x1 := onB hW q1; have x2 := onB hW q2; go_simp; first | done | with_reducible rfl); simp only [Act.put, List.setIfInBounds_toArray, List.set_cons_zero, List.set_cons_succ]); (refine m_q 5 (v := ?_) (by kernel_rfl) rfl rfl (fun W hW => ?_) ?_; rotate_left; (have x1 := onB hW q1; have x2 := onB hW q2; go_simp; first | done | with_reducible rfl); simp only [Act.put, List.setIfInBounds_toArray, List.set_cons_zero, List.set_cons_succ]); (refine m_q 6 (v := ?_) (by kernel_rfl) rfl rfl (fun W hW => ?_) ?_; rotate_left; (have x1 := onB hW q1; have x2 := onB hW q2; go_simp; first | done | with_reducible rfl); simp only [Act.put, List.setIfInBounds_toArray, List.set_cons_zero, List.set_cons_succ]); (refine m_q 7 (v := ?_) (by kernel_rfl) rfl rfl (fun W hW => ?_) ?_; rotate_left; (have x1 := onB hW q1; have x2 := onB hW q2; go_simp; first | done | with_reducible rfl); simp only [Act.put, List.setIfInBounds_toArray, List.set_cons_zero, List.set_cons_succ]); (refine m_q 8 (v := ?_) (by kernel_rfl) rfl rfl (fun W hW => ?_) ?_; rotate_left; (have x1 := onB hW q1; have x2 := onB hW q2; go_simp; first | done | with_reducible rfl); simp only [Act.put, List.setIfInBounds_toArray, List.set_cons_zero, List.set_cons_succ])
        refine m_end (by kernel_rfl) ?_
        clear hr q1 q2
        go_wp2_with fail
        exact ⟨k + 1, rfl, ⟨by omega, by first | rfl | trivial, bU, HAG2.out⟩, by omega⟩)
    · obtain ⟨rfl, rfl⟩ | ⟨rfl, rfl⟩ : (a = true ∧ b = false) ∨ (a = false ∧ b = true) := by cases a <;> cases b <;> simp_all
      · clear hab HAG
        have q1' := onB (Below.refl _ _) q1
        have q2' := onB (Below.refl _ _) q2
        go_upto_region 4 with fail
        refine wp_mix (fun V => Below Vc.heap.size Vc V) 9 (by kernel_rfl) (by kernel_rfl) (Below.refl _ _).drew ?_
        have hr := (Below.refl Vc.heap.size Vc).drew
        obtain ⟨U, hU⟩ : ∃ U, U = Vc.drew := ⟨_, rfl⟩
        rw [← hU] at hr ⊢
        clear hU
        have bU := hbV.trans (hr.mono hbV.size)
        (refine m_q 0 (v := ?_) (by kernel_rfl) rfl rfl (fun W hW => ?_) ?_; rotate_left; (have x1 := onB hW q1; have x2 := onB hW q2; go_simp; first | done | with_reducible rfl); simp only [Act.put, List.setIfInBounds_toArray, List.set_cons_zero, List.set_cons_succ]); (refine m_q 1 (v := ?_) (by kernel_rfl) rfl rfl (fun W hW => ?_) ?_; rotate_left; (have x1 := onB hW q1; have x2 := onB hW q2; go_simp; first | done | with_reducible rfl); simp only [Act.put, List.setIfInBounds_toArray, List.set_cons_zero, List.set_cons_succ]); (refine m_q 2 (v := ?_) (by kernel_rfl) rfl rfl (fun W hW => ?_) ?_; rotate_left; (have x1 := onB hW q1; have x2 := onB hW q2; go_simp; first | done | with_reducible rfl); simp only [Act.put, List.setIfInBounds_toArray, List.set_cons_zero, List.set_cons_succ]); (refine m_q 3 (v := ?_) (by kernel_rfl) rfl rfl (fun W hW => ?_) ?_; rotate_left; (have x1 := onB hW q1; have x2 := onB hW q2; go_simp; first | done | with_reducible rfl); simp only [Act.put, List.setIfInBounds_toArray, List.set_cons_zero, List.set_cons_succ]); (refine m_q 4 (v := ?_) (by kernel_rfl) rfl rfl (fun W hW => ?_) ?_; rotate_left; (have x1 := onB hW q1; have x2 := onB hW q2; go_simp; first | done | with_reducible rfl); simp only [Act.put, List.setIfInBounds_toArray, List.set_cons_zero, List.set_cons_succ]); (refine m_q 5 (v := ?_) (by kernel_rfl) rfl rfl (fun W hW => ?_) ?_; rotate_left; (have x1 := onB hW q1; have x2 := onB hW q2; go_simp; first | done | with_reducible rfl); simp only [Act.put, List.setIfInBounds_toArray, List.set_cons_zero, List.set_cons_succ]); (refine m_q 6 (v := ?_) (by kernel_rfl) rfl rfl (fun W hW => ?_) ?_; rotate_left; (have x1 := onB hW q1; have x2 := onB hW q2; go_simp; first | done | with_reducible rfl); simp only [Act.put, List.setIfInBounds_toArray, List.set_cons_zero, List.set_cons_succ]); (refine m_q 7 (v := ?_) (by kernel_rfl) rfl rfl (fun W hW => ?_) ?_; rotate_left; (have x1 := onB hW q1; have x2 := onB hW q2; go_simp; first | done | with_reducible rfl); simp only [Act.put, List.setIfInBounds_toArray, List.set_cons_zero, List.set_cons_succ]); (refine m_q 8 (v := ?_) (by kernel_rfl) rfl rfl (fun W hW => ?_) ?_; rotate_left; (have x1 := onB hW q1; have x2 := onB hW q2; go_simp; first | done | with_reducible rfl); simp only [Act.put, List.setIfInBounds_toArray, List.set_cons_zero, List.set_cons_succ])
        refine m_end (by kernel_rfl) ?_
        have q1' := onB hr q1'
        have q2' := onB hr q2'
        clear hr q1 q2
        go_upto_region 7 with fail
        have eM : (moreB M k (k + 1)) = false := HMZ.out M
        refine wp_loopF (β := Nat) (fun n f => #[.slice (some ⟨g1, o1, none⟩) C c, .slice (some ⟨g2, o2, none⟩) C d, f 2, f 3, .int .i64 0, .int .i64 (k : Int), .bool (moreB M k n), .int .i64 (n : Int), .slice (some ⟨g1, o1, none⟩) C c, .int .i64 (C : Int), .int .i64 (k : Int), f 11, f 12, f 13, f 14, f 15, f 16, f 17, f 18, f 19, f 20, f 21, f 22, f 23, f 24, f 25, f 26, f 27, f 28, f 29, f 30, f 31, f 32, f 33, f 34, f 35, f 36, f 37, f 38, f 39, f 40, f 41, f 42, f 43, f 44, f 45, f 46, f 47, f 48, f 49, f 50, f 51, f 52, f 53, f 54, f 55, f 56, f 57, f 58, f 59, f 60, f 61])
          (fun n ds W => k < n ∧ n ≤ C ∧ ds = [] ∧ W = U) (fun n => C - n) (k + 1) (by rw [eM]; rfl) ⟨by omega, by omega, rfl, rfl⟩ ?_
        rintro n f ds W ⟨hkn, hn, rfl, rfl⟩
        dsimp only at hkn hn ⊢
        by_cases hl2 : n < C
        · have x3 := HC2.out W bU n hl2
          have hms := HMS.out M n hkn
          obtain ⟨m, hm⟩ : ∃ m, m = moreB M k n := ⟨_, rfl⟩
          obtain ⟨y, hy⟩ : ∃ y, y = M.testBit n := ⟨_, rfl⟩
          rw [← hm, ← hy] at hms
          rw [← hm]
          rw [← hy] at x3
          have HMSn := Lib.hid hms
          clear hms hm hy eM
          cases m with
          | true =>
            go_wp2_with fail
            exact ⟨n + 1, by rw [HMSn.out]; rfl, ⟨by omega, by omega, by first | rfl | trivial, by first | rfl | trivial⟩, by omega⟩
          | false =>
            cases y with
            | true =>
              go_wp2_with fail
              exact ⟨n + 1, by rw [HMSn.out]; rfl, ⟨by omega, by omega, by first | rfl | trivial, by first | rfl | trivial⟩, by omega⟩
            | false =>
              go_wp2_with fail
              exact ⟨n + 1, by rw [HMSn.out]; rfl, ⟨by omega, by omega, by first | rfl | trivial, by first | rfl | trivial⟩, by omega⟩
        · obtain rfl : n = C := by omega
          have hcm : cmpN N M = if true = moreB M k n then -1 else 1 := by simpa using HCM.out (by simp)
          obtain ⟨m, hm⟩ : ∃ m, m = moreB M k n := ⟨_, rfl⟩
          rw [← hm] at hcm ⊢
          clear hm eM
          cases m with
          | true =>
            have HF := Lib.hid hcm
            clear hcm HCM
            go_wp2_with fail
            go_ret
            exact ⟨by rw [HF.out]; rfl, bU⟩
          | false =>
            have HF := Lib.hid hcm
            clear hcm HCM
            go_wp2_with fail
            go_ret
            exact ⟨by rw [HF.out]; rfl, bU⟩

      · clear hab HAG
        have q1' := onB (Below.refl _ _) q1
        have q2' := onB (Below.refl _ _) q2
        go_upto_region 4 with fail
        refine wp_mix (fun V => Below Vc.heap.size Vc V) 9 (by kernel_rfl) (by kernel_rfl) (Below.refl _ _).drew ?_
        have hr := (Below.refl Vc.heap.size Vc).drew
        obtain ⟨U, hU⟩ : ∃ U, U = Vc.drew := ⟨_, rfl⟩
        rw [← hU] at hr ⊢
        clear hU
        have bU := hbV.trans (hr.mono hbV.size)
        (refine m_q 0 (v := ?_) (by kernel_rfl) rfl rfl (fun W hW => ?_) ?_; rotate_left; (have x1 := onB hW q1; have x2 := onB hW q2; go_simp; first | done | with_reducible rfl); simp only [Act.put, List.setIfInBounds_toArray, List.set_cons_zero, List.set_cons_succ]); (refine m_q 1 (v := ?_) (by kernel_rfl) rfl rfl (fun W hW => ?_) ?_; rotate_left; (have x1 := onB hW q1; have x2 := onB hW q2; go_simp; first | done | with_reducible rfl); simp only [Act.put, List.setIfInBounds_toArray, List.set_cons_zero, List.set_cons_succ]); (refine m_q 2 (v := ?_) (by kernel_rfl) rfl rfl (fun W hW => ?_) ?_; rotate_left; (have x1 := onB hW q1; have x2 := onB hW q2; go_simp; first | done | with_reducible rfl); simp only [Act.put, List.setIfInBounds_toArray, List.set_cons_zero, List.set_cons_succ]); (refine m_q 3 (v := ?_) (by kernel_rfl) rfl rfl (fun W hW => ?_) ?_; rotate_left; (have x1 := onB hW q1; have x2 := onB hW q2; go_simp; first | done | with_reducible rfl); simp only [Act.put, List.setIfInBounds_toArray, List.set_cons_zero, List.set_cons_succ]); (refine m_q 4 (v := ?_) (by kernel_rfl) rfl rfl (fun W hW => ?_) ?_; rotate_left; (have x1 := onB hW q1; have x2 := onB hW q2; go_simp; first | done | with_reducible rfl); simp only [Act.put, List.setIfInBounds_toArray, List.set_cons_zero, List.set_cons_succ]); (refine m_q 5 (v := ?_) (by kernel_rfl) rfl rfl (fun W hW => ?_) ?_; rotate_left; (have x1 := onB hW q1; have x2 := onB hW q2; go_simp; first | done | with_reducible rfl); simp only [Act.put, List.setIfInBounds_toArray, List.set_cons_zero, List.set_cons_succ]); (refine m_q 6 (v := ?_) (by kernel_rfl) rfl rfl (fun W hW => ?_) ?_; rotate_left; (have x1 := onB hW q1; have x2 := onB hW q2; go_simp; first | done | with_reducible rfl); simp only [Act.put, List.setIfInBounds_toArray, List.set_cons_zero, List.set_cons_succ]); (refine m_q 7 (v := ?_) (by kernel_rfl) rfl rfl (fun W hW => ?_) ?_; rotate_left; (have x1 := onB hW q1; have x2 := onB hW q2; go_simp; first | done | with_reducible rfl); simp only [Act.put, List.setIfInBounds_toArray, List.set_cons_zero, List.set_cons_succ]); (refine m_q 8 (v := ?_) (by kernel_rfl) rfl rfl (fun W hW => ?_) ?_; rotate_left; (have x1 := onB hW q1; have x2 := onB hW q2; go_simp; first | done | with_reducible rfl); simp only [Act.put, List.setIfInBounds_toArray, List.set_cons_zero, List.set_cons_succ])
        refine m_end (by kernel_rfl) ?_
        have q1' := onB hr q1'
        have q2' := onB hr q2'
        clear hr q1 q2
        go_upto_region 7 with fail
        have eM : (moreB N k (k + 1)) = false := HMZ.out N
        refine wp_loopF (β := Nat) (fun n f => #[.slice (some ⟨g1, o1, none⟩) C c, .slice (some ⟨g2, o2, none⟩) C d, f 2, f 3, .int .i64 0, .int .i64 (k : Int), .bool (moreB N k n), .int .i64 (n : Int), .slice (some ⟨g1, o1, none⟩) C c, .int .i64 (C : Int), .int .i64 (k : Int), f 11, f 12, f 13, f 14, f 15, f 16, f 17, f 18, f 19, f 20, f 21, f 22, f 23, f 24, f 25, f 26, f 27, f 28, f 29, f 30, f 31, f 32, f 33, f 34, f 35, f 36, f 37, f 38, f 39, f 40, f 41, f 42, f 43, f 44, f 45, f 46, f 47, f 48, f 49, f 50, f 51, f 52, f 53, f 54, f 55, f 56, f 57, f 58, f 59, f 60, f 61])
          (fun n ds W => k < n ∧ n ≤ C ∧ ds = [] ∧ W = U) (fun n => C - n) (k + 1) (by rw [eM]; rfl) ⟨by omega, by omega, rfl, rfl⟩ ?_
        rintro n f ds W ⟨hkn, hn, rfl, rfl⟩
        dsimp only at hkn hn ⊢
        by_cases hl2 : n < C
        · have x3 := HC1.out W bU n hl2
          have hms := HMS.out N n hkn
          obtain ⟨m, hm⟩ : ∃ m, m = moreB N k n := ⟨_, rfl⟩
          obtain ⟨y, hy⟩ : ∃ y, y = N.testBit n := ⟨_, rfl⟩
          rw [← hm, ← hy] at hms
          rw [← hm]
          rw [← hy] at x3
          have HMSn := Lib.hid hms
          clear hms hm hy eM
          cases m with
          | true =>
            go_wp2_with fail
            exact ⟨n + 1, by rw [HMSn.out]; rfl, ⟨by omega, by omega, by first | rfl | trivial, by first | rfl | trivial⟩, by omega⟩
          | false =>
            cases y with
            | true =>
              go_wp2_with fail
              exact ⟨n + 1, by rw [HMSn.out]; rfl, ⟨by omega, by omega, by first | rfl | trivial, by first | rfl | trivial⟩, by omega⟩
            | false =>
              go_wp2_with fail
              exact ⟨n + 1, by rw [HMSn.out]; rfl, ⟨by omega, by omega, by first | rfl | trivial, by first | rfl | trivial⟩, by omega⟩
        · obtain rfl : n = C := by omega
          have hcm : cmpN N M = if false = moreB N k n then -1 else 1 := by simpa using HCM.out (by simp)
          obtain ⟨m, hm⟩ : ∃ m, m = moreB N k n := ⟨_, rfl⟩
          rw [← hm] at hcm ⊢
          clear hm eM
          cases m with
          | true =>
            have HF := Lib.hid hcm
            clear hcm HCM
            go_wp2_with fail
            go_ret
            exact ⟨by rw [HF.out]; rfl, bU⟩
          | false =>
            have HF := Lib.hid hcm
            clear hcm HCM
            go_wp2_with fail
            go_ret
            exact ⟨by rw [HF.out]; rfl, bU⟩
  · obtain rfl : k = C := by omega
    have he : cmpN N M = 0 := cmpN_zero.2 (nat_eq_of HN.out HM.out HZ.out)
    have HE := Lib.hid he
    clear he
    go_wp2_with fail
    go_ret
    exact ⟨by rw [HE.out]; rfl, hbV⟩
end Mix2
end Go.Proofs.YtfbkcdhmggjbaaaGreatDoor

/-
  The reference of chapter 48: Normal.
-/
namespace Go.Proofs.YtfbkcdhmggjbaaaGreatDoor
open Go.RowKit
theorem matP_row {C : Nat} {L : List (Nat × Nat)} {k : Nat} (hk : k < L.length) : (matP C L)[k]? = some (flagB C (atQ L k).2) := by
  unfold matP mat
  rw [List.getElem?_map, List.getElem?_range hk]; rfl
theorem insS_same {f : Nat → Nat × Nat} {r x : Nat} {acc : List Nat} {b : Bool} (h : cmpQ (f r) (f x) = 0) : insS f r (acc, b) x = (acc ++ [x], true) := by
  unfold insS; simp [h]
theorem insS_less {f : Nat → Nat × Nat} {r x : Nat} {acc : List Nat} (h : cmpQ (f r) (f x) < 0) : insS f r (acc, false) x = (acc ++ [r] ++ [x], true) := by
  unfold insS
  have h0 : ¬ cmpQ (f r) (f x) = 0 := by omega
  rw [if_pos (by simp [h, h0])]
theorem insS_done1 {f : Nat → Nat × Nat} {r x : Nat} {acc : List Nat} : insS f r (acc, true) x = (acc ++ [x], true) := by
  unfold insS; simp
theorem insS_more {f : Nat → Nat × Nat} {r x : Nat} {acc : List Nat} (h : 0 < cmpQ (f r) (f x)) : insS f r (acc, false) x = (acc ++ [x], false) := by
  unfold insS
  have h0 : ¬ cmpQ (f r) (f x) = 0 := by omega
  have h1 : ¬ cmpQ (f r) (f x) < 0 := by omega
  rw [if_neg (by simp [h1])]
  simp [h0]
/-- What stays in place while roles are brought into order. -/
structure NorI (w W : World) (g : Nat) (u0 u1 p0 p1 : Value) : Prop where
  b2 : Blk W g 28 #[u0, u1]
  b3 : Blk W (g + 1) 28 #[p0, p1]
  bel : Below w.heap.size w W
theorem NorI.below {w W W' : World} {g : Nat} {u0 u1 p0 p1 : Value} (h : NorI w W g u0 u1 p0 p1) (hb : Below W.heap.size W W') : NorI w W' g u0 u1 p0 p1 := ⟨h.b2.below hb h.b2.lt, h.b3.below hb h.b3.lt, h.bel.trans (hb.mono h.bel.size)⟩
namespace Mix2
set_option maxRecDepth 100000 in
set_option maxHeartbeats 16000000 in
theorem normal48_any (R C K : Nat) (A B : Option Addr) (c d : Nat) (L : List (Nat × Nat)) (w : World) (hu : IsRef w K A (matU R L)) (hp : IsRef w C B (matP C L)) (hwf : WfQ R C L) (hK : L.length = K) :
    Calls Tryz.prog 22 #[refV K A R c, refV C B K d] w fun e w' => ∃ A' c', e = .returned (.slice A' (normI (atQ L) K).length c') ∧ Row w' A' ((normI (atQ L) K).map i64) ∧ Below w.heap.size w w' := by
  obtain ⟨i0, hi0, hz0, hz1, hz2⟩ := info_parts info_int
  have hK4 := hu.1
  have HCOL := Lib.hid (fun W (hb : Below w.heap.size w W) j (hj : j < K) => column48_any K R c j A (matU R L) (atQ L j).1 W (hu.below hb) (matU_len R L) hj (fun x hx => (hwf _ (getQ_mem (by omega))).1 x hx) (fun i hi => matU_get hi (by omega)))
  have hrow : ∀ W (hb : Below w.heap.size w W) i (hi : i < K), ∃ g off B' d', B = some ⟨g, off, none⟩ ∧ W.cell? ⟨g, off + i, none⟩ = some (.slice B' C d') ∧ IsFl W (.slice B' C d') C (atQ L i).2 := fun W hb i hi => by
    have hi2 : i < (matP C L).length := by rw [matP_len]; omega
    obtain ⟨g, off, B', d', e, _, hc, hr, _⟩ := (hp.below hb).row hi2
    have he : (matP C L)[i] = flagB C (atQ L i).2 := by
      have := matP_row (C := C) (L := L) (k := i) (by omega)
      rw [List.getElem?_eq_getElem hi2] at this
      exact Option.some.inj this
    rw [he] at hr
    exact ⟨g, off, B', d', e, hc, hp.1, fun j hj => (hwf _ (getQ_mem (by omega))).2 j hj, B', d', rfl, hr⟩
  have HROW := Lib.hid hrow
  have hsucc := normI_succ (atQ L)
  have hlen := normI_len (atQ L)
  have hltx := normI_lt (atQ L)
  have hzero : normI (atQ L) 0 = [] := rfl
  obtain ⟨f0, hf0⟩ : ∃ f, f = atQ L := ⟨_, rfl⟩
  rw [← hf0] at HCOL HROW hsucc hlen hltx hzero ⊢
  have HFO := Lib.hid (fun r xs => insS_fold (f := f0) r xs [])
  obtain ⟨nI, hnI⟩ : ∃ N, N = normI f0 := ⟨_, rfl⟩
  rw [← hnI] at hsucc hlen hltx hzero ⊢
  have HSUCC := Lib.hid hsucc
  have HLT := Lib.hid hltx
  clear hu hp hwf hK hrow hf0 hnI hsucc hltx
  go_enter Tryz.func22, Tryz.ntmps22
  go_upto_region 1 with fail
  refine abs2 fun W0 h2 h3 hb0 hz => ?_
  clear hz
  obtain ⟨g, hg⟩ : ∃ x, x = w.heap.size := ⟨_, rfl⟩
  have hgw : w.heap.size ≤ g := by omega
  rw [← hg] at h2 h3 ⊢
  clear hg
  have hI0 : NorI w W0 g (.int .i64 (K : Int)) (.slice A R c) (.int .i64 (C : Int)) (.slice B K d) := ⟨h2, h3, hb0⟩
  clear h2 h3 hb0
  go_wp2_with fail
  refine wp_loopF (β := Nat × Value) (fun x f => #[f 0, f 1, ptr g, ptr (g + 1), .slice none 0 0, x.2, .int .i64 (x.1 : Int), f 7, f 8, f 9, f 10, f 11, f 12, f 13, f 14, f 15, f 16, f 17, f 18, f 19, f 20, f 21, f 22, f 23, f 24, f 25, f 26, f 27, f 28, f 29, f 30, f 31, f 32, f 33, f 34, f 35, f 36, f 37, f 38, f 39, f 40, f 41, f 42, f 43, f 44, f 45, f 46, f 47, f 48, f 49, f 50, f 51, f 52, f 53, f 54, f 55, f 56, f 57, f 58, f 59, f 60, f 61, f 62, f 63, f 64, f 65, f 66, f 67, f 68, f 69, f 70, f 71, f 72, f 73, f 74, f 75, f 76, f 77, f 78, f 79, f 80])
    (fun x ds W => x.1 ≤ K ∧ ds = [] ∧ NorI w W g (.int .i64 (K : Int)) (.slice A R c) (.int .i64 (C : Int)) (.slice B K d) ∧ W.ownsRow w.heap.size 3 1 x.2 (nI x.1).length ((nI x.1).map i64)) (fun x => K - x.1) (0, .slice none 0 0) rfl ⟨Nat.zero_le _, rfl, hI0, by dsimp only; rw [hzero]; exact World.ownsRow_nil _ _ _ _⟩ ?_
  clear hI0
  rintro ⟨r, v⟩ f ds W ⟨hr, rfl, hI, hown⟩
  dsimp only at hr hown ⊢
  have p0 := hI.b2.cell 0
  have p1 := hI.b2.cell 1
  by_cases hlt : r < K
  · have q1 := hI.b3.cell 1
    have hsc := HSUCC.out r
    have hrl := hlen r
    have hll := HLT.out r
    have hnE : nonE (f0 r) = !(decide ((f0 r).1 = 0) || decide ((f0 r).2 = 0)) := rfl
    have HCL := hideC (HCOL.out W hI.bel r hlt)
    go_wp2_with fail
    with_reducible refine HCL.out.mono ?_
    rintro e W1 ⟨v1, rfl, hF1, hb1⟩
    have hI1 := hI.below hb1
    have hown1 := own_below hown hb1
    have p0 := hI1.b2.cell 0
    have p1 := hI1.b2.cell 1
    have q1 := hI1.b3.cell 1
    have HEM := hideC (empty48_any v1 R (f0 r).1 W1 hF1)
    clear HCL hI hown hb1 hF1
    go_wp2_with fail
    with_reducible refine HEM.out.mono ?_
    rintro e W2 ⟨rfl, rfl⟩
    clear HEM
    obtain ⟨ea, hea⟩ : ∃ b, b = decide ((f0 r).1 = 0) := ⟨_, rfl⟩
    rw [← hea] at hnE ⊢
    clear hea
    cases ea with
    | true =>
      rw [hnE] at hsc
      have HSC := Lib.hid hsc
      clear hsc hnE hll
      go_wp2_with fail
      exact ⟨(r + 1, v), rfl, ⟨by show r + 1 ≤ K; omega, by first | rfl | trivial, hI1, by show W1.ownsRow _ _ _ v (nI (r + 1)).length _; rw [HSC.out]; exact hown1⟩, by show K - (r + 1) < K - r; omega⟩
    | false =>
      obtain ⟨g4, o4, B4, d4, rfl, q4, hF4⟩ := HROW.out W1 hI1.bel r hlt
      have HEM := hideC (empty48_any _ C (f0 r).2 W1 hF4)
      go_wp2_with fail
      with_reducible refine HEM.out.mono ?_
      rintro e W2 ⟨rfl, rfl⟩
      clear HEM hF4
      obtain ⟨eb, heb⟩ : ∃ b, b = decide ((f0 r).2 = 0) := ⟨_, rfl⟩
      rw [← heb] at hnE ⊢
      clear heb
      cases eb with
      | true =>
        rw [hnE] at hsc
        have HSC := Lib.hid hsc
        clear hsc hnE hll
        go_wp2_with fail
        exact ⟨(r + 1, v), rfl, ⟨by show r + 1 ≤ K; omega, by first | rfl | trivial, hI1, by show W1.ownsRow _ _ _ v (nI (r + 1)).length _; rw [HSC.out]; exact hown1⟩, by show K - (r + 1) < K - r; omega⟩
      | false =>
        rw [hnE] at hsc
        simp only [Bool.or_self, Bool.not_false, if_true] at hsc
        have hfo := HFO.out r (nI r)
        rw [List.nil_append] at hfo
        rw [← hfo] at hsc
        clear hfo
        have HSC := Lib.hid hsc
        clear hsc hnE
        obtain ⟨xs, hxs⟩ : ∃ xs, xs = nI r := ⟨_, rfl⟩
        rw [← hxs] at HSC hown1 hrl hll
        have HLL := Lib.hid hll
        clear hxs hll
        obtain ⟨Ax, cx, rfl, hcx, -, hrx, -⟩ := row_of_own hown1
        have hW1s := hI1.bel.size
        have hZ0 : xs.foldl (insS f0 r) ([], false) = (xs.take xs.length).foldl (insS f0 r) ([], false) := by rw [List.take_length]
        rw [hZ0] at HSC
        have hZs : ∀ k (hk : k < xs.length), (xs.take (k + 1)).foldl (insS f0 r) ([], false) = insS f0 r ((xs.take k).foldl (insS f0 r) ([], false)) xs[k] := fun k hk => by
          rw [List.take_add_one, List.getElem?_eq_getElem hk, List.foldl_append]; rfl
        obtain ⟨Z, hZ⟩ : ∃ Z : Nat → List Nat × Bool, Z = fun k => (xs.take k).foldl (insS f0 r) ([], false) := ⟨_, rfl⟩
        have hZ1 : ([], false) = Z 0 := by rw [hZ]; rfl
        have hZs2 : ∀ k (hk : k < xs.length), Z (k + 1) = insS f0 r (Z k) xs[k] := by rw [hZ]; exact hZs
        have hsc2 : nI (r + 1) = insF r (Z xs.length) := by rw [hZ]; exact HSC.out
        have HSC := Lib.hid hsc2
        have HZS0 := Lib.hid hZs2
        obtain ⟨n, hn⟩ : ∃ n, n = xs.length := ⟨_, rfl⟩
        have HXN := Lib.hid hn
        rw [← hn] at HSC hrl
        rw [← hn] at ⊢
        clear hZ0 hZs hZ hZs2 hsc2 hn q4
        go_upto_region 9 with fail
        refine wp_loopF (β := Nat × Value × List Nat × Bool) (fun y f => #[f 0, f 1, ptr g, ptr (g + 1), .slice none 0 0, .slice Ax n cx, .int .i64 (r : Int), y.2.1, .bool y.2.2.2, f 9, f 10, f 11, f 12, f 13, f 14, f 15, f 16, f 17, f 18, f 19, f 20, f 21, f 22, f 23, f 24, f 25, f 26, f 27, f 28, f 29, .slice Ax n cx, .int .i64 (n : Int), .int .i64 (y.1 : Int), f 33, f 34, f 35, f 36, f 37, f 38, f 39, f 40, f 41, f 42, f 43, f 44, f 45, f 46, f 47, f 48, f 49, f 50, f 51, f 52, f 53, f 54, f 55, f 56, f 57, f 58, f 59, f 60, f 61, f 62, f 63, f 64, f 65, f 66, f 67, f 68, f 69, f 70, f 71, f 72, f 73, f 74, f 75, f 76, f 77, f 78, f 79, f 80])
          (fun y ds W => y.1 ≤ n ∧ ds = [] ∧ (y.2.2.1, y.2.2.2) = Z y.1 ∧ y.2.2.1.length ≤ y.1 + 1 ∧ (y.2.2.2 = false → y.2.2.1.length ≤ y.1) ∧ Below W1.heap.size W1 W ∧ W.ownsRow W1.heap.size 3 1 y.2.1 y.2.2.1.length (y.2.2.1.map i64)) (fun y => n - y.1) (0, .slice none 0 0, [], false) rfl
          ⟨Nat.zero_le _, rfl, hZ1, Nat.zero_le _, fun _ => Nat.le_refl _, Below.refl _ _, World.ownsRow_nil _ _ _ _⟩ ?_
        clear hZ1
        rintro ⟨k, v7, acc, dn⟩ f ds W ⟨hk, rfl, hst, hla, hl0, hbW, ho⟩
        dsimp only at hk hst hla hl0 ho ⊢
        have HST := Lib.hid hst
        clear hst
        by_cases hkn : k < n
        · have hkx : k < xs.length := by rw [← HXN.out]; exact hkn
          have hzs := HZS0.out k hkx
          rw [← HST.out] at hzs
          obtain ⟨gx, ox, rfl, hgx, hcx'⟩ := hrx (by rw [List.length_map]; omega)
          have cx0 := onB hbW (hcx' k (i64 xs[k]) (by rw [List.getElem?_map, List.getElem?_eq_getElem hkx]; rfl))
          have hxK := HLL.out _ (List.getElem_mem hkx)
          obtain ⟨x, hx⟩ : ∃ x, x = xs[k] := ⟨_, rfl⟩
          rw [← hx] at cx0 hxK hzs
          have hxK2 : x < K := by omega
          dsimp only [i64] at cx0
          have HZS := Lib.hid hzs
          clear hcx' hx hkx hzs
          have hI2 := hI1.below hbW
          obtain ⟨g5, o5, B5, d5, e5, q5, hF5⟩ := HROW.out W hI2.bel r (by omega)
          cases e5
          obtain ⟨g6, o6, B6, d6, e6, q6, hF6⟩ := HROW.out W hI2.bel x (by omega)
          cases e6
          have q1 := hI2.b3.cell 1
          have p0 := hI2.b2.cell 0
          have p1 := hI2.b2.cell 1
          go_upto_region 11 with fail
          refine wp_mix (fun V => Below W.heap.size W V) 12 (by kernel_rfl) (by kernel_rfl) (Below.refl _ _).drew ?_
          have hr1 := (Below.refl W.heap.size W).drew
          obtain ⟨U, hU⟩ : ∃ U, U = W.drew := ⟨_, rfl⟩
          rw [← hU] at hr1 ⊢
          clear hU
          have HC := hideC (compare48_any C (f0 r).2 (f0 x).2 _ _ U (hF5.below hr1) (hF6.below hr1))
          (refine m_q 0 (v := ?_) (by kernel_rfl) rfl rfl (fun W hW => ?_) ?_; rotate_left; (have x1 := onB hW q1; have x2 := onB hW q5; have x3 := onB hW q6; go_simp; first | done | with_reducible rfl); simp only [Act.put, List.setIfInBounds_toArray, List.set_cons_zero, List.set_cons_succ]); (refine m_q 1 (v := ?_) (by kernel_rfl) rfl rfl (fun W hW => ?_) ?_; rotate_left; (have x1 := onB hW q1; have x2 := onB hW q5; have x3 := onB hW q6; go_simp; first | done | with_reducible rfl); simp only [Act.put, List.setIfInBounds_toArray, List.set_cons_zero, List.set_cons_succ]); (refine m_q 2 (v := ?_) (by kernel_rfl) rfl rfl (fun W hW => ?_) ?_; rotate_left; (have x1 := onB hW q1; have x2 := onB hW q5; have x3 := onB hW q6; go_simp; first | done | with_reducible rfl); simp only [Act.put, List.setIfInBounds_toArray, List.set_cons_zero, List.set_cons_succ]); (refine m_q 3 (v := ?_) (by kernel_rfl) rfl rfl (fun W hW => ?_) ?_; rotate_left; (have x1 := onB hW q1; have x2 := onB hW q5; have x3 := onB hW q6; go_simp; first | done | with_reducible rfl); simp only [Act.put, List.setIfInBounds_toArray, List.set_cons_zero, List.set_cons_succ]); (refine m_q 4 (v := ?_) (by kernel_rfl) rfl rfl (fun W hW => ?_) ?_; rotate_left; (have x1 := onB hW q1; have x2 := onB hW q5; have x3 := onB hW q6; go_simp; first | done | with_reducible rfl); simp only [Act.put, List.setIfInBounds_toArray, List.set_cons_zero, List.set_cons_succ]); (refine m_q 5 (v := ?_) (by kernel_rfl) rfl rfl (fun W hW => ?_) ?_; rotate_left; (have x1 := onB hW q1; have x2 := onB hW q5; have x3 := onB hW q6; go_simp; first | done | with_reducible rfl); simp only [Act.put, List.setIfInBounds_toArray, List.set_cons_zero, List.set_cons_succ]); (refine m_q 6 (v := ?_) (by kernel_rfl) rfl rfl (fun W hW => ?_) ?_; rotate_left; (have x1 := onB hW q1; have x2 := onB hW q5; have x3 := onB hW q6; go_simp; first | done | with_reducible rfl); simp only [Act.put, List.setIfInBounds_toArray, List.set_cons_zero, List.set_cons_succ]); (refine m_q 7 (v := ?_) (by kernel_rfl) rfl rfl (fun W hW => ?_) ?_; rotate_left; (have x1 := onB hW q1; have x2 := onB hW q5; have x3 := onB hW q6; go_simp; first | done | with_reducible rfl); simp only [Act.put, List.setIfInBounds_toArray, List.set_cons_zero, List.set_cons_succ]); (refine m_q 8 (v := ?_) (by kernel_rfl) rfl rfl (fun W hW => ?_) ?_; rotate_left; (have x1 := onB hW q1; have x2 := onB hW q5; have x3 := onB hW q6; go_simp; first | done | with_reducible rfl); simp only [Act.put, List.setIfInBounds_toArray, List.set_cons_zero, List.set_cons_succ]); (refine m_q 9 (v := ?_) (by kernel_rfl) rfl rfl (fun W hW => ?_) ?_; rotate_left; (have x1 := onB hW q1; have x2 := onB hW q5; have x3 := onB hW q6; go_simp; first | done | with_reducible rfl); simp only [Act.put, List.setIfInBounds_toArray, List.set_cons_zero, List.set_cons_succ])
          refine m_s1 10 (by kernel_rfl) rfl ?_
          go_wp2_with fail
          with_reducible refine HC.out.mono ?_
          rintro e U1 ⟨rfl, hbc⟩
          have U1b := hr1.trans (hbc.mono hr1.size)
          go_wp2_with fail
          refine m_keep U1b ?_
          (refine m_q 11 (v := ?_) (by kernel_rfl) rfl rfl (fun W hW => ?_) ?_; rotate_left; (go_simp; first | done | with_reducible rfl); simp only [Act.put, List.setIfInBounds_toArray, List.set_cons_zero, List.set_cons_succ])
          refine m_end (by kernel_rfl) ?_
          clear HC hr1 hF5 hF6 q5 q6 hbc q1 cx0
          have hTq : cmpQ (f0 r) (f0 x) = if cmpN (f0 r).2 (f0 x).2 = 0 then cmpN (f0 r).1 (f0 x).1 else cmpN (f0 r).2 (f0 x).2 := rfl
          obtain ⟨T2, hT2⟩ : ∃ t, t = cmpN (f0 r).2 (f0 x).2 := ⟨_, rfl⟩
          rw [← hT2] at hTq ⊢
          clear hT2
          by_cases h0 : T2 = 0
          · rw [if_pos h0] at hTq
            subst h0
            obtain ⟨T1, hT1⟩ : ∃ t, t = cmpN (f0 r).1 (f0 x).1 := ⟨_, rfl⟩
            rw [← hT1] at hTq
            have HT1 := Lib.hid hT1
            have HT := Lib.hid hTq.symm
            clear hTq hT1
            have hI3 := hI2.below U1b
            have p0 := hI3.b2.cell 0
            have p1 := hI3.b2.cell 1
            go_upto_region 13 with fail
            refine wp_mix (fun V => Below U1.heap.size U1 V) 8 (by kernel_rfl) (by kernel_rfl) (Below.refl _ _).drew ?_
            have hr1 := (Below.refl U1.heap.size U1).drew
            obtain ⟨U, hU⟩ : ∃ U, U = U1.drew := ⟨_, rfl⟩
            rw [← hU] at hr1 ⊢
            clear hU
            have bU := hI3.bel.trans (hr1.mono hI3.bel.size)
            have HC1 := hideC (HCOL.out U bU r (by omega))
            (refine m_q 0 (v := ?_) (by kernel_rfl) rfl rfl (fun W hW => ?_) ?_; rotate_left; (have x1 := onB hW p0; have x2 := onB hW p1; go_simp; first | done | with_reducible rfl); simp only [Act.put, List.setIfInBounds_toArray, List.set_cons_zero, List.set_cons_succ]); (refine m_q 1 (v := ?_) (by kernel_rfl) rfl rfl (fun W hW => ?_) ?_; rotate_left; (have x1 := onB hW p0; have x2 := onB hW p1; go_simp; first | done | with_reducible rfl); simp only [Act.put, List.setIfInBounds_toArray, List.set_cons_zero, List.set_cons_succ]); (refine m_q 3 (v := ?_) (by kernel_rfl) rfl rfl (fun W hW => ?_) ?_; rotate_left; (have x1 := onB hW p0; have x2 := onB hW p1; go_simp; first | done | with_reducible rfl); simp only [Act.put, List.setIfInBounds_toArray, List.set_cons_zero, List.set_cons_succ]); (refine m_q 4 (v := ?_) (by kernel_rfl) rfl rfl (fun W hW => ?_) ?_; rotate_left; (have x1 := onB hW p0; have x2 := onB hW p1; go_simp; first | done | with_reducible rfl); simp only [Act.put, List.setIfInBounds_toArray, List.set_cons_zero, List.set_cons_succ])
            refine m_s1 2 (by kernel_rfl) rfl ?_
            go_wp2_with fail
            with_reducible refine HC1.out.mono ?_
            rintro e U2 ⟨va, rfl, hFa, hb2⟩
            have hr2 := hr1.trans (hb2.mono hr1.size)
            have bU2 := hI3.bel.trans (hr2.mono hI3.bel.size)
            go_wp2_with fail
            refine m_keep hr2 ?_
            have HC2 := hideC (HCOL.out U2 bU2 x (by omega))
            refine m_s1 5 (by kernel_rfl) rfl ?_
            go_wp2_with fail
            with_reducible refine HC2.out.mono ?_
            rintro e U3 ⟨vb, rfl, hFb, hb3⟩
            have hr3 := hr2.trans (hb3.mono hr2.size)
            go_wp2_with fail
            refine m_keep hr3 ?_
            have hcc := compare48_any R (f0 r).1 (f0 x).1 va vb U3 (hFa.below hb3) hFb
            rw [← HT1.out] at hcc
            have HC3 := hideC hcc
            refine m_s1 6 (by kernel_rfl) rfl ?_
            go_wp2_with fail
            with_reducible refine HC3.out.mono ?_
            rintro e U4 ⟨rfl, hb4⟩
            have hr4 := hr3.trans (hb4.mono hr3.size)
            go_wp2_with fail
            refine m_keep hr4 ?_
            (refine m_q 7 (v := ?_) (by kernel_rfl) rfl rfl (fun W hW => ?_) ?_; rotate_left; (go_simp; first | done | with_reducible rfl); simp only [Act.put, List.setIfInBounds_toArray, List.set_cons_zero, List.set_cons_succ])
            refine m_end (by kernel_rfl) ?_
            have U4b := U1b.trans (hr4.mono U1b.size)
            clear HC1 HC2 HC3 hcc hFa hFb hr1 hr2 hr3 hr4 hb2 hb3 hb4 bU bU2 HT1 p0 p1 hI3
            rcases Int.lt_trichotomy T1 0 with hs | hs | hs
            · have hq : cmpQ (f0 r) (f0 x) < 0 := by rw [← HT.out]; exact hs
              have HQ := Lib.hid hq
              have e1 : (T1 == 0) = false := by simpa using (show T1 ≠ 0 by omega)
              have e2 : decide (T1 = 0) = false := decide_eq_false (by omega)
              have e3 : decide (T1 < 0) = true := decide_eq_true hs
              clear hq HT
              cases dn with
              | true =>
                have hloc := own_below (own_below ho U4b) ((Below.refl U4.heap.size U4).alloc (Nat.le_refl _) (.cells #[.int .i64 (x : Int)] 3))
                have hWs := Nat.le_trans hbW.size U4b.size
                have hbz := hbW.trans (U4b.mono hbW.size)
                go_wp2_with (at_builtin; refine wpList_append_own _ rfl _ _ 52 rfl (W1.heap.size) 3 i0 (.int .i64 0) 1 8 Tryz.underlying52 hi0 hz0 hz1 hz2 rfl (by decide) _ _ _ rfl (hloc) ⟨U4.heap.size, 0, none⟩ 1 1 [.int .i64 (x : Int)] rfl rfl (cell_one_new _ _ _) (by simp [Value.oneCell']) (by unfold maxLen; omega) (by omega) (by simp; omega) ?_; intro v' w3 hown' hgrow _)
                exact ⟨(k + 1, v', acc ++ [x], true), rfl, ⟨by show k + 1 ≤ n; omega, by first | rfl | trivial, by rw [HZS.out]; exact insS_done1.symm, by simp only [List.length_append, List.length_singleton]; omega, by (intro hh; cases hh), (hbz.alloc hbz.size _).grown hgrow (by simp; omega) (fun q hq => (hloc.lt q hq).1), by show w3.ownsRow _ _ _ v' (acc ++ [x]).length _; rw [List.length_append, List.map_append]; exact hown'⟩, by show n - (k + 1) < n - k; omega⟩
              | false =>
                have hloc := own_below (own_below ho U4b) ((Below.refl U4.heap.size U4).alloc (Nat.le_refl _) (.cells #[.int .i64 (r : Int)] 3))
                have hWs := Nat.le_trans hbW.size U4b.size
                have hbz := hbW.trans (U4b.mono hbW.size)
                have hl00 := hl0 rfl
                go_upto_region 18 with (at_builtin; refine wpList_append_own _ rfl _ _ 52 rfl (W1.heap.size) 3 i0 (.int .i64 0) 1 8 Tryz.underlying52 hi0 hz0 hz1 hz2 rfl (by decide) _ _ _ rfl (hloc) ⟨U4.heap.size, 0, none⟩ 1 1 [.int .i64 (r : Int)] rfl rfl (cell_one_new _ _ _) (by simp [Value.oneCell']) (by unfold maxLen; omega) (by omega) (by simp; omega) ?_; intro v' w3 hown' hgrow _)
                have hbz2 := (hbz.alloc hbz.size (.cells #[.int .i64 (r : Int)] 3)).grown hgrow (by simp; omega) (fun q hq => (hloc.lt q hq).1)
                obtain ⟨va, hva⟩ : ∃ va, va = v' := ⟨_, rfl⟩
                obtain ⟨wa, hwa⟩ : ∃ wa, wa = w3 := ⟨_, rfl⟩
                rw [← hva, ← hwa] at hown'
                rw [← hwa] at hbz2
                rw [← hva, ← hwa]
                clear hgrow hloc hbz hva hwa
                have hloc := own_below hown' ((Below.refl wa.heap.size wa).alloc (Nat.le_refl _) (.cells #[.int .i64 (x : Int)] 3))
                have hWa := hbz2.size
                have hap : (acc.map i64 ++ [.int .i64 (r : Int)]) = (acc ++ [r]).map i64 := by rw [List.map_append]; rfl
                rw [hap] at hloc
                clear hown' hap
                go_wp2_with (at_builtin; refine wpList_append_own _ rfl _ _ 52 rfl (W1.heap.size) 3 i0 (.int .i64 0) 1 8 Tryz.underlying52 hi0 hz0 hz1 hz2 rfl (by decide) _ _ _ rfl (hloc) ⟨wa.heap.size, 0, none⟩ 1 1 [.int .i64 (x : Int)] rfl rfl (cell_one_new _ _ _) (by simp [Value.oneCell']) (by unfold maxLen; omega) (by omega) (by simp; omega) ?_; intro v' w3 hown' hgrow _)
                exact ⟨k + 1, v', ⟨rfl, by omega⟩, ⟨by omega, acc ++ [r] ++ [x], by rw [HZS.out]; exact (insS_less HQ.out).symm, by simp only [List.length_append, List.length_singleton]; omega, (hbz2.alloc hbz2.size _).grown hgrow (by simp; omega) (fun q hq => (hloc.lt q hq).1), by rw [show (acc ++ [r] ++ [x]).length = acc.length + 1 + 1 by simp, show (acc ++ [r] ++ [x]).map i64 = (acc ++ [r]).map i64 ++ [.int .i64 (x : Int)] by rw [List.map_append]; rfl]; exact hown'⟩, by omega⟩
            · have hq : cmpQ (f0 r) (f0 x) = 0 := by rw [← HT.out]; exact hs
              have HQ := Lib.hid hq
              subst hs
              clear hq HT
              have hloc := own_below (own_below ho U4b) ((Below.refl U4.heap.size U4).alloc (Nat.le_refl _) (.cells #[.int .i64 (x : Int)] 3))
              have hWs := Nat.le_trans hbW.size U4b.size
              have hbz := hbW.trans (U4b.mono hbW.size)
              go_wp2_with (at_builtin; refine wpList_append_own _ rfl _ _ 52 rfl (W1.heap.size) 3 i0 (.int .i64 0) 1 8 Tryz.underlying52 hi0 hz0 hz1 hz2 rfl (by decide) _ _ _ rfl (hloc) ⟨U4.heap.size, 0, none⟩ 1 1 [.int .i64 (x : Int)] rfl rfl (cell_one_new _ _ _) (by simp [Value.oneCell']) (by unfold maxLen; omega) (by omega) (by simp; omega) ?_; intro v' w3 hown' hgrow _)
              exact ⟨(k + 1, v', acc ++ [x], true), rfl, ⟨by show k + 1 ≤ n; omega, by first | rfl | trivial, by rw [HZS.out]; exact (insS_same HQ.out).symm, by simp only [List.length_append, List.length_singleton]; omega, by (intro hh; cases hh), (hbz.alloc hbz.size _).grown hgrow (by simp; omega) (fun q hq => (hloc.lt q hq).1), by show w3.ownsRow _ _ _ v' (acc ++ [x]).length _; rw [List.length_append, List.map_append]; exact hown'⟩, by show n - (k + 1) < n - k; omega⟩
            · have hq : 0 < cmpQ (f0 r) (f0 x) := by rw [← HT.out]; exact hs
              have HQ := Lib.hid hq
              have e1 : (T1 == 0) = false := by simpa using (show T1 ≠ 0 by omega)
              have e2 : decide (T1 = 0) = false := decide_eq_false (by omega)
              have e3 : decide (T1 < 0) = false := decide_eq_false (by omega)
              clear hq HT
              cases dn with
              | true =>
                have hloc := own_below (own_below ho U4b) ((Below.refl U4.heap.size U4).alloc (Nat.le_refl _) (.cells #[.int .i64 (x : Int)] 3))
                have hWs := Nat.le_trans hbW.size U4b.size
                have hbz := hbW.trans (U4b.mono hbW.size)
                go_wp2_with (at_builtin; refine wpList_append_own _ rfl _ _ 52 rfl (W1.heap.size) 3 i0 (.int .i64 0) 1 8 Tryz.underlying52 hi0 hz0 hz1 hz2 rfl (by decide) _ _ _ rfl (hloc) ⟨U4.heap.size, 0, none⟩ 1 1 [.int .i64 (x : Int)] rfl rfl (cell_one_new _ _ _) (by simp [Value.oneCell']) (by unfold maxLen; omega) (by omega) (by simp; omega) ?_; intro v' w3 hown' hgrow _)
                exact ⟨(k + 1, v', acc ++ [x], true), rfl, ⟨by show k + 1 ≤ n; omega, by first | rfl | trivial, by rw [HZS.out]; exact insS_done1.symm, by simp only [List.length_append, List.length_singleton]; omega, by (intro hh; cases hh), (hbz.alloc hbz.size _).grown hgrow (by simp; omega) (fun q hq => (hloc.lt q hq).1), by show w3.ownsRow _ _ _ v' (acc ++ [x]).length _; rw [List.length_append, List.map_append]; exact hown'⟩, by show n - (k + 1) < n - k; omega⟩
              | false =>
                have hloc := own_below (own_below ho U4b) ((Below.refl U4.heap.size U4).alloc (Nat.le_refl _) (.cells #[.int .i64 (x : Int)] 3))
                have hWs := Nat.le_trans hbW.size U4b.size
                have hbz := hbW.trans (U4b.mono hbW.size)
                have hl00 := hl0 rfl
                go_wp2_with (at_builtin; refine wpList_append_own _ rfl _ _ 52 rfl (W1.heap.size) 3 i0 (.int .i64 0) 1 8 Tryz.underlying52 hi0 hz0 hz1 hz2 rfl (by decide) _ _ _ rfl (hloc) ⟨U4.heap.size, 0, none⟩ 1 1 [.int .i64 (x : Int)] rfl rfl (cell_one_new _ _ _) (by simp [Value.oneCell']) (by unfold maxLen; omega) (by omega) (by simp; omega) ?_; intro v' w3 hown' hgrow _)
                exact ⟨k + 1, v', ⟨rfl, by omega⟩, ⟨by omega, acc ++ [x], by rw [HZS.out]; exact (insS_more HQ.out).symm, by simp only [List.length_append, List.length_singleton]; omega, by simp only [List.length_append, List.length_singleton]; omega, (hbz.alloc hbz.size _).grown hgrow (by simp; omega) (fun q hq => (hloc.lt q hq).1), by rw [List.length_append, List.map_append]; exact hown'⟩, by omega⟩
          · rw [if_neg h0] at hTq
            have HT := Lib.hid hTq.symm
            have HNZ := Lib.hid h0
            clear hTq h0
            rcases Int.lt_trichotomy T2 0 with hs | hs | hs
            · have hq : cmpQ (f0 r) (f0 x) < 0 := by rw [← HT.out]; exact hs
              have HQ := Lib.hid hq
              have e1 : (T2 == 0) = false := by simpa using (show T2 ≠ 0 by omega)
              have e2 : decide (T2 = 0) = false := decide_eq_false (by omega)
              have e3 : decide (T2 < 0) = true := decide_eq_true hs
              clear hq HT
              cases dn with
              | true =>
                have hloc := own_below (own_below ho U1b) ((Below.refl U1.heap.size U1).alloc (Nat.le_refl _) (.cells #[.int .i64 (x : Int)] 3))
                have hWs := Nat.le_trans hbW.size U1b.size
                have hbz := hbW.trans (U1b.mono hbW.size)
                go_wp2_with (at_builtin; refine wpList_append_own _ rfl _ _ 52 rfl (W1.heap.size) 3 i0 (.int .i64 0) 1 8 Tryz.underlying52 hi0 hz0 hz1 hz2 rfl (by decide) _ _ _ rfl (hloc) ⟨U1.heap.size, 0, none⟩ 1 1 [.int .i64 (x : Int)] rfl rfl (cell_one_new _ _ _) (by simp [Value.oneCell']) (by unfold maxLen; omega) (by omega) (by simp; omega) ?_; intro v' w3 hown' hgrow _)
                exact ⟨(k + 1, v', acc ++ [x], true), rfl, ⟨by show k + 1 ≤ n; omega, by first | rfl | trivial, by rw [HZS.out]; exact insS_done1.symm, by simp only [List.length_append, List.length_singleton]; omega, by (intro hh; cases hh), (hbz.alloc hbz.size _).grown hgrow (by simp; omega) (fun q hq => (hloc.lt q hq).1), by show w3.ownsRow _ _ _ v' (acc ++ [x]).length _; rw [List.length_append, List.map_append]; exact hown'⟩, by show n - (k + 1) < n - k; omega⟩
              | false =>
                have hloc := own_below (own_below ho U1b) ((Below.refl U1.heap.size U1).alloc (Nat.le_refl _) (.cells #[.int .i64 (r : Int)] 3))
                have hWs := Nat.le_trans hbW.size U1b.size
                have hbz := hbW.trans (U1b.mono hbW.size)
                have hl00 := hl0 rfl
                go_upto_region 18 with (at_builtin; refine wpList_append_own _ rfl _ _ 52 rfl (W1.heap.size) 3 i0 (.int .i64 0) 1 8 Tryz.underlying52 hi0 hz0 hz1 hz2 rfl (by decide) _ _ _ rfl (hloc) ⟨U1.heap.size, 0, none⟩ 1 1 [.int .i64 (r : Int)] rfl rfl (cell_one_new _ _ _) (by simp [Value.oneCell']) (by unfold maxLen; omega) (by omega) (by simp; omega) ?_; intro v' w3 hown' hgrow _)
                have hbz2 := (hbz.alloc hbz.size (.cells #[.int .i64 (r : Int)] 3)).grown hgrow (by simp; omega) (fun q hq => (hloc.lt q hq).1)
                obtain ⟨va, hva⟩ : ∃ va, va = v' := ⟨_, rfl⟩
                obtain ⟨wa, hwa⟩ : ∃ wa, wa = w3 := ⟨_, rfl⟩
                rw [← hva, ← hwa] at hown'
                rw [← hwa] at hbz2
                rw [← hva, ← hwa]
                clear hgrow hloc hbz hva hwa
                have hloc := own_below hown' ((Below.refl wa.heap.size wa).alloc (Nat.le_refl _) (.cells #[.int .i64 (x : Int)] 3))
                have hWa := hbz2.size
                have hap : (acc.map i64 ++ [.int .i64 (r : Int)]) = (acc ++ [r]).map i64 := by rw [List.map_append]; rfl
                rw [hap] at hloc
                clear hown' hap
                go_wp2_with (at_builtin; refine wpList_append_own _ rfl _ _ 52 rfl (W1.heap.size) 3 i0 (.int .i64 0) 1 8 Tryz.underlying52 hi0 hz0 hz1 hz2 rfl (by decide) _ _ _ rfl (hloc) ⟨wa.heap.size, 0, none⟩ 1 1 [.int .i64 (x : Int)] rfl rfl (cell_one_new _ _ _) (by simp [Value.oneCell']) (by unfold maxLen; omega) (by omega) (by simp; omega) ?_; intro v' w3 hown' hgrow _)
                exact ⟨k + 1, v', ⟨rfl, by omega⟩, ⟨by omega, acc ++ [r] ++ [x], by rw [HZS.out]; exact (insS_less HQ.out).symm, by simp only [List.length_append, List.length_singleton]; omega, (hbz2.alloc hbz2.size _).grown hgrow (by simp; omega) (fun q hq => (hloc.lt q hq).1), by rw [show (acc ++ [r] ++ [x]).length = acc.length + 1 + 1 by simp, show (acc ++ [r] ++ [x]).map i64 = (acc ++ [r]).map i64 ++ [.int .i64 (x : Int)] by rw [List.map_append]; rfl]; exact hown'⟩, by omega⟩
            · exact absurd hs HNZ.out
            · have hq : 0 < cmpQ (f0 r) (f0 x) := by rw [← HT.out]; exact hs
              have HQ := Lib.hid hq
              have e1 : (T2 == 0) = false := by simpa using (show T2 ≠ 0 by omega)
              have e2 : decide (T2 = 0) = false := decide_eq_false (by omega)
              have e3 : decide (T2 < 0) = false := decide_eq_false (by omega)
              clear hq HT
              cases dn with
              | true =>
                have hloc := own_below (own_below ho U1b) ((Below.refl U1.heap.size U1).alloc (Nat.le_refl _) (.cells #[.int .i64 (x : Int)] 3))
                have hWs := Nat.le_trans hbW.size U1b.size
                have hbz := hbW.trans (U1b.mono hbW.size)
                go_wp2_with (at_builtin; refine wpList_append_own _ rfl _ _ 52 rfl (W1.heap.size) 3 i0 (.int .i64 0) 1 8 Tryz.underlying52 hi0 hz0 hz1 hz2 rfl (by decide) _ _ _ rfl (hloc) ⟨U1.heap.size, 0, none⟩ 1 1 [.int .i64 (x : Int)] rfl rfl (cell_one_new _ _ _) (by simp [Value.oneCell']) (by unfold maxLen; omega) (by omega) (by simp; omega) ?_; intro v' w3 hown' hgrow _)
                exact ⟨(k + 1, v', acc ++ [x], true), rfl, ⟨by show k + 1 ≤ n; omega, by first | rfl | trivial, by rw [HZS.out]; exact insS_done1.symm, by simp only [List.length_append, List.length_singleton]; omega, by (intro hh; cases hh), (hbz.alloc hbz.size _).grown hgrow (by simp; omega) (fun q hq => (hloc.lt q hq).1), by show w3.ownsRow _ _ _ v' (acc ++ [x]).length _; rw [List.length_append, List.map_append]; exact hown'⟩, by show n - (k + 1) < n - k; omega⟩
              | false =>
                have hloc := own_below (own_below ho U1b) ((Below.refl U1.heap.size U1).alloc (Nat.le_refl _) (.cells #[.int .i64 (x : Int)] 3))
                have hWs := Nat.le_trans hbW.size U1b.size
                have hbz := hbW.trans (U1b.mono hbW.size)
                have hl00 := hl0 rfl
                go_wp2_with (at_builtin; refine wpList_append_own _ rfl _ _ 52 rfl (W1.heap.size) 3 i0 (.int .i64 0) 1 8 Tryz.underlying52 hi0 hz0 hz1 hz2 rfl (by decide) _ _ _ rfl (hloc) ⟨U1.heap.size, 0, none⟩ 1 1 [.int .i64 (x : Int)] rfl rfl (cell_one_new _ _ _) (by simp [Value.oneCell']) (by unfold maxLen; omega) (by omega) (by simp; omega) ?_; intro v' w3 hown' hgrow _)
                exact ⟨k + 1, v', ⟨rfl, by omega⟩, ⟨by omega, acc ++ [x], by rw [HZS.out]; exact (insS_more HQ.out).symm, by simp only [List.length_append, List.length_singleton]; omega, by simp only [List.length_append, List.length_singleton]; omega, (hbz.alloc hbz.size _).grown hgrow (by simp; omega) (fun q hq => (hloc.lt q hq).1), by rw [List.length_append, List.map_append]; exact hown'⟩, by omega⟩
        · obtain rfl : k = n := by omega
          have hscf := HSC.out
          rw [← HST.out] at hscf
          have hW1w := Nat.le_trans hI1.bel.size (Nat.le_refl _)
          have hI2 := hI1.below hbW
          cases dn with
          | true =>
            have HSF := Lib.hid (show nI (r + 1) = acc from hscf)
            clear hscf
            go_wp2_with fail
            exact ⟨(r + 1, v7), rfl, ⟨by show r + 1 ≤ K; omega, by first | rfl | trivial, hI2, by show W.ownsRow _ _ _ v7 (nI (r + 1)).length _; rw [HSF.out]; exact own_low ho hW1w⟩, by show K - (r + 1) < K - r; omega⟩
          | false =>
            have HSF := Lib.hid (show nI (r + 1) = acc ++ [r] from hscf)
            have hl00 := hl0 rfl
            have hloc := own_below ho ((Below.refl W.heap.size W).alloc (Nat.le_refl _) (.cells #[.int .i64 (r : Int)] 3))
            have hWs := hbW.size
            clear hscf
            go_wp2_with (at_builtin; refine wpList_append_own _ rfl _ _ 52 rfl (W1.heap.size) 3 i0 (.int .i64 0) 1 8 Tryz.underlying52 hi0 hz0 hz1 hz2 rfl (by decide) _ _ _ rfl (hloc) ⟨W.heap.size, 0, none⟩ 1 1 [.int .i64 (r : Int)] rfl rfl (cell_one_new _ _ _) (by simp [Value.oneCell']) (by unfold maxLen; omega) (by omega) (by simp; omega) ?_; intro v' w3 hown' hgrow _)
            have hbz2 := (hbW.alloc hbW.size (.cells #[.int .i64 (r : Int)] 3)).grown hgrow (by simp; omega) (fun q hq => (hloc.lt q hq).1)
            exact ⟨r + 1, v', ⟨rfl, by omega⟩, ⟨by omega, hI1.below hbz2, by rw [HSF.out, List.length_append, List.map_append]; exact own_low hown' hW1w⟩, by omega⟩
  · obtain rfl : r = K := by omega
    obtain ⟨A', c', rfl, _, _, hrow, _⟩ := row_of_own hown
    have HRW := Lib.hid hrow
    clear hown hrow
    go_wp2_with fail
    go_ret
    exact ⟨_, _, rfl, HRW.out, hI.bel⟩
end Mix2
end Go.Proofs.YtfbkcdhmggjbaaaGreatDoor

/-
  The reference of chapter 48: Pick (roles by their numbers).
-/
namespace Go.Proofs.YtfbkcdhmggjbaaaGreatDoor
open Go.RowKit
/-- Filled column by column. -/
def pcF (k n : Nat) (T : Nat → Nat → Bool) (x y : Nat) : Bool := if y < k ∨ (y = k ∧ x < n) then T x y else false
theorem pcF_zero (T : Nat → Nat → Bool) : pcF 0 0 T = fun _ _ => false := by
  funext x y; unfold pcF; rw [if_neg (by omega)]
theorem pcF_step (k n : Nat) (T : Nat → Nat → Bool) : (fun x y => if x = n ∧ y = k then T n k else pcF k n T x y) = pcF k (n + 1) T := by
  funext x y
  unfold pcF
  by_cases h : x = n ∧ y = k
  · obtain ⟨rfl, rfl⟩ := h
    rw [if_pos ⟨rfl, rfl⟩, if_pos (by omega)]
  · rw [if_neg h]
    by_cases h2 : y < k ∨ (y = k ∧ x < n)
    · rw [if_pos h2, if_pos (by omega)]
    · rw [if_neg h2, if_neg (by omega)]
theorem OwnRef.grown2 {W W' : World} {base C b2 n size : Nat} {v v2 : Value} {gs : List Nat} {f : Nat → Nat → Bool} {xs : List Value} (h : OwnRef W base C v gs f) (hg : W.grownBy W' v2.ownBlock) (ho : W.ownsRow b2 93 size v2 n xs) (hlt : ∀ q, v.ownBlock = some q → q < b2) : OwnRef W' base C v gs f := by
  have hb : But v2.ownBlock W W' := But.grown hg
  refine ⟨⟨h.1.1, ?_⟩, h.2.1, h.2.2.1, fun i g hi => hb.blk (h.2.2.2 i g hi) (own_ne ho (h.2.2.2 i g hi) (by decide))⟩
  rcases h.1.2 with h2 | ⟨g', cap, cur, hv, hge, hB, r⟩
  · exact .inl h2
  · refine .inr ⟨g', cap, cur, hv, hge, ?_, r⟩
    refine hb.blk hB fun e => ?_
    have h1 := hlt g' (by rw [hv]; rfl)
    have h2 := (ho.lt g' e.symm).1
    omega
/-- What stays in place while roles are picked. -/
structure PicI (w W : World) (R C n g g8 g9 base1 base2 m : Nat) (u0 u1 p0 p1 v1 v2 v9 : Value) (gs : List Nat) (hs : List Value) (f1 : Nat → Nat → Bool) : Prop where
  o1 : OwnRef W base1 n v1 gs f1
  o2 : W.ownsRow base2 93 1 v2 m hs
  l1 : w.heap.size ≤ base1
  l2 : w.heap.size ≤ base2
  h1 : ∀ q, v1.ownBlock = some q → q < base2
  b3 : Blk W g 28 #[u0, u1]
  b4 : Blk W (g + 1) 28 #[p0, p1]
  b6 : Blk W (g + 2) 28 #[.int .i64 0, .slice none 0 0]
  b7 : Blk W (g + 3) 28 #[.int .i64 0, .slice none 0 0]
  b8 : Blk W g8 28 #[.int .i64 (n : Int), v1]
  b9 : Blk W g9 28 #[.int .i64 (C : Int), v9]
  bel : Below w.heap.size w W
section
variable {w W W' : World} {R C n g g8 g9 base1 base2 m : Nat} {u0 u1 p0 p1 v1 v2 v9 : Value} {gs : List Nat} {hs : List Value} {f1 f1' : Nat → Nat → Bool}
theorem PicI.on (h : PicI w W R C n g g8 g9 base1 base2 m u0 u1 p0 p1 v1 v2 v9 gs hs f1) (hb : Below W.heap.size W W') : PicI w W' R C n g g8 g9 base1 base2 m u0 u1 p0 p1 v1 v2 v9 gs hs f1 :=
  ⟨h.o1.below hb, own_below h.o2 hb, h.l1, h.l2, h.h1, h.b3.below hb h.b3.lt, h.b4.below hb h.b4.lt, h.b6.below hb h.b6.lt, h.b7.below hb h.b7.lt, h.b8.below hb h.b8.lt, h.b9.below hb h.b9.lt, h.bel.trans (hb.mono h.bel.size)⟩
theorem PicI.put1 (h : PicI w W R C n g g8 g9 base1 base2 m u0 u1 p0 p1 v1 v2 v9 gs hs f1) {i j : Nat} (hi : i < gs.length) (b : Bool) : PicI w (W.setCell ⟨gs[i], j, none⟩ (.bool b)) R C n g g8 g9 base1 base2 m u0 u1 p0 p1 v1 v2 v9 gs hs (fun x y => if x = i ∧ y = j then b else f1 x y) := by
  have hB := h.o1.2.2.2 i _ (List.getElem?_eq_getElem hi)
  have hg := h.o1.2.2.1 _ (List.getElem_mem hi)
  exact ⟨h.o1.put hi b, ownsRow_setCell_other h.o2 (a := ⟨gs[i], j, none⟩) (fun e => own_ne h.o2 hB (by decide) e.symm) _, h.l1, h.l2, h.h1, h.b3.far (h.b3.ne_ hB (by decide)) _, h.b4.far (h.b4.ne_ hB (by decide)) _, h.b6.far (h.b6.ne_ hB (by decide)) _, h.b7.far (h.b7.ne_ hB (by decide)) _, h.b8.far (h.b8.ne_ hB (by decide)) _, h.b9.far (h.b9.ne_ hB (by decide)) _, h.bel.setCell (p := ⟨gs[i], j, none⟩) (Nat.le_trans h.l1 hg) _⟩
theorem PicI.congr1 (h : PicI w W R C n g g8 g9 base1 base2 m u0 u1 p0 p1 v1 v2 v9 gs hs f1) (he : ∀ i, i < gs.length → ∀ j, j < n → f1 i j = f1' i j) : PicI w W R C n g g8 g9 base1 base2 m u0 u1 p0 p1 v1 v2 v9 gs hs f1' :=
  ⟨h.o1.congr he, h.o2, h.l1, h.l2, h.h1, h.b3, h.b4, h.b6, h.b7, h.b8, h.b9, h.bel⟩
theorem PicI.grow (h : PicI w W R C n g g8 g9 base1 base2 m u0 u1 p0 p1 v1 v2 v9 gs hs f1) (hg : W.grownBy W' v2.ownBlock) {v2' : Value} {m' : Nat} {hs' : List Value} (ho : W'.ownsRow base2 93 1 v2' m' hs') : PicI w W' R C n g g8 g9 base1 base2 m' u0 u1 p0 p1 v1 v2' v9 gs hs' f1 :=
  ⟨h.o1.grown2 hg h.o2 h.h1, ho, h.l1, h.l2, h.h1, h.b3.grown hg (own_ne h.o2 h.b3 (by decide)), h.b4.grown hg (own_ne h.o2 h.b4 (by decide)), h.b6.grown hg (own_ne h.o2 h.b6 (by decide)), h.b7.grown hg (own_ne h.o2 h.b7 (by decide)), h.b8.grown hg (own_ne h.o2 h.b8 (by decide)), h.b9.grown hg (own_ne h.o2 h.b9 (by decide)), h.bel.grown hg h.bel.size fun q hq => Nat.le_trans h.l2 (h.o2.lt q hq).1⟩
theorem PicI.put9 (h : PicI w W R C n g g8 g9 base1 base2 m u0 u1 p0 p1 v1 v2 v9 gs hs f1) (h8 : g + 3 < g8) (h9 : g8 < g9) (hw : w.heap.size ≤ g) (v : Value) : PicI w (W.setCell ⟨g9, 1, none⟩ v) R C n g g8 g9 base1 base2 m u0 u1 p0 p1 v1 v2 v gs hs f1 :=
  ⟨h.o1.far h.b9 (by decide) (by decide) 1 v, ownsRow_setCell_other h.o2 (a := ⟨g9, 1, none⟩) (fun e => own_ne h.o2 h.b9 (by decide) e.symm) _, h.l1, h.l2, h.h1, h.b3.far (p := ⟨g9, 1, none⟩) (by simp; omega) v, h.b4.far (p := ⟨g9, 1, none⟩) (by simp; omega) v, h.b6.far (p := ⟨g9, 1, none⟩) (by simp; omega) v, h.b7.far (p := ⟨g9, 1, none⟩) (by simp; omega) v, h.b8.far (p := ⟨g9, 1, none⟩) (by simp; omega) v, h.b9.set_ 1 v, h.bel.setCell (p := ⟨g9, 1, none⟩) (by simp; omega) v⟩
theorem PicI.col_done {k : Nat} {T : Nat → Nat → Bool} (h : PicI w W R C n g g8 g9 base1 base2 m u0 u1 p0 p1 v1 v2 v9 gs hs (pcF k R T)) (hn : gs.length = R) : PicI w W R C n g g8 g9 base1 base2 m u0 u1 p0 p1 v1 v2 v9 gs hs (pcF (k + 1) 0 T) :=
  h.congr1 fun i hi j _ => by
    unfold pcF
    by_cases h2 : j < k ∨ (j = k ∧ i < R)
    · rw [if_pos h2, if_pos (by omega)]
    · rw [if_neg h2, if_neg (by omega)]
end
theorem matP_snoc {C : Nat} {l : List (Nat × Nat)} {s : Nat × Nat} : matP C (l ++ [s]) = matP C l ++ [flagB C s.2] := by
  unfold matP mat
  rw [List.length_append, List.length_singleton, List.range_succ, List.map_append]
  congr 1
  · refine List.map_congr_left fun k hk => ?_
    have := List.mem_range.1 hk
    have e : (l ++ [s]).getD k (0, 0) = l.getD k (0, 0) := by rw [List.getD_eq_getElem?_getD, List.getElem?_append_left this, ← List.getD_eq_getElem?_getD]
    dsimp only
    rw [e]
  · rw [List.map_singleton]
    have e : (l ++ [s]).getD l.length (0, 0) = s := by rw [List.getD_eq_getElem?_getD, List.getElem?_append_right (Nat.le_refl _), Nat.sub_self]; rfl
    dsimp only
    rw [e]; rfl
theorem normL_pick {L : List (Nat × Nat)} {K : Nat} (h : L.length = K) : (normI (atQ L) K).map (atQ L) = normL L := by
  subst h; rfl
namespace Mix2
set_option maxRecDepth 100000 in
set_option maxHeartbeats 16000000 in
theorem pick48_any (R C K : Nat) (A B Ax : Option Addr) (c d cx : Nat) (L : List (Nat × Nat)) (xs : List Nat) (w : World) (hu : YRef w K A c (matU R L)) (hp : YRef w C B d (matP C L)) (hK : L.length = K) (hx : ∀ x ∈ xs, x < K) (hxl : xs.length ≤ 4096) (hrx : Row w Ax (xs.map i64)) :
    Calls Tryz.prog 21 #[refV K A R c, refV C B K d, .slice Ax xs.length cx] w fun e w' => ∃ A1 c1 A2 c2, e = .returned (.tuple #[refV xs.length A1 R c1, refV C A2 xs.length c2]) ∧ YRef w' xs.length A1 c1 (matU R (xs.map (atQ L))) ∧ YRef w' C A2 c2 (matP C (xs.map (atQ L))) ∧ Below w.heap.size w w' := by
  obtain ⟨i0, hi0, hz0, hz1, hz2⟩ := info_parts info_bools
  have hC4 := hp.1
  have hK4 := hu.1
  have hR4 : R ≤ 4096 := by have := hu.2.1; rwa [matU_len] at this
  have huat := fun i x (hi : i < R) (hx : x < K) => hu.at_ (i := i) (j := x) (by rw [matU_len]; exact hi) hx
  have hprow := fun x (hx : x < K) => hp.row (i := x) (by rw [matP_len]; omega)
  have hprw : ∀ x (hx : x < K), (matP C L)[x]'(by rw [matP_len]; omega) = flagB C (atQ L x).2 := fun x hx => by
    have := matP_row (C := C) (L := L) (k := x) (by omega)
    rw [List.getElem?_eq_getElem (by rw [matP_len]; omega)] at this
    exact Option.some.inj this
  have HPR := Lib.hid (fun x (hx : x < K) => by
    obtain ⟨g1, off, cs, Br, dr, hAe, hBl, hc, hd, hr, hl⟩ := hprow x hx
    rw [hprw x hx] at hr
    exact (⟨g1, off, Br, dr, hAe, hBl.lt, hc, hd, hr⟩ : ∃ g1 off Br dr, B = some ⟨g1, off, none⟩ ∧ g1 < w.heap.size ∧ w.cell? ⟨g1, off + x, none⟩ = some (.slice Br C dr) ∧ C ≤ dr ∧ RowY w 4 Br ((flagB C (atQ L x).2).map .bool)))
  have HUA := Lib.hid huat
  have HRX := Lib.hid hrx
  have HX := Lib.hid hx
  obtain ⟨T, hT⟩ : ∃ T : Nat → Nat → Bool, T = fun i k => mget (matU R L) i (xs.getD k 0) := ⟨_, rfl⟩
  have hTe : ∀ i k (hk : k < xs.length), T i k = mget (matU R L) i xs[k] := fun i k hk => by
    rw [hT]; dsimp only
    rw [List.getD_eq_getElem?_getD, List.getElem?_eq_getElem hk]; rfl
  have hTm : mat R xs.length T = matU R (xs.map (atQ L)) := by
    unfold matU
    rw [List.length_map]
    refine mat_congr fun i hi k hk => ?_
    have e : (xs.map (atQ L)).getD k (0, 0) = atQ L xs[k] := by rw [List.getD_eq_getElem?_getD, List.getElem?_map, List.getElem?_eq_getElem hk]; rfl
    rw [hTe i k hk, matU_get hi (by rw [hK]; exact hx _ (List.getElem_mem hk)), e]; rfl
  have HTE := Lib.hid hTe
  have HTM := Lib.hid hTm
  have hPS : ∀ k (hk : k < xs.length), matP C ((xs.take (k + 1)).map (atQ L)) = matP C ((xs.take k).map (atQ L)) ++ [flagB C (atQ L xs[k]).2] := fun k hk => by
    rw [List.take_add_one, List.getElem?_eq_getElem hk, List.map_append]
    exact matP_snoc
  have HPS := Lib.hid hPS
  clear hPS
  obtain ⟨n, hn⟩ : ∃ n, n = xs.length := ⟨_, rfl⟩
  have HN := Lib.hid hn
  have HNR := Lib.hid (fun W => newr_any R n W hR4 (by omega))
  rw [← hn] at hxl ⊢
  clear hu hp hx hrx huat hprow hprw hT hTe hTm hn
  go_enter Tryz.func21, Tryz.ntmps21
  go_upto_region 1 with fail
  refine abs4 fun W0 h3 h4 h6 h7 hb0 hz => ?_
  clear hz
  obtain ⟨g, hg⟩ : ∃ x, x = w.heap.size := ⟨_, rfl⟩
  have hgw : w.heap.size ≤ g := by omega
  rw [← hg] at h3 h4 h6 h7 ⊢
  clear hg
  have p1 := h3.cell 1
  have HNC := hideC (HNR.out W0)
  go_wp2_with fail
  with_reducible refine HNC.out.mono ?_
  rintro e W1 ⟨A1, c1, gs, rfl, hgs, hO1, hb1⟩
  have b1 := hb0.trans (hb1.mono hb0.size)
  have k3 := h3.below hb1 h3.lt
  have k4 := h4.below hb1 h4.lt
  have k6 := h6.below hb1 h6.lt
  have k7 := h7.below hb1 h7.lt
  have hv1 : ∀ q, (Value.slice A1 R c1).ownBlock = some q → q < W1.heap.size := fun q hq => (hO1.1.lt q hq).2
  have l0 := hb0.size
  clear h3 h4 h6 h7 hb0 hb1 p1 HNC HNR
  go_upto_region 2 with fail
  refine abs1 fun W2 h8 hb2 hz => ?_
  clear hz
  obtain ⟨g8, hg8⟩ : ∃ x, x = W1.heap.size := ⟨_, rfl⟩
  have hg83 : g + 3 < g8 := by rw [hg8]; exact k7.lt
  have hg8s := hb2.size
  rw [← hg8] at h8 hv1 hg8s ⊢
  have b2 := b1.trans (hb2.mono b1.size)
  have k3 := k3.below hb2 k3.lt
  have k4 := k4.below hb2 k4.lt
  have k6 := k6.below hb2 k6.lt
  have k7 := k7.below hb2 k7.lt
  have o1 := hO1.below hb2
  clear hg8 hb2 hO1 b1
  have p0 := k4.cell 0
  go_upto_region 3 with fail
  refine abs1 fun W3 h9 hb3 hz => ?_
  clear hz
  obtain ⟨g9, hg9⟩ : ∃ x, x = W2.heap.size := ⟨_, rfl⟩
  have hg98 : g8 < g9 := by rw [hg9]; exact h8.lt
  rw [← hg9] at h9 ⊢
  have hI : PicI w W3 R C n g g8 g9 W0.heap.size W2.heap.size 0 (.int .i64 (K : Int)) (.slice A R c) (.int .i64 (C : Int)) (.slice B K d) (.slice A1 R c1) (.slice none 0 0) (.slice none 0 0) gs [] (pcF 0 0 T) := by
    rw [pcF_zero]
    exact ⟨o1.below hb3, World.ownsRow_nil _ _ _ _, l0, b2.size, fun q hq => Nat.lt_of_lt_of_le (hv1 q hq) hg8s, k3.below hb3 k3.lt, k4.below hb3 k4.lt, k6.below hb3 k6.lt, k7.below hb3 k7.lt, h8.below hb3 h8.lt, h9, b2.trans (hb3.mono b2.size)⟩
  have HGS := Lib.hid hgs
  obtain ⟨B1, hB1⟩ : ∃ b, b = W0.heap.size := ⟨_, rfl⟩
  obtain ⟨B2, hB2⟩ : ∃ b, b = W2.heap.size := ⟨_, rfl⟩
  have hB2w : w.heap.size ≤ B2 := by rw [hB2]; exact b2.size
  rw [← hB1, ← hB2] at hI
  have HG9B := Lib.hid (show g9 = B2 by rw [hg9, hB2])
  clear hg9 hb3 b2 k3 k4 k6 k7 o1 h8 h9 hv1 hg8s l0 hgs p0 hB1 hB2
  have hHD0 : HdY w C ([] : List Value) (matP C ((xs.take 0).map (atQ L))) := HdY.nil w C
  go_wp2_with fail
  refine wp_loopF (β := Nat × Value × List Value) (fun x f => #[f 0, f 1, .slice Ax n cx, ptr g, ptr (g + 1), f 5, ptr (g + 2), ptr (g + 3), ptr g8, ptr g9, f 10, f 11, f 12, f 13, f 14, f 15, f 16, f 17, f 18, f 19, f 20, f 21, .slice Ax n cx, .int .i64 (n : Int), .int .i64 (x.1 : Int), f 25, f 26, f 27, f 28, f 29, f 30, f 31, f 32, f 33, f 34, f 35, f 36, f 37, f 38, f 39, f 40, f 41, f 42, f 43, f 44, f 45, f 46, f 47, f 48, f 49, f 50, f 51, f 52, f 53, f 54, f 55, f 56, f 57, f 58, f 59, f 60, f 61, f 62, f 63])
    (fun x ds W => x.1 ≤ n ∧ ds = [] ∧ PicI w W R C n g g8 g9 B1 B2 x.1 (.int .i64 (K : Int)) (.slice A R c) (.int .i64 (C : Int)) (.slice B K d) (.slice A1 R c1) x.2.1 x.2.1 gs x.2.2 (pcF x.1 0 T) ∧ HdY w C x.2.2 (matP C ((xs.take x.1).map (atQ L)))) (fun x => n - x.1) (0, .slice none 0 0, []) rfl
    ⟨Nat.zero_le _, rfl, hI, hHD0⟩ ?_
  clear hI hHD0
  rintro ⟨k, v2, hs⟩ f ds W ⟨hk, rfl, hI, hHD⟩
  dsimp only at hk hI hHD ⊢
  have HI := Lib.hid hI
  have HHD := Lib.hid hHD
  clear hI hHD
  by_cases hlt : k < n
  · have hkx : k < xs.length := by rw [← HN.out]; exact hlt
    obtain ⟨gx, ox, rfl, hgx, hcx⟩ := HRX.out (by rw [List.length_map]; omega)
    have cx0 := onB HI.out.bel (hcx k (i64 xs[k]) (by rw [List.getElem?_map, List.getElem?_eq_getElem hkx]; rfl))
    have hxK := HX.out _ (List.getElem_mem hkx)
    have hps := HPS.out k hkx
    have hte := fun i => HTE.out i k hkx
    obtain ⟨x, hx⟩ : ∃ x, x = xs[k] := ⟨_, rfl⟩
    rw [← hx] at cx0 hxK hps
    simp only [← hx] at hte
    dsimp only [i64] at cx0
    have HPSk := Lib.hid hps
    have HTEk := Lib.hid hte
    have p1 := HI.out.b3.cell 1
    clear hcx hx hkx hps hte
    go_wp2_with fail
    refine wp_loopF (β := Nat) (fun i f => #[f 0, f 1, .slice (some ⟨gx, ox, none⟩) n cx, ptr g, ptr (g + 1), f 5, ptr (g + 2), ptr (g + 3), ptr g8, ptr g9, .int .i64 (k : Int), .int .i64 (x : Int), f 12, f 13, f 14, f 15, f 16, f 17, f 18, f 19, f 20, f 21, .slice (some ⟨gx, ox, none⟩) n cx, .int .i64 (n : Int), .int .i64 (k : Int), f 25, f 26, f 27, f 28, f 29, f 30, .int .i64 (R : Int), .int .i64 (i : Int), f 33, f 34, f 35, f 36, f 37, f 38, f 39, f 40, f 41, f 42, f 43, f 44, f 45, f 46, f 47, f 48, f 49, f 50, f 51, f 52, f 53, f 54, f 55, f 56, f 57, f 58, f 59, f 60, f 61, f 62, f 63])
      (fun i ds V => i ≤ R ∧ ds = [] ∧ PicI w V R C n g g8 g9 B1 B2 k (.int .i64 (K : Int)) (.slice A R c) (.int .i64 (C : Int)) (.slice B K d) (.slice A1 R c1) v2 v2 gs hs (pcF k i T)) (fun i => R - i) 0 rfl
      ⟨Nat.zero_le _, rfl, HI.out⟩ ?_
    clear HI p1 cx0
    rintro i f ds V ⟨hiR, rfl, hI⟩
    dsimp only at hiR ⊢
    have HI := Lib.hid hI
    clear hI
    by_cases hltR : i < R
    · have hig : i < gs.length := by rw [HGS.out]; exact hltR
      have b81 := HI.out.b8.cell 1
      have p1 := HI.out.b3.cell 1
      obtain ⟨gu, ou, gu2, ou2, du, rfl, hgu, hgu2, q1, q2⟩ := HUA.out i x hltR hxK
      have q1 := onB HI.out.bel q1
      have q2 := onB HI.out.bel q2
      have ho1 := HI.out.o1
      rw [← HGS.out] at ho1
      obtain ⟨ga, oa, eA, hga, ca, hBa, hba⟩ := ho1.at_ hig
      subst eA
      have cb := hBa.cell k
      rw [bools_get (by omega)] at cb
      have fb := hBa.frozen k
      have lb := hBa.lt
      have hS := (HI.out.put1 hig (j := k) (T i k)).on (Below.refl _ _).drew
      rw [pcF_step] at hS
      rw [HTEk.out i] at hS
      obtain ⟨b, hb⟩ : ∃ b, b = mget (matU R L) i x := ⟨_, rfl⟩
      rw [← hb] at hS q2
      generalize gs[i] = gi at *
      clear ho1 hBa HI hb
      have HSS := Lib.hid hS
      clear hS
      go_upto_region 9 with fail
      refine wp_spine (fun W => Below V.heap.size V W) [0, 1, 2, 3, 4, 5, 6, 7, 8, 9, 10, 11, 12, 13, 14] [15] (by kernel_rfl) (by kernel_rfl) ?_
      iterate 15 (refine wpE_op (v := ?_) rfl rfl (fun W hW => ?_) ?_; rotate_left; (have y0 := onB hW b81; have y1 := onB hW ca; have y2 := onB hW p1; have y3 := onB hW q1; have y4 := onB hW q2; go_simp; first | done | with_reducible rfl); simp only [Act.put, List.setIfInBounds_toArray, List.set_cons_zero, List.set_cons_succ])
      refine wpE_nil ⟨fun h => (by cases h), wpSp_op rfl (Below.refl _ _).drew ?_⟩
      go_wp2_with fail
      refine nxt_nil ?_
      go_wp2_with fail
      exact ⟨i + 1, rfl, ⟨by omega, by first | rfl | trivial, by simpa using HSS.out⟩, by omega⟩
    · obtain rfl : i = R := by omega
      have hI := HI.out.col_done HGS.out
      clear HI
      obtain ⟨g1, ob, Br, dr, rfl, hg1, q1, hCd, hrow⟩ := HPR.out x hxK
      have q1 := onB hI.bel q1
      have q9 := hI.b9.cell 1
      have p1 := hI.b4.cell 1
      have n9 : some g9 ≠ v2.ownBlock := own_ne hI.o2 hI.b9 (by decide)
      have ng : some (g + 1) ≠ v2.ownBlock := own_ne hI.o2 hI.b4 (by decide)
      have ng1 : some g1 ≠ v2.ownBlock := fun e => absurd hg1 (Nat.not_lt.2 (Nat.le_trans hB2w (hI.o2.lt g1 e.symm).1))
      have hB2V : B2 ≤ V.heap.size := by have := hI.b9.lt; have := HG9B.out; omega
      have HROW := Lib.hid hrow
      clear hrow hg1
      go_upto_region 11 with fail
      refine wp_spine (fun U => But v2.ownBlock V U) [0, 1, 2, 3, 4, 5, 6] [7, 8, 9, 10] (by kernel_rfl) (by kernel_rfl) ?_
      iterate 7 (refine wpE_op (v := ?_) rfl rfl (fun W hW => ?_) ?_; rotate_left; (have x1 := hW.on q9 n9; have x2 := hW.on p1 ng; have x3 := hW.on q1 ng1; go_simp; first | done | with_reducible rfl); simp only [Act.put, List.setIfInBounds_toArray, List.set_cons_zero, List.set_cons_succ])
      have hdr : Below V.heap.size V V.drew := (Below.refl _ _).drew
      refine wpE_nil ⟨fun h => (by cases h), wpSp_op rfl (.of_below hdr) ?_⟩
      go_wp2_with fail
      have hba := hdr.alloc hdr.size (.cells #[.slice Br C dr] 93)
      have hIa := hI.on hba
      have hown8 := hIa.o2
      obtain ⟨A8, c8, rfl, hc8, -⟩ := RowY.of_own hown8
      refine nxt_op rfl (.of_below hba) ?_
      go_wp2_with (at_builtin; refine wpList_append_own _ rfl _ _ 26 rfl (B2) 93 i0 (.slice none 0 0) 1 24 Tryz.underlying26 hi0 hz0 hz1 hz2 rfl (by decide) _ _ _ rfl (hown8) ⟨V.heap.size, 0, none⟩ 1 1 [.slice Br C dr] rfl rfl (cell_one_new _ _ _) (by simp [Value.oneCell']) (by unfold maxLen; omega) (by omega) (by simp; omega) ?_; intro v' w3 hown' hgrow _)
      obtain ⟨g13, c13, rfl⟩ := ownsRow_succ hown'
      have hIg := hIa.grow hgrow hown'
      have hbut : But (Value.slice A8 k c8).ownBlock V w3 := (But.of_below hba).trans (But.grown hgrow)
      have f8 := hIg.b9.frozen 1
      have c8' := hIg.b9.cell 1
      have l8 := hIg.b9.lt
      have hIn := hIg.put9 hg83 hg98 hgw (.slice (some ⟨g13, 0, none⟩) (k + 1) c13)
      have HIN := Lib.hid hIn
      clear hIn hIg hIa hI hown' hown8
      refine nxt_op rfl hbut ?_
      go_wp2_with fail
      refine nxt_op rfl hbut ?_
      go_wp2_with fail
      refine nxt_nil ?_
      go_wp2_with fail
      exact ⟨(k + 1, .slice (some ⟨g13, 0, none⟩) (k + 1) c13, hs ++ [.slice Br C dr]), rfl, ⟨by show k + 1 ≤ n; omega, by first | rfl | trivial, HIN.out, by dsimp only; rw [HPSk.out]; exact HHD.out.snoc (flagB_len ..) hCd HROW.out⟩, by show n - (k + 1) < n - k; omega⟩
  · obtain rfl : k = n := by omega
    have hI := HI.out
    obtain ⟨A11, c11, rfl, hc11, hr11⟩ := RowY.of_own hI.o2
    have hhd := HHD.out
    have hta : xs.take k = xs := List.take_of_length_le (by rw [← HN.out]; exact Nat.le_refl _)
    rw [hta] at hhd
    have hpl : (matP C (xs.map (atQ L))).length = k := by rw [matP_len, List.length_map, HN.out]
    have hY11 : YRef W C A11 c11 (matP C (xs.map (atQ L))) := ⟨hC4, by rw [hpl]; exact hxl, by rw [hpl]; exact hc11, hs, hr11, hhd.below hI.bel⟩
    obtain ⟨A', c', e, hY8⟩ := YRef.of_own hI.o1 HGS.out hxl hR4
    cases e
    have eu : mat R k (pcF k 0 T) = matU R (xs.map (atQ L)) := by
      have htm := HTM.out
      rw [← HN.out] at htm
      rw [← htm]
      exact mat_congr fun i hi j hj => by unfold pcF; rw [if_pos (by omega)]
    rw [eu] at hY8
    have h8W := hI.b8
    have h9W := hI.b9
    clear hhd hta hpl eu HI HHD hr11
    go_upto_region 13 with fail
    refine wp_mix (fun U => Blk U g8 28 #[.int .i64 (k : Int), .slice A1 R c1] ∧ Blk U g9 28 #[.int .i64 (C : Int), .slice A11 k c11]) 4 (by kernel_rfl) (by kernel_rfl) ⟨h8W, h9W⟩ ?_
    obtain ⟨U, hU⟩ : ∃ U, U = W.drew := ⟨_, rfl⟩
    have hdr : Below W.heap.size W U := by rw [hU]; exact (Below.refl _ _).drew
    rw [← hU]
    clear hU
    (refine m_q 0 (v := ?_) (by kernel_rfl) rfl rfl (fun W hW => ?_) ?_; rotate_left; (have y0 := hW.1.cell 0; have y1 := hW.1.cell 1; go_simp; first | done | with_reducible rfl); simp only [Act.put, List.setIfInBounds_toArray, List.set_cons_zero, List.set_cons_succ])
    (refine m_q 1 (v := ?_) (by kernel_rfl) rfl rfl (fun W hW => ?_) ?_; rotate_left; (have y0 := hW.2.cell 0; have y1 := hW.2.cell 1; go_simp; first | done | with_reducible rfl); simp only [Act.put, List.setIfInBounds_toArray, List.set_cons_zero, List.set_cons_succ])
    have hIU := hI.on hdr
    have Y8 := hY8.below hdr
    have Y11 := hY11.below hdr
    have f60 := hIU.b6.frozen 0
    have f61 := hIU.b6.frozen 1
    have f70 := hIU.b7.frozen 0
    have f71 := hIU.b7.frozen 1
    have c60 := hIU.b6.cell 0
    have c61 := hIU.b6.cell 1
    have c70 := hIU.b7.cell 0
    have c71 := hIU.b7.cell 1
    have l6 := hIU.b6.lt
    have l7 := hIU.b7.lt
    have e6 := (hIU.b6.set_ 0 (.int .i64 (k : Int))).set_ 1 (.slice A1 R c1)
    have e7 := (hIU.b7.far (p := ⟨g + 2, 0, none⟩) (by simp) (.int .i64 (k : Int))).far (p := ⟨g + 2, 1, none⟩) (by simp) (.slice A1 R c1)
    have e8 := (hIU.b8.far (p := ⟨g + 2, 0, none⟩) (by simp; omega) (.int .i64 (k : Int))).far (p := ⟨g + 2, 1, none⟩) (by simp; omega) (.slice A1 R c1)
    have e11 := (hIU.b9.far (p := ⟨g + 2, 0, none⟩) (by simp; omega) (.int .i64 (k : Int))).far (p := ⟨g + 2, 1, none⟩) (by simp; omega) (.slice A1 R c1)
    have k6 := (e6.far (p := ⟨g + 3, 0, none⟩) (by simp) (.int .i64 (C : Int))).far (p := ⟨g + 3, 1, none⟩) (by simp) (.slice A11 k c11)
    have k7 := (e7.set_ 0 (.int .i64 (C : Int))).set_ 1 (.slice A11 k c11)
    have k8 := (e8.far (p := ⟨g + 3, 0, none⟩) (by simp; omega) (.int .i64 (C : Int))).far (p := ⟨g + 3, 1, none⟩) (by simp; omega) (.slice A11 k c11)
    have k11 := (e11.far (p := ⟨g + 3, 0, none⟩) (by simp; omega) (.int .i64 (C : Int))).far (p := ⟨g + 3, 1, none⟩) (by simp; omega) (.slice A11 k c11)
    have y8 := (((Y8.far hIU.b6 (by decide) (by decide) 0 (.int .i64 (k : Int))).far (hIU.b6.set_ 0 _) (by decide) (by decide) 1 (.slice A1 R c1)).far e7 (by decide) (by decide) 0 (.int .i64 (C : Int))).far (e7.set_ 0 _) (by decide) (by decide) 1 (.slice A11 k c11)
    have y11 := (((Y11.far hIU.b6 (by decide) (by decide) 0 (.int .i64 (k : Int))).far (hIU.b6.set_ 0 _) (by decide) (by decide) 1 (.slice A1 R c1)).far e7 (by decide) (by decide) 0 (.int .i64 (C : Int))).far (e7.set_ 0 _) (by decide) (by decide) 1 (.slice A11 k c11)
    have hbl := (((hIU.bel.setCell (p := ⟨g + 2, 0, none⟩) (by simp; omega) (.int .i64 (k : Int))).setCell (p := ⟨g + 2, 1, none⟩) (by simp; omega) (.slice A1 R c1)).setCell (p := ⟨g + 3, 0, none⟩) (by simp; omega) (.int .i64 (C : Int))).setCell (p := ⟨g + 3, 1, none⟩) (by simp; omega) (.slice A11 k c11)
    have H8 := Lib.hid e8; have H11 := Lib.hid e11; have K6 := Lib.hid k6; have K7 := Lib.hid k7; have K8 := Lib.hid k8; have K11 := Lib.hid k11; have HY8 := Lib.hid y8; have HY11 := Lib.hid y11; have HBL := Lib.hid hbl
    clear e6 e7 e8 e11 k6 k7 k8 k11 y8 y11 hbl hIU Y8 Y11 hY8 hY11 h8W h9W hI hdr
    refine m_s1 2 (by kernel_rfl) rfl ?_
    go_wp2_with fail
    refine m_keep ⟨H8.out, H11.out⟩ ?_
    refine m_s1 3 (by kernel_rfl) rfl ?_
    go_wp2_with fail
    refine m_keep ⟨K8.out, K11.out⟩ ?_
    refine m_end (by kernel_rfl) ?_
    clear c60 c61 c70 c71 f60 f61 f70 f71
    go_wp2_with fail
    have c60 := K6.out.cell 0
    have c61 := K6.out.cell 1
    have c70 := K7.out.cell 0
    have c71 := K7.out.cell 1
    exact bodyPost_ret (v := .tuple #[refV k A1 R c1, refV C A11 k c11]) (by simp [results, Tryz.results21, go_sem, c60, c61, c70, c71]) rfl ⟨A1, c1, A11, c11, rfl, HY8.out, HY11.out, HBL.out⟩
end Mix2
end Go.Proofs.YtfbkcdhmggjbaaaGreatDoor

/-
  For the law CoverNormal.
-/
namespace Go.Proofs.YtfbkcdhmggjbaaaGreatDoor
open Go.RowKit
section
variable {R C : Nat} {K : List (Nat × Nat)}
theorem role_sameN (hl : K.length ≤ 4096) (hR : R ≤ 4096) (h : WfQ R C K) : roleQ K.length (mtrans R (K.map (·.1)) R) (K.map (·.2)) K.length = K := by
  apply List.ext_getElem?
  intro k
  by_cases h2 : k < K.length
  case neg => rw [List.getElem?_eq_none (by rw [roleQ_len]; omega), List.getElem?_eq_none (by omega)]
  have hg : (roleQ K.length (mtrans R (K.map (·.1)) R) (K.map (·.2)) K.length)[k]? = some (mcol K.length (mtrans R (K.map (·.1)) R) (k : Nat), (K.map (·.2)).getD k 0) := by
    unfold roleQ; rw [List.getElem?_map, List.getElem?_range h2]; rfl
  have hm := h _ (List.getElem_mem h2)
  have e : K.getD k (0, 0) = K[k] := by rw [List.getD_eq_getElem?_getD, List.getElem?_eq_getElem h2]; rfl
  rw [hg, List.getElem?_eq_getElem h2, permsQ_get h2, e]
  congr 1
  refine Prod.ext ?_ rfl
  refine Nat.eq_of_testBit_eq fun i => ?_
  show (mcol K.length (mtrans R (K.map (·.1)) R) (k : Nat)).testBit i = _
  rw [testBit_mcol _ _ _ _ (by rw [mtrans_len]; exact hR)]
  by_cases hi : i < R
  · rw [mhas_in (by rw [mtrans_len]; exact hi) h2, Bool.eq_iff_iff, usersQ_bit hl, e]
    exact ⟨fun h => h.2.2, fun h => ⟨hi, h2, h⟩⟩
  · have h3 : K[k].1.testBit i = false := by
      rw [Bool.eq_false_iff]
      exact fun hh => hi (hm.1 i hh)
    rw [h3]
    unfold mhas insideB
    rw [Bool.and_eq_false_iff]
    left
    rw [mtrans_len]
    simp
    omega
theorem equal_reflN {C : Nat} {Ns : List Nat} : decide (C = C ∧ Ns.length = Ns.length ∧ withinM Ns Ns ∧ withinM Ns Ns) = true := by
  have : withinM Ns Ns := fun k _ => Nat.and_self _
  rw [decide_eq_true_eq]
  exact ⟨rfl, rfl, this, this⟩
end
end Go.Proofs.YtfbkcdhmggjbaaaGreatDoor
