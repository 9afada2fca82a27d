import Derived.Test.YthkjigggfeejdaaDoorMr5
namespace Go.Proofs.YthkjigggfeejdaaDoor
open Go.RowKit

theorem info_rstep : (Tryd.prog.info? 48).map (fun i => (i.zero, i.size, i.bytes)) = some (some (.agg #[.int .i64 0, .int .i64 0, .int .i64 0]), 3, 24) := by kernel_rfl
/-- Steps of the reference's, as cells. -/
def cellsR (l : List (Nat × Nat × Nat)) : List Value := l.flatMap fun s => [.int .i64 (s.1 : Int), .int .i64 (s.2.1 : Int), .int .i64 (s.2.2 : Int)]
theorem cellsR_app (l m : List (Nat × Nat × Nat)) : cellsR (l ++ m) = cellsR l ++ cellsR m := by unfold cellsR; rw [List.flatMap_append]
theorem cellsR_one (l : List (Nat × Nat × Nat)) : ∀ u ∈ cellsR l, u.oneCell' = true := by
  intro u hu
  unfold cellsR at hu
  obtain ⟨s, _, hs⟩ := List.mem_flatMap.1 hu
  simp at hs
  rcases hs with rfl | rfl | rfl <;> rfl
/-- The first j columns. -/
def dRowJ (M P : List (List Bool)) (i j : Nat) : List Nat := (List.range j).filter fun y => mget P i y && !mget M i y
theorem dRowJ_succ (M P : List (List Bool)) (i j : Nat) : dRowJ M P i (j + 1) = if (mget P i j && !mget M i j) = true then dRowJ M P i j ++ [j] else dRowJ M P i j := by
  unfold dRowJ; rw [List.range_succ, List.filter_append]
  by_cases h : (mget P i j && !mget M i j) = true
  · rw [if_pos h]; simp [h]
  · rw [if_neg h]; simp only [Bool.not_eq_true] at h; simp [h]
theorem dRowJ_len (M P : List (List Bool)) (i j : Nat) : (dRowJ M P i j).length ≤ j := by unfold dRowJ; exact Nat.le_trans (List.length_filter_le _ _) (by simp)
/-- The steps found before element (i, j). -/
def difJ (kd C : Nat) (M P : List (List Bool)) (i j : Nat) : List (Nat × Nat × Nat) := difM kd C M P i ++ (dRowJ M P i j).map fun y => (kd, i, y)
theorem difJ_zero (kd C : Nat) (M P : List (List Bool)) (i : Nat) : difJ kd C M P i 0 = difM kd C M P i := by simp [difJ, dRowJ]
theorem difJ_done (kd C : Nat) (M P : List (List Bool)) (i : Nat) : difJ kd C M P i C = difM kd C M P (i + 1) := by rw [difM_succ]; rfl
theorem difJ_yes {kd C : Nat} {M P : List (List Bool)} {i j : Nat} (h : (mget P i j && !mget M i j) = true) : difJ kd C M P i (j + 1) = difJ kd C M P i j ++ [(kd, i, j)] := by
  unfold difJ; rw [dRowJ_succ, if_pos h]; simp
theorem difJ_no {kd C : Nat} {M P : List (List Bool)} {i j : Nat} (h : (mget P i j && !mget M i j) = false) : difJ kd C M P i (j + 1) = difJ kd C M P i j := by
  unfold difJ; rw [dRowJ_succ, if_neg (by rw [h]; decide)]
theorem difJ_len (kd C : Nat) (M P : List (List Bool)) (i j : Nat) (hj : j ≤ C) : (difJ kd C M P i j).length ≤ C * i + C := by
  have h1 := difM_len kd C M P i
  have h2 := dRowJ_len M P i j
  unfold difJ; rw [List.length_append, List.length_map]; omega
set_option maxRecDepth 100000 in
set_option maxHeartbeats 4000000 in
theorem rdiffer_any (C c d kd : Nat) (A B : Option Addr) (M P : List (List Bool)) (w : World) (hM : IsRef w C A M) (hP : IsRef w C B P) (hl : M.length = P.length) :
    Calls Tryd.prog 66 #[refV C A M.length c, refV C B P.length d, .int .i64 kd] w fun e w' => ∃ v, e = .returned v ∧ w'.ownsRow w.heap.size 48 3 v (difM kd C M P M.length).length (cellsR (difM kd C M P M.length)) ∧ Below w.heap.size w w' := by
  obtain ⟨i0, hi0, hz0, hz1, hz2⟩ := info_parts info_rstep
  have hC : C ≤ 4096 := hM.1
  have hR : M.length ≤ 4096 := hM.2.1
  have HL := Lib.hid hl
  clear hl
  go_enter Tryd.func66, Tryd.ntmps66
  go_wp2_with fail
  refine abs2 fun W0 hX hY hb0 hz => ?_
  clear hz
  have s0 := hb0.size
  refine wp_loopF (β := Nat × Value) (fun b f => #[f 0, f 1, .int .i64 (kd : Int), .pointer (some ⟨w.heap.size, 0, none⟩), .pointer (some ⟨w.heap.size + 1, 0, none⟩), f 5, f 6, b.2, f 8, f 9, f 10, f 11, .int .i64 (M.length : Int), .int .i64 (b.1 : Int), f 14, f 15, f 16, f 17, f 18, f 19, f 20, f 21, f 22, f 23, f 24, f 25, f 26, f 27, f 28, f 29, f 30, f 31, f 32, f 33, f 34, f 35, f 36, f 37, f 38, f 39, f 40, f 41, f 42, f 43, f 44, f 45, f 46, f 47, f 48, f 49])
    (fun b ds wr => b.1 ≤ M.length ∧ ds = [] ∧ wr.ownsRow W0.heap.size 48 3 b.2 (difM kd C M P b.1).length (cellsR (difM kd C M P b.1)) ∧ Below W0.heap.size W0 wr) (fun b => M.length - b.1) (0, .slice none 0 0) rfl ⟨Nat.zero_le _, rfl, World.ownsRow_nil _ _ _ _, Below.refl _ _⟩ ?_
  rintro ⟨i, o⟩ f ds wr ⟨hi, rfl, hown, hbel⟩
  dsimp only at hi hown ⊢
  by_cases hlt : i < M.length
  · go_wp2_with fail
    refine wp_loopF (β := Nat × Value) (fun b f => #[f 0, f 1, .int .i64 (kd : Int), .pointer (some ⟨w.heap.size, 0, none⟩), .pointer (some ⟨w.heap.size + 1, 0, none⟩), f 5, f 6, b.2, .int .i64 (i : Int), .int .i64 (b.1 : Int), f 10, f 11, .int .i64 (M.length : Int), .int .i64 (i : Int), f 14, f 15, f 16, f 17, f 18, f 19, f 20, f 21, f 22, f 23, f 24, f 25, f 26, f 27, f 28, f 29, f 30, f 31, f 32, f 33, f 34, f 35, f 36, f 37, f 38, f 39, f 40, f 41, f 42, f 43, f 44, f 45, f 46, f 47, f 48, f 49])
      (fun b ds wq => b.1 ≤ C ∧ ds = [] ∧ wq.ownsRow W0.heap.size 48 3 b.2 (difJ kd C M P i b.1).length (cellsR (difJ kd C M P i b.1)) ∧ Below W0.heap.size W0 wq) (fun b => C - b.1) (0, o) rfl ⟨Nat.zero_le _, rfl, by rw [difJ_zero]; exact hown, hbel⟩ ?_
    rintro ⟨j, o2⟩ f ds wq ⟨hj, rfl, how2, hbq⟩
    dsimp only at hj how2 ⊢
    have bw := hb0.trans (hbq.mono hb0.size)
    have hX' := hX.below hbq hX.lt
    have hY' := hY.below hbq hY.lt
    have x0 := hX'.cell 0
    clear hown hbel
    by_cases hlj : j < C
    · obtain ⟨g, off, g2, off2, d2, hA, lg, lg2, q1, q2⟩ := hM.at_ hlt hlj
      obtain ⟨g', off', g2', off2', d2', hB, lg', lg2', q1', q2'⟩ := hP.at_ (by rw [← HL.out]; exact hlt) hlj
      have q1 := onB bw q1
      have q2 := onB bw q2
      have q1' := onB bw q1'
      have q2' := onB bw q2'
      have x1 := hX'.cell 1
      have y1 := hY'.cell 1
      rw [show (#[.int .i64 (C : Int), .slice A M.length c] : Array Value)[1]? = some (.slice A M.length c) from rfl, hA] at x1
      rw [show (#[.int .i64 (C : Int), .slice B P.length d] : Array Value)[1]? = some (.slice B P.length d) from rfl, ← HL.out, hB] at y1
      have hy := @difJ_yes kd C M P i j
      have hn := @difJ_no kd C M P i j
      obtain ⟨a, ha⟩ : ∃ a, a = mget M i j := ⟨_, rfl⟩
      obtain ⟨b, hb⟩ : ∃ b, b = mget P i j := ⟨_, rfl⟩
      rw [← ha] at q2 hy hn
      rw [← hb] at q2' hy hn
      have hdl := difJ_len kd C M P i j (by omega)
      have hmul : C * i ≤ 4096 * 4096 := Nat.mul_le_mul hC (by omega)
      have HY := hideC hy
      have HN := hideC hn
      obtain ⟨L, hL⟩ : ∃ L, L = difJ kd C M P i j := ⟨_, rfl⟩
      rw [← hL] at how2 hdl HY HN
      have szq := hbq.size
      clear ha hb hy hn hA hB hL
      cases b
      · have hst := HN.out (by simp)
        have HST := Lib.hid hst
        clear hst HY HN
        go_wp2_with fail
        exact ⟨(j + 1, o2), rfl, ⟨by omega, by first | rfl | trivial, by rw [HST.out]; exact how2, hbq⟩, by simp; omega⟩
      · cases a
        · have hst := HY.out (by simp)
          have HST := Lib.hid hst
          have how3 := how2.alloc (.cells #[.int .i64 (kd : Int), .int .i64 (i : Int), .int .i64 (j : Int)] 48)
          clear hst HY HN
          go_wp2_with (at_builtin; refine wpList_append_own _ rfl _ _ 74 rfl W0.heap.size 48 i0 (.agg #[.int .i64 0, .int .i64 0, .int .i64 0]) 3 24 Tryd.underlying74 hi0 hz0 hz1 hz2 rfl (by decide) _ _ _ rfl how3 ⟨wq.heap.size, 0, none⟩ 1 1 [.int .i64 (kd : Int), .int .i64 (i : Int), .int .i64 (j : Int)] rfl rfl (cells_new3 _ _ _ _ _) (by intro u hu; simp at hu; rcases hu with rfl | rfl | rfl <;> rfl) (by unfold maxLen; omega) (by omega) (by simp; omega) ?_; intro v' w3 hown' hgrow _)
          refine ⟨(j + 1, v'), rfl, ⟨by omega, by first | rfl | trivial, ?_, (hbq.alloc (by omega) (.cells #[.int .i64 (kd : Int), .int .i64 (i : Int), .int .i64 (j : Int)] 48)).grown hgrow (by simp; omega) (fun q hq => by have := (how2.lt q hq).1; omega)⟩, by simp; omega⟩
          rw [HST.out, cellsR_app, List.length_append]
          exact hown'
        · have hst := HN.out (by simp)
          have HST := Lib.hid hst
          clear hst HY HN
          go_wp2_with fail
          exact ⟨(j + 1, o2), rfl, ⟨by omega, by first | rfl | trivial, by rw [HST.out]; exact how2, hbq⟩, by simp; omega⟩
    · obtain rfl : j = C := by omega
      rw [difJ_done] at how2
      go_wp2_with fail
      exact ⟨(i + 1, o2), rfl, ⟨by omega, by first | rfl | trivial, how2, hbq⟩, by simp; omega⟩
  · obtain rfl : i = M.length := by omega
    go_wp2_with fail
    go_ret
    exact ⟨o, rfl, own_low hown (by omega), hb0.trans (hbel.mono hb0.size)⟩
theorem rdiffer_len (C c d kd R : Nat) (A B : Option Addr) (M P : List (List Bool)) (w : World) (hM : IsRef w C A M) (hP : IsRef w C B P) (h1 : M.length = R) (h2 : P.length = R) :
    Calls Tryd.prog 66 #[refV C A R c, refV C B R d, .int .i64 kd] w fun e w' => ∃ v, e = .returned v ∧ w'.ownsRow w.heap.size 48 3 v (difM kd C M P P.length).length (cellsR (difM kd C M P P.length)) ∧ Below w.heap.size w w' := by
  subst h1
  have := rdiffer_any C c d kd A B M P w hM hP h2.symm
  rwa [h2] at *
theorem planOf_cellsR (n D : Nat) (U P U' P' : List (List Bool)) : cellsR (planOf n D U P U' P') = cellsR (difM 3 D P P' P'.length) ++ cellsR (difM 1 n U U' U'.length) ++ cellsR (difM 2 n U' U U.length) ++ cellsR (difM 4 D P' P P.length) := by
  unfold planOf; rw [cellsR_app, cellsR_app, cellsR_app]
set_option maxRecDepth 100000 in
set_option maxHeartbeats 4000000 in
theorem rplan_any (C c D d C' c' d' : Nat) (A B A' B' : Option Addr) (M P M' P' : List (List Bool)) (w : World) (hU : IsRef w C A M) (hP : IsRef w D B P) (hU' : IsRef w C' A' M') (hP' : IsRef w D B' P') (hC : C = P.length) (hC' : C' = P'.length) (hl : M.length = M'.length) (hn : jn P P' ≤ 4096) :
    Calls Tryd.prog 34 #[rcfV C A M.length c D B P.length d, rcfV C' A' M'.length c' D B' P'.length d'] w fun e w' => ∃ v, e = .returned v ∧ w'.ownsRow w.heap.size 48 3 v (planJ D M P M' P').length (cellsR (planJ D M P M' P')) ∧ Below w.heap.size w w' := by
  obtain ⟨i0, hi0, hz0, hz1, hz2⟩ := info_parts info_rstep
  have hD : D ≤ 4096 := hP.1
  have hM : M.length ≤ 4096 := hU.2.1
  have HJ : ∀ W, Below w.heap.size w W → _ := fun W hW => rjoint_any C c D d C' c' d' A B A' B' M P M' P' W (hU.below hW) (hP.below hW) (hU'.below hW) (hP'.below hW) hC hC' hn
  have hUl : (jU (jn P P') (List.range P.length) M).length = M.length := by rw [jU, mat_len]
  have hUl' : (jU (jn P P') (jl P P') M').length = M.length := by rw [jU, mat_len, hl]
  have hPl : (jP (jn P P') D (List.range P.length) P).length = jn P P' := by rw [jP, mat_len]
  have hPl' : (jP (jn P P') D (jl P P') P').length = jn P P' := by rw [jP, mat_len]
  rw [← hl] at HJ
  rw [← hl]
  unfold planJ
  obtain ⟨n, hnn⟩ : ∃ n, n = jn P P' := ⟨_, rfl⟩
  rw [← hnn] at HJ hUl hUl' hPl hPl' hn ⊢
  obtain ⟨Ua, hUa⟩ : ∃ X, X = jU n (List.range P.length) M := ⟨_, rfl⟩
  obtain ⟨Pa, hPa⟩ : ∃ X, X = jP n D (List.range P.length) P := ⟨_, rfl⟩
  obtain ⟨Ub, hUb⟩ : ∃ X, X = jU n (jl P P') M' := ⟨_, rfl⟩
  obtain ⟨Pb, hPb⟩ : ∃ X, X = jP n D (jl P P') P' := ⟨_, rfl⟩
  rw [← hUa] at HJ hUl ⊢
  rw [← hPa] at HJ hPl ⊢
  rw [← hUb] at HJ hUl' ⊢
  rw [← hPb] at HJ hPl' ⊢
  have HJ := hideC HJ
  have d3 := difM_len 3 D Pa Pb Pb.length
  have d1 := difM_len 1 n Ua Ub Ub.length
  have d2 := difM_len 2 n Ub Ua Ua.length
  have d4 := difM_len 4 D Pb Pa Pa.length
  have m1 : D * Pb.length ≤ 4096 * 4096 := Nat.mul_le_mul hD (by omega)
  have m2 : n * Ub.length ≤ 4096 * 4096 := Nat.mul_le_mul hn (by omega)
  have m3 : n * Ua.length ≤ 4096 * 4096 := Nat.mul_le_mul hn (by omega)
  have m4 : D * Pa.length ≤ 4096 * 4096 := Nat.mul_le_mul hD (by omega)
  rw [planOf_cellsR, planOf_len]
  have H3 := hideC (fun c d A B W (ha : IsRef W D A Pa) hb => rdiffer_len D c d 3 n A B Pa Pb W ha hb hPl hPl')
  have H1 := hideC (fun c d A B W (ha : IsRef W n A Ua) hb => rdiffer_len n c d 1 M.length A B Ua Ub W ha hb hUl hUl')
  have H2 := hideC (fun c d A B W (ha : IsRef W n A Ub) hb => rdiffer_len n c d 2 M.length A B Ub Ua W ha hb hUl' hUl)
  have H4 := hideC (fun c d A B W (ha : IsRef W D A Pb) hb => rdiffer_len D c d 4 n A B Pb Pa W ha hb hPl' hPl)
  obtain ⟨L3, hL3⟩ : ∃ X, X = difM 3 D Pa Pb Pb.length := ⟨_, rfl⟩
  obtain ⟨L1, hL1⟩ : ∃ X, X = difM 1 n Ua Ub Ub.length := ⟨_, rfl⟩
  obtain ⟨L2, hL2⟩ : ∃ X, X = difM 2 n Ub Ua Ua.length := ⟨_, rfl⟩
  obtain ⟨L4, hL4⟩ : ∃ X, X = difM 4 D Pb Pa Pa.length := ⟨_, rfl⟩
  rw [← hL3] at H3 d3 ⊢
  rw [← hL1] at H1 d1 ⊢
  rw [← hL2] at H2 d2 ⊢
  rw [← hL4] at H4 d4 ⊢
  have b3 : L3.length ≤ 16777216 := by omega
  have b1 : L1.length ≤ 16777216 := by omega
  have b2 : L2.length ≤ 16777216 := by omega
  have b4 : L4.length ≤ 16777216 := by omega
  clear hL1 hL2 hL3 hL4 d1 d2 d3 d4 m1 m2 m3 m4 hUa hPa hUb hPb hUl hUl' hPl hPl' hnn hl hC hC'
  go_enter Tryd.func34, Tryd.ntmps34
  go_wp2_with fail
  refine absC2 fun W0 hA hB hbel0 hz => ?_
  refine (HJ.out W0 hbel0).mono ?_
  rintro e w1 ⟨A1, c1, B1, d1, A2, c2, B2, d2, rfl, hca, hcb, hb1⟩
  have bel1 := hbel0.trans (hb1.mono hbel0.size)
  clear hA hB hz hb1 hbel0
  go_wp2_with fail
  refine absC2 fun W2 hX hY hb2 hz => ?_
  have bel2 := bel1.trans (hb2.mono bel1.size)
  have hca2 := hca.below hb2
  have hcb2 := hcb.below hb2
  have x0 := hX.cell 0
  have x1 := hX.cell 1
  have x2 := hX.cell 2
  have x3 := hX.cell 3
  have y0 := hY.cell 0
  have y1 := hY.cell 1
  have y2 := hY.cell 2
  have y3 := hY.cell 3
  clear hz hca hcb hb2
  refine (H3.out d1 d2 B1 B2 W2 hca2.perms.ref hcb2.perms.ref).mono ?_
  rintro e w3 ⟨v3, rfl, ho3, hb3⟩
  have hX3 := hX.below hb3 hX.lt
  have hY3 := hY.below hb3 hY.lt
  clear x0 x1 x2 x3 y0 y1 y2 y3
  have x0 := hX3.cell 0
  have y0 := hY3.cell 0
  have x1 := hX3.cell 1
  have y1 := hY3.cell 1
  have x2 := hX3.cell 2
  have y2 := hY3.cell 2
  have x3 := hX3.cell 3
  have y3 := hY3.cell 3
  go_wp2_with fail
  refine (H1.out c1 c2 A1 A2 w3 (hca2.users.ref.below hb3) (hcb2.users.ref.below hb3)).mono ?_
  rintro e w4 ⟨v4, rfl, ho4, hc4⟩
  have hb4 := hb3.trans (hc4.mono hb3.size)
  have hp4 := own_below ho3 hc4
  have hs4 := hb4.size
  have hX4 := hX.below hb4 hX.lt
  have hY4 := hY.below hb4 hY.lt
  clear x0 x1 x2 x3 y0 y1 y2 y3
  have x0 := hX4.cell 0
  have y0 := hY4.cell 0
  have x1 := hX4.cell 1
  have y1 := hY4.cell 1
  have x2 := hX4.cell 2
  have y2 := hY4.cell 2
  have x3 := hX4.cell 3
  have y3 := hY4.cell 3
  go_wp2_with (at_builtin; refine wpList_append_two rfl _ _ 74 rfl W2.heap.size 48 i0 (.agg #[.int .i64 0, .int .i64 0, .int .i64 0]) 3 24 Tryd.underlying74 hi0 hz0 hz1 hz2 rfl (by decide) _ _ _ rfl hp4 _ _ _ _ rfl ho4 (cellsR_one _) (by unfold maxLen; omega) (by omega) hs4 ?_; intro v5 w5 ho5 hg5; have hb5 := hb4.grown hg5 hb4.size (fun q hq => (hp4.lt q hq).1); have hX5 := hX.below hb5 hX.lt; have hY5 := hY.below hb5 hY.lt; clear x0 x1 x2 x3 y0 y1 y2 y3; have x0 := hX5.cell 0; have y0 := hY5.cell 0; have x1 := hX5.cell 1; have y1 := hY5.cell 1; have x2 := hX5.cell 2; have y2 := hY5.cell 2; have x3 := hX5.cell 3; have y3 := hY5.cell 3)
  refine (H2.out c2 c1 A2 A1 w5 (hcb2.users.ref.below hb5) (hca2.users.ref.below hb5)).mono ?_
  rintro e w6 ⟨v6, rfl, ho6, hc6⟩
  have hb6 := hb5.trans (hc6.mono hb5.size)
  have hp6 := own_below ho5 hc6
  have hs6 := hb6.size
  have hX6 := hX.below hb6 hX.lt
  have hY6 := hY.below hb6 hY.lt
  clear x0 x1 x2 x3 y0 y1 y2 y3
  have x0 := hX6.cell 0
  have y0 := hY6.cell 0
  have x1 := hX6.cell 1
  have y1 := hY6.cell 1
  have x2 := hX6.cell 2
  have y2 := hY6.cell 2
  have x3 := hX6.cell 3
  have y3 := hY6.cell 3
  go_wp2_with (at_builtin; refine wpList_append_two rfl _ _ 74 rfl W2.heap.size 48 i0 (.agg #[.int .i64 0, .int .i64 0, .int .i64 0]) 3 24 Tryd.underlying74 hi0 hz0 hz1 hz2 rfl (by decide) _ _ _ rfl hp6 _ _ _ _ rfl ho6 (cellsR_one _) (by unfold maxLen; omega) (by omega) hs6 ?_; intro v7 w7 ho7 hg7; have hb7 := hb6.grown hg7 hb6.size (fun q hq => (hp6.lt q hq).1); have hX7 := hX.below hb7 hX.lt; have hY7 := hY.below hb7 hY.lt; clear x0 x1 x2 x3 y0 y1 y2 y3; have x0 := hX7.cell 0; have y0 := hY7.cell 0; have x1 := hX7.cell 1; have y1 := hY7.cell 1; have x2 := hX7.cell 2; have y2 := hY7.cell 2; have x3 := hX7.cell 3; have y3 := hY7.cell 3)
  refine (H4.out d2 d1 B2 B1 w7 (hcb2.perms.ref.below hb7) (hca2.perms.ref.below hb7)).mono ?_
  rintro e w8 ⟨v8, rfl, ho8, hc8⟩
  have hb8 := hb7.trans (hc8.mono hb7.size)
  have hp8 := own_below ho7 hc8
  have hs8 := hb8.size
  have hX8 := hX.below hb8 hX.lt
  have hY8 := hY.below hb8 hY.lt
  clear x0 x1 x2 x3 y0 y1 y2 y3
  have x0 := hX8.cell 0
  have y0 := hY8.cell 0
  have x1 := hX8.cell 1
  have y1 := hY8.cell 1
  have x2 := hX8.cell 2
  have y2 := hY8.cell 2
  have x3 := hX8.cell 3
  have y3 := hY8.cell 3
  go_wp2_with (at_builtin; refine wpList_append_two rfl _ _ 74 rfl W2.heap.size 48 i0 (.agg #[.int .i64 0, .int .i64 0, .int .i64 0]) 3 24 Tryd.underlying74 hi0 hz0 hz1 hz2 rfl (by decide) _ _ _ rfl hp8 _ _ _ _ rfl ho8 (cellsR_one _) (by unfold maxLen; omega) (by omega) hs8 ?_; intro v9 w9 ho9 hg9; have hb9 := hb8.grown hg9 hb8.size (fun q hq => (hp8.lt q hq).1); have hX9 := hX.below hb9 hX.lt; have hY9 := hY.below hb9 hY.lt; clear x0 x1 x2 x3 y0 y1 y2 y3; have x0 := hX9.cell 0; have y0 := hY9.cell 0; have x1 := hX9.cell 1; have y1 := hY9.cell 1; have x2 := hX9.cell 2; have y2 := hY9.cell 2; have x3 := hX9.cell 3; have y3 := hY9.cell 3)
  go_ret
  refine ⟨v9, rfl, ?_, bel2.trans (hb9.mono bel2.size)⟩
  exact own_low ho9 bel2.size
end Go.Proofs.YthkjigggfeejdaaDoor
