/-
  The reference's wrong.
-/
import Derived.Test.YthnphekhgaefdaaDoorRf1
import Derived.Deep.DeepCutAuto
import Derived.Deep.CutBlock
namespace Go.Proofs.YthnphekhgaefdaaDoor
open Go.RowKit

section
variable {P : List Nd} {n : Nat} {x : Nd}
theorem wrong_H (hx : P[n]? = some x) (h : wrongH x = true) : wrongR P n = true := by unfold wrongR; rw [getD_of hx, h]; rfl
theorem wrong_K (hx : P[n]? = some x) {i : Nat} (hi : i < x.ch.length) (h : wrongC P n x.ch i = true) : wrongR P n = true := by
  have : wrongK P n = true := by
    unfold wrongK
    rw [getD_of hx, List.any_eq_true]
    exact ⟨i, List.mem_range.2 hi, h⟩
  unfold wrongR
  rw [this]; simp
theorem wrong_rest (hx : P[n]? = some x) (h : wrongH x = false) (hk : ∀ i, i < x.ch.length → wrongC P n x.ch i = false) : wrongR P n = (decide (0 < n) && !P.any fun y => decide ((n : Int) ∈ y.ch)) := by
  have : wrongK P n = false := by
    unfold wrongK
    rw [getD_of hx, List.any_eq_false]
    intro i hi
    rw [hk i (List.mem_range.1 hi)]; simp
  unfold wrongR
  rw [this, getD_of hx, h]; rfl
theorem wrongC_is (i : Nat) {z : Int} {l : List Int} (hz : l[i]? = some z) : wrongC P n l i = (decide (z ≤ n) || decide ((P.length : Int) ≤ z) || decide (z ∈ l.take i) || (P.take n).any fun y => decide (z ∈ y.ch)) := by
  unfold wrongC
  rw [List.getD_eq_getElem?_getD, hz]; rfl
end
theorem row_take {w : World} {A : Option Addr} {xs : List Int} (h : Row w A (xs.map (.int .i64))) (i : Nat) : Row w A ((xs.take i).map (.int .i64)) := by
  intro hp
  rw [List.length_map, List.length_take] at hp
  obtain ⟨g, off, e, hg, hc⟩ := h (by rw [List.length_map]; omega)
  refine ⟨g, off, e, hg, fun k u hu => hc k u ?_⟩
  rw [List.map_take, List.getElem?_take] at hu
  split at hu
  · exact hu
  · cases hu
namespace Mix2
set_option maxRecDepth 100000 in
set_option maxHeartbeats 8000000 in
theorem wrong_any (size : Int) (A : Option Addr) (c : Nat) (P : List Nd) (n : Nat) (w : World) (hP : IsNR w A P) (hok : ∀ x ∈ P, NdOK x) (hn : n < P.length) (hl : P.length ≤ 100000000) (hc : P.length ≤ c) :
    Calls Tryd.prog 32 #[.agg #[.int .i64 size, .slice A P.length c], .int .i64 n] w fun e w' => e = .returned (.bool (wrongR P n)) ∧ Below w.heap.size w w' := by
  obtain ⟨r, hr⟩ : ∃ r, r = wrongR P n := ⟨_, rfl⟩
  rw [← hr]
  have HR := Lib.hid hr
  clear hr
  obtain ⟨x, hx⟩ : ∃ x, P[n]? = some x := ⟨_, List.getElem?_eq_getElem hn⟩
  obtain ⟨g, off, A1, c1, A2, c2, rfl, hg, x0, x1, x2, x3, x4, hx1, -⟩ := nr_at hP hx
  obtain ⟨o1, -, -, -⟩ := hok x (List.mem_of_getElem? hx)
  have HX := Lib.hid hx
  have HOK := Lib.hid hok
  clear hx hok
  go_enter Tryd.func32, Tryd.ntmps32
  obtain ⟨kd, hkd⟩ : ∃ k, k = x.kind := ⟨_, rfl⟩
  obtain ⟨L, hL⟩ : ∃ k, k = x.ch.length := ⟨_, rfl⟩
  obtain ⟨rw', hrw⟩ : ∃ k, k = x.row := ⟨_, rfl⟩
  obtain ⟨cl', hcl⟩ : ∃ k, k = x.col := ⟨_, rfl⟩
  obtain ⟨ce', hce⟩ : ∃ k, k = x.cells.length := ⟨_, rfl⟩
  obtain ⟨N, hN⟩ : ∃ k, k = P.length := ⟨_, rfl⟩
  rw [← hkd] at x0; rw [← hrw] at x1; rw [← hcl] at x2; rw [← hL] at x3 hx1 o1; rw [← hce] at x4; rw [← hN] at hn hl hc ⊢
  have HKD := Lib.hid hkd; have HL := Lib.hid hL; have HN := Lib.hid hN
  clear hkd hL hrw hcl hce hN
  go_upto_region 2 with fail
  refine abs2 fun w1 hX hY hb hz => ?_
  clear hz x0 x1 x2 x3 x4
  obtain ⟨X, hXe⟩ : ∃ X, X = w.heap.size := ⟨_, rfl⟩
  rw [← hXe] at hX hY ⊢
  clear hXe
  obtain ⟨hw, hhw⟩ : ∃ b, b = wrongH x := ⟨_, rfl⟩
  have HHW := Lib.hid hhw
  clear hhw
  go_cut [35] (fun s wx => s = .bool hw ∧ wx = w1)
  case first =>
    have y0 := hY.cell 0
    have y3 := hY.cell 3
    by_cases h1 : kd < 1
    · have HW := Lib.hid (show hw = true by rw [HHW.out]; unfold wrongH; rw [← HKD.out, decide_eq_true h1]; rfl)
      go_wp2_with fail
      go_meet
      rw [HW.out]
      exact ⟨rfl, rfl⟩
    · by_cases h2 : 3 < kd
      · have HW := Lib.hid (show hw = true by rw [HHW.out]; unfold wrongH; rw [← HKD.out, decide_eq_true h2]; simp)
        go_wp2_with fail
        go_meet
        rw [HW.out]
        exact ⟨rfl, rfl⟩
      · by_cases h3 : kd = 1
        · have HW := Lib.hid (show hw = false by rw [HHW.out]; unfold wrongH; rw [← HKD.out, decide_eq_false h1, decide_eq_false h2, h3]; rfl)
          subst h3
          go_wp2_with fail
          go_meet
          rw [HW.out]
          exact ⟨rfl, rfl⟩
        · have h3b : (kd != 1) = true := by rw [bne_iff_ne]; exact h3
          by_cases h4 : 0 < L
          · have h4i : (0 : Int) < (L : Int) := by omega
            have HW := Lib.hid (show hw = true by rw [HHW.out]; unfold wrongH; rw [← HKD.out, ← HL.out, decide_eq_true h3, decide_eq_true h4]; simp)
            go_wp2_with fail
            go_meet
            rw [HW.out]
            exact ⟨rfl, rfl⟩
          · obtain rfl : L = 0 := by omega
            have HW := Lib.hid (show hw = false by rw [HHW.out]; unfold wrongH; rw [← HKD.out, ← HL.out, decide_eq_false h1, decide_eq_false h2]; simp)
            go_wp2_with fail
            go_meet
            rw [HW.out]
            exact ⟨rfl, rfl⟩
  case rest =>
    obtain ⟨rfl, rfl⟩ := hcut
    obtain ⟨W1, hW1⟩ : ∃ V, V = wc := ⟨_, rfl⟩
    subst hW1
    cases hw with
    | true =>
      have HRE := Lib.hid (show r = true by rw [HR.out]; exact wrong_H HX.out HHW.out.symm)
      go_wp2_with fail
      go_ret
      exact ⟨by rw [HRE.out]; rfl, hb⟩
    | false =>
      have y3 := hY.cell 3
      go_wp2_with fail
      refine wp_loopF (β := Nat) (fun i f => #[f 0, .int .i64 (n : Int), ptr X, f 3, .bool false, .pointer (some ⟨X + 1, 0, none⟩), f 6, f 7, f 8, f 9, f 10, f 11, f 12, f 13, f 14, f 15, f 16, f 17, f 18, f 19, f 20, f 21, f 22, f 23, f 24, f 25, f 26, f 27, f 28, f 29, f 30, f 31, f 32, f 33, f 34, f 35, f 36, .slice A1 L c1, .int .i64 (L : Int), .int .i64 (i : Int), f 40, f 41, f 42, f 43, f 44, f 45, f 46, f 47, f 48, f 49, f 50, f 51, f 52, f 53, f 54, f 55, f 56, f 57, f 58, f 59, f 60, f 61, f 62, f 63, f 64, f 65, f 66, f 67, f 68, f 69, f 70, f 71, f 72, f 73, f 74, f 75, f 76, f 77, f 78, f 79, f 80, f 81, f 82, f 83, f 84, f 85, f 86, f 87, f 88, f 89, f 90])
        (fun i ds W => i ≤ L ∧ ds = [] ∧ Below W1.heap.size W1 W ∧ ∀ k, k < i → wrongC P n x.ch k = false) (fun i => L - i) 0 rfl ⟨Nat.zero_le _, rfl, Below.refl _ _, fun k hk => by omega⟩ ?_
      rintro i f ds W ⟨hi, rfl, hbW, hpre⟩
      dsimp only at hi ⊢
      have HP := Lib.hid hpre
      clear hpre y3
      have bW := hb.trans (hbW.mono hb.size)
      have hXW := hX.below hbW hX.lt
      have hYW := hY.below hbW hY.lt
      have a1 := hXW.cell 1
      have b3 := hYW.cell 3
      by_cases hlt : i < L
      · obtain ⟨z, hz⟩ : ∃ z, x.ch[i]? = some z := ⟨_, List.getElem?_eq_getElem (by have := HL.out; omega)⟩
        have hrW := (hx1.1.below bW)
        obtain ⟨g1, off1, rfl, hg1, hc1⟩ := hrW (by rw [List.length_map]; have := HL.out; omega)
        have c0 := hc1 i (.int .i64 z) (by rw [List.getElem?_map, hz]; rfl)
        have hic : i ≤ c1 := by have := hx1.2.1; omega
        have HC := Lib.hid (wrongC_is (P := P) (n := n) i hz)
        clear hz hc1
        by_cases h1 : z ≤ (n : Int)
        · have HRE := Lib.hid (show r = true by rw [HR.out]; exact wrong_K (i := i) HX.out (by have := HL.out; omega) (by rw [HC.out, decide_eq_true h1]; rfl))
          go_wp2_with fail
          go_ret
          exact ⟨by rw [HRE.out]; rfl, bW⟩
        · by_cases h2 : (N : Int) ≤ z
          · have HRE := Lib.hid (show r = true by rw [HR.out]; exact wrong_K (i := i) HX.out (by have := HL.out; omega) (by rw [HC.out, ← HN.out, decide_eq_true h2]; simp))
            go_wp2_with fail
            go_ret
            exact ⟨by rw [HRE.out]; rfl, bW⟩
          · obtain ⟨b, hb3⟩ : ∃ b, decide (z ∈ x.ch.take i) = b := ⟨_, rfl⟩
            have HH := hideC (hasl_is (n := i) (c := c1) (w := W) hb3 (row_take hrW i) (by rw [List.length_take]; have := HL.out; omega) (by omega))
            have HB := Lib.hid hb3
            clear hb3
            have i1 : (i : Int) ≤ (L : Int) := by omega
            have i2 : (i : Int) ≤ (c1 : Int) := by omega
            go_wp2_with fail
            refine HH.out.mono ?_
            rintro e w' ⟨rfl, rfl⟩
            cases b with
            | true =>
              have HRE := Lib.hid (show r = true by rw [HR.out]; exact wrong_K (i := i) HX.out (by have := HL.out; omega) (by rw [HC.out, HB.out]; simp))
              go_wp2_with fail
              go_ret
              exact ⟨by rw [HRE.out]; rfl, bW⟩
            | false =>
              clear c0 HH b3
              have n1 : (n : Int) ≤ (c : Int) := by omega
              have n2 : n ≤ c := by omega
              go_wp2_with fail
              refine wp_loopF (β := Nat) (fun k f => #[f 0, .int .i64 (n : Int), ptr X, f 3, .bool false, .pointer (some ⟨X + 1, 0, none⟩), f 6, .int .i64 z, f 8, f 9, f 10, f 11, f 12, f 13, f 14, f 15, f 16, f 17, f 18, f 19, f 20, f 21, f 22, f 23, f 24, f 25, f 26, f 27, f 28, f 29, f 30, f 31, f 32, f 33, f 34, f 35, f 36, .slice (some ⟨g1, off1, none⟩) L c1, .int .i64 (L : Int), .int .i64 (i : Int), f 40, f 41, f 42, f 43, f 44, f 45, f 46, f 47, f 48, f 49, f 50, f 51, f 52, f 53, f 54, f 55, f 56, f 57, f 58, f 59, f 60, f 61, f 62, f 63, f 64, .slice (some ⟨g, off, none⟩) n c, .int .i64 (n : Int), .int .i64 (k : Int), f 68, f 69, f 70, f 71, f 72, f 73, f 74, f 75, f 76, f 77, f 78, f 79, f 80, f 81, f 82, f 83, f 84, f 85, f 86, f 87, f 88, f 89, f 90])
                (fun k ds V => k ≤ n ∧ ds = [] ∧ Below W.heap.size W V ∧ ∀ j, j < k → decide (z ∈ (P.getD j default).ch) = false) (fun k => n - k) 0 rfl ⟨Nat.zero_le _, rfl, Below.refl _ _, fun k hk => by omega⟩ ?_
              rintro k f ds V ⟨hk, rfl, hbV, hpre⟩
              dsimp only at hk ⊢
              have HP2 := Lib.hid hpre
              clear hpre
              have bV := bW.trans (hbV.mono bW.size)
              by_cases hkn : k < n
              · obtain ⟨y, hy⟩ : ∃ y, P[k]? = some y := ⟨_, List.getElem?_eq_getElem (by have := HN.out; omega)⟩
                obtain ⟨g', off', B1, d1, B2, d2, e', hg', z0, z1, z2, z3, z4, hy1, -⟩ := nr_at (hP.below bV) hy
                cases e'
                obtain ⟨q1, -, -, -⟩ := HOK.out y (List.mem_of_getElem? hy)
                obtain ⟨b, hb4⟩ : ∃ b, decide (z ∈ y.ch) = b := ⟨_, rfl⟩
                have HHH := Lib.hid (fun V' (hV' : Below V.heap.size V V') => hasl_is (c := d1) (w := V') hb4 (hy1.1.below hV') rfl q1)
                have HY := Lib.hid hy
                have HB4 := Lib.hid hb4
                obtain ⟨m1, hm1⟩ : ∃ q, q = y.ch.length := ⟨_, rfl⟩
                obtain ⟨m2, hm2⟩ : ∃ q, q = y.cells.length := ⟨_, rfl⟩
                have HH3 := HHH.out
                rw [← hm1] at z3 HH3; rw [← hm2] at z4
                have HH4 := Lib.hid HH3
                clear hy hb4 hm1 hm2 hy1 q1 HH3 HHH
                go_upto_region 12 with fail
                refine abs1 fun V1 h9 hb9 hz => ?_
                clear hz z0 z1 z2 z3 z4
                have u3 := h9.cell 3
                have HH := hideC (HH4.out V1 hb9)
                go_wp2_with fail
                refine HH.out.mono ?_
                rintro e w' ⟨rfl, rfl⟩
                have b9 := hbV.trans (hb9.mono hbV.size)
                cases b with
                | true =>
                  have HRE := Lib.hid (show r = true by
                    rw [HR.out]
                    refine wrong_K (i := i) HX.out (by have := HL.out; omega) ?_
                    have h5 : (P.take n).any (fun y => decide (z ∈ y.ch)) = true := by
                      rw [List.any_eq_true]
                      exact ⟨y, List.mem_of_getElem? (i := k) (by rw [List.getElem?_take, if_pos hkn]; exact HY.out), HB4.out⟩
                    rw [HC.out, h5]; simp)
                  go_wp2_with fail
                  go_ret
                  exact ⟨by rw [HRE.out]; rfl, bW.trans (b9.mono bW.size)⟩
                | false =>
                  have HN2 := Lib.hid (fun j (hj : j < k + 1) => (by
                    by_cases e2 : j = k
                    · subst e2; rw [getD_of HY.out]; exact HB4.out
                    · exact HP2.out j (by omega) : decide (z ∈ (P.getD j default).ch) = false))
                  go_wp2_with fail
                  exact ⟨k + 1, rfl, ⟨by omega, by first | rfl | trivial, b9, HN2.out⟩, by omega⟩
              · obtain rfl : k = n := by omega
                have h5 : (P.take k).any (fun y => decide (z ∈ y.ch)) = false := by
                  rw [List.any_eq_false]
                  intro y hy
                  obtain ⟨j, hj⟩ := List.mem_iff_getElem?.1 hy
                  have hjk : j < k := by have := (List.getElem?_eq_some_iff.1 hj).1; rw [List.length_take] at this; omega
                  rw [List.getElem?_take, if_pos hjk] at hj
                  have := HP2.out j hjk
                  rw [getD_of hj] at this
                  rw [this]; simp
                have HN2 := Lib.hid (fun j (hj : j < i + 1) => (by
                  by_cases e2 : j = i
                  · subst e2; rw [HC.out, h5, HB.out, decide_eq_false (show ¬ z ≤ (k : Int) by omega), ← HN.out, decide_eq_false (show ¬ (N : Int) ≤ z by omega)]; rfl
                  · exact HP.out j (by omega) : wrongC P k x.ch j = false))
                clear h5
                go_wp2_with fail
                exact ⟨i + 1, rfl, ⟨by omega, by first | rfl | trivial, hbW.trans (hbV.mono hbW.size), HN2.out⟩, by omega⟩
      · obtain rfl : i = L := by omega
        have HREST := Lib.hid (wrong_rest HX.out HHW.out.symm fun k hk => HP.out k (by rw [HL.out]; exact hk))
        clear b3
        by_cases h0 : n = 0
        · have HRE := Lib.hid (show r = false by rw [HR.out, HREST.out, h0]; rfl)
          subst h0
          go_wp2_with fail
          go_ret
          exact ⟨by rw [HRE.out]; rfl, bW⟩
        · have h0b : ((n : Int) == 0) = false := by rw [beq_eq_false_iff_ne]; omega
          have h0i : ¬ (n : Int) = 0 := by omega
          have hn0 : 0 < n := by omega
          have HRE0 := Lib.hid (show r = !P.any fun y => decide ((n : Int) ∈ y.ch) by rw [HR.out, HREST.out, decide_eq_true hn0]; rfl)
          go_wp2_with fail
          refine wp_loopF (β := Nat) (fun k f => #[f 0, .int .i64 (n : Int), ptr X, f 3, .bool false, .pointer (some ⟨X + 1, 0, none⟩), f 6, f 7, f 8, f 9, f 10, f 11, f 12, f 13, f 14, f 15, f 16, f 17, f 18, f 19, f 20, f 21, f 22, f 23, f 24, f 25, f 26, f 27, f 28, f 29, f 30, f 31, f 32, f 33, f 34, f 35, f 36, f 37, f 38, f 39, f 40, f 41, f 42, f 43, f 44, f 45, f 46, f 47, f 48, f 49, f 50, f 51, f 52, f 53, f 54, f 55, f 56, f 57, f 58, f 59, f 60, f 61, f 62, f 63, f 64, f 65, f 66, f 67, f 68, f 69, f 70, f 71, f 72, f 73, f 74, f 75, f 76, f 77, f 78, f 79, .slice (some ⟨g, off, none⟩) N c, .int .i64 (N : Int), .int .i64 (k : Int), f 83, f 84, f 85, f 86, f 87, f 88, f 89, f 90])
            (fun k ds V => k ≤ N ∧ ds = [] ∧ Below W.heap.size W V ∧ ∀ j, j < k → decide ((n : Int) ∈ (P.getD j default).ch) = false) (fun k => N - k) 0 rfl ⟨Nat.zero_le _, rfl, Below.refl _ _, fun k hk => by omega⟩ ?_
          rintro k f ds V ⟨hk, rfl, hbV, hpre⟩
          dsimp only at hk ⊢
          have HP2 := Lib.hid hpre
          clear hpre
          have bV := bW.trans (hbV.mono bW.size)
          by_cases hkn : k < N
          · obtain ⟨y, hy⟩ : ∃ y, P[k]? = some y := ⟨_, List.getElem?_eq_getElem (by have := HN.out; omega)⟩
            obtain ⟨g', off', B1, d1, B2, d2, e', hg', z0, z1, z2, z3, z4, hy1, -⟩ := nr_at (hP.below bV) hy
            cases e'
            obtain ⟨q1, -, -, -⟩ := HOK.out y (List.mem_of_getElem? hy)
            obtain ⟨b, hb4⟩ : ∃ b, decide ((n : Int) ∈ y.ch) = b := ⟨_, rfl⟩
            have HHH := Lib.hid (fun V' (hV' : Below V.heap.size V V') => hasl_is (c := d1) (w := V') hb4 (hy1.1.below hV') rfl q1)
            have HY := Lib.hid hy
            have HB4 := Lib.hid hb4
            obtain ⟨m1, hm1⟩ : ∃ q, q = y.ch.length := ⟨_, rfl⟩
            obtain ⟨m2, hm2⟩ : ∃ q, q = y.cells.length := ⟨_, rfl⟩
            have HH3 := HHH.out
            rw [← hm1] at z3 HH3; rw [← hm2] at z4
            have HH4 := Lib.hid HH3
            clear hy hb4 hm1 hm2 hy1 q1 HH3 HHH
            go_upto_region 21 with fail
            refine abs1 fun V1 h9 hb9 hz => ?_
            clear hz z0 z1 z2 z3 z4
            have u3 := h9.cell 3
            have HH := hideC (HH4.out V1 hb9)
            go_wp2_with fail
            refine HH.out.mono ?_
            rintro e w' ⟨rfl, rfl⟩
            have b9 := hbV.trans (hb9.mono hbV.size)
            cases b with
            | true =>
              have HRE := Lib.hid (show r = false by
                have h5 : P.any (fun y => decide ((n : Int) ∈ y.ch)) = true := by
                  rw [List.any_eq_true]
                  exact ⟨y, List.mem_of_getElem? HY.out, HB4.out⟩
                rw [HRE0.out, h5]; rfl)
              go_wp2_with fail
              go_ret
              exact ⟨by rw [HRE.out]; rfl, bW.trans (b9.mono bW.size)⟩
            | false =>
              have HN2 := Lib.hid (fun j (hj : j < k + 1) => (by
                by_cases e2 : j = k
                · subst e2; rw [getD_of HY.out]; exact HB4.out
                · exact HP2.out j (by omega) : decide ((n : Int) ∈ (P.getD j default).ch) = false))
              go_wp2_with fail
              exact ⟨k + 1, rfl, ⟨by omega, by first | rfl | trivial, b9, HN2.out⟩, by omega⟩
          · obtain rfl : k = N := by omega
            have HRE := Lib.hid (show r = true by
              have h5 : P.any (fun y => decide ((n : Int) ∈ y.ch)) = false := by
                rw [List.any_eq_false]
                intro y hy
                obtain ⟨j, hj⟩ := List.mem_iff_getElem?.1 hy
                have := HP2.out j (by have := (List.getElem?_eq_some_iff.1 hj).1; have := HN.out; omega)
                rw [getD_of hj] at this
                rw [this]; simp
              rw [HRE0.out, h5]; rfl)
            go_wp2_with fail
            go_ret
            exact ⟨by rw [HRE.out]; rfl, bV⟩
end Mix2
end Go.Proofs.YthnphekhgaefdaaDoor
