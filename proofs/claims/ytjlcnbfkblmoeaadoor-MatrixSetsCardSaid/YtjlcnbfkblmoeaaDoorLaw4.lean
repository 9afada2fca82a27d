import Derived.Test.YtjlcnbfkblmoeaaDoorLaw
import Derived.Test.YtjlcnbfkblmoeaaDoorSets
namespace Go.Proofs.YtjlcnbfkblmoeaaDoor
open Go.RowKit

theorem testBit_withoutB (N J j : Nat) : (withoutB N J).testBit j = (N.testBit j && decide (j ≠ J)) := by
  unfold withoutB
  rw [hasB_nat]
  by_cases h : N.testBit J = true
  · rw [if_pos h, Int.toNat_natCast, testBit_without h]
  · rw [if_neg h]
    by_cases e : j = J
    · subst e; simpa using h
    · simp [e]
theorem testBit_withB {N J : Nat} (hJ : J ≤ 4095) (j : Nat) : (withB N J).testBit j = (N.testBit j || decide (j = J)) := by
  unfold withB
  rw [if_pos (by omega), Int.toNat_natCast, Nat.testBit_or, Nat.testBit_two_pow]
  by_cases e : J = j
  · simp [e]
  · simp [e, show ¬ j = J from fun e' => e e'.symm]
theorem mset_has {C : Nat} {M : List (List Bool)} {I J : Nat} {one : Bool} (hC : C ≤ 4096) (_hI : I < M.length) (hJ : J < C) : ∀ i, i < M.length → ∀ j, j < C → mhas C (mset (nsOf C M) I J one) i j = withF M I J one i j := fun i hi j hj => by
  have hl : (mset (nsOf C M) I J one).length = M.length := by unfold mset; rw [List.length_set, nsTo_len]
  rw [mhas_in (by rw [hl]; exact hi) hj]
  unfold mset withF
  rw [List.getD_eq_getElem?_getD, List.getElem?_set]
  by_cases e : I = i
  · subst e
    rw [if_pos rfl, if_pos (by rw [nsTo_len]; exact hi), Option.getD_some]
    cases one
    · rw [if_neg (by decide), testBit_withoutB, bit_nsOf hC hi hj]
      by_cases e2 : j = J
      · subst e2; simp
      · rw [if_neg fun h => e2 h.2]; simp [e2]
    · rw [if_pos rfl, testBit_withB (by omega), bit_nsOf hC hi hj]
      by_cases e2 : j = J
      · subst e2; simp
      · rw [if_neg fun h => e2 h.2]; simp [e2]
  · rw [if_neg e, if_neg fun h => e h.1.symm, ← List.getD_eq_getElem?_getD, bit_nsOf hC hi hj]
set_option maxRecDepth 100000 in
set_option maxHeartbeats 4000000 in
theorem sets_walk (v : Value) (R C : Nat) (zs : List Int) (x y : Int) (one : Bool) (w : World) (hT : Tab w) (h : IsRaw w v R C zs) :
    Calls Tryd.prog 6 #[v, .agg #[.int .i64 x, .int .i64 y], .bool one] w fun e w' => e = .returned (.bool true) ∧ Below w.heap.size w w' := by
  have hbd := h.bd
  obtain ⟨r, c, A0, d0, hv, _⟩ := id h
  subst hv
  have HIN := hideC h; clear h
  go_enter Tryd.func6, Tryd.ntmps6
  go_wp2_with fail
  refine absC2 fun W0 hX hX' hbel0 hz => ?_
  have HZ := Lib.hid hz; clear hz
  refine (awake_any W0 (hT.below hbel0)).mono ?_
  rintro e w1 ⟨rfl, hb1⟩
  have b1 := hbel0.trans (hb1.mono hbel0.size)
  have hX1 := hX.below hb1 hX.lt
  have hA1 := hX'.below hb1 hX'.lt
  have x0 := hX1.cell 0
  have x1 := hX1.cell 1
  have x2 := hX1.cell 2
  have HM := hideC (make_raw _ R C zs w1 (HIN.out.below b1))
  go_wp2_with fail
  refine HM.out.mono ?_
  rintro e w2 ⟨A2, c2, rfl, hI2, hb2⟩
  have b2 := b1.trans (hb2.mono b1.size)
  obtain ⟨M, hMd⟩ : ∃ M, M = rawM R C zs := ⟨_, rfl⟩
  have hML : M.length = R := by rw [hMd, mat_len]
  rw [← hMd] at hI2
  subst hML
  have hA2 := hA1.below hb2 hA1.lt
  clear hMd HM HIN hX hX1 hX' hA1 x0 x1 x2
  go_wp2_with fail
  refine absC1 fun W3 hY hb3 hz3 => ?_
  have HZ3 := Lib.hid hz3; clear hz3
  have b3 := b2.trans (hb3.mono b2.size)
  have hI3 := hI2.below hb3
  refine (matrixl_any C A2 c2 M W3 hI3 (by omega) (by omega)).mono ?_
  rintro e w4 ⟨q, rfl, hm4, _, hb4⟩
  have b4 := b3.trans (hb4.mono b3.size)
  have hY4 := hY.below hb4 hY.lt
  have hA4 := (hA2.below hb3 hA2.lt).below hb4 (Nat.lt_of_lt_of_le hA2.lt hb3.size)
  have y0 := hY4.cell 0
  have y1 := hY4.cell 1
  have a0 := hA4.cell 0
  have a1 := hA4.cell 1
  have hI4 := hI3.below hb4
  clear hY hA2 hI2 hI3 hb3 b2 b3
  by_cases hin : insideB M.length C x y = true
  · have hin' := hin
    simp only [insideB, decide_eq_true_eq] at hin'
    obtain ⟨g1, g2, g3, g4⟩ := hin'
    obtain ⟨I, rfl⟩ := Int.eq_ofNat_of_zero_le g1
    obtain ⟨J, rfl⟩ := Int.eq_ofNat_of_zero_le g3
    have hI : I < M.length := by omega
    have hJ : J < C := by omega
    have HS := hideC (setm_in q C (nsOf C M) I J one w4 hm4 (by rw [nsTo_len]; exact hI) hJ)
    clear hin g1 g2 g3 g4
    go_wp2_with fail
    refine HS.out.mono ?_
    rintro e w5 ⟨q5, rfl, hm5, hb5⟩
    have b5 := b4.trans (hb5.mono b4.size)
    have hY5 := hY4.below hb5 hY4.lt
    have hA5 := hA4.below hb5 hA4.lt
    have y0 := hY5.cell 0
    have y1 := hY5.cell 1
    have hsm := samel_any q C C (nsOf C M) A2 c2 M w5 (hm4.below hb5) (by omega) (by rw [nsTo_len]; omega) (hI4.below hb5)
    rw [told_ns (by omega) (ref_wide hI4), sameB_refl] at hsm
    have HSM := hideC hsm; clear hsm
    go_wp2_with fail
    refine HSM.out.mono ?_
    rintro e w6 ⟨rfl, hb6⟩
    have b6 := b5.trans (hb6.mono b5.size)
    have hY6 := hY5.below hb6 hY5.lt
    have hA6 := hA5.below hb6 hA5.lt
    have y0 := hY6.cell 0
    have y1 := hY6.cell 1
    have a0 := hA6.cell 0
    have a1 := hA6.cell 1
    have HW := hideC (withr_any C A2 c2 M I J one w6 ((hI4.below hb5).below hb6) hI hJ)
    go_wp2_with fail
    refine HW.out.mono ?_
    rintro e w7 ⟨A7, c7, rfl, hI7, hb7⟩
    have b7 := b6.trans (hb7.mono b6.size)
    have hsm := samel_any q5 C C (mset (nsOf C M) I J one) A7 c7 (mat M.length C (withF M I J one)) w7 ((hm5.below hb6).below hb7) (by omega) (by unfold mset; rw [List.length_set, nsTo_len]; omega) hI7
    rw [same_of (by unfold mset; rw [List.length_set, nsTo_len]) (mset_has (by omega) hI hJ), mat_len] at hsm
    have HSM := hideC hsm; clear hsm
    go_wp2_with fail
    refine HSM.out.mono ?_
    rintro e w8 ⟨rfl, hb8⟩
    go_wp2_with fail
    go_ret
    exact ⟨rfl, b7.trans (hb8.mono b7.size)⟩
  · have hin2 : insideB (nsOf C M).length C x y = false := by rw [nsTo_len]; simpa using hin
    have HS := hideC (setm_out q C (nsOf C M) x y one w4 hm4 hin2)
    have hno : x < 0 ∨ M.length ≤ x ∨ y < 0 ∨ C ≤ y := by
      simp only [insideB, decide_eq_true_eq] at hin
      omega
    clear hin hin2
    go_wp2_with fail
    refine HS.out.mono ?_
    rintro e w5 ⟨rfl, rfl⟩
    have hsm := samel_any q C C (nsOf C M) A2 c2 M w4 hm4 (by omega) (by rw [nsTo_len]; omega) hI4
    rw [told_ns (by omega) (ref_wide hI4), sameB_refl] at hsm
    have HSM := hideC hsm; clear hsm
    go_wp2_with fail
    refine HSM.out.mono ?_
    rintro e w6 ⟨rfl, hb6⟩
    have b6 := b4.trans (hb6.mono b4.size)
    have hY6 := hY4.below hb6 hY4.lt
    have hA6 := hA4.below hb6 hA4.lt
    have y0 := hY6.cell 0
    have y1 := hY6.cell 1
    have a0 := hA6.cell 0
    have a1 := hA6.cell 1
    by_cases h1 : x < 0
    · go_wp2_with fail
      go_ret
      exact ⟨rfl, b6⟩
    · by_cases h2 : M.length ≤ x
      · go_wp2_with fail
        go_ret
        exact ⟨rfl, b6⟩
      · by_cases h3 : y < 0
        · go_wp2_with fail
          go_ret
          exact ⟨rfl, b6⟩
        · have h4 : C ≤ y := by omega
          go_wp2_with fail
          go_ret
          exact ⟨rfl, b6⟩
end Go.Proofs.YtjlcnbfkblmoeaaDoor
