/-
  The reference's node: the first flaw of a node and of those below it.
-/
import Derived.Test.YthnphekhgaefdaaDoorRf2
namespace Go.Proofs.YthnphekhgaefdaaDoor
open Go.RowKit

theorem is_is {v : Value} {o : List (Nat × Nat)} {c : Int × Int} {w : World} {b : Bool} (hb : isIn o c = b) (h : IsPairs w v (cz o)) :
    Calls Tryd.prog 71 #[v, .agg #[.int .i64 c.1, .int .i64 c.2]] w fun e w' => e = .returned (.bool b) ∧ Below w.heap.size w w' := by
  have := is_ref v (cz o) c w h
  rwa [isL_cz, hb] at this
section
variable {C : Nat} {M : List (List Bool)}
/-- Cells among the open ones: Fool is their being apart. -/
theorem fool_apart (hC : C ≤ 4096) {o : List (Nat × Nat)} (ho : ∀ d ∈ o, d ∈ cellsOf (nsOf C M)) {l : List (Int × Int)} (h : l.all (isIn o) = true) : foolR C M l = apartB C (nsOf C M) l := by
  have h1 : foolP C (nsOf C M) l = foolR C M l := by rw [foolP_ref hC]; rfl
  rw [← h1]
  unfold foolP
  have h2 : l.any (fun c => !mhas C (nsOf C M) c.1 c.2) = false := by
    rw [List.any_eq_false]
    intro c hc
    obtain ⟨d, hd, e⟩ := isIn_iff.1 (List.all_eq_true.1 h c hc)
    have := (cells_has hC (ho d hd)).2.2
    rw [e, mhas_nsOf _ _ hC, this]; simp
  rw [h2]; rfl
end
theorem ret_two {a b : Int} {r : Int × Int} (h : r = (a, b)) : Ending.returned (.tuple #[.int .i64 a, .int .i64 b]) = .returned (.tuple #[.int .i64 r.1, .int .i64 r.2]) := by rw [h]
namespace Mix2
set_option maxRecDepth 100000 in
set_option maxHeartbeats 8000000 in
theorem noder_any (C : Nat) (A : Option Addr) (c : Nat) (M : List (List Bool)) (hC : C ≤ 5) (hR : M.length ≤ 5) (size : Int) (Ap : Option Addr) (cp : Nat) (P : List Nd) (hfo : FormOK P) (hok : ∀ x ∈ P, NdOK x) :
    ∀ (f n b : Nat) (v : Value) (o : List (Nat × Nat)) (w : World), n < P.length → P.length ≤ f + n → b ≤ 256 → IsRef w C A M → IsNR w Ap P → IsPairs w v (cz o) → (∀ d ∈ o, d ∈ cellsOf (nsOf C M)) →
      Calls Tryd.prog 33 #[refV C A M.length c, .agg #[.int .i64 size, .slice Ap P.length cp], .int .i64 n, .int .i64 b, v] w fun e w' => e = .returned (.tuple #[.int .i64 (nodeR C (nsOf C M) P f n b o).1, .int .i64 (nodeR C (nsOf C M) P f n b o).2]) ∧ Below w.heap.size w w' := by
  intro f
  induction f with
  | zero => intro n b v o w hn hf; omega
  | succ f ih =>
    intro n b v o w hn hf hb hI hP ho hoc
    obtain ⟨x, hx⟩ : ∃ x, P[n]? = some x := ⟨_, List.getElem?_eq_getElem hn⟩
    obtain ⟨hkd, hch⟩ := hfo n hn
    rw [getD_of hx] at hkd hch
    obtain ⟨r, hr⟩ : ∃ r, r = nodeR C (nsOf C M) P (f + 1) n b o := ⟨_, rfl⟩
    rw [← hr]
    rw [nodeR, Int.toNat_natCast, getD_of hx] at hr
    obtain ⟨g, off, A1, c1, A2, c2, rfl, hg, x0, x1, x2, x3, x4, hx1, hx2⟩ := nr_at hP hx
    obtain ⟨o1, o2, -, -⟩ := hok x (List.mem_of_getElem? hx)
    obtain ⟨B, d, rfl, hrow, hlc, hlm⟩ := id ho
    have hl0 : (cz o).length = o.length := cz_len o
    rw [hl0] at ho hlc hlm ⊢
    have HR := Lib.hid hr
    have HCH := Lib.hid hch
    have hp2 : IsPairs w (.slice A2 x.cells.length c2) x.cells := ⟨A2, c2, rfl, hx2.1, hx2.2.1, o2⟩
    have HIH := Lib.hid ih
    have HOC := Lib.hid hoc
    clear hr hch hx hl0 hrow ih hoc hx2
    go_enter Tryd.func33, Tryd.ntmps33
    obtain ⟨N, hN⟩ : ∃ k, k = P.length := ⟨_, rfl⟩
    obtain ⟨l1, hl1⟩ : ∃ k, k = x.ch.length := ⟨_, rfl⟩
    obtain ⟨l2, hl2⟩ : ∃ k, k = x.cells.length := ⟨_, rfl⟩
    have HN := Lib.hid hN; have HL1 := Lib.hid hl1; have HL2 := Lib.hid hl2
    rw [← hN] at hn hf ⊢
    rw [← hl1] at x3 o1 hx1
    rw [← hl2] at x4 o2 hp2
    clear hN hl1 hl2
    obtain ⟨kd, hkde⟩ : ∃ k, k = x.kind := ⟨_, rfl⟩
    have HKD := Lib.hid hkde
    rw [← hkde] at x0 hkd
    clear hkde
    go_upto_region 2 with fail
    refine abs3 fun w1 hXm hXp hXn hb1 hz => ?_
    clear hz x0 x1 x2 x3 x4
    obtain ⟨X, hXe⟩ : ∃ X, X = w.heap.size := ⟨_, rfl⟩
    rw [← hXe] at hXm hXp hXn ⊢
    clear hXe
    have y0 := hXn.cell 0
    by_cases hk2 : kd = 2
    · have hr := HR.out
      rw [← HKD.out, hk2, if_pos rfl] at hr
      have HR2 := Lib.hid hr
      clear hr HR HIH
      subst hk2
      have y4 := hXn.cell 4
      go_wp2_with fail
      refine wp_loopF (β := Nat) (fun k f => #[f 0, f 1, .int .i64 (n : Int), .int .i64 (b : Int), .slice B o.length d, ptr X, .pointer (some ⟨X + 1, 0, none⟩), f 7, f 8, f 9, .int .i64 0, .int .i64 0, .pointer (some ⟨X + 2, 0, none⟩), f 13, f 14, f 15, f 16, f 17, f 18, f 19, f 20, f 21, f 22, f 23, f 24, f 25, f 26, f 27, f 28, f 29, f 30, f 31, f 32, .slice A2 l2 c2, .int .i64 (l2 : Int), .int .i64 (k : Int), f 36, f 37, f 38, f 39, f 40, f 41, f 42, f 43, f 44, f 45, f 46, f 47, f 48, f 49, f 50, f 51, f 52, f 53, f 54, f 55, f 56, f 57, f 58, f 59, f 60, f 61, f 62, f 63, f 64, f 65, f 66, f 67, f 68, f 69, f 70, f 71, f 72, f 73, f 74, f 75, f 76, f 77, f 78, f 79, f 80, f 81, f 82, f 83, f 84, f 85, f 86, f 87, f 88, f 89, f 90, f 91, f 92, f 93, f 94, f 95, f 96, f 97, f 98, f 99, f 100, f 101, f 102, f 103, f 104, f 105, f 106, f 107, f 108, f 109, f 110, f 111, f 112, f 113, f 114, f 115, f 116, f 117, f 118, f 119, f 120, f 121, f 122, f 123, f 124, f 125, f 126, f 127, f 128, f 129, f 130, f 131, f 132, f 133, f 134, f 135, f 136, f 137, f 138, f 139, f 140, f 141, f 142, f 143, f 144, f 145])
        (fun k ds V => k ≤ l2 ∧ ds = [] ∧ Below w1.heap.size w1 V ∧ (x.cells.take k).all (isIn o) = true) (fun k => l2 - k) 0 rfl ⟨Nat.zero_le _, rfl, Below.refl _ _, by simp⟩ ?_
      rintro k f ds V ⟨hk, rfl, hbV, hall⟩
      dsimp only at hk ⊢
      have HA := Lib.hid hall
      clear hall y0 y4
      have bV := hb1.trans (hbV.mono hb1.size)
      have hMV := hXm.below hbV hXm.lt
      have hNV := hXn.below hbV hXn.lt
      have m0 := hMV.cell 0
      have m1 := hMV.cell 1
      have y4 := hNV.cell 4
      by_cases hlt : k < l2
      · obtain ⟨z, hz⟩ : ∃ z, x.cells[k]? = some z := ⟨_, List.getElem?_eq_getElem (by have := HL2.out; omega)⟩
        obtain ⟨-, hrw, -, -⟩ := ipairs_of (hp2.below bV)
        obtain ⟨g3, o3, rfl, -, d0, d1⟩ := row_pairs hrw hz
        obtain ⟨bi, hbi⟩ : ∃ q, isIn o z = q := ⟨_, rfl⟩
        have HIS := Lib.hid (fun V' (hV' : Below V.heap.size V V') => is_is (w := V') hbi ((ho.below bV).below hV'))
        have HBI := Lib.hid hbi
        have HZ := Lib.hid hz
        clear hrw hbi hz m0 m1 y4
        go_upto_region 7 with fail
        refine abs1 fun V1 h14 hb14 hz => ?_
        clear hz d0 d1
        have u0 := h14.cell 0
        have u1 := h14.cell 1
        have HI2 := hideC (HIS.out V1 hb14)
        go_wp2_with fail
        refine HI2.out.mono ?_
        rintro e V2 ⟨rfl, hb2⟩
        have hv2 := hbV.trans ((hb14.trans (hb2.mono hb14.size)).mono hbV.size)
        cases bi with
        | false =>
          have HRE := Lib.hid (show r = (3, (n : Int)) by
            rw [HR2.out, if_pos]
            rw [List.all_eq_false]
            exact ⟨z, List.mem_of_getElem? HZ.out, by rw [HBI.out]; simp⟩)
          go_wp2_with fail
          go_ret2
          exact ⟨ret_two HRE.out, hb1.trans (hv2.mono hb1.size)⟩
        | true =>
          have HA2 := Lib.hid (show (x.cells.take (k + 1)).all (isIn o) = true by
            rw [List.take_add_one, HZ.out, List.all_append, HA.out]
            simp [HBI.out])
          go_wp2_with fail
          exact ⟨k + 1, rfl, ⟨by omega, by first | rfl | trivial, hv2, HA2.out⟩, by omega⟩
      · obtain rfl : k = l2 := by omega
        have hall := HA.out
        rw [HL2.out, List.take_length] at hall
        have hr := HR2.out
        rw [if_neg (by rw [hall]; simp), ← fool_apart (by omega) HOC.out hall, ← HL2.out] at hr
        have HR3 := Lib.hid hr
        clear hr hall
        by_cases hle : (k : Int) ≤ (b : Int)
        · have HRE := Lib.hid (show r = (5, (n : Int)) by rw [HR3.out, if_pos (.inl hle)])
          go_wp2_with fail
          go_ret2
          exact ⟨ret_two HRE.out, bV⟩
        · obtain ⟨bf, hbf⟩ : ∃ q, foolR C M x.cells = q := ⟨_, rfl⟩
          have hFR := foolr_any C A c M (.slice A2 k c2) x.cells V (hI.below bV) (hp2.below bV)
          rw [hbf] at hFR
          have HFR := hideC hFR
          have hr := HR3.out
          rw [hbf] at hr
          have HR4 := Lib.hid hr
          clear hr hbf hFR
          go_wp2_with fail
          refine HFR.out.mono ?_
          rintro e V2 ⟨rfl, hb2⟩
          have b2 := bV.trans (hb2.mono bV.size)
          cases bf with
          | true =>
            have HRE := Lib.hid (show r = (1, 0) by rw [HR4.out, if_neg (by rw [not_or]; exact ⟨by omega, by simp⟩)])
            go_wp2_with fail
            go_ret2
            exact ⟨ret_two HRE.out, b2⟩
          | false =>
            have HRE := Lib.hid (show r = (5, (n : Int)) by rw [HR4.out, if_pos (.inr rfl)])
            go_wp2_with fail
            go_ret2
            exact ⟨ret_two HRE.out, b2⟩
    · by_cases hk3 : kd = 3
      · have hr := HR.out
        rw [← HKD.out, hk3, if_neg (by decide), if_pos rfl] at hr
        have HR2 := Lib.hid hr
        clear hr HR HIH hk2 hp2
        subst hk3
        have hall := fun W (hb : Below w.heap.size w W) => all47_any C A c M W (hI.below hb) (by omega) (by omega)
        have hmost := most_all (C := C) (Ns := nsOf C M) o
        have hgm := fun (k s : Nat) (hs : (allL C (nsOf C M))[k]? = some s) => gain_max (C := C) (Ns := nsOf C M) (o := o) hs
        have hgb := fun k => gain_bd (C := C) (Ns := nsOf C M) (o := o) (allL C (nsOf C M)) k
        have hg0 : (((allL C (nsOf C M)).take 0).map fun s => o.length - (lessL C (nsOf C M) o s).length).foldl max 0 = 0 := by simp
        have hge : (((allL C (nsOf C M)).take (allL C (nsOf C M)).length).map fun s => o.length - (lessL C (nsOf C M) o s).length).foldl max 0 = mostL C (nsOf C M) o := by rw [List.take_length]; exact hmost
        have hll := fun s => lessL_len C (nsOf C M) o s
        have hwo := fun W s (hb : Below w.heap.size w W) (hu : IsPairs W (.slice B o.length d) (cz o)) => without_ref C A c M _ o s W (hI.below hb) (by omega) (by omega) hu fun x hx => ⟨(cells_has (by omega) (HOC.out x hx)).1, (cells_has (by omega) (HOC.out x hx)).2.1⟩
        have hA4 : (allL C (nsOf C M)).length ≤ 4096 := Nat.le_trans (allTo_len C (nsOf C M) (2 ^ C)) (Nat.le_trans (Nat.pow_le_pow_right (by omega) (show C ≤ 12 by omega)) (by decide))
        obtain ⟨LA, hLA⟩ : ∃ L, L = allL C (nsOf C M) := ⟨_, rfl⟩
        rw [← hLA] at hall hgm hgb hg0 hge hA4
        obtain ⟨T, hT⟩ : ∃ T : Nat → Nat, T = fun k => ((LA.take k).map fun s => o.length - (lessL C (nsOf C M) o s).length).foldl max 0 := ⟨_, rfl⟩
        have hTs : ∀ k, ((LA.take k).map fun s => o.length - (lessL C (nsOf C M) o s).length).foldl max 0 = T k := fun k => by rw [hT]
        simp only [hTs] at hgm hgb hg0 hge
        have HALL := Lib.hid hall; have HGM := Lib.hid hgm; have HGB := Lib.hid hgb; have HG0 := Lib.hid hg0; have HGE := Lib.hid hge; have HLL := Lib.hid hll; have HWO := Lib.hid hwo
        clear hall hgm hgb hg0 hge hll hwo hmost hT hTs hLA
        have m0 := hXm.cell 0
        have m1 := hXm.cell 1
        go_wp2_with fail
        refine (HALL.out w1 hb1).mono ?_
        rintro e W2 ⟨vL, rfl, hoL, hb2⟩
        obtain ⟨AL, cL, rfl, hLc, -, hLr, -⟩ := row_of_own hoL
        have hbw2 := hb1.trans (hb2.mono hb1.size)
        have hX2 := hXm.below hb2 hXm.lt
        clear hoL hb2 m0 m1 y0 hXm hXp hXn
        go_wp2_with fail
        have h0' : ((0 : Int)) = ((T 0 : Nat) : Int) := by rw [HG0.out]; rfl
        refine wp_loopF (β := Nat) (fun k f => #[f 0, f 1, .int .i64 (n : Int), .int .i64 (b : Int), .slice B o.length d, ptr X, f 6, f 7, f 8, f 9, .int .i64 0, .int .i64 0, f 12, f 13, f 14, .int .i64 (T k : Int), f 16, f 17, f 18, f 19, f 20, f 21, f 22, f 23, f 24, f 25, f 26, f 27, f 28, f 29, f 30, f 31, f 32, f 33, f 34, f 35, f 36, f 37, f 38, f 39, f 40, f 41, f 42, f 43, f 44, f 45, f 46, f 47, f 48, f 49, f 50, f 51, f 52, f 53, f 54, f 55, f 56, f 57, f 58, f 59, f 60, .slice AL LA.length cL, .int .i64 (LA.length : Int), .int .i64 (k : Int), f 64, f 65, f 66, f 67, f 68, f 69, f 70, f 71, f 72, f 73, f 74, f 75, f 76, f 77, f 78, f 79, f 80, f 81, f 82, f 83, f 84, f 85, f 86, f 87, f 88, f 89, f 90, f 91, f 92, f 93, f 94, f 95, f 96, f 97, f 98, f 99, f 100, f 101, f 102, f 103, f 104, f 105, f 106, f 107, f 108, f 109, f 110, f 111, f 112, f 113, f 114, f 115, f 116, f 117, f 118, f 119, f 120, f 121, f 122, f 123, f 124, f 125, f 126, f 127, f 128, f 129, f 130, f 131, f 132, f 133, f 134, f 135, f 136, f 137, f 138, f 139, f 140, f 141, f 142, f 143, f 144, f 145])
          (fun k ds V => k ≤ LA.length ∧ ds = [] ∧ Below W2.heap.size W2 V) (fun k => LA.length - k) 0 (by rw [← h0']; rfl) ⟨Nat.zero_le _, rfl, Below.refl _ _⟩ ?_
        clear h0'
        rintro k f ds V ⟨hk, rfl, hv⟩
        dsimp only at hk ⊢
        have hbV := hbw2.trans (hv.mono hbw2.size)
        have hXV := hX2.below hv hX2.lt
        have x0 := hXV.cell 0
        have x1 := hXV.cell 1
        by_cases hlt : k < LA.length
        · obtain ⟨s, hs⟩ : ∃ s, LA[k]? = some s := ⟨_, List.getElem?_eq_getElem hlt⟩
          obtain ⟨g2, o2', rfl, hg2, hc2⟩ := (hLr.below hv) (by rw [List.length_map]; omega)
          have d2 := hc2 k (.int .u64 (s : Int)) (by rw [List.getElem?_map, hs]; rfl)
          have hg := HGM.out k s hs
          have hl1 := HLL.out s
          have hb1' := HGB.out k
          have hW := HWO.out V s hbV (ho.below hbV)
          obtain ⟨m, hm⟩ : ∃ m, m = (lessL C (nsOf C M) o s).length := ⟨_, rfl⟩
          obtain ⟨Z, hZ⟩ : ∃ Z, Z = cz (lessL C (nsOf C M) o s) := ⟨_, rfl⟩
          have hZl : Z.length = m := by rw [hZ, cz_len, hm]
          rw [← hZ] at hW
          rw [← hm] at hg hl1
          have e1 : wrap64 ((o.length : Int) - (m : Int)) = ((o.length - m : Nat) : Int) := by rw [IntWalk.wrap64_in _ ⟨by omega, by omega⟩]; omega
          have e2 : max (T k : Int) ((o.length - m : Nat) : Int) = (T (k + 1) : Int) := by rw [hg]; omega
          have HW := hideC hW
          have HE1 := Lib.hid e1; have HE2 := Lib.hid e2; have HZL := Lib.hid hZl
          clear hc2 hs hg hl1 hW hm hZ e1 e2 hZl
          go_wp2_with fail
          refine HW.out.mono ?_
          rintro e V2 ⟨u7, rfl, hu7, hb⟩
          obtain ⟨A7, c7, rfl, -⟩ := own5 hu7
          have hv2 := hv.trans (hb.mono hv.size)
          have hz7 := HZL.out
          have e1 := HE1.out
          have e2 := HE2.out
          rw [hz7]
          clear hu7 hz7
          go_wp2_with fail
          exact ⟨k + 1, by first | rfl | (rw [← e2]; rfl), ⟨by omega, by first | rfl | trivial, hv2⟩, by omega⟩
        · obtain rfl : k = LA.length := by omega
          have hTe := HGE.out
          have hTb := HGB.out LA.length
          have hr := HR2.out
          rw [← hTe] at hr
          obtain ⟨mo, hmo⟩ : ∃ m, m = T LA.length := ⟨_, rfl⟩
          rw [← hmo] at hr hTb ⊢
          have hmul : b * mo ≤ 256 * 1000000 := Nat.mul_le_mul hb (by omega)
          obtain ⟨bm, hbm⟩ : ∃ q, q = b * mo := ⟨_, rfl⟩
          rw [← Int.natCast_mul, ← hbm] at hr
          have hmw : wrap64 ((b : Int) * (mo : Int)) = (bm : Int) := by rw [← Int.natCast_mul, ← hbm]; exact IntWalk.wrap64_in _ ⟨by omega, by omega⟩
          have hC12 : ¬ (12 : Int) < (C : Int) := by omega
          have HR3 := Lib.hid hr
          clear hr hTe hmo hTb hbm hmul
          by_cases hle : o.length ≤ bm
          · have hli : (o.length : Int) ≤ (bm : Int) := by omega
            have HRE := Lib.hid (show r = (5, (n : Int)) by rw [HR3.out, if_pos (.inr hli)])
            go_wp2_with fail
            go_ret2
            exact ⟨ret_two HRE.out, hbV⟩
          · have hli : ¬ (o.length : Int) ≤ (bm : Int) := by omega
            have HRE := Lib.hid (show r = (1, 0) by rw [HR3.out, if_neg (by rw [not_or]; exact ⟨by omega, hli⟩)])
            go_wp2_with fail
            go_ret2
            exact ⟨ret_two HRE.out, hbV⟩
      · obtain rfl : kd = 1 := by omega
        have hr := HR.out
        rw [← HKD.out, if_neg hk2, if_neg hk3] at hr
        have HR2 := Lib.hid hr
        clear hr HR hk2 hk3 hp2 hkd
        obtain ⟨bi, hbi⟩ : ∃ q, isIn o (x.row, x.col) = q := ⟨_, rfl⟩
        have HIS := hideC (show Calls Tryd.prog 71 #[.slice B o.length d, .agg #[.int .i64 x.row, .int .i64 x.col]] w1 fun e w' => e = .returned (.bool bi) ∧ Below w1.heap.size w1 w' from is_is (c := (x.row, x.col)) hbi (ho.below hb1))
        have HBI := Lib.hid hbi
        clear hbi
        have y1 := hXn.cell 1
        have y2 := hXn.cell 2
        go_wp2_with fail
        refine HIS.out.mono ?_
        rintro e W2 ⟨rfl, hb2⟩
        have hbw2 := hb1.trans (hb2.mono hb1.size)
        have hM2 := hXm.below hb2 hXm.lt
        have hP2 := hXp.below hb2 hXp.lt
        have hN2 := hXn.below hb2 hXn.lt
        clear y0 y1 y2 hXm hXp hXn hb2 HIS hb1
        cases bi with
        | false =>
          have HRE := Lib.hid (show r = (3, (n : Int)) by rw [HR2.out, if_pos HBI.out])
          go_wp2_with fail
          go_ret2
          exact ⟨ret_two HRE.out, hbw2⟩
        | true =>
          have hr := HR2.out
          rw [if_neg (by rw [HBI.out]; simp)] at hr
          have HR3 := Lib.hid hr
          clear hr HR2
          match b, hb, HR3 with
          | 0, hb, HR3 =>
            have HRE := Lib.hid (show r = (5, (n : Int)) by rw [HR3.out, if_pos (by decide)])
            go_wp2_with fail
            go_ret2
            exact ⟨ret_two HRE.out, hbw2⟩
          | b1 + 1, hb, HR3 =>
            obtain ⟨q, hq, hqe⟩ := isIn_iff.1 HBI.out
            obtain ⟨q1, q2, q3⟩ := cells_has (show C ≤ 4096 by omega) (HOC.out q hq)
            obtain ⟨hqr, hqc⟩ := Prod.mk.inj hqe
            have hcr : conR C M x.row x.col = conL C (nsOf C M) x.row.toNat x.col.toNat := by unfold conR; rw [hqr, hqc, if_pos q3]
            have hcc := fun W (hb : Below w.heap.size w W) => concr_any C A c M x.row x.col W (hI.below hb) (by omega) (by omega)
            rw [hcr] at hcc
            have hlen := con_len (C := C) (nsOf C M) x.row.toNat x.col.toNat
            have h2C : 2 ^ C ≤ 4096 := Nat.le_trans (Nat.pow_le_pow_right (by omega) (show C ≤ 12 by omega)) (by decide)
            have hr := HR3.out
            rw [if_neg (by omega)] at hr
            obtain ⟨L, hL⟩ : ∃ L, L = conL C (nsOf C M) x.row.toNat x.col.toNat := ⟨_, rfl⟩
            rw [← hL] at hcc hlen hr
            have hGG : (((b1 + 1 : Nat) : Int) - 1) = (b1 : Int) := by omega
            rw [hGG] at hr
            obtain ⟨G, hG⟩ : ∃ G : Nat → Int → Int × Int, G = fun s c => nodeR C (nsOf C M) P f c (b1 : Int) (lessL C (nsOf C M) o s) := ⟨_, rfl⟩
            rw [← hG] at hr
            have HG := Lib.hid (fun s c => congrFun (congrFun hG s) c)
            have hll := fun s => Nat.le_trans (lessL_len C (nsOf C M) o s) hlm
            have hwo := fun W s (hb : Below w.heap.size w W) (hu : IsPairs W (.slice B o.length d) (cz o)) => without_ref C A c M _ o s W (hI.below hb) (by omega) (by omega) hu fun x hx => ⟨(cells_has (by omega) (HOC.out x hx)).1, (cells_has (by omega) (HOC.out x hx)).2.1⟩
            have HCC := Lib.hid hcc; have HR4 := Lib.hid hr; have HLL := Lib.hid hll; have HWO := Lib.hid hwo
            have hchn := HCH.out
            rw [← HN.out] at hchn
            have HCN := Lib.hid hchn
            clear hcc hr hll hwo hG hGG hcr hqr hqc hqe hq q1 q2 q3 HR3 hL hchn
            have y1 := hN2.cell 1
            have y2 := hN2.cell 2
            have m0 := hM2.cell 0
            have m1 := hM2.cell 1
            have hbn : ¬ ((b1 + 1 : Nat) : Int) < 1 := by omega
            go_wp2_with fail
            refine (HCC.out W2 hbw2).mono ?_
            rintro e W3 ⟨vL, rfl, hoL, hb3⟩
            obtain ⟨AL, cL, rfl, hLc, -, hLr, -⟩ := row_of_own hoL
            have hbw3 := hbw2.trans (hb3.mono hbw2.size)
            have hM3 := hM2.below hb3 hM2.lt
            have hP3 := hP2.below hb3 hP2.lt
            have hN3 := hN2.below hb3 hN2.lt
            clear hoL hb3 y1 y2 m0 m1 hM2 hP2 hN2 hbw2 HCC
            have y3 := hN3.cell 3
            by_cases hne : L.length = l1
            · have hr := HR4.out
              rw [← HL1.out, if_neg (by rw [hne]; simp)] at hr
              have HR5 := Lib.hid hr
              have HNE := Lib.hid hne
              have hnb : ((L.length : Int) != (l1 : Int)) = false := by rw [hne]; simp
              clear hr HR4 hne
              go_wp2_with fail
              refine wp_loopF (β := Nat) (fun k f => #[f 0, f 1, .int .i64 (n : Int), .int .i64 ((b1 + 1 : Nat) : Int), .slice B o.length d, ptr X, .pointer (some ⟨X + 1, 0, none⟩), f 7, f 8, f 9, .int .i64 0, .int .i64 0, .pointer (some ⟨X + 2, 0, none⟩), f 13, f 14, f 15, f 16, f 17, f 18, f 19, f 20, f 21, f 22, f 23, f 24, f 25, f 26, f 27, f 28, f 29, f 30, f 31, f 32, f 33, f 34, f 35, f 36, f 37, f 38, f 39, f 40, f 41, f 42, f 43, f 44, f 45, f 46, f 47, f 48, f 49, f 50, f 51, f 52, f 53, f 54, f 55, f 56, f 57, f 58, f 59, f 60, f 61, f 62, f 63, f 64, f 65, f 66, f 67, f 68, f 69, f 70, f 71, f 72, f 73, f 74, f 75, f 76, f 77, f 78, f 79, f 80, f 81, f 82, f 83, f 84, f 85, f 86, f 87, f 88, f 89, f 90, f 91, f 92, f 93, f 94, f 95, f 96, f 97, f 98, f 99, f 100, f 101, f 102, f 103, f 104, f 105, f 106, f 107, f 108, f 109, f 110, f 111, f 112, f 113, f 114, f 115, f 116, .slice AL L.length cL, .int .i64 (L.length : Int), .int .i64 (k : Int), f 120, f 121, f 122, f 123, f 124, f 125, f 126, f 127, f 128, f 129, f 130, f 131, f 132, f 133, f 134, f 135, f 136, f 137, f 138, f 139, f 140, f 141, f 142, f 143, f 144, f 145])
                (fun k ds W5 => k ≤ L.length ∧ ds = [] ∧ Below W3.heap.size W3 W5 ∧ kidsF G (L.zip x.ch) = kidsF G ((L.drop k).zip (x.ch.drop k))) (fun k => L.length - k) 0 rfl ⟨Nat.zero_le _, rfl, Below.refl _ _, rfl⟩ ?_
              rintro k fr ds W5 ⟨hk, rfl, hv, hkid⟩
              dsimp only at hk ⊢
              clear y3 hnb
              have hbV := hbw3.trans (hv.mono hbw3.size)
              have hMV := hM3.below hv hM3.lt
              have hPV := hP3.below hv hP3.lt
              have hNV := hN3.below hv hN3.lt
              by_cases hlt : k < L.length
              · obtain ⟨s, hsx⟩ : ∃ s, L[k]? = some s := ⟨_, List.getElem?_eq_getElem hlt⟩
                obtain ⟨cc, hcx⟩ : ∃ cc, x.ch[k]? = some cc := ⟨_, List.getElem?_eq_getElem (by have := HL1.out; have := HNE.out; omega)⟩
                rw [kids_at hsx hcx, HG.out] at hkid
                obtain ⟨hc1, hc2⟩ := HCN.out cc (List.mem_of_getElem? hcx)
                obtain ⟨m, rfl⟩ := Int.eq_ofNat_of_zero_le (show 0 ≤ cc by omega)
                obtain ⟨g2, o2', rfl, hg2, hcl2⟩ := (hLr.below hv) (by rw [List.length_map]; omega)
                have d2 := hcl2 k (.int .u64 (s : Int)) (by rw [List.getElem?_map, hsx]; rfl)
                obtain ⟨g4, o4, rfl, hg4, hcl4⟩ := (hx1.1.below hbV) (by rw [List.length_map]; have := (List.getElem?_eq_some_iff.1 hcx).1; omega)
                have d4 := hcl4 k (.int .i64 (m : Int)) (by rw [List.getElem?_map, hcx]; rfl)
                have hkl1 : k < l1 := by have := HNE.out; omega
                have HK := Lib.hid hkid
                have hm1 : m < N := by omega
                have hm2 : N ≤ f + m := by omega
                clear hkid hsx hcx hcl2 hcl4 hc1 hc2
                have hb1m : wrap64 (((b1 + 1 : Nat) : Int) - 1) = (b1 : Int) := by rw [IntWalk.wrap64_in _ ⟨by omega, by omega⟩]; omega
                have hb1i : IntKind.i64.wrap (((b1 + 1 : Nat) : Int) - 1) = (b1 : Int) := by rw [i64w ⟨by omega, by omega⟩]; omega
                go_upto_region 32 with fail
                clear d2
                refine wp_mix (fun V => Below W5.heap.size W5 V) 19 (by kernel_rfl) (by kernel_rfl) (Below.refl _ _).drew ?_
                have hr : Below W5.heap.size W5 W5.drew := (Below.refl _ _).drew
                obtain ⟨u3, hw⟩ : ∃ U, U = W5.drew := ⟨_, rfl⟩
                rw [← hw] at hr ⊢; clear hw
                have m0 := hMV.cell 0
                have m1 := hMV.cell 1
                have p0 := hPV.cell 0
                have p1 := hPV.cell 1
                have y3 := hNV.cell 3
                (refine m_q 0 (v := ?_) (by kernel_rfl) rfl rfl (fun W hW => ?_) ?_; rotate_left; (have z0 := onB hW m0; have z1 := onB hW m1; go_simp; first | done | with_reducible rfl); simp only [Act.put, List.setIfInBounds_toArray, List.set_cons_zero, List.set_cons_succ]); (refine m_q 1 (v := ?_) (by kernel_rfl) rfl rfl (fun W hW => ?_) ?_; rotate_left; (have z0 := onB hW p0; have z1 := onB hW p1; go_simp; first | done | with_reducible rfl); simp only [Act.put, List.setIfInBounds_toArray, List.set_cons_zero, List.set_cons_succ]); (refine m_q 2 (v := ?_) (by kernel_rfl) rfl rfl (fun W hW => ?_) ?_; rotate_left; (go_simp; first | done | with_reducible rfl); simp only [Act.put, List.setIfInBounds_toArray, List.set_cons_zero, List.set_cons_succ]); (refine m_q 3 (v := ?_) (by kernel_rfl) rfl rfl (fun W hW => ?_) ?_; rotate_left; (have z0 := onB hW y3; go_simp; first | done | with_reducible rfl); simp only [Act.put, List.setIfInBounds_toArray, List.set_cons_zero, List.set_cons_succ]); (refine m_q 4 (v := ?_) (by kernel_rfl) rfl rfl (fun W hW => ?_) ?_; rotate_left; (go_simp; first | done | with_reducible rfl); simp only [Act.put, List.setIfInBounds_toArray, List.set_cons_zero, List.set_cons_succ]); (refine m_q 5 (v := ?_) (by kernel_rfl) rfl rfl (fun W hW => ?_) ?_; rotate_left; (go_simp; first | done | with_reducible rfl); simp only [Act.put, List.setIfInBounds_toArray, List.set_cons_zero, List.set_cons_succ]); (refine m_q 6 (v := ?_) (by kernel_rfl) rfl rfl (fun W hW => ?_) ?_; rotate_left; (have z0 := onB hW d4; go_simp; first | done | with_reducible rfl); simp only [Act.put, List.setIfInBounds_toArray, List.set_cons_zero, List.set_cons_succ]); (refine m_q 7 (v := ?_) (by kernel_rfl) rfl rfl (fun W hW => ?_) ?_; rotate_left; (go_simp; first | done | with_reducible rfl); simp only [Act.put, List.setIfInBounds_toArray, List.set_cons_zero, List.set_cons_succ]); (refine m_q 8 (v := ?_) (by kernel_rfl) rfl rfl (fun W hW => ?_) ?_; rotate_left; (go_simp; first | done | with_reducible rfl); simp only [Act.put, List.setIfInBounds_toArray, List.set_cons_zero, List.set_cons_succ]); (refine m_q 9 (v := ?_) (by kernel_rfl) rfl rfl (fun W hW => ?_) ?_; rotate_left; (have z0 := onB hW m0; have z1 := onB hW m1; go_simp; first | done | with_reducible rfl); simp only [Act.put, List.setIfInBounds_toArray, List.set_cons_zero, List.set_cons_succ]); (refine m_q 10 (v := ?_) (by kernel_rfl) rfl rfl (fun W hW => ?_) ?_; rotate_left; (go_simp; first | done | with_reducible rfl); simp only [Act.put, List.setIfInBounds_toArray, List.set_cons_zero, List.set_cons_succ]); (refine m_q 11 (v := ?_) (by kernel_rfl) rfl rfl (fun W hW => ?_) ?_; rotate_left; (go_simp; first | done | with_reducible rfl); simp only [Act.put, List.setIfInBounds_toArray, List.set_cons_zero, List.set_cons_succ])
                have bu := hbV.trans (hr.mono hbV.size)
                refine m_s1 12 (by kernel_rfl) rfl ?_
                go_wp2_with fail
                refine (HWO.out _ s bu (ho.below bu)).mono ?_
                rintro e u4 ⟨u5, rfl, hu5, hb⟩
                replace bu := bu.trans (hb.mono bu.size)
                replace hr := hr.trans (hb.mono hr.size)
                clear hb
                go_wp2_with fail
                refine m_keep hr ?_
                have hp5 := hu5.pairs (by rw [cz_len]; exact HLL.out s)
                have hNR := HIH.out m b1 u5 (lessL C (nsOf C M) o s) u4 (by rw [← HN.out]; exact hm1) (by rw [← HN.out]; exact hm2) (by omega) (hI.below bu) (hP.below bu) hp5 (fun d hd => HOC.out d (mem_lessL.1 hd).1)
                obtain ⟨qq, hqq⟩ : ∃ q, q = nodeR C (nsOf C M) P f (m : Int) (b1 : Int) (lessL C (nsOf C M) o s) := ⟨_, rfl⟩
                have hk2' := HK.out
                rw [← hqq] at hNR hk2'
                rw [← HN.out] at hNR
                have HNR := hideC hNR
                have HK2 := Lib.hid hk2'
                clear hu5 hNR hqq hk2' hp5
                refine m_s1 13 (by kernel_rfl) rfl ?_
                go_wp2_with fail
                refine HNR.out.mono ?_
                rintro e u6 ⟨rfl, hb⟩
                replace bu := bu.trans (hb.mono bu.size)
                replace hr := hr.trans (hb.mono hr.size)
                clear hb
                go_wp2_with fail
                refine m_keep hr ?_
                (refine m_q 14 (v := ?_) (by kernel_rfl) rfl rfl (fun W hW => ?_) ?_; rotate_left; (go_simp; first | done | with_reducible rfl); simp only [Act.put, List.setIfInBounds_toArray, List.set_cons_zero, List.set_cons_succ]); (refine m_q 15 (v := ?_) (by kernel_rfl) rfl rfl (fun W hW => ?_) ?_; rotate_left; (go_simp; first | done | with_reducible rfl); simp only [Act.put, List.setIfInBounds_toArray, List.set_cons_zero, List.set_cons_succ]); (refine m_q 16 (v := ?_) (by kernel_rfl) rfl rfl (fun W hW => ?_) ?_; rotate_left; (go_simp; first | done | with_reducible rfl); simp only [Act.put, List.setIfInBounds_toArray, List.set_cons_zero, List.set_cons_succ]); (refine m_q 17 (v := ?_) (by kernel_rfl) rfl rfl (fun W hW => ?_) ?_; rotate_left; (go_simp; first | done | with_reducible rfl); simp only [Act.put, List.setIfInBounds_toArray, List.set_cons_zero, List.set_cons_succ]); (refine m_q 18 (v := ?_) (by kernel_rfl) rfl rfl (fun W hW => ?_) ?_; rotate_left; (go_simp; first | done | with_reducible rfl); simp only [Act.put, List.setIfInBounds_toArray, List.set_cons_zero, List.set_cons_succ])
                refine m_end (by kernel_rfl) ?_
                clear m0 m1 p0 p1 y3 d4
                obtain ⟨f1, f2⟩ := qq
                by_cases hf1 : f1 = 1
                · subst hf1
                  have HK3 := Lib.hid (show kidsF G (L.zip x.ch) = kidsF G ((L.drop (k + 1)).zip (x.ch.drop (k + 1))) by rw [HK2.out, if_neg (by simp)])
                  go_wp2_with fail
                  first | exact ⟨k + 1, rfl, ⟨by omega, by first | rfl | trivial, hv.trans (hr.mono hv.size), HK3.out⟩, by omega⟩ | exact ⟨k + 1, by omega, ⟨by omega, hv.trans (hr.mono hv.size), HK3.out⟩, by omega⟩
                · have hfb : (f1 != 1) = true := by rw [bne_iff_ne]; exact hf1
                  have HRE := Lib.hid (show r = (f1, f2) by rw [HR5.out, HK2.out, if_pos hf1])
                  go_wp2_with fail
                  go_ret2
                  exact ⟨ret_two HRE.out, bu⟩
              · obtain rfl : k = L.length := by omega
                rw [List.drop_length] at hkid
                have HRE := Lib.hid (show r = (1, 0) by rw [HR5.out, hkid]; rfl)
                clear hkid
                go_wp2_with fail
                go_ret2
                exact ⟨ret_two HRE.out, hbV⟩
            · have hnb : ((L.length : Int) != (l1 : Int)) = true := by rw [bne_iff_ne]; omega
              have hni : ¬ (L.length : Int) = (l1 : Int) := by omega
              have HRE := Lib.hid (show r = (4, (n : Int)) by rw [HR4.out, if_pos (by rw [← HL1.out]; exact hne)])
              clear hne
              go_wp2_with fail
              go_ret2
              exact ⟨ret_two HRE.out, hbw3⟩
end Mix2
end Go.Proofs.YthnphekhgaefdaaDoor
