import Derived.Test.YtjlcnbfkblmoeaaDoorLen
namespace Go.Proofs.YtjlcnbfkblmoeaaDoor
open Go.RowKit
/-- The first L words of N. -/
def wordsOf (N L : Nat) : Array Value := (Array.range L).map fun j => u64 (wd N j)
theorem wordsOf_get {N L j : Nat} (hj : j < L) : (wordsOf N L)[j]? = some (u64 (wd N j)) := by
  unfold wordsOf; rw [Array.getElem?_map, Array.getElem?_range]; simp [hj]
theorem wordsOf_size (N L : Nat) : (wordsOf N L).size = L := by simp [wordsOf]
theorem wordsOf_zero (L : Nat) : zeros (.int .u64 0) L = wordsOf 0 L := by
  unfold zeros wordsOf
  apply Array.ext (by simp)
  intro i h1 h2
  simp [wd_zero]
theorem wordsOf_with (N i L : Nat) : (wordsOf N L).setIfInBounds (i / 64) (u64 (wd N (i / 64) ||| 2 ^ (i % 64))) = wordsOf (N ||| 2 ^ i) L := by
  apply Array.ext_getElem?
  intro j
  rw [Array.getElem?_setIfInBounds, wordsOf_size]
  by_cases hj : j < L
  · rw [wordsOf_get hj, wordsOf_get hj, wd_with]
    by_cases h : i / 64 = j
    · subst h; simp [hj]
    · rw [if_neg h, if_neg (Ne.symm h)]
  · have h1 : ∀ N, (wordsOf N L)[j]? = none := fun N => Array.getElem?_eq_none (by rw [wordsOf_size]; omega)
    rw [h1, h1]
    by_cases h : i / 64 = j
    · rw [if_pos h, if_neg (by omega)]
    · rw [if_neg h]
theorem shl_form (j : Nat) (hj : j < 64) : IntKind.u64.wrap ((2 : Int) ^ j) = ((2 ^ j : Nat) : Int) := by
  have h1 : 2 ^ j < 2 ^ 64 := Nat.pow_lt_pow_right (by omega) hj
  have e : ((2 : Int) ^ j) = ((2 ^ j : Nat) : Int) := by simp
  rw [e, u64_wrap_nat _ h1]
theorem or_form (N i : Nat) : bits .or .u64 (wd N (i / 64) : Int) ((2 : Int) ^ (i % 64)) = ((wd N (i / 64) ||| 2 ^ (i % 64) : Nat) : Int) := by
  have e : ((2 : Int) ^ (i % 64)) = ((2 ^ (i % 64) : Nat) : Int) := by simp
  rw [e, u64_or_nat _ _ (wd_lt _ _) (Nat.pow_lt_pow_right (by omega) (Nat.mod_lt _ (by omega)))]

set_option maxRecDepth 100000 in
set_option maxHeartbeats 400000 in
theorem of_any (A : Option Addr) (c : Nat) (xs : List Int) (w : World) (hr : Row w A (xs.map (Value.int .i64))) (hn : xs.length ≤ 1000000) :
    Calls Tryd.prog 43 #[.slice A xs.length c] w fun e w' => ∃ r, e = .returned (.agg #[r]) ∧ IsSet w' r (setOf xs) ∧ Below w.heap.size w w' := by
  obtain ⟨n, hn0⟩ : ∃ n, n = xs.length := ⟨_, rfl⟩
  rw [← hn0] at hn ⊢
  have HN := Lib.hid hn0; clear hn0
  have cX : ∀ k x, xs[k]? = some x → ∃ g off, A = some ⟨g, off, none⟩ ∧ g < w.heap.size ∧ w.cell? ⟨g, off + k, none⟩ = some (.int .i64 x) := fun k x hx => by
    obtain ⟨g, off, hA, hg, hc⟩ := hr (by
      have := (List.getElem?_eq_some_iff.1 hx).1
      simp; omega)
    exact ⟨g, off, hA, hg, hc k _ (by simp [hx])⟩
  clear hr
  have HX := Lib.hid cX; clear cX
  go_enter Tryd.func43, Tryd.ntmps43
  go_wp2_with fail
  refine abs1 fun W0 hR0 hbel0 hz => ?_
  go_loop [3, 11] (fun t i => ∃ k : Nat, k ≤ n ∧ i = .int .i64 k ∧ t = .int .i64 (topOf (xs.take k))) (fun _ i => n - (intOf i).toNat)
  case atStart => exact ⟨0, Nat.zero_le _, rfl, rfl⟩
  case round =>
    obtain ⟨k, hk, rfl, rfl⟩ := hrel
    have hbd := topOf_bd (xs.take k)
    by_cases hlt : k < n
    · obtain ⟨x, hx⟩ : ∃ x, xs[k]? = some x := ⟨_, List.getElem?_eq_getElem (by have := HN.out; omega)⟩
      obtain ⟨g, off, rfl, hg, hc⟩ := HX.out k x hx
      have hc0 := onB hbel0 hc
      have hs : topOf (xs.take (k + 1)) = topStep (topOf (xs.take k)) x := by
        rw [List.take_add_one, hx, Option.toList_some, topOf_snoc]
      have HS := Lib.hid hs; clear hs
      clear hx hc
      generalize topOf (xs.take k) = t at *
      by_cases hx : x ≤ 4095
      · by_cases ht : t < x
        all_goals
          go_wp2
          exact ⟨⟨k + 1, by omega, by go_num, by rw [HS.out]; unfold topStep; simp [hx, ht]⟩, by simp [intOf]; omega⟩
      · go_wp2
        exact ⟨⟨k + 1, by omega, by go_num, by rw [HS.out]; unfold topStep; simp [hx]⟩, by simp [intOf]; omega⟩
    · obtain rfl : k = n := by omega
      have htk : xs.take k = xs := List.take_of_length_le (by have := HN.out; omega)
      rw [htk] at hbd ⊢
      have hge := Lib.hid (topOf_ge xs)
      generalize topOf xs = t at *
      clear htk
      have cR := hR0.cell 0
      have fR := hR0.frozen 0
      by_cases ht : t < 0
      · go_wp2
        have cX := (hR0.set_ 0 (.slice none 0 0)).cell 0
        refine bodyPost_ret (v := .agg #[.slice none 0 0]) (by simp [results, Tryd.results43, go_sem, cX]) rfl ⟨_, rfl, ?_, hbel0.setCell (by simp) _⟩
        have h0 : setOf xs = 0 := by
          apply Nat.eq_of_testBit_eq; intro i
          rw [testBit_setOf, Nat.zero_testBit, decide_eq_false_iff_not]
          rintro ⟨h1, h2⟩
          have := hge.out _ h2 (by omega)
          omega
        rw [h0]
        exact IsSet.empty _
      · obtain ⟨T, rfl⟩ := Int.eq_ofNat_of_zero_le (Int.not_lt.1 ht)
        obtain ⟨L, hLe⟩ : ∃ L, L = T / 64 + 1 := ⟨_, rfl⟩
        have hL : L ≤ 64 := by omega
        have eL : (T : Int) / 64 + 1 = (L : Int) := by omega
        have hmk := make_u64 L (by omega)
        have HLe := Lib.hid hLe; clear hLe
        clear hk hlt
        go_wp2_with fail
        have hW1 := Blk.new W0 105 (zeros (.int .u64 0) L)
        have hb1 := (Below.refl W0.heap.size W0).alloc (Nat.le_refl _) (.cells (zeros (.int .u64 0) L) 105)
        generalize W0.alloc (.cells (zeros (.int .u64 0) L) 105) = W1 at hW1 hb1 ⊢
        rw [wordsOf_zero] at hW1
        have hR1 := hR0.below hb1 hR0.lt
        have hbel1 : Below w.heap.size w W1 := hbel0.trans (hb1.mono (by omega))
        rw [hz] at hb1 hW1
        clear hmk eL hz cR fR hbd
        go_loopw [30] (fun i wr => ∃ j : Nat, j ≤ k ∧ i = .int .i64 j ∧ Blk wr (w.heap.size + 1) 105 (wordsOf (setOf (xs.take j)) L) ∧ Below (w.heap.size + 1) W1 wr)
          (fun i _ => k - (intOf i).toNat)
        case atStart => exact ⟨0, Nat.zero_le _, rfl, hW1, Below.refl _ _⟩
        case round =>
          obtain ⟨j, hj, rfl, hb, hbel⟩ := hrel
          by_cases hlt : j < k
          · obtain ⟨x, hx⟩ : ∃ x, xs[j]? = some x := ⟨_, List.getElem?_eq_getElem (by have := HN.out; omega)⟩
            obtain ⟨g, off, rfl, hg, hc⟩ := HX.out j x hx
            have hc0 := onB hbel1 hc
            have hc1 : wr.cell? ⟨g, off + j, none⟩ = some (.int .i64 x) := (hbel.cell (p := ⟨g, off + j, none⟩) (by simp; omega)).trans hc0
            have hs : setOf (xs.take (j + 1)) = setStep (setOf (xs.take j)) x := by
              rw [List.take_add_one, hx, Option.toList_some, setOf_snoc]
            have HS := Lib.hid hs; clear hs
            have hle : x ≤ 4095 → x ≤ T := hge.out x (List.mem_of_getElem? hx)
            clear hx hc hc0
            generalize setOf (xs.take j) = N at *
            by_cases hx0 : 0 ≤ x
            · by_cases hxT : x ≤ T
              · obtain ⟨X, rfl⟩ := Int.eq_ofNat_of_zero_le hx0
                have h64 : X % 64 < 64 := Nat.mod_lt _ (by omega)
                have hXL : X / 64 < L := by have := HLe.out; omega
                have cW := hb.cell (X / 64)
                have fW := hb.frozen (X / 64)
                rw [wordsOf_get hXL] at cW
                have hsh := shl_form (X % 64) h64
                have hof := or_form N X
                have hXT : X ≤ T := by omega
                clear hle
                go_wp2_with fail
                have q1 := i64w (x := (X : Int) / 64) (by omega)
                have q2 : (X : Int).tmod 64 = (X : Int) % 64 := Int.tmod_eq_emod_of_nonneg (by omega)
                have q3 : (0 : Int) ≤ (X : Int) / 64 := by omega
                have q4 : (X : Int) / 64 < (L : Int) := by omega
                have q5 : ((X : Int) / 64).toNat = X / 64 := by omega
                have q6 : ((X : Int) % 64).toNat = X % 64 := by omega
                have q7 : (0 : Int) ≤ (X : Int) % 64 := by omega
                have q8 : (X : Int) % 64 < 64 := by omega
                refine wp_spine (fun W => Below wr.heap.size wr W) [0, 1, 2, 3, 4, 5, 6, 7, 8, 9] [10] (by kernel_rfl) (by kernel_rfl) ?_
                iterate 10 (refine wpE_op (v := ?_) rfl rfl (fun W hW => ?_) ?_; rotate_left; (have c1 := onB hW cW; go_simp; first | done | with_reducible rfl); simp only [Act.put, List.setIfInBounds_toArray, List.set_cons_zero, List.set_cons_succ])
                refine wpE_nil ⟨fun h => (by cases h), wpSp_op rfl (Below.refl _ _).drew ?_⟩
                go_wp2_with fail
                refine nxt_nil ?_
                go_wp2_with fail
                have hb2 := hb.drew.set_ (X / 64) (u64 (wd N (X / 64) ||| 2 ^ (X % 64)))
                rw [wordsOf_with] at hb2
                exact ⟨⟨j + 1, by omega, by go_num, by rw [HS.out]; unfold setStep; rw [if_pos ⟨hx0, by omega⟩, Int.toNat_natCast]; exact hb2, hbel.drew.setCell (by simp) _⟩, by simp [intOf]; omega⟩
              · have hn : ¬ (0 ≤ x ∧ x ≤ 4095) := by omega
                clear hle
                go_wp2
                exact ⟨⟨j + 1, by omega, by go_num, by rw [HS.out]; unfold setStep; rw [if_neg hn]; exact hb, hbel⟩, by simp [intOf]; omega⟩
            · have hn : ¬ (0 ≤ x ∧ x ≤ 4095) := by omega
              clear hle
              go_wp2
              exact ⟨⟨j + 1, by omega, by go_num, by rw [HS.out]; unfold setStep; rw [if_neg hn]; exact hb, hbel⟩, by simp [intOf]; omega⟩
          · obtain rfl : j = k := by omega
            have htk : xs.take j = xs := List.take_of_length_le (by have := HN.out; omega)
            rw [htk] at hb
            have hnw : nw (setOf xs) ≤ L := nw_setOf xs L fun x hx h => by have := hge.out x hx h; have := HLe.out; omega
            have hw : Words wr (some ⟨w.heap.size + 1, 0, none⟩) L (setOf xs) := ⟨fun _ => ⟨_, _, rfl, hb, fun i hi => wordsOf_get hi⟩, fun i hi => wd_ge (by omega)⟩
            have hR := hR1.below hbel (by omega)
            have cR := hR.cell 0
            have fR := hR.frozen 0
            have hbw : Below w.heap.size w wr := hbel1.trans (hbel.mono (by omega))
            clear hnw htk
            go_wp2_with fail
            refine (trim_any _ L L _ _ hw hL (Nat.le_refl _) hL).mono ?_
            rintro e w1 ⟨r, rfl, hr, hb1⟩
            obtain ⟨A1, c1, rfl, _⟩ := id hr
            have hr1 := onB hb1 cR
            have fr1 := onFrozen hb1 cR fR
            go_wp2_with fail
            have hX := (hR.below hb1 hR.lt).set_ 0 (.slice A1 (nw (setOf xs)) c1)
            have cX := hX.cell 0
            refine bodyPost_ret (v := .agg #[.slice A1 (nw (setOf xs)) c1]) (by simp [results, Tryd.results43, go_sem, cX]) rfl ⟨_, rfl, ?_, (hbw.trans (hb1.mono hbw.size)).setCell (by simp) _⟩
            exact hr.keep (KeepW.setCell (t := 65) (hR.below hb1 hR.lt) (by decide) _)
end Go.Proofs.YtjlcnbfkblmoeaaDoor
