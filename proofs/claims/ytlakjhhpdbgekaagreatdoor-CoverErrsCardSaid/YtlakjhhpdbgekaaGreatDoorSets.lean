import Derived.Test.YtlakjhhpdbgekaaGreatDoorWire
namespace Go.Proofs.YtlakjhhpdbgekaaGreatDoor
open Go.RowKit

/-- Without one member. -/
def withoutB (N : Nat) (i : Int) : Nat := if hasB N i = true then N ^^^ 2 ^ i.toNat else N
theorem testBit_without {N I : Nat} (h : N.testBit I = true) (j : Nat) : (N ^^^ 2 ^ I).testBit j = (N.testBit j && decide (j ≠ I)) := by
  rw [Nat.testBit_xor, Nat.testBit_two_pow]
  by_cases e : I = j
  · subst e; simp [h]
  · simp [e, show ¬ j = I from fun e' => e e'.symm]
theorem full_sub (x : Nat) : 18446744073709551615 - x = 2 ^ 64 - (x + 1) := by omega
theorem wd_without {N I : Nat} (h : N.testBit I = true) (k : Nat) : wd (N ^^^ 2 ^ I) k = if k = I / 64 then wd N k &&& (18446744073709551615 - 2 ^ (I % 64)) else wd N k := by
  apply Nat.eq_of_testBit_eq; intro i
  rw [testBit_wd, testBit_without h]
  by_cases hk : k = I / 64
  · rw [if_pos hk, Nat.testBit_and, testBit_wd, full_sub, Nat.testBit_two_pow_sub_succ (Nat.pow_lt_pow_right (by omega) (Nat.mod_lt _ (by omega))), Nat.testBit_two_pow]
    by_cases hi : i < 64
    · have e : (64 * k + i = I) ↔ (I % 64 = i) := by omega
      by_cases he : I % 64 = i
      · simp [hi, he, e.2 he]
      · have : ¬ 64 * k + i = I := fun h => he (e.1 h)
        simp [hi, he, this]
    · simp [hi]
  · rw [if_neg hk, testBit_wd]
    by_cases hi : i < 64
    · have : ¬ 64 * k + i = I := by omega
      simp [this]
    · simp [hi]
theorem nw_without {N I : Nat} (h : N.testBit I = true) : ∀ k, nw N ≤ k → wd (N ^^^ 2 ^ I) k = 0 := fun k hk => by
  rw [wd_without h, wd_ge hk]; split <;> simp
theorem andNot_form (N I : Nat) : bits .andNot .u64 (wd N (I / 64) : Int) ((2 ^ (I % 64) : Nat) : Int) = ((wd N (I / 64) &&& (18446744073709551615 - 2 ^ (I % 64)) : Nat) : Int) := by
  rw [u64_andNot_nat _ _ (wd_lt _ _) (Nat.pow_lt_pow_right (by omega) (Nat.mod_lt _ (by omega)))]
set_option maxRecDepth 100000 in
set_option maxHeartbeats 1000000 in
theorem without_no (v : Value) (N : Nat) (i : Int) (w : World) (hs : IsSet w v N) (hi : hasB N i = false) :
    Calls Tryz.prog 76 #[.agg #[v], .int .i64 i] w fun e w' => ∃ r, e = .returned (.agg #[r]) ∧ IsSet w' r N ∧ Below w.heap.size w w' := by
  obtain ⟨A, c, rfl, hN, _⟩ := id hs
  go_enter Tryz.func76, Tryz.ntmps76
  go_wp2_with fail
  refine absC2 fun W0 hA0 hR0 hbel0 hz => ?_
  have HZ := Lib.hid hz; clear hz
  have hcall := has_any _ N i W0 (hs.below hbel0)
  rw [hi] at hcall
  have HC := hideC hcall; clear hcall hi
  refine HC.out.mono ?_
  rintro e w1 ⟨rfl, hb1⟩
  have hA1 := hA0.below hb1 hA0.lt
  have hR1 := hR0.below hb1 hR0.lt
  have cA := hA1.cell 0
  have cR := hR1.cell 0
  have fR := hR1.frozen 0
  go_wp2_with fail
  have cX := (hR1.set_ 0 (.slice A (nw N) c)).cell 0
  refine bodyPost_ret (v := .agg #[.slice A (nw N) c]) (by simp [results, Tryz.results76, go_sem, cX]) rfl ⟨_, rfl, ?_, (hbel0.trans (hb1.mono hbel0.size)).setCell (by simp) _⟩
  exact ((hs.below hbel0).below hb1).keep (KeepW.setCell (t := 65) hR1 (by decide) _)
set_option maxRecDepth 100000 in
set_option maxHeartbeats 1000000 in
theorem without_yes (v : Value) (N I : Nat) (w : World) (hs : IsSet w v N) (hI : I ≤ 4095) (ht : N.testBit I = true) :
    Calls Tryz.prog 76 #[.agg #[v], .int .i64 I] w fun e w' => ∃ r, e = .returned (.agg #[r]) ∧ IsSet w' r (N ^^^ 2 ^ I) ∧ Below w.heap.size w w' := by
  obtain ⟨i0, hi0, hz0, hz1, hz2⟩ := info_parts info_u64
  obtain ⟨A, c, rfl, hN, hnc, hcm, h4⟩ := id hs
  have hlt : I / 64 < nw N := by
    rcases Nat.lt_or_ge (I / 64) (nw N) with h | h
    · exact h
    · rw [testBit_ge h (by omega)] at ht; cases ht
  obtain ⟨g, cs, rfl, hB, hcs⟩ := h4 (by omega)
  have HT := Lib.hid ht
  have hcall := fun W (h : IsSet W (.slice (some ⟨g, 0, none⟩) (nw N) c) N) => has_in _ N I W h hI
  rw [ht] at hcall
  have HC := hideC hcall; clear hcall ht h4
  have HCS := Lib.hid hcs; clear hcs
  go_enter Tryz.func76, Tryz.ntmps76
  go_wp2_with fail
  refine absC2 fun W0 hA0 hR0 hbel0 hz => ?_
  have HZ := Lib.hid hz; clear hz
  refine (HC.out W0 (hs.below hbel0)).mono ?_
  rintro e w1 ⟨rfl, hb1⟩
  have hA1 := hA0.below hb1 hA0.lt
  have hR1 := hR0.below hb1 hR0.lt
  have hB1 := (hB.below hbel0 hB.lt).below hb1 (Nat.lt_of_lt_of_le hB.lt hbel0.size)
  have cA := hA1.cell 0
  have lA := hA1.lt
  have lR := hR1.lt
  have hbw := hbel0.trans (hb1.mono hbel0.size)
  have hadd : ∀ (j : Nat) u, ((List.range (nw N)).map fun k => u64 (wd N k))[j]? = some u → (w1.alloc (.cells #[] 110)).cell? ((⟨g, 0, none⟩ : Addr).add j) = some u := fun j u hu => by
    rw [List.getElem?_map] at hu
    obtain ⟨k, hk, rfl⟩ := Option.map_eq_some_iff.1 hu
    obtain ⟨hj, hk2⟩ := List.getElem?_eq_some_iff.1 hk
    rw [List.length_range] at hj
    rw [List.getElem_range] at hk2
    subst hk2
    have e : (⟨g, 0, none⟩ : Addr).add j = ⟨g, j, none⟩ := by unfold Addr.add; split <;> simp_all
    rw [e, World.cell?_alloc_lt _ _ _ hB1.lt, hB1.cell j]
    exact HCS.out j hj
  have HADD := Lib.hid hadd; clear hadd
  have own0 := World.ownsRow_lit (base := w1.heap.size) (e := 110) (size := 1) w1 #[] 0 (Nat.le_refl _) (by decide) rfl
  have hb0 := (Below.refl w1.heap.size w1).alloc (Nat.le_refl _) (.cells #[] 110)
  clear hA0 hR0 hB hB1
  have hne0 : w.heap.size + 1 ≠ w1.heap.size := by omega
  have HS := hideC hs; clear hs
  go_wp2_with (at_builtin; refine wpList_append_lies _ rfl _ _ 63 rfl w1.heap.size 110 i0 (.int .u64 0) 1 8 Tryz.underlying63 hi0 hz0 hz1 hz2 rfl (by decide) _ _ _ rfl own0 ⟨g, 0, none⟩ (nw N) c ((List.range (nw N)).map fun k => u64 (wd N k)) rfl (by simp) HADD.out (by intro u hu; obtain ⟨x, _, rfl⟩ := List.mem_map.1 hu; rfl) (by omega) (by unfold maxLen; omega) (by omega) (by simp) _ rfl ?_)
  intro g5 cap5 w3 hown' hgrow hlies hlt5
  have hge : w1.heap.size ≤ g5 := (hown'.lt g5 rfl).1
  have hbe3 := hb0.grown hgrow (by simp) (fun q hq => (own0.lt q hq).1)
  have hR3 := hR1.below hbe3 lR
  have cW := hown'.cellAt (I / 64) (by omega)
  have fW := hown'.frozenAt (I / 64)
  rw [List.getElem?_map, List.getElem?_range hlt, Option.map_some] at cW
  have hst := (hown'.stored (I / 64) (u64 (wd N (I / 64) &&& (18446744073709551615 - 2 ^ (I % 64))))).1
  have hlst : ((List.range (nw N)).map fun k => u64 (wd N k)).set (I / 64) (u64 (wd N (I / 64) &&& (18446744073709551615 - 2 ^ (I % 64)))) = (List.range (nw N)).map fun k => u64 (wd (N ^^^ 2 ^ I) k) := by
    apply List.ext_getElem
    · simp
    · intro k h1 h2
      have hk : k < nw N := by simpa using h2
      rw [List.getElem_set]
      by_cases e : I / 64 = k
      · rw [if_pos e]
        simp only [List.getElem_map, List.getElem_range]
        rw [wd_without HT.out, if_pos e.symm, ← e]
      · rw [if_neg e]
        simp only [List.getElem_map, List.getElem_range]
        rw [wd_without HT.out, if_neg fun h => e h.symm]
  rw [hlst] at hst
  clear hlst
  have HST := hideC hst; clear hst
  have h64 : I % 64 < 64 := Nat.mod_lt _ (by omega)
  have hsh := shl_form (I % 64) h64
  have hof := andNot_form N I
  have hpw : ((2 ^ (I % 64) : Nat) : Int) = (2 : Int) ^ (I % 64) := by simp
  rw [hpw] at hof
  clear hpw
  go_wp2_with fail
  have q1 := i64w (x := (I : Int) / 64) (by omega)
  have q2 : (I : Int).tmod 64 = (I : Int) % 64 := Int.tmod_eq_emod_of_nonneg (by omega)
  have q3 : (0 : Int) ≤ (I : Int) / 64 := by omega
  have q4 : (I : Int) / 64 < (nw N : Int) := by omega
  have q5 : ((I : Int) / 64).toNat = I / 64 := by omega
  have q6 : ((I : Int) % 64).toNat = I % 64 := by omega
  have q7 : (0 : Int) ≤ (I : Int) % 64 := by omega
  have q8 : (I : Int) % 64 < 64 := by omega
  refine wp_spine (fun W => Below w3.heap.size w3 W) [0, 1, 2, 3, 4, 5, 6, 7, 8, 9] [10] (by kernel_rfl) (by kernel_rfl) ?_
  iterate 10 (refine wpE_op (v := ?_) rfl rfl (fun W hW => ?_) ?_; rotate_left; (have c1 := onB hW cW; go_simp; first | done | with_reducible rfl); simp only [Act.put, List.setIfInBounds_toArray, List.set_cons_zero, List.set_cons_succ])
  refine wpE_nil ⟨fun h => (by cases h), wpSp_op rfl (Below.refl _ _).drew ?_⟩
  clear q1 q2 q3 q4 q5 q6 q7 q8
  go_wp2_with fail
  refine nxt_nil ?_
  obtain ⟨W4, hW4⟩ : ∃ W4, W4 = w3.setCell ⟨g5, I / 64, none⟩ (u64 (wd N (I / 64) &&& (18446744073709551615 - 2 ^ (I % 64)))) := ⟨_, rfl⟩
  have hR4 : Blk W4 (w.heap.size + 1) 65 #[.slice none 0 0] := by rw [hW4]; exact hR3.far (p := ⟨g5, I / 64, none⟩) (by show w.heap.size + 1 ≠ g5; omega) _
  have hb4 : Below w.heap.size w W4 := by
    rw [hW4]
    exact (hbw.trans (hbe3.mono hbw.size)).setCell (p := ⟨g5, I / 64, none⟩) (by have := hbw.size; show w.heap.size ≤ g5; omega) _
  have hst := HST.out
  rw [← hW4] at hst ⊢
  obtain ⟨_, _, e1, hc5, hc6, _, _⟩ := row_of_own hst
  cases e1
  have hwords : Words W4.drew (some ⟨g5, 0, none⟩) (nw N) (N ^^^ 2 ^ I) := by
    refine ⟨fun _ => ?_, nw_without HT.out⟩
    rcases hst.2 with ⟨h', _⟩ | ⟨g', cap', cur, h', hb', hg', hnc', hcm', hcs', htake⟩
    · cases h'
    · cases h'
      refine ⟨g5, cur, rfl, hg', fun k hk => ?_⟩
      have h1 := congrArg (fun l => l[k]?) htake
      simp only [Nat.mul_one, List.getElem?_take_of_lt hk, Array.getElem?_toList] at h1
      rw [h1, List.getElem?_map, List.getElem?_range hk]; rfl
  have HTR := hideC (trim_any (some ⟨g5, 0, none⟩) (nw N) cap5 (N ^^^ 2 ^ I) W4.drew hwords hN hc5 hc6)
  clear hW4 HST hst hwords cW fW hof hsh
  go_wp2_with fail
  refine HTR.out.mono ?_
  rintro e w6 ⟨r, rfl, hr, hb6⟩
  have hb7 : Below W4.heap.size W4 w6 := (Below.refl _ _).drew.trans hb6
  have hR6 := hR4.below hb7 hR4.lt
  obtain ⟨A6, c6, rfl, _⟩ := id hr
  have cR := hR6.cell 0
  have fR := hR6.frozen 0
  go_wp2_with fail
  have cX := (hR6.set_ 0 (.slice A6 (nw (N ^^^ 2 ^ I)) c6)).cell 0
  refine bodyPost_ret (v := .agg #[.slice A6 (nw (N ^^^ 2 ^ I)) c6]) (by simp [results, Tryz.results76, go_sem, cX]) rfl ⟨_, rfl, ?_, (hb4.trans (hb7.mono hb4.size)).setCell (by simp) _⟩
  exact hr.keep (KeepW.setCell (t := 65) hR6 (by decide) _)
theorem without_any (v : Value) (N : Nat) (i : Int) (w : World) (hs : IsSet w v N) :
    Calls Tryz.prog 76 #[.agg #[v], .int .i64 i] w fun e w' => ∃ r, e = .returned (.agg #[r]) ∧ IsSet w' r (withoutB N i) ∧ Below w.heap.size w w' := by
  unfold withoutB
  by_cases h : hasB N i = true
  · rw [if_pos h]
    have hi : 0 ≤ i := by
      rcases Int.lt_or_le i 0 with h0 | h0
      · rw [hasB_neg N h0] at h; cases h
      · exact h0
    obtain ⟨I, rfl⟩ := Int.eq_ofNat_of_zero_le hi
    rw [hasB_nat] at h
    rw [Int.toNat_natCast]
    refine without_yes v N I w hs ?_ h
    rcases Nat.lt_or_ge I 4096 with h0 | h0
    · omega
    · rw [testBit_big (by obtain ⟨_, _, _, x, _⟩ := hs; exact x) h0] at h; cases h
  · rw [if_neg h]
    exact without_no v N i w hs (by simpa using h)

set_option maxRecDepth 100000 in
set_option maxHeartbeats 1000000 in
theorem cloneS_any (g off c : Nat) (vs : List Value) (Ns : List Nat) (w : World) (hr : Row w (some ⟨g, off, none⟩) vs) (hs : Sets w vs Ns) (h0 : 0 < Ns.length) (hl : Ns.length ≤ 4096) :
    Calls Tryz.prog 81 #[.slice (some ⟨g, off, none⟩) Ns.length c] w fun e w' => ∃ g' c', e = .returned (.slice (some ⟨g', 0, none⟩) Ns.length c') ∧ w'.ownsRow w.heap.size 65 1 (.slice (some ⟨g', 0, none⟩) Ns.length c') Ns.length vs ∧ Below w.heap.size w w' := by
  obtain ⟨i0, hi0, hz0, hz1, hz2⟩ := info_parts info_set
  obtain ⟨g1, o1, he, hg, hc⟩ := hr (by rw [hs.1]; exact h0)
  cases he
  have hadd : ∀ (j : Nat) u, vs[j]? = some u → (w.alloc (.cells #[] 65)).cell? ((⟨g, off, none⟩ : Addr).add j) = some u := fun j u hu => by
    have := hc j u hu
    have e : (⟨g, off, none⟩ : Addr).add j = ⟨g, off + j, none⟩ := by unfold Addr.add; split <;> simp_all
    rw [e]; exact (World.cell?_alloc_lt _ _ _ hg).trans this
  have hone : ∀ u ∈ vs, u.oneCell' = true := fun u hu => by
    obtain ⟨j, hj⟩ := List.getElem?_of_mem hu
    have hlt : j < Ns.length := by rw [← hs.1]; exact (List.getElem?_eq_some_iff.1 hj).1
    obtain ⟨A, d, e, _⟩ := hs.at_ hlt
    rw [hj] at e
    cases e; rfl
  have hlen : vs.length = Ns.length * 1 := by rw [hs.1]; omega
  have HADD := Lib.hid hadd; have HONE := Lib.hid hone; have HLEN := Lib.hid hlen
  clear hadd hc hone hlen hr hs
  have own0 := World.ownsRow_lit (base := w.heap.size) (e := 65) (size := 1) w #[] 0 (Nat.le_refl _) (by decide) rfl
  have hb0 := (Below.refl w.heap.size w).alloc (Nat.le_refl _) (.cells #[] 65)
  have hnil := fun W => run_eql_some_nil (P := Tryz.prog) Tryz.underlying83 ⟨g, off, none⟩ Ns.length c W
  go_enter Tryz.func81, Tryz.ntmps81
  go_wp2_with (at_builtin; refine wpList_append_lies _ rfl _ _ 83 rfl w.heap.size 65 i0 (.agg #[.slice none 0 0]) 1 24 Tryz.underlying83 hi0 hz0 hz1 hz2 rfl (by decide) _ _ _ rfl own0 ⟨g, off, none⟩ Ns.length c vs rfl HLEN.out HADD.out HONE.out h0 (by unfold maxLen; omega) (by omega) (by simp) _ rfl ?_)
  intro g5 cap5 w3 hown' hgrow hlies hlt5
  have hbe3 := hb0.grown hgrow (by simp) (fun q hq => (own0.lt q hq).1)
  go_wp2_with fail
  go_ret
  exact ⟨g5, cap5, by simp, by simpa using hown', hbe3⟩
/-- One row is another set. -/
theorem Sets.put {w : World} {vs : List Value} {Ns : List Nat} {v : Value} {N I : Nat} (h : Sets w vs Ns) (hs : IsSet w v N) : Sets w (vs.set I v) (Ns.set I N) := by
  refine ⟨by simp [h.1], fun k u M hu hM => ?_⟩
  rw [List.getElem?_set] at hu hM
  by_cases e : I = k
  · rw [if_pos e] at hu hM
    split at hu
    · split at hM
      · cases hu; cases hM; exact hs
      · cases hM
    · cases hu
  · rw [if_neg e] at hu hM
    exact h.2 k u M hu hM
theorem setm_nil (i j : Int) (one : Bool) (w : World) :
    Calls Tryz.prog 28 #[.pointer none, .int .i64 i, .int .i64 j, .bool one] w fun e w' => e = pair (.pointer none) 1 ∧ w = w' := by
  go_enter Tryz.func28, Tryz.ntmps28
  go_wp2
  go_ret2
  exact ⟨rfl, rfl⟩
end Go.Proofs.YtlakjhhpdbgekaaGreatDoor
