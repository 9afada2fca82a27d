import Derived.Test.YtfbkcdhmggjbaaaGreatDoorWire
namespace Go.Proofs.YtfbkcdhmggjbaaaGreatDoor
open Go.RowKit

/-- Without one member. -/
def withoutB (N : Nat) (i : Int) : Nat := if hasB N i = true then N ^^^ 2 ^ i.toNat else N
theorem testBit_without {N I : Nat} (h : N.testBit I = true) (j : Nat) : (N ^^^ 2 ^ I).testBit j = (N.testBit j && decide (j ≠ I)) := by
  rw [Nat.testBit_xor, Nat.testBit_two_pow]
  by_cases e : I = j
  · subst e; simp [h]
  · simp [e, show ¬ j = I from fun e' => e e'.symm]
theorem full_sub (x : Nat) : 18446744073709551615 - x = 2 ^ 64 - (x + 1) := by omega
theorem wd_without {N I : Nat} (h : N.testBit I = true) (k : Nat) : wd (N ^^^ 2 ^ I) k = if k = I / 64 then wd N k &&& (18446744073709551615 - 2 ^ (I % 64)) else wd N k := by
  apply Nat.eq_of_testBit_eq; intro i
  rw [testBit_wd, testBit_without h]
  by_cases hk : k = I / 64
  · rw [if_pos hk, Nat.testBit_and, testBit_wd, full_sub, Nat.testBit_two_pow_sub_succ (Nat.pow_lt_pow_right (by omega) (Nat.mod_lt _ (by omega))), Nat.testBit_two_pow]
    by_cases hi : i < 64
    · have e : (64 * k + i = I) ↔ (I % 64 = i) := by omega
      by_cases he : I % 64 = i
      · simp [hi, he, e.2 he]
      · have : ¬ 64 * k + i = I := fun h => he (e.1 h)
        simp [hi, he, this]
    · simp [hi]
  · rw [if_neg hk, testBit_wd]
    by_cases hi : i < 64
    · have : ¬ 64 * k + i = I := by omega
      simp [this]
    · simp [hi]
theorem nw_without {N I : Nat} (h : N.testBit I = true) : ∀ k, nw N ≤ k → wd (N ^^^ 2 ^ I) k = 0 := fun k hk => by
  rw [wd_without h, wd_ge hk]; split <;> simp
theorem andNot_form (N I : Nat) : bits .andNot .u64 (wd N (I / 64) : Int) ((2 ^ (I % 64) : Nat) : Int) = ((wd N (I / 64) &&& (18446744073709551615 - 2 ^ (I % 64)) : Nat) : Int) := by
  rw [u64_andNot_nat _ _ (wd_lt _ _) (Nat.pow_lt_pow_right (by omega) (Nat.mod_lt _ (by omega)))]
set_option maxRecDepth 100000 in
set_option maxHeartbeats 1000000 in
theorem without_no (v : Value) (N : Nat) (i : Int) (w : World) (hs : IsSet w v N) (hi : hasB N i = false) :
    Calls Tryz.prog 43 #[.agg #[v], .int .i64 i] w fun e w' => ∃ r, e = .returned (.agg #[r]) ∧ IsSet w' r N ∧ Below w.heap.size w w' := by
  obtain ⟨A, c, rfl, hN, _⟩ := id hs
  go_enter Tryz.func43, Tryz.ntmps43
  go_wp2_with fail
  refine absC2 fun W0 hA0 hR0 hbel0 hz => ?_
  have HZ := Lib.hid hz; clear hz
  have hcall := has_any _ N i W0 (hs.below hbel0)
  rw [hi] at hcall
  have HC := hideC hcall; clear hcall hi
  refine HC.out.mono ?_
  rintro e w1 ⟨rfl, hb1⟩
  have hA1 := hA0.below hb1 hA0.lt
  have hR1 := hR0.below hb1 hR0.lt
  have cA := hA1.cell 0
  have cR := hR1.cell 0
  have fR := hR1.frozen 0
  go_wp2_with fail
  have cX := (hR1.set_ 0 (.slice A (nw N) c)).cell 0
  refine bodyPost_ret (v := .agg #[.slice A (nw N) c]) (by simp [results, Tryz.results43, go_sem, cX]) rfl ⟨_, rfl, ?_, (hbel0.trans (hb1.mono hbel0.size)).setCell (by simp) _⟩
  exact ((hs.below hbel0).below hb1).keep (KeepW.setCell (t := 74) hR1 (by decide) _)
set_option maxRecDepth 100000 in
set_option maxHeartbeats 1000000 in
theorem without_yes (v : Value) (N I : Nat) (w : World) (hs : IsSet w v N) (hI : I ≤ 4095) (ht : N.testBit I = true) :
    Calls Tryz.prog 43 #[.agg #[v], .int .i64 I] w fun e w' => ∃ r, e = .returned (.agg #[r]) ∧ IsSet w' r (N ^^^ 2 ^ I) ∧ Below w.heap.size w w' := by
  obtain ⟨i0, hi0, hz0, hz1, hz2⟩ := info_parts info_u64
  obtain ⟨A, c, rfl, hN, hnc, hcm, h4⟩ := id hs
  have hlt : I / 64 < nw N := by
    rcases Nat.lt_or_ge (I / 64) (nw N) with h | h
    · exact h
    · rw [testBit_ge h (by omega)] at ht; cases ht
  obtain ⟨g, cs, rfl, hB, hcs⟩ := h4 (by omega)
  have HT := Lib.hid ht
  have hcall := fun W (h : IsSet W (.slice (some ⟨g, 0, none⟩) (nw N) c) N) => has_in _ N I W h hI
  rw [ht] at hcall
  have HC := hideC hcall; clear hcall ht h4
  have HCS := Lib.hid hcs; clear hcs
  go_enter Tryz.func43, Tryz.ntmps43
  go_wp2_with fail
  refine absC2 fun W0 hA0 hR0 hbel0 hz => ?_
  have HZ := Lib.hid hz; clear hz
  refine (HC.out W0 (hs.below hbel0)).mono ?_
  rintro e w1 ⟨rfl, hb1⟩
  have hA1 := hA0.below hb1 hA0.lt
  have hR1 := hR0.below hb1 hR0.lt
  have hB1 := (hB.below hbel0 hB.lt).below hb1 (Nat.lt_of_lt_of_le hB.lt hbel0.size)
  have cA := hA1.cell 0
  have lA := hA1.lt
  have lR := hR1.lt
  have hbw := hbel0.trans (hb1.mono hbel0.size)
  have hadd : ∀ (j : Nat) u, ((List.range (nw N)).map fun k => u64 (wd N k))[j]? = some u → (w1.alloc (.cells #[] 158)).cell? ((⟨g, 0, none⟩ : Addr).add j) = some u := fun j u hu => by
    rw [List.getElem?_map] at hu
    obtain ⟨k, hk, rfl⟩ := Option.map_eq_some_iff.1 hu
    obtain ⟨hj, hk2⟩ := List.getElem?_eq_some_iff.1 hk
    rw [List.length_range] at hj
    rw [List.getElem_range] at hk2
    subst hk2
    have e : (⟨g, 0, none⟩ : Addr).add j = ⟨g, j, none⟩ := by unfold Addr.add; split <;> simp_all
    rw [e, World.cell?_alloc_lt _ _ _ hB1.lt, hB1.cell j]
    exact HCS.out j hj
  have HADD := Lib.hid hadd; clear hadd
  have own0 := World.ownsRow_lit (base := w1.heap.size) (e := 158) (size := 1) w1 #[] 0 (Nat.le_refl _) (by decide) rfl
  have hb0 := (Below.refl w1.heap.size w1).alloc (Nat.le_refl _) (.cells #[] 158)
  clear hA0 hR0 hB hB1
  have hne0 : w.heap.size + 1 ≠ w1.heap.size := by omega
  have HS := hideC hs; clear hs
  go_wp2_with (at_builtin; refine wpList_append_lies _ rfl _ _ 72 rfl w1.heap.size 158 i0 (.int .u64 0) 1 8 Tryz.underlying72 hi0 hz0 hz1 hz2 rfl (by decide) _ _ _ rfl own0 ⟨g, 0, none⟩ (nw N) c ((List.range (nw N)).map fun k => u64 (wd N k)) rfl (by simp) HADD.out (by intro u hu; obtain ⟨x, _, rfl⟩ := List.mem_map.1 hu; rfl) (by omega) (by unfold maxLen; omega) (by omega) (by simp) _ rfl ?_)
  intro g5 cap5 w3 hown' hgrow hlies hlt5
  have hge : w1.heap.size ≤ g5 := (hown'.lt g5 rfl).1
  have hbe3 := hb0.grown hgrow (by simp) (fun q hq => (own0.lt q hq).1)
  have hR3 := hR1.below hbe3 lR
  have cW := hown'.cellAt (I / 64) (by omega)
  have fW := hown'.frozenAt (I / 64)
  rw [List.getElem?_map, List.getElem?_range hlt, Option.map_some] at cW
  have hst := (hown'.stored (I / 64) (u64 (wd N (I / 64) &&& (18446744073709551615 - 2 ^ (I % 64))))).1
  have hlst : ((List.range (nw N)).map fun k => u64 (wd N k)).set (I / 64) (u64 (wd N (I / 64) &&& (18446744073709551615 - 2 ^ (I % 64)))) = (List.range (nw N)).map fun k => u64 (wd (N ^^^ 2 ^ I) k) := by
    apply List.ext_getElem
    · simp
    · intro k h1 h2
      have hk : k < nw N := by simpa using h2
      rw [List.getElem_set]
      by_cases e : I / 64 = k
      · rw [if_pos e]
        simp only [List.getElem_map, List.getElem_range]
        rw [wd_without HT.out, if_pos e.symm, ← e]
      · rw [if_neg e]
        simp only [List.getElem_map, List.getElem_range]
        rw [wd_without HT.out, if_neg fun h => e h.symm]
  rw [hlst] at hst
  clear hlst
  have HST := hideC hst; clear hst
  have h64 : I % 64 < 64 := Nat.mod_lt _ (by omega)
  have hsh := shl_form (I % 64) h64
  have hof := andNot_form N I
  have hpw : ((2 ^ (I % 64) : Nat) : Int) = (2 : Int) ^ (I % 64) := by simp
  rw [hpw] at hof
  clear hpw
  go_wp2_with fail
  have q1 := i64w (x := (I : Int) / 64) (by omega)
  have q2 : (I : Int).tmod 64 = (I : Int) % 64 := Int.tmod_eq_emod_of_nonneg (by omega)
  have q3 : (0 : Int) ≤ (I : Int) / 64 := by omega
  have q4 : (I : Int) / 64 < (nw N : Int) := by omega
  have q5 : ((I : Int) / 64).toNat = I / 64 := by omega
  have q6 : ((I : Int) % 64).toNat = I % 64 := by omega
  have q7 : (0 : Int) ≤ (I : Int) % 64 := by omega
  have q8 : (I : Int) % 64 < 64 := by omega
  refine wp_spine (fun W => Below w3.heap.size w3 W) [0, 1, 2, 3, 4, 5, 6, 7, 8, 9] [10] (by kernel_rfl) (by kernel_rfl) ?_
  iterate 10 (refine wpE_op (v := ?_) rfl rfl (fun W hW => ?_) ?_; rotate_left; (have c1 := onB hW cW; go_simp; first | done | with_reducible rfl); simp only [Act.put, List.setIfInBounds_toArray, List.set_cons_zero, List.set_cons_succ])
  refine wpE_nil ⟨fun h => (by cases h), wpSp_op rfl (Below.refl _ _).drew ?_⟩
  clear q1 q2 q3 q4 q5 q6 q7 q8
  go_wp2_with fail
  refine nxt_nil ?_
  obtain ⟨W4, hW4⟩ : ∃ W4, W4 = w3.setCell ⟨g5, I / 64, none⟩ (u64 (wd N (I / 64) &&& (18446744073709551615 - 2 ^ (I % 64)))) := ⟨_, rfl⟩
  have hR4 : Blk W4 (w.heap.size + 1) 74 #[.slice none 0 0] := by rw [hW4]; exact hR3.far (p := ⟨g5, I / 64, none⟩) (by show w.heap.size + 1 ≠ g5; omega) _
  have hb4 : Below w.heap.size w W4 := by
    rw [hW4]
    exact (hbw.trans (hbe3.mono hbw.size)).setCell (p := ⟨g5, I / 64, none⟩) (by have := hbw.size; show w.heap.size ≤ g5; omega) _
  have hst := HST.out
  rw [← hW4] at hst ⊢
  obtain ⟨_, _, e1, hc5, hc6, _, _⟩ := row_of_own hst
  cases e1
  have hwords : Words W4.drew (some ⟨g5, 0, none⟩) (nw N) (N ^^^ 2 ^ I) := by
    refine ⟨fun _ => ?_, nw_without HT.out⟩
    rcases hst.2 with ⟨h', _⟩ | ⟨g', cap', cur, h', hb', hg', hnc', hcm', hcs', htake⟩
    · cases h'
    · cases h'
      refine ⟨g5, cur, rfl, hg', fun k hk => ?_⟩
      have h1 := congrArg (fun l => l[k]?) htake
      simp only [Nat.mul_one, List.getElem?_take_of_lt hk, Array.getElem?_toList] at h1
      rw [h1, List.getElem?_map, List.getElem?_range hk]; rfl
  have HTR := hideC (trim_any (some ⟨g5, 0, none⟩) (nw N) cap5 (N ^^^ 2 ^ I) W4.drew hwords hN hc5 hc6)
  clear hW4 HST hst hwords cW fW hof hsh
  go_wp2_with fail
  refine HTR.out.mono ?_
  rintro e w6 ⟨r, rfl, hr, hb6⟩
  have hb7 : Below W4.heap.size W4 w6 := (Below.refl _ _).drew.trans hb6
  have hR6 := hR4.below hb7 hR4.lt
  obtain ⟨A6, c6, rfl, _⟩ := id hr
  have cR := hR6.cell 0
  have fR := hR6.frozen 0
  go_wp2_with fail
  have cX := (hR6.set_ 0 (.slice A6 (nw (N ^^^ 2 ^ I)) c6)).cell 0
  refine bodyPost_ret (v := .agg #[.slice A6 (nw (N ^^^ 2 ^ I)) c6]) (by simp [results, Tryz.results43, go_sem, cX]) rfl ⟨_, rfl, ?_, (hb4.trans (hb7.mono hb4.size)).setCell (by simp) _⟩
  exact hr.keep (KeepW.setCell (t := 74) hR6 (by decide) _)
theorem without_any (v : Value) (N : Nat) (i : Int) (w : World) (hs : IsSet w v N) :
    Calls Tryz.prog 43 #[.agg #[v], .int .i64 i] w fun e w' => ∃ r, e = .returned (.agg #[r]) ∧ IsSet w' r (withoutB N i) ∧ Below w.heap.size w w' := by
  unfold withoutB
  by_cases h : hasB N i = true
  · rw [if_pos h]
    have hi : 0 ≤ i := by
      rcases Int.lt_or_le i 0 with h0 | h0
      · rw [hasB_neg N h0] at h; cases h
      · exact h0
    obtain ⟨I, rfl⟩ := Int.eq_ofNat_of_zero_le hi
    rw [hasB_nat] at h
    rw [Int.toNat_natCast]
    refine without_yes v N I w hs ?_ h
    rcases Nat.lt_or_ge I 4096 with h0 | h0
    · omega
    · rw [testBit_big (by obtain ⟨_, _, _, x, _⟩ := hs; exact x) h0] at h; cases h
  · rw [if_neg h]
    exact without_no v N i w hs (by simpa using h)

set_option maxRecDepth 100000 in
set_option maxHeartbeats 1000000 in
theorem cloneS_any (g off c : Nat) (vs : List Value) (Ns : List Nat) (w : World) (hr : Row w (some ⟨g, off, none⟩) vs) (hs : Sets w vs Ns) (h0 : 0 < Ns.length) (hl : Ns.length ≤ 4096) :
    Calls Tryz.prog 56 #[.slice (some ⟨g, off, none⟩) Ns.length c] w fun e w' => ∃ g' c', e = .returned (.slice (some ⟨g', 0, none⟩) Ns.length c') ∧ w'.ownsRow w.heap.size 74 1 (.slice (some ⟨g', 0, none⟩) Ns.length c') Ns.length vs ∧ Below w.heap.size w w' := by
  obtain ⟨i0, hi0, hz0, hz1, hz2⟩ := info_parts info_set
  obtain ⟨g1, o1, he, hg, hc⟩ := hr (by rw [hs.1]; exact h0)
  cases he
  have hadd : ∀ (j : Nat) u, vs[j]? = some u → (w.alloc (.cells #[] 74)).cell? ((⟨g, off, none⟩ : Addr).add j) = some u := fun j u hu => by
    have := hc j u hu
    have e : (⟨g, off, none⟩ : Addr).add j = ⟨g, off + j, none⟩ := by unfold Addr.add; split <;> simp_all
    rw [e]; exact (World.cell?_alloc_lt _ _ _ hg).trans this
  have hone : ∀ u ∈ vs, u.oneCell' = true := fun u hu => by
    obtain ⟨j, hj⟩ := List.getElem?_of_mem hu
    have hlt : j < Ns.length := by rw [← hs.1]; exact (List.getElem?_eq_some_iff.1 hj).1
    obtain ⟨A, d, e, _⟩ := hs.at_ hlt
    rw [hj] at e
    cases e; rfl
  have hlen : vs.length = Ns.length * 1 := by rw [hs.1]; omega
  have HADD := Lib.hid hadd; have HONE := Lib.hid hone; have HLEN := Lib.hid hlen
  clear hadd hc hone hlen hr hs
  have own0 := World.ownsRow_lit (base := w.heap.size) (e := 74) (size := 1) w #[] 0 (Nat.le_refl _) (by decide) rfl
  have hb0 := (Below.refl w.heap.size w).alloc (Nat.le_refl _) (.cells #[] 74)
  have hnil := fun W => run_eql_some_nil (P := Tryz.prog) Tryz.underlying71 ⟨g, off, none⟩ Ns.length c W
  go_enter Tryz.func56, Tryz.ntmps56
  go_wp2_with (at_builtin; refine wpList_append_lies _ rfl _ _ 71 rfl w.heap.size 74 i0 (.agg #[.slice none 0 0]) 1 24 Tryz.underlying71 hi0 hz0 hz1 hz2 rfl (by decide) _ _ _ rfl own0 ⟨g, off, none⟩ Ns.length c vs rfl HLEN.out HADD.out HONE.out h0 (by unfold maxLen; omega) (by omega) (by simp) _ rfl ?_)
  intro g5 cap5 w3 hown' hgrow hlies hlt5
  have hbe3 := hb0.grown hgrow (by simp) (fun q hq => (own0.lt q hq).1)
  go_wp2_with fail
  go_ret
  exact ⟨g5, cap5, by simp, by simpa using hown', hbe3⟩
/-- One row is another set. -/
theorem Sets.put {w : World} {vs : List Value} {Ns : List Nat} {v : Value} {N I : Nat} (h : Sets w vs Ns) (hs : IsSet w v N) : Sets w (vs.set I v) (Ns.set I N) := by
  refine ⟨by simp [h.1], fun k u M hu hM => ?_⟩
  rw [List.getElem?_set] at hu hM
  by_cases e : I = k
  · rw [if_pos e] at hu hM
    split at hu
    · split at hM
      · cases hu; cases hM; exact hs
      · cases hM
    · cases hu
  · rw [if_neg e] at hu hM
    exact h.2 k u M hu hM
/-- The rows with one element changed. -/
def mset (Ns : List Nat) (I J : Nat) (one : Bool) : List Nat := Ns.set I (if one then withB (Ns.getD I 0) J else withoutB (Ns.getD I 0) J)
theorem setm_nil (i j : Int) (one : Bool) (w : World) :
    Calls Tryz.prog 18 #[.pointer none, .int .i64 i, .int .i64 j, .bool one] w fun e w' => e = pair (.pointer none) 1 ∧ w = w' := by
  go_enter Tryz.func18, Tryz.ntmps18
  go_wp2
  go_ret2
  exact ⟨rfl, rfl⟩
set_option maxRecDepth 100000 in
set_option maxHeartbeats 1000000 in
theorem setm_out (p C : Nat) (Ns : List Nat) (i j : Int) (one : Bool) (w : World) (h : IsMat w p C Ns) (hi : insideB Ns.length C i j = false) :
    Calls Tryz.prog 18 #[ptr p, .int .i64 i, .int .i64 j, .bool one] w fun e w' => e = pair (.pointer none) 2 ∧ w = w' := by
  have hin := inside_any p C Ns i j w h
  rw [hi] at hin
  have HIN := hideC hin; clear hin hi h
  go_enter Tryz.func18, Tryz.ntmps18
  go_wp2_with fail
  refine HIN.out.mono ?_
  rintro e w' ⟨rfl, rfl⟩
  go_wp2_with fail
  go_ret2
  exact ⟨rfl, rfl⟩
set_option maxRecDepth 100000 in
set_option maxHeartbeats 4000000 in
theorem setm_new (p C : Nat) (Ns : List Nat) (I J : Nat) (one : Bool) (w : World) (h : IsMat w p C Ns) (hI : I < Ns.length) (hJ : J < C) :
    Calls Tryz.prog 18 #[ptr p, .int .i64 I, .int .i64 J, .bool one] w fun e w' => ∃ q, e = pair (ptr q) 0 ∧ w.heap.size ≤ q ∧ IsMat w' q C (mset Ns I J one) ∧ Below w.heap.size w w' := by
  have hin := inside_any p C Ns I J w h
  have hi : insideB Ns.length C I J = true := by unfold insideB; rw [decide_eq_true_eq]; omega
  rw [hi] at hin
  have HIN := hideC hin; clear hin hi
  obtain ⟨h1, h2, A, c, vs, hB, hc, hr, hs⟩ := h
  obtain ⟨g, off, rfl, hg, hcell⟩ := hr (by rw [hs.1]; omega)
  have m0 := hB.cell 0
  have m1 := hB.cell 1
  clear hcell
  go_enter Tryz.func18, Tryz.ntmps18
  go_wp2_with fail
  refine HIN.out.mono ?_
  rintro e w' ⟨rfl, rfl⟩
  go_wp2_with fail
  have HCL := hideC (cloneS_any g off c vs Ns w.drew (hr.below (Below.refl _ _).drew) (hs.below (Below.refl _ _).drew) (by omega) h2)
  clear hr
  refine wp_spine (fun W => Below w.heap.size w W) [0, 1, 2, 3, 4, 5, 6, 7] [8, 9, 10, 11] (by kernel_rfl) (by kernel_rfl) ?_
  iterate 8 (refine wpE_op (v := ?_) rfl rfl (fun W hW => ?_) ?_; rotate_left; (have x1 := onB hW m0; have x2 := onB hW m1; go_simp; first | done | with_reducible rfl); simp only [Act.put, List.setIfInBounds_toArray, List.set_cons_zero, List.set_cons_succ])
  refine wpE_nil ⟨fun h => (by cases h), wpSp_op rfl (Below.refl _ _).drew ?_⟩
  go_wp2_with fail
  refine HCL.out.mono ?_
  rintro e w1 ⟨g5, c5, rfl, hown, hb1⟩
  have hb2 : Below w.heap.size w w1 := (Below.refl _ _).drew.trans hb1
  go_wp2_with fail
  refine nxt_op rfl hb2 ?_
  go_wp2_with fail
  refine nxt_op rfl hb2 ?_
  go_wp2_with fail
  have hQ := Blk.new w1 103 #[.int .i64 (C : Int), .slice (some ⟨g5, 0, none⟩) Ns.length c5]
  have hb3 := (Below.refl w1.heap.size w1).alloc (Nat.le_refl _) (.cells #[.int .i64 (C : Int), .slice (some ⟨g5, 0, none⟩) Ns.length c5] 103)
  have hown3 := own_below hown hb3
  have hb4 := hb2.trans (hb3.mono hb2.size)
  have hsz : w.heap.size ≤ w1.heap.size := hb2.size
  obtain ⟨W3, hW3⟩ : ∃ W3, W3 = w1.alloc (.cells #[.int .i64 (C : Int), .slice (some ⟨g5, 0, none⟩) Ns.length c5] 103) := ⟨_, rfl⟩
  rw [← hW3] at hQ hown3 hb4 ⊢
  clear hW3 hb3
  refine nxt_op rfl hb4 ?_
  go_wp2_with fail
  refine nxt_nil ?_
  obtain ⟨A1, c1, hv, hset⟩ := hs.at_ hI
  have q1 := hQ.cell 1
  have cI := hown3.cellAt I (by omega)
  have fI := hown3.frozenAt I
  rw [hv] at cI
  have lQ := hQ.lt
  have hs4 := hs.below hb4
  have hset4 := hset.below hb4
  have hneQ : w1.heap.size ≠ g5 := fun e => by
    have := own_ne hown3 hQ (by decide)
    exact this (by rw [e]; rfl)
  clear hB m0 m1 hs hset hown HCL
  cases one
  · have HWT := hideC (without_any (.slice A1 (nw Ns[I]) c1) Ns[I] J W3.drew (hset4.below (Below.refl _ _).drew))
    go_wp2_with fail
    refine wp_spine (fun W => Below W3.heap.size W3 W) [0, 1, 2, 3, 4, 5, 6, 7, 8, 9, 10, 11, 12] [13, 14, 15] (by kernel_rfl) (by kernel_rfl) ?_
    iterate 13 (refine wpE_op (v := ?_) rfl rfl (fun W hW => ?_) ?_; rotate_left; (have x1 := onB hW q1; have x2 := onB hW cI; go_simp; first | done | with_reducible rfl); simp only [Act.put, List.setIfInBounds_toArray, List.set_cons_zero, List.set_cons_succ])
    refine wpE_nil ⟨fun h => (by cases h), wpSp_op rfl (Below.refl _ _).drew ?_⟩
    go_wp2_with fail
    refine HWT.out.mono ?_
    rintro e w5 ⟨r, rfl, hr5, hb5⟩
    obtain ⟨A5, c6, rfl, _⟩ := id hr5
    have hb6 : Below W3.heap.size W3 w5 := (Below.refl _ _).drew.trans hb5
    have cI5 := onB hb6 cI
    have fI5 := onFrozen hb6 cI fI
    have hown5 := own_below hown3 hb6
    have hQ5 := hQ.below hb6 lQ
    have hst := (hown5.stored I (.slice A5 (nw (withoutB Ns[I] J)) c6)).1
    have hb7 := (hb4.trans (hb6.mono hb4.size)).setCell (p := ⟨g5, I, none⟩) (by have := (hown5.lt g5 rfl).1; simpa using this) (.slice A5 (nw (withoutB Ns[I] J)) c6)
    have hQ7 := hQ5.far (p := ⟨g5, I, none⟩) hneQ (.slice A5 (nw (withoutB Ns[I] J)) c6)
    have hk7 : KeepW w5 (w5.setCell ⟨g5, I, none⟩ (.slice A5 (nw (withoutB Ns[I] J)) c6)) := by
      obtain ⟨cs, hcs⟩ := own_kind hown5 g5 rfl
      exact KeepW.setCell (p := ⟨g5, I, none⟩) hcs (by decide) _
    have hs7 := ((hs4.below hb6).keep hk7).put (I := I) (hr5.keep hk7)
    clear hown3 hown5 hQ hQ5 hs4 hset4
    go_wp2_with fail
    refine nxt_op rfl hb6 ?_
    go_wp2_with fail
    refine nxt_op rfl hb6 ?_
    go_wp2_with fail
    refine nxt_nil ?_
    go_wp2_with fail
    go_ret2
    obtain ⟨_, _, e, h6, _, h8, _⟩ := row_of_own hst
    cases e
    refine ⟨_, rfl, hsz, ⟨h1, by simpa [mset] using h2, some ⟨g5, 0, none⟩, c5, _, ?_, by simpa [mset] using h6, h8, ?_⟩, hb7⟩
    · simpa [mset] using hQ7
    · show Sets _ _ (Ns.set I (withoutB (Ns.getD I 0) J)); rw [getD_at hI]; exact hs7
  · have HWT := hideC (with_any (.slice A1 (nw Ns[I]) c1) Ns[I] J W3.drew (hset4.below (Below.refl _ _).drew))
    go_wp2_with fail
    refine wp_spine (fun W => Below W3.heap.size W3 W) [0, 1, 2, 3, 4, 5, 6, 7, 8, 9, 10, 11, 12] [13, 14, 15] (by kernel_rfl) (by kernel_rfl) ?_
    iterate 13 (refine wpE_op (v := ?_) rfl rfl (fun W hW => ?_) ?_; rotate_left; (have x1 := onB hW q1; have x2 := onB hW cI; go_simp; first | done | with_reducible rfl); simp only [Act.put, List.setIfInBounds_toArray, List.set_cons_zero, List.set_cons_succ])
    refine wpE_nil ⟨fun h => (by cases h), wpSp_op rfl (Below.refl _ _).drew ?_⟩
    go_wp2_with fail
    refine HWT.out.mono ?_
    rintro e w5 ⟨r, rfl, hr5, hb5⟩
    obtain ⟨A5, c6, rfl, _⟩ := id hr5
    have hb6 : Below W3.heap.size W3 w5 := (Below.refl _ _).drew.trans hb5
    have cI5 := onB hb6 cI
    have fI5 := onFrozen hb6 cI fI
    have hown5 := own_below hown3 hb6
    have hQ5 := hQ.below hb6 lQ
    have hst := (hown5.stored I (.slice A5 (nw (withB Ns[I] J)) c6)).1
    have hb7 := (hb4.trans (hb6.mono hb4.size)).setCell (p := ⟨g5, I, none⟩) (by have := (hown5.lt g5 rfl).1; simpa using this) (.slice A5 (nw (withB Ns[I] J)) c6)
    have hQ7 := hQ5.far (p := ⟨g5, I, none⟩) hneQ (.slice A5 (nw (withB Ns[I] J)) c6)
    have hk7 : KeepW w5 (w5.setCell ⟨g5, I, none⟩ (.slice A5 (nw (withB Ns[I] J)) c6)) := by
      obtain ⟨cs, hcs⟩ := own_kind hown5 g5 rfl
      exact KeepW.setCell (p := ⟨g5, I, none⟩) hcs (by decide) _
    have hs7 := ((hs4.below hb6).keep hk7).put (I := I) (hr5.keep hk7)
    clear hown3 hown5 hQ hQ5 hs4 hset4
    go_wp2_with fail
    refine nxt_op rfl hb6 ?_
    go_wp2_with fail
    refine nxt_op rfl hb6 ?_
    go_wp2_with fail
    refine nxt_nil ?_
    go_wp2_with fail
    go_ret2
    obtain ⟨_, _, e, h6, _, h8, _⟩ := row_of_own hst
    cases e
    refine ⟨_, rfl, hsz, ⟨h1, by simpa [mset] using h2, some ⟨g5, 0, none⟩, c5, _, ?_, by simpa [mset] using h6, h8, ?_⟩, hb7⟩
    · simpa [mset] using hQ7
    · show Sets _ _ (Ns.set I (withB (Ns.getD I 0) J)); rw [getD_at hI]; exact hs7
theorem setm_in (p C : Nat) (Ns : List Nat) (I J : Nat) (one : Bool) (w : World) (h : IsMat w p C Ns) (hI : I < Ns.length) (hJ : J < C) :
    Calls Tryz.prog 18 #[ptr p, .int .i64 I, .int .i64 J, .bool one] w fun e w' => ∃ q, e = pair (ptr q) 0 ∧ IsMat w' q C (mset Ns I J one) ∧ Below w.heap.size w w' :=
  (setm_new p C Ns I J one w h hI hJ).mono fun _ _ ⟨q, h1, _, h3, h4⟩ => ⟨q, h1, h3, h4⟩
end Go.Proofs.YtfbkcdhmggjbaaaGreatDoor
