import Derived.Test.YtfbkcdhmggjbaaaGreatDoorBits
namespace Go.Proofs.YtfbkcdhmggjbaaaGreatDoor
open Go.RowKit

/-- The members of N that are none of M. -/
def minusN (N M : Nat) : Nat := N ^^^ (N &&& M)
theorem testBit_minusN (N M i : Nat) : (minusN N M).testBit i = (N.testBit i && !M.testBit i) := by
  unfold minusN
  rw [Nat.testBit_xor, Nat.testBit_and]
  cases N.testBit i <;> cases M.testBit i <;> rfl
theorem wd_minusN (N M k : Nat) : wd N k &&& (18446744073709551615 - wd M k) = wd (minusN N M) k := by
  apply Nat.eq_of_testBit_eq; intro i
  have hM := wd_lt M k
  rw [Nat.testBit_and, testBit_wd (minusN N M), testBit_minusN, testBit_wd N]
  have h1 : 18446744073709551615 - wd M k = 2 ^ 64 - (wd M k + 1) := by omega
  rw [h1, Nat.testBit_two_pow_sub_succ hM, testBit_wd M]
  by_cases hi : i < 64 <;> simp [hi]
theorem minus_form (N M k : Nat) : bits .andNot .u64 (wd N k : Int) (wd M k : Int) = ((wd (minusN N M) k : Nat) : Int) := by
  rw [← wd_minusN]
  exact u64_andNot_nat _ _ (wd_lt N k) (wd_lt M k)
theorem minusN_ge {N M k : Nat} (h : nw N ≤ k) : wd (minusN N M) k = 0 := by
  rw [← wd_minusN, wd_ge h, Nat.zero_and]
set_option maxRecDepth 100000 in
set_option maxHeartbeats 1000000 in
theorem minus_any (v u : Value) (N M : Nat) (w : World) (hs : IsSet w v N) (ho : IsSet w u M) :
    Calls Tryz.prog 106 #[.agg #[v], .agg #[u]] w fun e w' => ∃ r, e = .returned (.agg #[r]) ∧ IsSet w' r (minusN N M) ∧ Below w.heap.size w w' := by
  obtain ⟨A, c, rfl, hN, _, _, h4⟩ := id hs
  obtain ⟨A', c', rfl, hM, _, _, _⟩ := id ho
  obtain ⟨L, hLe⟩ : ∃ L, L = nw N := ⟨_, rfl⟩
  have hL : L ≤ 64 := by omega
  have HL := Lib.hid hLe
  have hmk := make_u64 L (by omega)
  have hwz : ∀ k, L ≤ k → wd (minusN N M) k = 0 := fun k hk => minusN_ge (by omega)
  have HWZ := Lib.hid hwz
  clear hwz
  rw [← hLe]
  clear hLe
  go_enter Tryz.func106, Tryz.ntmps106
  go_wp2_with fail
  refine abs4 fun W0 hA0 hB0 hR0 hW0 hbel0 hz => ?_
  have hw0 := hW0.fill0 (fun j => u64 (wd (minusN N M) j))
  have HZ := Lib.hid hz; clear hz
  go_loopw [13] (fun i wr => ∃ k : Nat, k ≤ L ∧ i = .int .i64 k ∧ Blk wr (w.heap.size + 3) 158 (filled (.int .u64 0) (fun j => u64 (wd (minusN N M) j)) k L) ∧ Below (w.heap.size + 3) W0 wr)
    (fun i _ => L - (intOf i).toNat)
  case atStart => exact ⟨0, Nat.zero_le _, rfl, hw0, Below.refl _ _⟩
  case round =>
    obtain ⟨k, hk, rfl, hb, hbel⟩ := hrel
    have cA := (hA0.below hbel (by omega)).cell 0
    have cB := (hB0.below hbel (by omega)).cell 0
    have hbw : Below w.heap.size w wr := hbel0.trans (hbel.mono (by omega))
    by_cases hlt : k < L
    · have cW := hb.cell k
      have fW := hb.frozen k
      rw [filled_get _ _ hlt, if_neg (by omega)] at cW
      have hor := minus_form N M k
      have hset := filled_set (.int .u64 0) (fun j => u64 (wd (minusN N M) j)) hlt
      have HSET := Lib.hid hset; clear hset
      obtain ⟨g, cs, rfl, hg, hcs⟩ := h4 (by have := HL.out; omega)
      have cN := ((hg.below hbw hg.lt).cell k).trans (hcs k (by have := HL.out; omega))
      have HW := hideC (fun W hW => word_any (.slice A' (nw M) c') M k W (ho.below (w' := W) hW))
      clear hcs h4
      go_wp2_with fail
      refine wp_spine (fun W => Below wr.heap.size wr W) [0, 1, 2, 3, 4, 5, 6, 7, 8] [9, 10, 11, 12] (by kernel_rfl) (by kernel_rfl) ?_
      iterate 9 (refine wpE_op (v := ?_) rfl rfl (fun W hW => ?_) ?_; rotate_left; (have c1 := onB hW cA; have c2 := onB hW cB; have c3 := onB hW cN; go_simp; first | done | with_reducible rfl); simp only [Act.put, List.setIfInBounds_toArray, List.set_cons_zero, List.set_cons_succ])
      refine wpE_nil ⟨fun h => (by cases h), wpSp_op rfl (Below.refl _ _).drew ?_⟩
      go_wp2_with fail
      refine (HW.out _ (hbw.trans ((Below.refl wr.heap.size wr).drew.mono hbw.size))).mono ?_
      rintro e w2 ⟨rfl, hb2⟩
      have hk2 : Below wr.heap.size wr w2 := (Below.refl _ _).drew.trans hb2
      have cW2 := onB hk2 cW
      have fW2 := onFrozen hk2 cW fW
      go_wp2_with fail
      refine nxt_op rfl hk2 ?_
      go_wp2_with fail
      refine nxt_op rfl hk2 ?_
      go_wp2_with fail
      refine nxt_op rfl hk2 ?_
      go_wp2_with fail
      refine nxt_nil ?_
      go_wp2_with fail
      have hb3 := ((hb.below hk2 hb.lt).set_ k (u64 (wd (minusN N M) k)))
      rw [HSET.out] at hb3
      exact ⟨⟨k + 1, by omega, by go_num, hb3, (hbel.trans (hk2.mono (by have := hbel.size; have := HZ.out; omega))).setCell (by simp) _⟩, by simp [intOf]; omega⟩
    · obtain rfl : k = L := by omega
      have hR := hR0.below hbel (by omega)
      have cR := hR.cell 0
      have fR := hR.frozen 0
      have hw : Words wr (some ⟨w.heap.size + 1 + 1 + 1, 0, none⟩) k (minusN N M) := ⟨fun _ => ⟨_, _, rfl, hb, fun j hj => by rw [filled_get _ _ hj, if_pos hj]⟩, fun j hj => HWZ.out j hj⟩
      clear h4
      go_wp2_with fail
      refine (trim_any _ k k _ _ hw hL (Nat.le_refl _) (le64 hL)).mono ?_
      rintro e w1 ⟨r, rfl, hr, hb1⟩
      obtain ⟨A1, c1, rfl, _⟩ := id hr
      have hr1 := onB hb1 cR
      have fr1 := onFrozen hb1 cR fR
      go_wp2_with fail
      have hX := (hR.below hb1 hR.lt).set_ 0 (.slice A1 (nw (minusN N M)) c1)
      have cX := hX.cell 0
      refine bodyPost_ret (v := .agg #[.slice A1 (nw (minusN N M)) c1]) (by simp [results, Tryz.results106, go_sem, cX]) rfl ⟨_, rfl, ?_, ((hbw.trans (hb1.mono (by have := hbel.size; have := HZ.out; omega)))).setCell (by simp; omega) _⟩
      exact hr.keep (KeepW.setCell (t := 74) (hR.below hb1 hR.lt) (by decide) _)
end Go.Proofs.YtfbkcdhmggjbaaaGreatDoor
