import Derived.Test.YtjlcnbfkblmoeaaDoorAnd
namespace Go.Proofs.YtjlcnbfkblmoeaaDoor
open Go.RowKit

theorem andNot_zero (a b : Nat) (ha : a < 2 ^ 64) (hb : b < 2 ^ 64) : (bits .andNot .u64 (a : Int) (b : Int) != 0) = !decide (a &&& b = a) := by
  rw [u64_andNot_nat a b ha hb]
  have e : (18446744073709551615 - b) = 2 ^ 64 - (b + 1) := by omega
  rw [e]
  have hz : (a &&& (2 ^ 64 - (b + 1)) = 0) ↔ (a &&& b = a) := by
    constructor
    · intro h
      apply Nat.eq_of_testBit_eq; intro i
      have h1 := congrArg (fun x => x.testBit i) h
      simp only [Nat.testBit_and, Nat.testBit_two_pow_sub_succ hb, Nat.zero_testBit] at h1 ⊢
      by_cases hi : i < 64
      · simp only [hi, decide_true, Bool.true_and] at h1
        cases ha : a.testBit i <;> cases hb' : b.testBit i <;> simp_all
      · have : a.testBit i = false := Nat.testBit_lt_two_pow (Nat.lt_of_lt_of_le ha (Nat.pow_le_pow_right (by omega) (by omega)))
        simp [this]
    · intro h
      apply Nat.eq_of_testBit_eq; intro i
      have h1 := congrArg (fun x => x.testBit i) h
      simp only [Nat.testBit_and, Nat.testBit_two_pow_sub_succ hb, Nat.zero_testBit] at h1 ⊢
      cases ha : a.testBit i <;> cases hb' : b.testBit i <;> simp_all
  by_cases h : a &&& b = a
  · rw [hz.2 h]; simp [h]
  · have h2 : ¬ (a &&& (2 ^ 64 - (b + 1)) = 0) := fun h3 => h (hz.1 h3)
    rw [decide_eq_false h, Bool.not_false, bne_iff_ne]
    omega

set_option maxRecDepth 100000 in
set_option maxHeartbeats 400000 in
theorem empty_any (v : Value) (N : Nat) (w : World) (hs : IsSet w v N) :
    Calls Tryd.prog 53 #[.agg #[v]] w fun e w' => e = .returned (.bool (decide (N = 0))) ∧ Below w.heap.size w w' := by
  obtain ⟨A, c, rfl, hN, _, _, h4⟩ := hs
  go_enter Tryd.func53, Tryd.ntmps53
  go_wp2
  go_ret
  refine ⟨ret_bool ?_, (Below.refl _ _).alloc (Nat.le_refl _) _⟩
  rw [Bool.eq_iff_iff, beq_iff_eq, decide_eq_true_eq, ← nw_eq_zero]; omega

set_option maxRecDepth 100000 in
set_option maxHeartbeats 400000 in
theorem equal_any (v u : Value) (N M : Nat) (w : World) (hs : IsSet w v N) (ho : IsSet w u M) :
    Calls Tryd.prog 60 #[.agg #[v], .agg #[u]] w fun e w' => e = .returned (.bool (decide (N = M))) ∧ Below w.heap.size w w' := by
  obtain ⟨A, c, rfl, hN, _, _, h4⟩ := hs
  obtain ⟨A', c', rfl, hM, _, _, h4'⟩ := ho
  by_cases hnm : nw N = nw M
  · have e0 : (((nw N : Nat) : Int) != ((nw M : Nat) : Int)) = false := by simp [hnm]
    have HNM := Lib.hid hnm; clear hnm
    go_enter Tryd.func60, Tryd.ntmps60
    go_wp2_with fail
    refine abs2 fun W0 hA0 hB0 hbel0 hz => ?_
    have cA := hA0.cell 0
    have cB := hB0.cell 0
    go_loop [17] (fun i => ∃ k : Nat, k ≤ nw N ∧ i = .int .i64 k ∧ ∀ j, j < k → wd N j = wd M j) (fun i => nw N - (intOf i).toNat)
    case atStart => exact ⟨0, Nat.zero_le _, rfl, fun j hj => absurd hj (by omega)⟩
    case round =>
      obtain ⟨k, hk, rfl, heq⟩ := hrel
      by_cases hlt : k < nw N
      · have HEQ := Lib.hid heq; clear heq
        have hk2 := HNM.out
        obtain ⟨g, cs, rfl, hg, hcs⟩ := h4 (by omega)
        obtain ⟨g', cs', rfl, hg', hcs'⟩ := h4' (by omega)
        have kM : k < nw M := by omega
        have cN := ((hg.below hbel0 hg.lt).cell k).trans (hcs k hlt)
        have cM := ((hg'.below hbel0 hg'.lt).cell k).trans (hcs' k kM)
        clear hcs hcs' h4 h4' hk2
        by_cases he : wd N k = wd M k
        · have e1 : ((wd N k : Int) != (wd M k : Int)) = false := by simp [he]
          have HE := Lib.hid he; clear he
          go_wp2
          exact ⟨⟨k + 1, by omega, by go_num, fun j hj => by
            by_cases h : j = k
            · rw [h]; exact HE.out
            · exact HEQ.out j (by omega)⟩, by simp [intOf]; omega⟩
        · have e1 : ((wd N k : Int) != (wd M k : Int)) = true := by rw [bne_iff_ne]; omega
          have HE := Lib.hid he; clear he
          go_wp2
          go_ret
          exact ⟨ret_bool (by rw [eq_comm, decide_eq_false_iff_not]; intro h; exact HE.out (by rw [h])), hbel0⟩
      · obtain rfl : k = nw N := by omega
        have HEQ := Lib.hid heq; clear heq
        clear h4 h4'
        go_wp2
        go_ret
        refine ⟨ret_bool ?_, hbel0⟩
        rw [eq_comm, decide_eq_true_eq]
        exact wd_ext fun j => by
          by_cases h : j < nw N
          · exact HEQ.out j h
          · rw [wd_ge (by omega), wd_ge (by have := HNM.out; omega)]
  · have e0 : (((nw N : Nat) : Int) != ((nw M : Nat) : Int)) = true := by rw [bne_iff_ne]; omega
    have HNM := Lib.hid hnm; clear hnm
    clear h4 h4'
    go_enter Tryd.func60, Tryd.ntmps60
    go_wp2
    go_ret
    exact ⟨ret_bool (by rw [eq_comm, decide_eq_false_iff_not]; intro h; exact HNM.out (by rw [h])), ((Below.refl _ _).alloc (Nat.le_refl _) _).alloc (by simp) _⟩

set_option maxRecDepth 100000 in
set_option maxHeartbeats 400000 in
theorem within_any (v u : Value) (N M : Nat) (w : World) (hs : IsSet w v N) (ho : IsSet w u M) :
    Calls Tryd.prog 72 #[.agg #[v], .agg #[u]] w fun e w' => e = .returned (.bool (decide (N &&& M = N))) ∧ Below w.heap.size w w' := by
  obtain ⟨A, c, rfl, hN, _, _, h4⟩ := hs
  obtain ⟨A', c', rfl, hM, _⟩ := id ho
  go_enter Tryd.func72, Tryd.ntmps72
  go_wp2_with fail
  refine abs2 fun W0 hA0 hB0 hbel0 hz => ?_
  go_loopw [10] (fun i wr => ∃ k : Nat, k ≤ nw N ∧ i = .int .i64 k ∧ (∀ j, j < k → wd N j &&& wd M j = wd N j) ∧ Below W0.heap.size W0 wr) (fun i _ => nw N - (intOf i).toNat)
  case atStart => exact ⟨0, Nat.zero_le _, rfl, fun j hj => absurd hj (by omega), Below.refl _ _⟩
  case round =>
    obtain ⟨k, hk, rfl, heq, hbel⟩ := hrel
    have HEQ := Lib.hid heq; clear heq
    have cA := onB hbel (hA0.cell 0)
    have cB := onB hbel (hB0.cell 0)
    have hbw : Below w.heap.size w wr := hbel0.trans (hbel.mono hbel0.size)
    by_cases hlt : k < nw N
    · obtain ⟨g, cs, rfl, hg, hcs⟩ := h4 (by omega)
      have cN := ((hg.below hbw hg.lt).cell k).trans (hcs k hlt)
      clear hcs h4
      have hz0 := andNot_zero (wd N k) (wd M k) (wd_lt N k) (wd_lt M k)
      by_cases he : wd N k &&& wd M k = wd N k
      · rw [decide_eq_true he, Bool.not_true] at hz0
        have HE := Lib.hid he; clear he
        go_wp2_with (go_at_call 92; refine (word_any _ M k _ (ho.below hbw)).mono ?_; rintro e w1 ⟨rfl, hb1⟩)
        exact ⟨⟨k + 1, by omega, by go_num, fun j hj => by
            by_cases h : j = k
            · rw [h]; exact HE.out
            · exact HEQ.out j (by omega), hbel.trans (hb1.mono hbel.size)⟩, by simp [intOf]; omega⟩
      · rw [decide_eq_false he, Bool.not_false] at hz0
        have HE := Lib.hid he; clear he
        go_wp2_with (go_at_call 92; refine (word_any _ M k _ (ho.below hbw)).mono ?_; rintro e w1 ⟨rfl, hb1⟩)
        go_ret
        exact ⟨ret_bool (by rw [eq_comm, decide_eq_false_iff_not]; intro h; exact HE.out (by rw [← wd_and, h])), hbw.trans (hb1.mono hbw.size)⟩
    · obtain rfl : k = nw N := by omega
      clear h4
      go_wp2
      go_ret
      refine ⟨ret_bool ?_, hbw⟩
      rw [eq_comm, decide_eq_true_eq]
      exact wd_ext fun j => by
        rw [wd_and]
        by_cases h : j < nw N
        · exact HEQ.out j h
        · rw [wd_ge (N := N) (by omega), Nat.zero_and]
end Go.Proofs.YtjlcnbfkblmoeaaDoor
