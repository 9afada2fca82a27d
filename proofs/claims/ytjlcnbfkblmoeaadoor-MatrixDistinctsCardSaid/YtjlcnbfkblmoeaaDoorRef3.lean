import Derived.Test.YtjlcnbfkblmoeaaDoorRef2
namespace Go.Proofs.YtjlcnbfkblmoeaaDoor
open Go.RowKit

/-- Each one of M is a one of P. -/
def withinR (C : Nat) (M P : List (List Bool)) : Prop := ∀ i, i < M.length → ∀ j, j < C → mget M i j = true → mget P i j = true
instance (C : Nat) (M P : List (List Bool)) : Decidable (withinR C M P) := by unfold withinR; exact inferInstance
/-- What the specification's Within answers. -/
def withinB (C D : Nat) (M P : List (List Bool)) : Bool := decide ((M.length = P.length ∧ C = D) ∧ withinR C M P)
set_option maxRecDepth 100000 in
set_option maxHeartbeats 2000000 in
theorem withinr_any (C D : Nat) (A B : Option Addr) (c d : Nat) (M P : List (List Bool)) (w : World) (h : IsRef w C A M) (h' : IsRef w D B P) :
    Calls Tryd.prog 34 #[refV C A M.length c, refV D B P.length d] w fun e w' => e = .returned (.bool (withinB C D M P)) ∧ Below w.heap.size w w' := by
  have hC : C ≤ 4096 := h.1
  have hR : M.length ≤ 4096 := h.2.1
  by_cases hfit : M.length = P.length ∧ C = D
  · have hf := hideC (fun W => by have := fitsr_any C D M.length P.length A B c d W; rwa [decide_eq_true hfit] at this)
    have HFIT := Lib.hid hfit; clear hfit
    go_enter Tryd.func34, Tryd.ntmps34
    go_wp2_with fail
    refine absC2 fun W0 hX0 hY0 hbel0 hz => ?_
    have HZ := Lib.hid hz; clear hz
    refine (hf.out _).mono ?_
    rintro e w1 ⟨rfl, hb1⟩
    have hX := hX0.below hb1 hX0.lt
    have hY := hY0.below hb1 hY0.lt
    have x0 := hX.cell 0
    have x1 := hX.cell 1
    have y1 := hY.cell 1
    have hbw := hbel0.trans (hb1.mono hbel0.size)
    have hM := h.below hbw
    have hP := h'.below hbw
    clear h h' hX hY hX0 hY0
    go_wp2_with fail
    go_loop [14] (fun i => ∃ k : Nat, k ≤ M.length ∧ i = .int .i64 k ∧ ∀ a, a < k → ∀ j, j < C → mget M a j = true → mget P a j = true) (fun i => M.length - (intOf i).toNat)
    case atStart => exact ⟨0, Nat.zero_le _, rfl, fun a ha => absurd ha (by omega)⟩
    case round =>
      obtain ⟨k, hk, rfl, heq⟩ := hrel
      have HEQ := Lib.hid heq; clear heq
      by_cases hlt : k < M.length
      · go_wp2_with fail
        go_loop [6] (fun j => ∃ n : Nat, n ≤ C ∧ j = .int .i64 n ∧ ∀ q, q < n → mget M k q = true → mget P k q = true) (fun j => C - (intOf j).toNat)
        case atStart => exact ⟨0, Nat.zero_le _, rfl, fun a ha => absurd ha (by omega)⟩
        case round =>
          obtain ⟨n, hn, rfl, heq2⟩ := hrel
          have HEQ2 := Lib.hid heq2; clear heq2
          by_cases hnC : n < C
          · have hkP : k < P.length := by have := HFIT.out.1; omega
            have hnD : n < D := by have := HFIT.out.2; omega
            obtain ⟨g, off, g2, off2, d1, rfl, hg, hg2, c1, c2⟩ := hM.at_ hlt hnC
            obtain ⟨g', off', g2', off2', d2, rfl, hg', hg2', c1', c2'⟩ := hP.at_ hkP hnD
            cases ha : mget M k n with
            | false =>
              rw [ha] at c2
              have HA := Lib.hid ha; clear ha
              clear hM hP
              go_wp2_with fail
              exact ⟨⟨n + 1, by omega, by go_num, fun q hq hq2 => by
                by_cases e : q = n
                · subst e; rw [HA.out] at hq2; cases hq2
                · exact HEQ2.out q (by omega) hq2⟩, by simp [intOf]; omega⟩
            | true =>
              rw [ha] at c2
              have HA := Lib.hid ha; clear ha
              cases hb : mget P k n with
              | true =>
                rw [hb] at c2'
                have HB := Lib.hid hb; clear hb
                clear hM hP
                go_wp2_with fail
                exact ⟨⟨n + 1, by omega, by go_num, fun q hq hq2 => by
                  by_cases e : q = n
                  · subst e; exact HB.out
                  · exact HEQ2.out q (by omega) hq2⟩, by simp [intOf]; omega⟩
              | false =>
                rw [hb] at c2'
                have HB := Lib.hid hb; clear hb
                clear hM hP
                go_wp2_with fail
                go_ret
                exact ⟨ret_bool (by
                  rw [eq_comm, withinB, decide_eq_false_iff_not]
                  intro hh
                  have := hh.2 k hlt n hnC HA.out
                  rw [HB.out] at this; cases this), hbw⟩
          · obtain rfl : n = C := by omega
            clear hM hP
            go_wp2_with fail
            exact ⟨⟨k + 1, by omega, by go_num, fun a ha j hj => by
              by_cases e : a = k
              · subst e; exact HEQ2.out j hj
              · exact HEQ.out a (by omega) j hj⟩, by simp [intOf]; omega⟩
      · obtain rfl : k = M.length := by omega
        clear hM hP
        go_wp2_with fail
        go_ret
        exact ⟨ret_bool (by rw [eq_comm, withinB, decide_eq_true_eq]; exact ⟨HFIT.out, HEQ.out⟩), hbw⟩
  · have hf := hideC (fun W => by have := fitsr_any C D M.length P.length A B c d W; rwa [decide_eq_false hfit] at this)
    have hno : withinB C D M P = false := by rw [withinB, decide_eq_false_iff_not]; exact fun h => hfit h.1
    rw [hno]
    clear hfit h h' hno
    go_enter Tryd.func34, Tryd.ntmps34
    go_wp2_with fail
    refine absC2 fun W0 hX0 hY0 hbel0 hz => ?_
    refine (hf.out _).mono ?_
    rintro e w1 ⟨rfl, hb1⟩
    go_wp2_with fail
    go_ret
    exact ⟨rfl, hbel0.trans (hb1.mono hbel0.size)⟩
/-- What the specification's Same answers. -/
def sameB (C D : Nat) (M P : List (List Bool)) : Bool := withinB C D M P && withinB D C P M
set_option maxRecDepth 100000 in
set_option maxHeartbeats 1000000 in
theorem samer_any (C D : Nat) (A B : Option Addr) (c d : Nat) (M P : List (List Bool)) (w : World) (h : IsRef w C A M) (h' : IsRef w D B P) :
    Calls Tryd.prog 35 #[refV C A M.length c, refV D B P.length d] w fun e w' => e = .returned (.bool (sameB C D M P)) ∧ Below w.heap.size w w' := by
  go_enter Tryd.func35, Tryd.ntmps35
  go_wp2_with fail
  refine absC2 fun W0 hX0 hY0 hbel0 hz => ?_
  have HZ := Lib.hid hz; clear hz
  have hw := withinr_any C D A B c d M P W0 (h.below hbel0) (h'.below hbel0)
  cases h1 : withinB C D M P with
  | false =>
    rw [h1] at hw
    refine hw.mono ?_
    rintro e w1 ⟨rfl, hb1⟩
    go_wp2_with fail
    go_ret
    exact ⟨ret_bool (by simp [sameB, h1]), hbel0.trans (hb1.mono hbel0.size)⟩
  | true =>
    rw [h1] at hw
    refine hw.mono ?_
    rintro e w1 ⟨rfl, hb1⟩
    have hX := hX0.below hb1 hX0.lt
    have hY := hY0.below hb1 hY0.lt
    have x0 := hX.cell 0
    have x1 := hX.cell 1
    have y0 := hY.cell 0
    have y1 := hY.cell 1
    have hbw := hbel0.trans (hb1.mono hbel0.size)
    have HW := hideC (withinr_any D C B A d c P M w1 (h'.below hbw) (h.below hbw))
    go_wp2_with fail
    refine HW.out.mono ?_
    rintro e w2 ⟨rfl, hb2⟩
    go_wp2_with fail
    go_ret
    exact ⟨ret_bool (by simp [sameB, h1]), hbw.trans (hb2.mono hbw.size)⟩
end Go.Proofs.YtjlcnbfkblmoeaaDoor
