import Derived.Test.YtfbkcdhmggjbaaaGreatDoorWire
namespace Go.Proofs.YtfbkcdhmggjbaaaGreatDoor
open Go.RowKit

/-- A matrix of the specification's, as a value. -/
abbrev refV (C : Nat) (A : Option Addr) (R c : Nat) : Value := .agg #[.int .i64 (C : Int), .slice A R c]
/-- Element (i, j) of lists of lists. -/
def mget (M : List (List Bool)) (i j : Nat) : Bool := (M.getD i []).getD j false
/-- The rows at A are the lists M, each of C elements. -/
def IsRef (w : World) (C : Nat) (A : Option Addr) (M : List (List Bool)) : Prop :=
  C ≤ 4096 ∧ M.length ≤ 4096 ∧ ∃ vs : List Value, vs.length = M.length ∧ Row w A vs ∧ ∀ (i : Nat) r, M[i]? = some r → r.length = C ∧ ∃ B d, vs[i]? = some (.slice B C d) ∧ Row w B (r.map .bool)
theorem IsRef.below {w w' : World} {C : Nat} {A : Option Addr} {M : List (List Bool)} (h : IsRef w C A M) (hb : Below w.heap.size w w') : IsRef w' C A M := by
  obtain ⟨h1, h2, vs, h3, h4, h5⟩ := h
  refine ⟨h1, h2, vs, h3, h4.below hb, fun i r hr => ?_⟩
  obtain ⟨h6, B, d, h7, h8⟩ := h5 i r hr
  exact ⟨h6, B, d, h7, h8.below hb⟩
theorem IsRef.row {w : World} {C : Nat} {A : Option Addr} {M : List (List Bool)} (h : IsRef w C A M) {i : Nat} (hi : i < M.length) :
    ∃ g off B d, A = some ⟨g, off, none⟩ ∧ g < w.heap.size ∧ w.cell? ⟨g, off + i, none⟩ = some (.slice B C d) ∧ Row w B (M[i].map .bool) ∧ M[i].length = C := by
  obtain ⟨_, _, vs, h3, h4, h5⟩ := h
  obtain ⟨h6, B, d, h7, h8⟩ := h5 i M[i] (List.getElem?_eq_getElem hi)
  obtain ⟨g, off, hA, hg, hc⟩ := h4 (by omega)
  exact ⟨g, off, B, d, hA, hg, hc i _ h7, h8, h6⟩
theorem IsRef.at_ {w : World} {C : Nat} {A : Option Addr} {M : List (List Bool)} (h : IsRef w C A M) {i j : Nat} (hi : i < M.length) (hj : j < C) :
    ∃ g off g2 off2 d, A = some ⟨g, off, none⟩ ∧ g < w.heap.size ∧ g2 < w.heap.size ∧ w.cell? ⟨g, off + i, none⟩ = some (.slice (some ⟨g2, off2, none⟩) C d) ∧ w.cell? ⟨g2, off2 + j, none⟩ = some (.bool (mget M i j)) := by
  obtain ⟨g, off, B, d, hA, hg, hc, hr, hl⟩ := h.row hi
  obtain ⟨g2, off2, rfl, hg2, hc2⟩ := hr (by simp; omega)
  refine ⟨g, off, g2, off2, d, hA, hg, hg2, hc, hc2 j _ ?_⟩
  have hj' : j < M[i].length := by omega
  rw [List.getElem?_map, List.getElem?_eq_getElem hj', Option.map_some]
  simp only [mget, List.getD_eq_getElem?_getD, List.getElem?_eq_getElem hi, Option.getD_some, List.getElem?_eq_getElem hj']

/-- What the specification's Has answers. -/
def hasR (C : Nat) (M : List (List Bool)) (i j : Int) : Bool := insideB M.length C i j && mget M i.toNat j.toNat
set_option maxRecDepth 100000 in
set_option maxHeartbeats 1000000 in
theorem hasr_any (C : Nat) (A : Option Addr) (c : Nat) (M : List (List Bool)) (i j : Int) (w : World) (h : IsRef w C A M) :
    Calls Tryz.prog 92 #[refV C A M.length c, .int .i64 i, .int .i64 j] w fun e w' => e = .returned (.bool (hasR C M i j)) ∧ Below w.heap.size w w' := by
  have hb := (Below.refl w.heap.size w).alloc (Nat.le_refl _) (.cells #[.int .i64 (C : Int), .slice A M.length c] 28)
  unfold hasR
  by_cases h1 : 0 ≤ i
  · by_cases h2 : i < M.length
    · by_cases h3 : 0 ≤ j
      · by_cases h4 : j < C
        · obtain ⟨I, rfl⟩ := Int.eq_ofNat_of_zero_le h1
          obtain ⟨J, rfl⟩ := Int.eq_ofNat_of_zero_le h3
          obtain ⟨g, off, g2, off2, d, rfl, hg, hg2, c1, c2⟩ := h.at_ (i := I) (j := J) (by omega) (by omega)
          have hin : insideB M.length C I J = true := by unfold insideB; rw [decide_eq_true_eq]; omega
          rw [hin, Bool.true_and, Int.toNat_natCast, Int.toNat_natCast]
          clear h hin
          go_enter Tryz.func92, Tryz.ntmps92
          go_wp2
          go_ret
          exact ⟨rfl, hb⟩
        · have hin : insideB M.length C i j = false := by unfold insideB; rw [decide_eq_false_iff_not]; omega
          rw [hin, Bool.false_and]
          clear h hin
          go_enter Tryz.func92, Tryz.ntmps92
          go_wp2
          go_ret
          exact ⟨rfl, hb⟩
      · have hin : insideB M.length C i j = false := by unfold insideB; rw [decide_eq_false_iff_not]; omega
        rw [hin, Bool.false_and]
        clear h hin
        go_enter Tryz.func92, Tryz.ntmps92
        go_wp2
        go_ret
        exact ⟨rfl, hb⟩
    · have hin : insideB M.length C i j = false := by unfold insideB; rw [decide_eq_false_iff_not]; omega
      rw [hin, Bool.false_and]
      clear h hin
      go_enter Tryz.func92, Tryz.ntmps92
      go_wp2
      go_ret
      exact ⟨rfl, hb⟩
  · have hin : insideB M.length C i j = false := by unfold insideB; rw [decide_eq_false_iff_not]; omega
    rw [hin, Bool.false_and]
    clear h hin
    go_enter Tryz.func92, Tryz.ntmps92
    go_wp2
    go_ret
    exact ⟨rfl, hb⟩
set_option maxRecDepth 100000 in
set_option maxHeartbeats 1000000 in
theorem fitsr_any (C D R S : Nat) (A B : Option Addr) (c d : Nat) (w : World) :
    Calls Tryz.prog 135 #[refV C A R c, refV D B S d] w fun e w' => e = .returned (.bool (decide (R = S ∧ C = D))) ∧ Below w.heap.size w w' := by
  have hb := ((Below.refl w.heap.size w).alloc (Nat.le_refl _) (.cells #[.int .i64 (C : Int), .slice A R c] 28)).alloc (by simp) (.cells #[.int .i64 (D : Int), .slice B S d] 28)
  by_cases h1 : R = S
  · by_cases h2 : C = D
    · have e1 : ((R : Int) == (S : Int)) = true := by simp [h1]
      have e2 : ((C : Int) == (D : Int)) = true := by simp [h2]
      rw [decide_eq_true ⟨h1, h2⟩]
      clear h1 h2
      go_enter Tryz.func135, Tryz.ntmps135
      go_wp2
      go_ret
      exact ⟨rfl, hb⟩
    · have e1 : ((R : Int) == (S : Int)) = true := by simp [h1]
      have e2 : ((C : Int) == (D : Int)) = false := by simp; omega
      rw [decide_eq_false (fun h => h2 h.2)]
      clear h1 h2
      go_enter Tryz.func135, Tryz.ntmps135
      go_wp2
      go_ret
      exact ⟨rfl, hb⟩
  · have e1 : ((R : Int) == (S : Int)) = false := by simp; omega
    rw [decide_eq_false (fun h => h1 h.1)]
    clear h1
    go_enter Tryz.func135, Tryz.ntmps135
    go_wp2
    go_ret
    exact ⟨rfl, hb⟩
end Go.Proofs.YtfbkcdhmggjbaaaGreatDoor

namespace Go.Proofs.YtfbkcdhmggjbaaaGreatDoor
open Go.RowKit

/-- The ones of row i below column k. -/
def rowTo (C : Nat) (M : List (List Bool)) (i : Int) (k : Nat) : List Nat := (List.range k).filter fun j => hasR C M i j
theorem rowTo_yes {C : Nat} {M : List (List Bool)} {i : Int} {k : Nat} (h : hasR C M i k = true) : rowTo C M i (k + 1) = rowTo C M i k ++ [k] := by simp [rowTo, List.range_succ, h]
theorem rowTo_no {C : Nat} {M : List (List Bool)} {i : Int} {k : Nat} (h : hasR C M i k = false) : rowTo C M i (k + 1) = rowTo C M i k := by simp [rowTo, List.range_succ, h]
theorem rowTo_len (C : Nat) (M : List (List Bool)) (i : Int) (k : Nat) : (rowTo C M i k).length ≤ k := by unfold rowTo; exact Nat.le_trans (List.length_filter_le _ _) (by simp)
set_option maxRecDepth 100000 in
set_option maxHeartbeats 1000000 in
theorem rowr_any (C : Nat) (A : Option Addr) (c : Nat) (M : List (List Bool)) (i : Int) (w : World) (h : IsRef w C A M) :
    Calls Tryz.prog 35 #[refV C A M.length c, .int .i64 i] w fun e w' => ∃ B d, e = .returned (.slice B (rowTo C M i C).length d) ∧ (rowTo C M i C).length ≤ d ∧ Row w' B ((rowTo C M i C).map i64) ∧ Below w.heap.size w w' := by
  obtain ⟨i0, hi0, hz0, hz1, hz2⟩ := info_parts info_int
  have hC : C ≤ 4096 := h.1
  go_enter Tryz.func35, Tryz.ntmps35
  go_wp2_with fail
  refine abs1 fun W0 hX0 hbel0 hz => ?_
  have HZ := Lib.hid hz; clear hz
  go_loopw [5, 6] (fun l j wr => ∃ k : Nat, k ≤ C ∧ j = .int .i64 k ∧ wr.ownsRow (w.heap.size + 1) 3 1 l (rowTo C M i k).length ((rowTo C M i k).map i64) ∧ Below (w.heap.size + 1) W0 wr) (fun _ j _ => C - (intOf j).toNat)
  case atStart => exact ⟨0, Nat.zero_le _, rfl, World.ownsRow_nil _ _ _ _, Below.refl _ _⟩
  case round =>
    obtain ⟨k, hk, rfl, hown, hbel⟩ := hrel
    have hX := hX0.below hbel (by omega)
    have x0 := hX.cell 0
    have x1 := hX.cell 1
    have hbw : Below w.heap.size w wr := hbel0.trans (hbel.mono (by omega))
    have hrl := rowTo_len C M i k
    by_cases hlt : k < C
    · have hcall := hasr_any C A c M i k wr (h.below hbw)
      cases hh : hasR C M i k with
      | true =>
        rw [hh] at hcall
        have HC := hideC hcall; clear hcall
        have HS := Lib.hid (rowTo_yes hh); clear hh
        go_wp2_with fail
        refine HC.out.mono ?_
        rintro e w2 ⟨rfl, hb2⟩
        have hown2 := (own_below hown hb2).alloc (.cells #[.int .i64 (k : Int)] 3)
        have hsz := hbel.size
        have hsz2 := hb2.size
        have hbel2 : Below (w.heap.size + 1) W0 w2 := hbel.trans (hb2.mono (by have := HZ.out; omega))
        have hzz := HZ.out
        go_wp2_with (at_builtin; refine wpList_append_own _ rfl _ _ 52 rfl (w.heap.size + 1) 3 i0 (.int .i64 0) 1 8 Tryz.underlying52 hi0 hz0 hz1 hz2 rfl (by decide) _ _ _ rfl (hown2) ⟨w2.heap.size, 0, none⟩ 1 1 [.int .i64 k] rfl rfl (cell_one_new _ _ _) (by simp [Value.oneCell']) (by unfold maxLen; omega) (by omega) (by simp; omega) ?_; intro v' w3 hown' hgrow _)
        exact ⟨⟨k + 1, by omega, by go_num, by rw [HS.out]; simpa using hown', (hbel2.alloc (by omega) _).grown hgrow (by simp; omega) (fun q hq => (hown2.lt q hq).1)⟩, by simp [intOf]; omega⟩
      | false =>
        rw [hh] at hcall
        have HC := hideC hcall; clear hcall
        have HS := Lib.hid (rowTo_no hh); clear hh
        go_wp2_with fail
        refine HC.out.mono ?_
        rintro e w2 ⟨rfl, hb2⟩
        go_wp2_with fail
        exact ⟨⟨k + 1, by omega, by go_num, by rw [HS.out]; exact own_below hown hb2, hbel.trans (hb2.mono (by have := HZ.out; have := hbel.size; omega))⟩, by simp [intOf]; omega⟩
    · obtain rfl : k = C := by omega
      obtain ⟨B, d, rfl, h1, _, h2, _⟩ := row_of_own hown
      go_wp2_with fail
      go_ret
      exact ⟨B, d, rfl, h1, h2, hbw⟩
end Go.Proofs.YtfbkcdhmggjbaaaGreatDoor

namespace Go.Proofs.YtfbkcdhmggjbaaaGreatDoor
open Go.RowKit

/-- Each one of M is a one of P. -/
def withinR (C : Nat) (M P : List (List Bool)) : Prop := ∀ i, i < M.length → ∀ j, j < C → mget M i j = true → mget P i j = true
instance (C : Nat) (M P : List (List Bool)) : Decidable (withinR C M P) := by unfold withinR; exact inferInstance
/-- What the specification's Within answers. -/
def withinB (C D : Nat) (M P : List (List Bool)) : Bool := decide ((M.length = P.length ∧ C = D) ∧ withinR C M P)
set_option maxRecDepth 100000 in
set_option maxHeartbeats 2000000 in
theorem withinr_any (C D : Nat) (A B : Option Addr) (c d : Nat) (M P : List (List Bool)) (w : World) (h : IsRef w C A M) (h' : IsRef w D B P) :
    Calls Tryz.prog 98 #[refV C A M.length c, refV D B P.length d] w fun e w' => e = .returned (.bool (withinB C D M P)) ∧ Below w.heap.size w w' := by
  have hC : C ≤ 4096 := h.1
  have hR : M.length ≤ 4096 := h.2.1
  by_cases hfit : M.length = P.length ∧ C = D
  · have hf := hideC (fun W => by have := fitsr_any C D M.length P.length A B c d W; rwa [decide_eq_true hfit] at this)
    have HFIT := Lib.hid hfit; clear hfit
    go_enter Tryz.func98, Tryz.ntmps98
    go_wp2_with fail
    refine absC2 fun W0 hX0 hY0 hbel0 hz => ?_
    have HZ := Lib.hid hz; clear hz
    refine (hf.out _).mono ?_
    rintro e w1 ⟨rfl, hb1⟩
    have hX := hX0.below hb1 hX0.lt
    have hY := hY0.below hb1 hY0.lt
    have x0 := hX.cell 0
    have x1 := hX.cell 1
    have y1 := hY.cell 1
    have hbw := hbel0.trans (hb1.mono hbel0.size)
    have hM := h.below hbw
    have hP := h'.below hbw
    clear h h' hX hY hX0 hY0
    go_wp2_with fail
    go_loop [14] (fun i => ∃ k : Nat, k ≤ M.length ∧ i = .int .i64 k ∧ ∀ a, a < k → ∀ j, j < C → mget M a j = true → mget P a j = true) (fun i => M.length - (intOf i).toNat)
    case atStart => exact ⟨0, Nat.zero_le _, rfl, fun a ha => absurd ha (by omega)⟩
    case round =>
      obtain ⟨k, hk, rfl, heq⟩ := hrel
      have HEQ := Lib.hid heq; clear heq
      by_cases hlt : k < M.length
      · go_wp2_with fail
        go_loop [6] (fun j => ∃ n : Nat, n ≤ C ∧ j = .int .i64 n ∧ ∀ q, q < n → mget M k q = true → mget P k q = true) (fun j => C - (intOf j).toNat)
        case atStart => exact ⟨0, Nat.zero_le _, rfl, fun a ha => absurd ha (by omega)⟩
        case round =>
          obtain ⟨n, hn, rfl, heq2⟩ := hrel
          have HEQ2 := Lib.hid heq2; clear heq2
          by_cases hnC : n < C
          · have hkP : k < P.length := by have := HFIT.out.1; omega
            have hnD : n < D := by have := HFIT.out.2; omega
            obtain ⟨g, off, g2, off2, d1, rfl, hg, hg2, c1, c2⟩ := hM.at_ hlt hnC
            obtain ⟨g', off', g2', off2', d2, rfl, hg', hg2', c1', c2'⟩ := hP.at_ hkP hnD
            cases ha : mget M k n with
            | false =>
              rw [ha] at c2
              have HA := Lib.hid ha; clear ha
              clear hM hP
              go_wp2_with fail
              exact ⟨⟨n + 1, by omega, by go_num, fun q hq hq2 => by
                by_cases e : q = n
                · subst e; rw [HA.out] at hq2; cases hq2
                · exact HEQ2.out q (by omega) hq2⟩, by simp [intOf]; omega⟩
            | true =>
              rw [ha] at c2
              have HA := Lib.hid ha; clear ha
              cases hb : mget P k n with
              | true =>
                rw [hb] at c2'
                have HB := Lib.hid hb; clear hb
                clear hM hP
                go_wp2_with fail
                exact ⟨⟨n + 1, by omega, by go_num, fun q hq hq2 => by
                  by_cases e : q = n
                  · subst e; exact HB.out
                  · exact HEQ2.out q (by omega) hq2⟩, by simp [intOf]; omega⟩
              | false =>
                rw [hb] at c2'
                have HB := Lib.hid hb; clear hb
                clear hM hP
                go_wp2_with fail
                go_ret
                exact ⟨ret_bool (by
                  rw [eq_comm, withinB, decide_eq_false_iff_not]
                  intro hh
                  have := hh.2 k hlt n hnC HA.out
                  rw [HB.out] at this; cases this), hbw⟩
          · obtain rfl : n = C := by omega
            clear hM hP
            go_wp2_with fail
            exact ⟨⟨k + 1, by omega, by go_num, fun a ha j hj => by
              by_cases e : a = k
              · subst e; exact HEQ2.out j hj
              · exact HEQ.out a (by omega) j hj⟩, by simp [intOf]; omega⟩
      · obtain rfl : k = M.length := by omega
        clear hM hP
        go_wp2_with fail
        go_ret
        exact ⟨ret_bool (by rw [eq_comm, withinB, decide_eq_true_eq]; exact ⟨HFIT.out, HEQ.out⟩), hbw⟩
  · have hf := hideC (fun W => by have := fitsr_any C D M.length P.length A B c d W; rwa [decide_eq_false hfit] at this)
    have hno : withinB C D M P = false := by rw [withinB, decide_eq_false_iff_not]; exact fun h => hfit h.1
    rw [hno]
    clear hfit h h' hno
    go_enter Tryz.func98, Tryz.ntmps98
    go_wp2_with fail
    refine absC2 fun W0 hX0 hY0 hbel0 hz => ?_
    refine (hf.out _).mono ?_
    rintro e w1 ⟨rfl, hb1⟩
    go_wp2_with fail
    go_ret
    exact ⟨rfl, hbel0.trans (hb1.mono hbel0.size)⟩
/-- What the specification's Same answers. -/
def sameB (C D : Nat) (M P : List (List Bool)) : Bool := withinB C D M P && withinB D C P M
set_option maxRecDepth 100000 in
set_option maxHeartbeats 1000000 in
theorem samer_any (C D : Nat) (A B : Option Addr) (c d : Nat) (M P : List (List Bool)) (w : World) (h : IsRef w C A M) (h' : IsRef w D B P) :
    Calls Tryz.prog 45 #[refV C A M.length c, refV D B P.length d] w fun e w' => e = .returned (.bool (sameB C D M P)) ∧ Below w.heap.size w w' := by
  go_enter Tryz.func45, Tryz.ntmps45
  go_wp2_with fail
  refine absC2 fun W0 hX0 hY0 hbel0 hz => ?_
  have HZ := Lib.hid hz; clear hz
  have hw := withinr_any C D A B c d M P W0 (h.below hbel0) (h'.below hbel0)
  cases h1 : withinB C D M P with
  | false =>
    rw [h1] at hw
    refine hw.mono ?_
    rintro e w1 ⟨rfl, hb1⟩
    go_wp2_with fail
    go_ret
    exact ⟨ret_bool (by simp [sameB, h1]), hbel0.trans (hb1.mono hbel0.size)⟩
  | true =>
    rw [h1] at hw
    refine hw.mono ?_
    rintro e w1 ⟨rfl, hb1⟩
    have hX := hX0.below hb1 hX0.lt
    have hY := hY0.below hb1 hY0.lt
    have x0 := hX.cell 0
    have x1 := hX.cell 1
    have y0 := hY.cell 0
    have y1 := hY.cell 1
    have hbw := hbel0.trans (hb1.mono hbel0.size)
    have HW := hideC (withinr_any D C B A d c P M w1 (h'.below hbw) (h.below hbw))
    go_wp2_with fail
    refine HW.out.mono ?_
    rintro e w2 ⟨rfl, hb2⟩
    go_wp2_with fail
    go_ret
    exact ⟨ret_bool (by simp [sameB, h1]), hbw.trans (hb2.mono hbw.size)⟩
end Go.Proofs.YtfbkcdhmggjbaaaGreatDoor

namespace Go.Proofs.YtfbkcdhmggjbaaaGreatDoor
open Go.RowKit

/-- The matrix with the elements f. -/
def mat (R C : Nat) (f : Nat → Nat → Bool) : List (List Bool) := (List.range R).map fun i => (List.range C).map fun j => f i j
theorem mat_len (R C : Nat) (f : Nat → Nat → Bool) : (mat R C f).length = R := by simp [mat]
theorem mat_get {R C : Nat} {f : Nat → Nat → Bool} {i j : Nat} (hi : i < R) (hj : j < C) : mget (mat R C f) i j = f i j := by simp [mget, mat, hi, hj]
theorem info_bool : (Tryz.prog.info? 4).map (fun i => (i.zero, i.size, i.bytes)) = some (some (.bool false), 1, 1) := by kernel_rfl
theorem info_bools : (Tryz.prog.info? 93).map (fun i => (i.zero, i.size, i.bytes)) = some (some (.slice none 0 0), 1, 24) := by kernel_rfl
/-- Rows of our own: row i lies in block gs[i], by itself. -/
def OwnRows (W : World) (base C : Nat) (gs : List Nat) (f : Nat → Nat → Bool) : Prop :=
  gs.Nodup ∧ (∀ g ∈ gs, base ≤ g) ∧ ∀ (i : Nat) g, gs[i]? = some g → Blk W g 4 ((List.range C).map fun j => Value.bool (f i j)).toArray
/-- The rows' slices. -/
def hdrs (C : Nat) (gs : List Nat) : List Value := gs.map fun g => .slice (some ⟨g, 0, none⟩) C C
/-- A matrix of the specification's that nobody else has. -/
def OwnRef (W : World) (base C : Nat) (v : Value) (gs : List Nat) (f : Nat → Nat → Bool) : Prop :=
  W.ownsRow base 93 1 v gs.length (hdrs C gs) ∧ OwnRows W base C gs f
section
variable {W W' : World} {base C : Nat} {gs : List Nat} {f : Nat → Nat → Bool} {v : Value}
theorem OwnRows.below (h : OwnRows W base C gs f) (hb : Below W.heap.size W W') : OwnRows W' base C gs f := ⟨h.1, h.2.1, fun i g hg => (h.2.2 i g hg).below hb (h.2.2 i g hg).lt⟩
theorem OwnRef.below (h : OwnRef W base C v gs f) (hb : Below W.heap.size W W') : OwnRef W' base C v gs f := ⟨own_below h.1 hb, h.2.below hb⟩
theorem OwnRef.ref (h : OwnRef W base C v gs f) (hC : C ≤ 4096) (hR : gs.length ≤ 4096) : ∃ A c, v = .slice A gs.length c ∧ gs.length ≤ c ∧ IsRef W C A (mat gs.length C f) := by
  obtain ⟨A, c, hv, h1, _, h2, _⟩ := row_of_own h.1
  refine ⟨A, c, hv, h1, hC, by rw [mat_len]; exact hR, hdrs C gs, by simp [hdrs, mat], h2, fun i r hr => ?_⟩
  have hi : i < gs.length := by have := (List.getElem?_eq_some_iff.1 hr).1; rwa [mat_len] at this
  have hr' : r = (List.range C).map fun j => f i j := by
    unfold mat at hr
    rw [List.getElem?_map, List.getElem?_range hi] at hr
    simpa using hr.symm
  subst hr'
  refine ⟨by simp, some ⟨gs[i], 0, none⟩, C, by unfold hdrs; rw [List.getElem?_map, List.getElem?_eq_getElem hi]; rfl, ?_⟩
  refine Row.of_blk (h.2.2.2 i gs[i] (List.getElem?_eq_getElem hi)) fun k u hu => ?_
  rw [List.getElem?_toArray]
  rw [List.map_map] at hu
  exact hu
/-- One element is set. -/
theorem OwnRows.set_ (h : OwnRows W base C gs f) {i j g : Nat} (hg : gs[i]? = some g) (b : Bool) :
    OwnRows (W.setCell ⟨g, j, none⟩ (.bool b)) base C gs (fun x y => if x = i ∧ y = j then b else f x y) := by
  refine ⟨h.1, h.2.1, fun i' g' hg' => ?_⟩
  by_cases e : i' = i
  · subst e
    rw [hg] at hg'; cases hg'
    have := (h.2.2 i' g hg).set_ j (.bool b)
    have e2 : ((List.range C).map fun y => Value.bool (f i' y)).toArray.setIfInBounds j (.bool b) = ((List.range C).map fun y => Value.bool (if i' = i' ∧ y = j then b else f i' y)).toArray := by
      apply Array.ext_getElem?
      intro k
      rw [Array.getElem?_setIfInBounds]
      by_cases hk : k < C
      · by_cases hjk : j = k
        · subst hjk; simp [hk]
        · rw [if_neg hjk]; simp [hk, show ¬ k = j from fun e => hjk e.symm]
      · rw [List.getElem?_toArray, List.getElem?_toArray, List.getElem?_eq_none (by simp; omega), List.getElem?_eq_none (by simp; omega)]
        split
        · rename_i hh; rw [if_neg (by simp; omega)]
        · rfl
    rw [e2] at this
    exact this
  · have hne : g' ≠ g := fun eg => by
      subst eg
      have hi := (List.getElem?_eq_some_iff.1 hg)
      have hi' := (List.getElem?_eq_some_iff.1 hg')
      obtain ⟨a1, a2⟩ := hi
      obtain ⟨b1, b2⟩ := hi'
      exact e ((List.getElem_inj h.1).1 (b2.trans a2.symm))
    have := (h.2.2 i' g' hg').far (p := ⟨g, j, none⟩) hne (.bool b)
    simpa [e] using this
end
end Go.Proofs.YtfbkcdhmggjbaaaGreatDoor

namespace Go.Proofs.YtfbkcdhmggjbaaaGreatDoor
open Go.RowKit

theorem OwnRows.but {W W' : World} {base C : Nat} {gs : List Nat} {f : Nat → Nat → Bool} {r : Option Nat} (h : OwnRows W base C gs f) (hb : But r W W') (hr : ∀ g cs, Blk W g 4 cs → some g ≠ r) : OwnRows W' base C gs f :=
  ⟨h.1, h.2.1, fun i g hg => hb.blk (h.2.2 i g hg) (hr g _ (h.2.2 i g hg))⟩
/-- One row more. -/
theorem OwnRows.snoc {W : World} {base C : Nat} {gs : List Nat} {f : Nat → Nat → Bool} {g : Nat} (h : OwnRows W base C gs f) (hg : base ≤ g) (hn : g ∉ gs) (hb : Blk W g 4 ((List.range C).map fun j => Value.bool (f gs.length j)).toArray) : OwnRows W base C (gs ++ [g]) f := by
  refine ⟨?_, fun q hq => ?_, fun i q hq => ?_⟩
  · rw [List.nodup_append]
    refine ⟨h.1, by simp, ?_⟩
    intro a ha b hb2
    rw [List.mem_singleton] at hb2
    subst hb2
    exact fun e => hn (e ▸ ha)
  · rcases List.mem_append.1 hq with h2 | h2
    · exact h.2.1 q h2
    · rw [List.mem_singleton.1 h2]; exact hg
  · by_cases hi : i < gs.length
    · rw [List.getElem?_append_left hi] at hq
      exact h.2.2 i q hq
    · rw [List.getElem?_append_right (by omega)] at hq
      have hi2 : i = gs.length := by
        have := (List.getElem?_eq_some_iff.1 hq).1
        simp at this; omega
      subst hi2
      rw [Nat.sub_self] at hq
      simp at hq
      subst hq
      exact hb
theorem OwnRef.far {W : World} {base C : Nat} {v : Value} {gs : List Nat} {f : Nat → Nat → Bool} (h : OwnRef W base C v gs f) {b : Nat} {t : TypeId} {cs : Array Value} (hB : Blk W b t cs) (h1 : t ≠ 93) (h2 : t ≠ 4) (i : Nat) (u : Value) : OwnRef (W.setCell ⟨b, i, none⟩ u) base C v gs f := by
  refine ⟨?_, h.2.but (But.setCell _ _ _) (fun g cs hb e => by cases e; exact hb.ne_ hB (fun e => h2 e.symm) rfl)⟩
  exact ownsRow_setCell_other h.1 (a := ⟨b, i, none⟩) (fun e => own_ne h.1 hB h1 e.symm) u
theorem zeros_bools (C : Nat) : zeros (.bool false) C = ((List.range C).map fun _ => Value.bool false).toArray := by
  unfold zeros
  apply Array.ext
  · simp
  · intro i h1 h2; simp
theorem hdrs_snoc (C : Nat) (gs : List Nat) (g : Nat) : hdrs C (gs ++ [g]) = hdrs C gs ++ [.slice (some ⟨g, 0, none⟩) C C] := by simp [hdrs]
set_option maxRecDepth 100000 in
set_option maxHeartbeats 2000000 in
theorem newr_any (R C : Nat) (w : World) (hR : R ≤ 4096) (hC : C ≤ 4096) :
    Calls Tryz.prog 66 #[.int .i64 R, .int .i64 C] w fun e w' => ∃ A c gs, e = .returned (refV C A R c) ∧ gs.length = R ∧ OwnRef w' w.heap.size C (.slice A R c) gs (fun _ _ => false) ∧ Below w.heap.size w w' := by
  obtain ⟨i0, hi0, hz0, hz1, hz2⟩ := info_parts info_bools
  have hmk := fun W => make_run (P := Tryz.prog) 93 4 _ 1 Tryz.underlying93 info_bool rfl C (by omega) (by omega) W
  go_enter Tryz.func66, Tryz.ntmps66
  go_wp2_with fail
  refine abs2 fun W0 hX0 hY0 hbel0 hz => ?_
  have HZ := Lib.hid hz; clear hz
  go_loopw [6] (fun i wr => ∃ k : Nat, k ≤ R ∧ i = .int .i64 k ∧ Blk wr w.heap.size 28 #[.int .i64 0, .slice none 0 0] ∧ (∃ v gs, gs.length = k ∧ Blk wr (w.heap.size + 1) 28 #[.int .i64 (C : Int), v] ∧ OwnRef wr w.heap.size C v gs (fun _ _ => false)) ∧ Below w.heap.size w wr) (fun i _ => R - (intOf i).toNat)
  case atStart => exact ⟨0, Nat.zero_le _, rfl, hX0, ⟨_, [], rfl, hY0, World.ownsRow_nil _ _ _ _, List.nodup_nil, fun g h => (by cases h), fun i g h => (by simp at h)⟩, hbel0⟩
  case round =>
    obtain ⟨k, hk, rfl, hX, ⟨v, gs, hgk, hY, hO⟩, hbel⟩ := hrel
    by_cases hlt : k < R
    · have y0 := hY.cell 0
      have y1 := hY.cell 1
      have nY : some (w.heap.size + 1) ≠ v.ownBlock := own_ne hO.1 hY (by decide)
      have hsz := hbel.size
      go_wp2_with fail
      refine wp_spine (fun V => But v.ownBlock wr V) [0, 1, 2] [3, 4, 5, 6, 7] (by kernel_rfl) (by kernel_rfl) ?_
      iterate 3 (refine wpE_op (v := ?_) rfl rfl (fun W hW => ?_) ?_; rotate_left; (have x1 := hW.on y1 nY; go_simp; first | done | with_reducible rfl); simp only [Act.put, List.setIfInBounds_toArray, List.set_cons_zero, List.set_cons_succ])
      refine wpE_nil ⟨fun h => (by cases h), wpSp_op rfl ((But.refl _ _).below (Below.refl _ _).drew) ?_⟩
      go_wp2_with fail
      have ha1 : Below wr.heap.size wr (wr.alloc (.cells (zeros (.bool false) C) 4)).drew := ((Below.refl _ _).alloc (Nat.le_refl _) _).drew
      have hblkN : Blk (wr.alloc (.cells (zeros (.bool false) C) 4)).drew wr.heap.size 4 ((List.range C).map fun _ => Value.bool false).toArray := by rw [← zeros_bools]; exact Blk.new _ _ _
      have hO1 := hO.below ha1
      have hY1 := hY.below ha1 hY.lt
      have hX1 := hX.below ha1 hX.lt
      have hz1' : (wr.alloc (.cells (zeros (.bool false) C) 4)).drew.heap.size = wr.heap.size + 1 := by simp
      obtain ⟨Wa, hWa⟩ : ∃ Wa, Wa = (wr.alloc (.cells (zeros (.bool false) C) 4)).drew := ⟨_, rfl⟩
      rw [← hWa] at ha1 hblkN hO1 hY1 hX1 hz1' ⊢
      clear hWa
      have hza : wr.heap.size ≤ Wa.heap.size := by omega
      clear hz1'
      refine nxt_op rfl (.of_below ha1) ?_
      go_wp2_with fail
      have ha2 := (Below.refl Wa.heap.size Wa).alloc (Nat.le_refl _) (.cells #[.slice (some ⟨wr.heap.size, 0, none⟩) C C] 93)
      have hO2 := hO1.below ha2
      have hY2 := hY1.below ha2 hY1.lt
      have hX2 := hX1.below ha2 hX1.lt
      have hN2 := hblkN.below ha2 hblkN.lt
      have hown2 := hO2.1
      rw [hgk] at hown2
      refine nxt_op rfl ((But.of_below ha1).below ha2) ?_
      go_wp2_with (at_builtin; refine wpList_append_own _ rfl _ _ 26 rfl (w.heap.size) 93 i0 (.slice none 0 0) 1 24 Tryz.underlying26 hi0 hz0 hz1 hz2 rfl (by decide) _ _ _ rfl (hown2) ⟨Wa.heap.size, 0, none⟩ 1 1 [.slice (some ⟨wr.heap.size, 0, none⟩) C C] rfl rfl (cell_one_new _ _ _) (by simp [Value.oneCell']) (by unfold maxLen; omega) (by omega) (by simp; omega) ?_; intro v' w3 hown' hgrow _)
      obtain ⟨g5, cap5, rfl⟩ := ownsRow_succ hown'
      have hbut3 := (But.of_below ha2 (r := v.ownBlock)).trans (But.grown hgrow)
      have hbut5 := (But.of_below ha1).trans hbut3
      have y03 := hbut5.on y0 nY
      have y13 := hbut5.on y1 nY
      have f13 := hbut5.frozen y1 (hY.frozen 1) nY
      have hY3 := hbut5.blk hY nY
      have hX3 := hbut5.blk hX (own_ne hO.1 hX (by decide))
      have hNne : ∀ g cs, Blk (Wa.alloc (.cells #[.slice (some ⟨wr.heap.size, 0, none⟩) C C] 93)) g 4 cs → some g ≠ v.ownBlock := fun g cs hb => own_ne hO2.1 hb (by decide)
      have hR3 := (hO2.2.but (But.grown hgrow) hNne).snoc (g := wr.heap.size) (by omega) (fun hm => by
        obtain ⟨i, hi, e⟩ := List.getElem_of_mem hm
        have := (hO.2.2.2 i wr.heap.size (by rw [← e]; exact List.getElem?_eq_getElem hi)).lt
        omega) ((But.grown hgrow).blk hN2 (hNne _ _ hN2))
      have hbe3 := ((hbel.trans (ha1.mono hbel.size)).trans (ha2.mono (by omega))).grown hgrow (by simp; omega) (fun q hq => (hO2.1.lt q hq).1)
      refine nxt_op rfl hbut5 ?_
      go_wp2_with fail
      refine nxt_op rfl hbut5 ?_
      go_wp2_with fail
      refine nxt_nil ?_
      go_wp2_with fail
      have hne5 := own_ne hown' hY3 (by decide)
      have hown5 := ownsRow_setCell_other hown' (a := ⟨w.heap.size + 1, 1, none⟩) (fun e => hne5 e.symm) (.slice (some ⟨g5, 0, none⟩) (k + 1) cap5)
      have hR5 : OwnRows (w3.setCell ⟨w.heap.size + 1, 1, none⟩ (.slice (some ⟨g5, 0, none⟩) (k + 1) cap5)) w.heap.size C (gs ++ [wr.heap.size]) (fun _ _ => false) :=
        hR3.but (But.setCell _ _ _) (fun g cs hb e => by cases e; exact hb.ne_ hY3 (by decide) rfl)
      refine ⟨⟨k + 1, by omega, by go_num, hX3.far (p := ⟨w.heap.size + 1, 1, none⟩) (by simp) _, ⟨_, gs ++ [wr.heap.size], by simp [hgk], hY3.set_ 1 _, ?_, hR5⟩, hbe3.setCell (by simp) _⟩, by simp [intOf]; omega⟩
      rw [hdrs_snoc]
      simpa [hgk] using hown5
    · obtain rfl : k = R := by omega
      have y0 := hY.cell 0
      have y1 := hY.cell 1
      have x0 := hX.cell 0
      have x1 := hX.cell 1
      have fx0 := hX.frozen 0
      have fx1 := hX.frozen 1
      obtain ⟨A, c, rfl, _, _, _, _⟩ := row_of_own hO.1
      rw [hgk] at hO hY
      go_wp2_with fail
      have hE := (hX.set_ 0 (.int .i64 (C : Int))).set_ 1 (.slice A k c)
      have hOE := (hO.far hX (by decide) (by decide) 0 (.int .i64 (C : Int))).far (hX.set_ 0 (.int .i64 (C : Int))) (by decide) (by decide) 1 (.slice A k c)
      have cX := hE.cell 0
      have cY := hE.cell 1
      refine bodyPost_ret (v := refV C A k c) (by simp [results, Tryz.results66, go_sem, cX, cY]) rfl ⟨A, c, gs, rfl, hgk, hOE, ?_⟩
      exact (hbel.setCell (by simp) _).setCell (by simp) _
end Go.Proofs.YtfbkcdhmggjbaaaGreatDoor

namespace Go.Proofs.YtfbkcdhmggjbaaaGreatDoor
open Go.RowKit

/-- Bit k of bytes. -/
def bitB (zs : List Int) (k : Nat) : Bool := decide (k / 8 < zs.length) && decide ((zs.getD (k / 8) 0) / 2 ^ (k % 8) % 2 = 1)
set_option maxRecDepth 100000 in
set_option maxHeartbeats 1000000 in
theorem bit_any (A : Option Addr) (c : Nat) (zs : List Int) (k : Nat) (w : World) (hr : Row w A (zs.map (.int .u8))) (hz : ∀ z ∈ zs, 0 ≤ z ∧ z ≤ 255) (hk : k ≤ 1000000) (hl : zs.length ≤ maxLen) :
    Calls Tryz.prog 74 #[.slice A zs.length c, .int .i64 k] w fun e w' => e = .returned (.bool (bitB zs k)) ∧ w = w' := by
  unfold maxLen at hl
  by_cases h : k / 8 < zs.length
  · obtain ⟨g, off, rfl, hg, hc⟩ := hr (by simp; omega)
    have hc1 := hc (k / 8) (.int .u8 (zs.getD (k / 8) 0)) (by
      rw [List.getElem?_map, List.getElem?_eq_getElem h, List.getD_eq_getElem?_getD, List.getElem?_eq_getElem h]; rfl)
    have hb := hz (zs.getD (k / 8) 0) (by rw [List.getD_eq_getElem?_getD, List.getElem?_eq_getElem h]; exact List.getElem_mem h)
    obtain ⟨b1, b2⟩ := hb
    have e : bitB zs k = decide ((zs.getD (k / 8) 0) / 2 ^ (k % 8) % 2 = 1) := by unfold bitB; rw [decide_eq_true h, Bool.true_and]
    rw [e]
    clear hc hz e
    obtain ⟨z, hz⟩ : ∃ z, z = zs.getD (k / 8) 0 := ⟨_, rfl⟩
    rw [← hz] at hc1 b1 b2 ⊢
    clear hz
    go_enter Tryz.func74, Tryz.ntmps74
    go_wp2
    go_ret
    refine ⟨ret_bool ?_, rfl⟩
    rw [Int.tmod_eq_emod_of_nonneg (Int.ediv_nonneg b1 (Int.le_of_lt (Int.pow_pos (by decide)))), Bool.eq_iff_iff, beq_iff_eq, decide_eq_true_eq]
  · have e : bitB zs k = false := by unfold bitB; rw [decide_eq_false h, Bool.false_and]
    rw [e]
    clear e hr hz
    go_enter Tryz.func74, Tryz.ntmps74
    go_wp2
    go_ret
    exact ⟨rfl, rfl⟩
/-- A matrix that is being filled row by row: what T says of the elements before (k, n), zeros behind. -/
def part (k n : Nat) (T : Nat → Nat → Bool) (i j : Nat) : Bool := if i < k ∨ (i = k ∧ j < n) then T i j else false
theorem part_zero (T : Nat → Nat → Bool) : part 0 0 T = fun _ _ => false := by
  funext i j; unfold part; rw [if_neg (by omega)]
theorem part_step (k n : Nat) (T : Nat → Nat → Bool) : (fun x y => if x = k ∧ y = n then T k n else part k n T x y) = part k (n + 1) T := by
  funext i j
  unfold part
  by_cases h : i = k ∧ j = n
  · rw [if_pos h, if_pos (by omega)]; rw [h.1, h.2]
  · rw [if_neg h]
    by_cases h2 : i < k ∨ (i = k ∧ j < n)
    · rw [if_pos h2, if_pos (by omega)]
    · rw [if_neg h2, if_neg (by omega)]
section
variable {W W' : World} {base C : Nat} {gs : List Nat} {f f' : Nat → Nat → Bool} {v : Value}
theorem OwnRows.congr (h : OwnRows W base C gs f) (he : ∀ i, i < gs.length → ∀ j, j < C → f i j = f' i j) : OwnRows W base C gs f' := by
  refine ⟨h.1, h.2.1, fun i g hg => ?_⟩
  have hi : i < gs.length := (List.getElem?_eq_some_iff.1 hg).1
  have := h.2.2 i g hg
  have e : (List.range C).map (fun j => Value.bool (f i j)) = (List.range C).map (fun j => Value.bool (f' i j)) := List.map_congr_left fun j hj => by rw [he i hi j (List.mem_range.1 hj)]
  rwa [e] at this
theorem OwnRef.congr (h : OwnRef W base C v gs f) (he : ∀ i, i < gs.length → ∀ j, j < C → f i j = f' i j) : OwnRef W base C v gs f' := ⟨h.1, h.2.congr he⟩
theorem OwnRef.row_done {T : Nat → Nat → Bool} {k : Nat} (h : OwnRef W base C v gs (part k C T)) : OwnRef W base C v gs (part (k + 1) 0 T) :=
  h.congr fun i _ j hj => by
    unfold part
    by_cases h2 : i < k ∨ (i = k ∧ j < C)
    · rw [if_pos h2, if_pos (by omega)]
    · rw [if_neg h2, if_neg (by omega)]
theorem OwnRef.all_done {T : Nat → Nat → Bool} (h : OwnRef W base C v gs (part gs.length 0 T)) : OwnRef W base C v gs T :=
  h.congr fun i hi j _ => by unfold part; rw [if_pos (by omega)]
/-- Row i of a matrix of our own: its slice, its block. -/
theorem OwnRef.at_ {A : Option Addr} {c : Nat} (h : OwnRef W base C (.slice A gs.length c) gs f) {i : Nat} (hi : i < gs.length) :
    ∃ g off, A = some ⟨g, off, none⟩ ∧ g < W.heap.size ∧ W.cell? ⟨g, off + i, none⟩ = some (.slice (some ⟨gs[i], 0, none⟩) C C) ∧ Blk W gs[i] 4 ((List.range C).map fun j => Value.bool (f i j)).toArray ∧ base ≤ gs[i] := by
  obtain ⟨A', c', hv, _, _, h2, _⟩ := row_of_own h.1
  cases hv
  obtain ⟨g, off, rfl, hg, hc⟩ := h2 (by simp [hdrs]; omega)
  refine ⟨g, off, rfl, hg, hc i _ ?_, h.2.2.2 i _ (List.getElem?_eq_getElem hi), h.2.2.1 _ (List.getElem_mem hi)⟩
  unfold hdrs
  rw [List.getElem?_map, List.getElem?_eq_getElem hi]; rfl
theorem bools_get {C j : Nat} (hj : j < C) (F : Nat → Bool) : (((List.range C).map fun y => Value.bool (F y)).toArray)[j]? = some (.bool (F j)) := by
  simp [hj]
/-- One element is stored. -/
theorem OwnRef.put {v : Value} (h : OwnRef W base C v gs f) {i j : Nat} (hi : i < gs.length) (b : Bool) : OwnRef (W.setCell ⟨gs[i], j, none⟩ (.bool b)) base C v gs (fun x y => if x = i ∧ y = j then b else f x y) := by
  refine ⟨ownsRow_setCell_other h.1 (a := ⟨gs[i], j, none⟩) (fun e => own_ne h.1 (h.2.2.2 i _ (List.getElem?_eq_getElem hi)) (by decide) e.symm) _, h.2.set_ (List.getElem?_eq_getElem hi) b⟩
end

/-- The elements of a raw matrix. -/
def rawF (C : Nat) (zs : List Int) (i j : Nat) : Bool := bitB zs (C * i + j)
set_option maxRecDepth 100000 in
set_option maxHeartbeats 2000000 in
theorem maker_any (r c R C : Nat) (A : Option Addr) (d : Nat) (zs : List Int) (w : World) (hR : (r : Int) % 6 = R) (hC : (c : Int) % 6 = C) (hr1 : r ≤ 255) (hc1 : c ≤ 255) (hr : Row w A (zs.map (.int .u8))) (hz : ∀ z ∈ zs, 0 ≤ z ∧ z ≤ 255) (hl : zs.length ≤ maxLen) :
    Calls Tryz.prog 24 #[.agg #[.int .u8 r, .int .u8 c, .slice A zs.length d]] w fun e w' => ∃ A' c' gs, e = .returned (refV C A' R c') ∧ gs.length = R ∧ OwnRef w' w.heap.size C (.slice A' R c') gs (rawF C zs) ∧ Below w.heap.size w w' := by
  have hR5 : R ≤ 5 := by omega
  have hC5 : C ≤ 5 := by omega
  go_enter Tryz.func24, Tryz.ntmps24
  go_wp2_with fail
  refine absC2 fun W0 hX0 hY0 hbel0 hz0 => ?_
  refine (newr_any R C W0 (by omega) (by omega)).mono ?_
  rintro e w1 ⟨A1, c1, gs, rfl, hgs, hO1, hb1⟩
  go_wp2_with fail
  refine abs1 fun W2 hM2 hb2 hz2 => ?_
  have hX2 := (hX0.below hb1 hX0.lt).below hb2 (by have := hb1.size; omega)
  have hY2 := (hY0.below hb1 hY0.lt).below hb2 (by have := hb1.size; omega)
  have hO2 := hO1.below hb2
  have hbe2 : Below w.heap.size w W2 := hbel0.trans ((hb1.trans (hb2.mono hb1.size)).mono (by omega))
  have hsz1 : w.heap.size + 2 ≤ w1.heap.size := by have := hb1.size; omega
  subst hgs
  have HZ2 := Lib.hid hz2; have HZ0 := Lib.hid hz0; have HR := Lib.hid hR; have HC := Lib.hid hC; have HZS := Lib.hid hz
  clear hz2 hz0 hR hC hz hX0 hY0 hO1 hbel0 hb1 hb2
  go_loopw [18] (fun i wr => ∃ k : Nat, k ≤ gs.length ∧ i = .int .i64 k ∧ Blk wr w.heap.size 24 #[.int .u8 r, .int .u8 c, .slice A zs.length d] ∧ Blk wr (w.heap.size + 1) 28 #[.int .i64 0, .slice none 0 0] ∧
    Blk wr w1.heap.size 28 #[.int .i64 (C : Int), .slice A1 gs.length c1] ∧ OwnRef wr W0.heap.size C (.slice A1 gs.length c1) gs (part k 0 (rawF C zs)) ∧ Below w.heap.size w wr) (fun i _ => gs.length - (intOf i).toNat)
  case atStart => exact ⟨0, Nat.zero_le _, rfl, hX2, hY2, hM2, by rw [part_zero]; exact hO2, hbe2⟩
  case round =>
    obtain ⟨k, hk, rfl, hX, hY, hM, hO, hbel⟩ := hrel
    clear hX2 hY2 hM2 hO2 hbe2
    by_cases hlt : k < gs.length
    · have m1 := hM.cell 1
      have m0 := hM.cell 0
      go_wp2_with fail
      obtain ⟨wo, rfl⟩ : ∃ wo : World, wo = wr := ⟨_, rfl⟩
      go_loopw [5] (fun j wq => ∃ n : Nat, n ≤ C ∧ j = .int .i64 n ∧ Blk wq w.heap.size 24 #[.int .u8 r, .int .u8 c, .slice A zs.length d] ∧ Blk wq (w.heap.size + 1) 28 #[.int .i64 0, .slice none 0 0] ∧
        Blk wq w1.heap.size 28 #[.int .i64 (C : Int), .slice A1 gs.length c1] ∧ OwnRef wq W0.heap.size C (.slice A1 gs.length c1) gs (part k n (rawF C zs)) ∧ Below w.heap.size w wq) (fun j _ => C - (intOf j).toNat)
      case atStart => exact ⟨0, Nat.zero_le _, rfl, hX, hY, hM, hO, hbel⟩
      case round =>
        clear hX hY hM hO hbel m0 m1
        obtain ⟨n, hn, rfl, hX, hY, hM, hO, hbel⟩ := hrel
        have m1 := hM.cell 1
        have m0 := hM.cell 0
        by_cases hnC : n < C
        · have x2 := hX.cell 2
          obtain ⟨g, off, rfl, hg, h1, hB, hbase⟩ := hO.at_ hlt
          have hput := hO.put (j := n) hlt (rawF C zs k n)
          rw [part_step] at hput
          have b0 := (hB.cell n).trans (bools_get hnC _)
          have f0 := hB.frozen n
          have hw1 := hX.far (p := ⟨gs[k], n, none⟩) (hX.ne_ hB (by decide)) (.bool (rawF C zs k n))
          have hw2 := hY.far (p := ⟨gs[k], n, none⟩) (hY.ne_ hB (by decide)) (.bool (rawF C zs k n))
          have hw3 := hM.far (p := ⟨gs[k], n, none⟩) (hM.ne_ hB (by decide)) (.bool (rawF C zs k n))
          have hbw := hbel.setCell (p := ⟨gs[k], n, none⟩) (by have := HZ0.out; simp; omega) (.bool (rawF C zs k n))
          have HBIT := hideC (bit_any A d zs (C * k + n) wr.drew (hr.below (hbel.drew)) HZS.out (by have : C * k ≤ 5 * 5 := Nat.mul_le_mul hC5 (by omega); omega) hl)
          have q0 : (0 : Int) ≤ (C : Int) * k := Int.mul_nonneg (by omega) (by omega)
          have q1 : (C : Int) * k ≤ 25 := by have : C * k ≤ 5 * 5 := Nat.mul_le_mul hC5 (by omega); exact_mod_cast this
          clear hX hY hM hB hO
          generalize gs[k] = gk at *
          have e1 := i64w (x := (C : Int) * k) ⟨by omega, by omega⟩
          have e2 := i64w (x := (C : Int) * k + n) ⟨by omega, by omega⟩
          have HCAST := Lib.hid (show ((C : Int) * k + n) = ((C * k + n : Nat) : Int) by push_cast; rfl)
          go_wp2_with fail
          refine wp_spine (fun W => Below wr.heap.size wr W) [0, 1, 2, 3, 4, 5, 6, 7, 8, 9, 10, 11, 12, 13] [14, 15, 16] (by kernel_rfl) (by kernel_rfl) ?_
          iterate 14 (refine wpE_op (v := ?_) rfl rfl (fun W hW => ?_) ?_; rotate_left; (have y1 := onB hW m1; have y2 := onB hW m0; have y3 := onB hW h1; have y4 := onB hW x2; go_simp; first | done | with_reducible rfl); simp only [Act.put, List.setIfInBounds_toArray, List.set_cons_zero, List.set_cons_succ])
          clear e1 e2
          refine wpE_nil ⟨fun h => (by cases h), wpSp_op rfl (Below.refl _ _).drew ?_⟩
          go_wp2_with fail
          rw [HCAST.out]
          refine HBIT.out.mono ?_
          rintro e w' ⟨rfl, rfl⟩
          go_wp2_with fail
          refine nxt_op rfl (Below.refl _ _).drew ?_
          go_wp2_with fail
          refine nxt_op rfl (Below.refl _ _).drew ?_
          go_wp2_with fail
          refine nxt_nil ?_
          go_wp2_with fail
          exact ⟨⟨n + 1, by omega, by go_num, hw1.drew, hw2.drew, hw3.drew, hput.below (Below.refl _ _).drew, hbw.drew⟩, by simp [intOf]; omega⟩
        · obtain rfl : n = C := by omega
          go_wp2_with fail
          exact ⟨⟨k + 1, by omega, by go_num, hX, hY, hM, hO.row_done, hbel⟩, by simp [intOf]; omega⟩
    · obtain rfl : k = gs.length := by omega
      have m0 := hM.cell 0
      have m1 := hM.cell 1
      have fy0 := hY.frozen 0
      have fy1 := hY.frozen 1
      have y0 := hY.cell 0
      have y1 := hY.cell 1
      have nM := hM.lt
      go_wp2_with fail
      have hE := (hY.set_ 0 (.int .i64 (C : Int))).set_ 1 (.slice A1 gs.length c1)
      have hOE := (hO.all_done.far hY (by decide) (by decide) 0 (.int .i64 (C : Int))).far (hY.set_ 0 (.int .i64 (C : Int))) (by decide) (by decide) 1 (.slice A1 gs.length c1)
      have cX := hE.cell 0
      have cY := hE.cell 1
      have hbs : w.heap.size ≤ W0.heap.size := by have := HZ0.out; omega
      refine bodyPost_ret (v := refV C A1 gs.length c1) (by simp [results, Tryz.results24, go_sem, cX, cY]) rfl ⟨A1, c1, gs, rfl, rfl, ⟨?_, hOE.2.1, fun g hg => Nat.le_trans hbs (hOE.2.2.1 g hg), hOE.2.2.2⟩, (hbel.setCell (by simp) _).setCell (by simp) _⟩
      exact hOE.1.mono hbs
end Go.Proofs.YtfbkcdhmggjbaaaGreatDoor

namespace Go.Proofs.YtfbkcdhmggjbaaaGreatDoor
open Go.RowKit

/-- A matrix of the specification's in blocks of its own. -/
def TRef (W : World) (C : Nat) (A : Option Addr) (c : Nat) (M : List (List Bool)) : Prop :=
  C ≤ 4096 ∧ M.length ≤ 4096 ∧ ∃ base gs f, OwnRef W base C (.slice A M.length c) gs f ∧ gs.length = M.length ∧ M = mat M.length C f
theorem TRef.mk_ {W : World} {base C R : Nat} {A : Option Addr} {c : Nat} {gs : List Nat} {f : Nat → Nat → Bool} (h : OwnRef W base C (.slice A R c) gs f) (hg : gs.length = R) (hC : C ≤ 4096) (hR : R ≤ 4096) : TRef W C A c (mat R C f) := by
  refine ⟨hC, by rw [mat_len]; exact hR, base, gs, f, ?_, ?_, ?_⟩
  · rw [mat_len]; exact h
  · rw [mat_len]; exact hg
  · rw [mat_len]
theorem TRef.ref {W : World} {C : Nat} {A : Option Addr} {c : Nat} {M : List (List Bool)} (h : TRef W C A c M) : IsRef W C A M := by
  obtain ⟨hC, hR, base, gs, f, h1, h2, h3⟩ := h
  rw [← h2] at h1 hR
  obtain ⟨_, _, e, _, hI⟩ := h1.ref hC hR
  cases e
  rw [h2, ← h3] at hI
  exact hI
theorem TRef.below {W W' : World} {C : Nat} {A : Option Addr} {c : Nat} {M : List (List Bool)} (h : TRef W C A c M) (hb : Below W.heap.size W W') : TRef W' C A c M := by
  obtain ⟨hC, hR, base, gs, f, h1, h2, h3⟩ := h
  exact ⟨hC, hR, base, gs, f, h1.below hb, h2, h3⟩
/-- A store into a block that holds neither rows nor bools. -/
theorem TRef.far {W : World} {C : Nat} {A : Option Addr} {c : Nat} {M : List (List Bool)} (h : TRef W C A c M) {b : Nat} {t : TypeId} {cs : Array Value} (hB : Blk W b t cs) (h1 : t ≠ 93) (h2 : t ≠ 4) (i : Nat) (u : Value) : TRef (W.setCell ⟨b, i, none⟩ u) C A c M := by
  obtain ⟨hC, hR, base, gs, f, k1, k2, k3⟩ := h
  exact ⟨hC, hR, base, gs, f, k1.far hB h1 h2 i u, k2, k3⟩
/-- W is W2 but for the rows gs of a matrix that is being filled. -/
structure Fill (w W2 W : World) (base C : Nat) (v : Value) (gs : List Nat) (f : Nat → Nat → Bool) : Prop where
  size : W2.heap.size ≤ W.heap.size
  old : ∀ g, g < W2.heap.size → g ∉ gs → W.heap[g]? = W2.heap[g]?
  bools : ∀ g ∈ gs, ∃ cs, Blk W2 g 4 cs
  own : OwnRef W base C v gs f
  below : Below w.heap.size w W
section
variable {w W2 W W' : World} {base C : Nat} {v : Value} {gs : List Nat} {f f' : Nat → Nat → Bool}
theorem OwnRows.mem (h : OwnRows W base C gs f) {g : Nat} (hg : g ∈ gs) : ∃ cs, Blk W g 4 cs := by
  obtain ⟨i, hi⟩ := List.getElem?_of_mem hg
  exact ⟨_, h.2.2 i g hi⟩
theorem Fill.start (h : OwnRef W base C v gs f) (hb : Below w.heap.size w W) : Fill w W W base C v gs f :=
  ⟨Nat.le_refl _, fun _ _ _ => rfl, fun _ hg => h.2.mem hg, h, hb⟩
theorem Fill.blk (h : Fill w W2 W base C v gs f) {b : Nat} {t : TypeId} {cs : Array Value} (hb : Blk W2 b t cs) (ht : t ≠ 4) : Blk W b t cs :=
  (h.old b hb.lt fun hg => by obtain ⟨ds, hd⟩ := h.bools b hg; exact hb.ne_ hd ht rfl).trans hb
theorem Fill.on (h : Fill w W2 W base C v gs f) (hb : Below W.heap.size W W') (hw : w.heap.size ≤ W.heap.size) : Fill w W2 W' base C v gs f :=
  ⟨Nat.le_trans h.size hb.size, fun g hg hn => (hb.block g (Nat.lt_of_lt_of_le hg h.size)).trans (h.old g hg hn), h.bools, h.own.below hb, h.below.trans (hb.mono hw)⟩
theorem Fill.drew (h : Fill w W2 W base C v gs f) : Fill w W2 W.drew base C v gs f := h.on (Below.refl _ _).drew h.below.size
theorem Fill.congr (h : Fill w W2 W base C v gs f) (he : ∀ i, i < gs.length → ∀ j, j < C → f i j = f' i j) : Fill w W2 W base C v gs f' := ⟨h.size, h.old, h.bools, h.own.congr he, h.below⟩
theorem Fill.row_done {T : Nat → Nat → Bool} {k : Nat} (h : Fill w W2 W base C v gs (part k C T)) : Fill w W2 W base C v gs (part (k + 1) 0 T) := ⟨h.size, h.old, h.bools, h.own.row_done, h.below⟩
theorem Fill.all_done {T : Nat → Nat → Bool} {n : Nat} (h : Fill w W2 W base C v gs (part n 0 T)) (hn : gs.length = n) : Fill w W2 W base C v gs T := ⟨h.size, h.old, h.bools, by subst hn; exact h.own.all_done, h.below⟩
theorem Fill.store (h : Fill w W2 W base C v gs f) (hbase : w.heap.size ≤ base) {i j : Nat} (hi : i < gs.length) (b : Bool) : Fill w W2 (W.setCell ⟨gs[i], j, none⟩ (.bool b)) base C v gs (fun x y => if x = i ∧ y = j then b else f x y) := by
  refine ⟨by simpa using h.size, fun g hg hn => ?_, h.bools, h.own.put hi b, h.below.setCell (Nat.le_trans hbase (h.own.2.2.1 _ (List.getElem_mem hi))) _⟩
  have hne : g ≠ gs[i] := fun e => hn (e ▸ List.getElem_mem hi)
  exact (Below.heap_setCell W ⟨gs[i], j, none⟩ (.bool b) g hne).trans (h.old g hg hn)
/-- The cell that is stored, and what leads to it. -/
theorem Fill.at_ {A : Option Addr} {n c : Nat} (h : Fill w W2 W base C (.slice A n c) gs f) (hn : gs.length = n) {i j : Nat} (hi : i < gs.length) (hj : j < C) :
    ∃ g off, A = some ⟨g, off, none⟩ ∧ g < W.heap.size ∧ W.cell? ⟨g, off + i, none⟩ = some (.slice (some ⟨gs[i], 0, none⟩) C C) ∧ W.cell? ⟨gs[i], j, none⟩ = some (.bool (f i j)) ∧ W.frozen? ⟨gs[i], j, none⟩ = false ∧ gs[i] < W.heap.size := by
  subst hn
  obtain ⟨g, off, hA, hg, h1, hB, _⟩ := h.own.at_ hi
  exact ⟨g, off, hA, hg, h1, (hB.cell j).trans (bools_get hj _), hB.frozen j, hB.lt⟩
/-- The struct is handed out. -/
theorem Fill.done {A : Option Addr} {n c q : Nat} (h : Fill w W2 W base C (.slice A n c) gs f) (hn : gs.length = n) (hq : Blk W2 q 28 #[.int .i64 0, .slice none 0 0]) (hqw : w.heap.size ≤ q) (hC : C ≤ 4096) (hR : n ≤ 4096) :
    ((W.setCell ⟨q, 0, none⟩ (.int .i64 (C : Int))).setCell ⟨q, 1, none⟩ (.slice A n c)).cell? ⟨q, 0, none⟩ = some (.int .i64 (C : Int)) ∧ ((W.setCell ⟨q, 0, none⟩ (.int .i64 (C : Int))).setCell ⟨q, 1, none⟩ (.slice A n c)).cell? ⟨q, 1, none⟩ = some (.slice A n c) ∧
    TRef ((W.setCell ⟨q, 0, none⟩ (.int .i64 (C : Int))).setCell ⟨q, 1, none⟩ (.slice A n c)) C A c (mat n C f) ∧ Below w.heap.size w ((W.setCell ⟨q, 0, none⟩ (.int .i64 (C : Int))).setCell ⟨q, 1, none⟩ (.slice A n c)) := by
  subst hn
  have hY := h.blk hq (by decide)
  have hY1 := hY.set_ 0 (.int .i64 (C : Int))
  have hE := hY1.set_ 1 (.slice A gs.length c)
  have hO := (h.own.far hY (by decide) (by decide) 0 (.int .i64 (C : Int))).far hY1 (by decide) (by decide) 1 (.slice A gs.length c)
  have hI := TRef.mk_ hO rfl hC hR
  exact ⟨hE.cell 0, hE.cell 1, hI, (h.below.setCell (p := ⟨q, 0, none⟩) hqw _).setCell (p := ⟨q, 1, none⟩) hqw _⟩
theorem Fill.done_cells {q : Nat} (h : Fill w W2 W base C v gs f) (hq : Blk W2 q 28 #[.int .i64 0, .slice none 0 0]) :
    W.cell? ⟨q, 0, none⟩ = some (.int .i64 0) ∧ W.cell? ⟨q, 1, none⟩ = some (.slice none 0 0) ∧ W.frozen? ⟨q, 0, none⟩ = false ∧ W.frozen? ⟨q, 1, none⟩ = false := by
  have hY := h.blk hq (by decide)
  exact ⟨hY.cell 0, hY.cell 1, hY.frozen 0, hY.frozen 1⟩
end
end Go.Proofs.YtfbkcdhmggjbaaaGreatDoor

namespace Go.Proofs.YtfbkcdhmggjbaaaGreatDoor
open Go.RowKit

/-- Row i of M as a set. -/
def rowN (C : Nat) (M : List (List Bool)) (i : Nat) : Nat := setOf ((rowTo C M i C).map Int.ofNat)
/-- The rows below k as sets. -/
def nsTo (C : Nat) (M : List (List Bool)) (k : Nat) : List Nat := (List.range k).map (rowN C M)
abbrev nsOf (C : Nat) (M : List (List Bool)) : List Nat := nsTo C M M.length
theorem nsTo_len (C : Nat) (M : List (List Bool)) (k : Nat) : (nsTo C M k).length = k := by simp [nsTo]
theorem nsTo_succ (C : Nat) (M : List (List Bool)) (k : Nat) : nsTo C M (k + 1) = nsTo C M k ++ [rowN C M k] := by simp [nsTo, List.range_succ]
theorem hasR_nat (C : Nat) (M : List (List Bool)) (i j : Nat) : hasR C M i j = (decide (i < M.length) && decide (j < C) && mget M i j) := by
  unfold hasR insideB
  by_cases h1 : i < M.length <;> by_cases h2 : j < C <;> simp [h1, h2]
theorem testBit_rowN (C : Nat) (M : List (List Bool)) (i j : Nat) (hC : C ≤ 4096) : (rowN C M i).testBit j = hasR C M i j := by
  unfold rowN
  rw [testBit_setOf, Bool.eq_iff_iff, decide_eq_true_eq]
  constructor
  · rintro ⟨_, h2⟩
    obtain ⟨x, hx, e⟩ := List.mem_map.1 h2
    have e' : x = j := Int.ofNat.inj e
    subst e'
    exact (List.mem_filter.1 hx).2
  · intro h2
    have hj : j < C := by
      rw [hasR_nat] at h2; simp at h2; omega
    exact ⟨by omega, List.mem_map.2 ⟨j, List.mem_filter.2 ⟨List.mem_range.2 hj, h2⟩, rfl⟩⟩
theorem nsOf_get {C : Nat} {M : List (List Bool)} {i k : Nat} (h : i < k) : (nsTo C M k).getD i 0 = rowN C M i := by
  unfold nsTo; rw [List.getD_eq_getElem?_getD, List.getElem?_map, List.getElem?_range h]; rfl
theorem rowsIn_nsOf (C : Nat) (M : List (List Bool)) (hC : C ≤ 4096) : rowsIn C (nsOf C M) := by
  intro k hk
  rw [nsTo_len] at hk
  rw [nsOf_get hk]
  apply Nat.eq_of_testBit_eq
  intro j
  rw [Nat.testBit_and, testBit_rowN _ _ _ _ hC, testBit_lowN, hasR_nat]
  by_cases h : j < C <;> simp [h]
theorem mhas_nsOf (C : Nat) (M : List (List Bool)) (hC : C ≤ 4096) (i j : Int) : mhas C (nsOf C M) i j = hasR C M i j := by
  unfold mhas
  rw [nsTo_len]
  by_cases h : insideB M.length C i j = true
  · have h' := h
    simp only [insideB, decide_eq_true_eq] at h'
    obtain ⟨a1, a2, a3, a4⟩ := h'
    rw [h, Bool.true_and, nsOf_get (by omega), testBit_rowN _ _ _ _ hC, Int.toNat_of_nonneg a1, Int.toNat_of_nonneg a3]
  · have h' : insideB M.length C i j = false := by simpa using h
    rw [h', Bool.false_and, hasR, h', Bool.false_and]

set_option maxRecDepth 100000 in
set_option maxHeartbeats 2000000 in
theorem matrixl_any (C : Nat) (A : Option Addr) (c : Nat) (M : List (List Bool)) (w : World) (h : IsRef w C A M) (hC : C ≤ 256) (hR : M.length ≤ 256) :
    Calls Tryz.prog 9 #[refV C A M.length c] w fun e w' => ∃ q, e = .returned (ptr q) ∧ IsMat w' q C (nsOf C M) ∧ w.heap.size ≤ q ∧ Below w.heap.size w w' := by
  obtain ⟨i0, hi0, hz0, hz1, hz2⟩ := info_parts info_set
  go_enter Tryz.func9, Tryz.ntmps9
  go_wp2_with fail
  refine abs1 fun W0 hX0 hbel0 hz => ?_
  have HZ := Lib.hid hz; clear hz
  have x0 := hX0.cell 0
  have x1 := hX0.cell 1
  go_loopw [3, 10] (fun l j wr => ∃ (k : Nat) (vs : List Value), k ≤ M.length ∧ j = .int .i64 k ∧ wr.ownsRow (w.heap.size + 1) 74 1 l k vs ∧ Sets wr vs (nsTo C M k) ∧ Below (w.heap.size + 1) W0 wr) (fun _ j _ => M.length - (intOf j).toNat)
  case atStart => exact ⟨0, [], Nat.zero_le _, rfl, World.ownsRow_nil _ _ _ _, Sets.nil _, Below.refl _ _⟩
  case round =>
    obtain ⟨k, vs, hk, rfl, hown, hsets, hbel⟩ := hrel
    have hX := hX0.below hbel (by omega)
    have x0 := hX.cell 0
    have x1 := hX.cell 1
    have hbw : Below w.heap.size w wr := hbel0.trans (hbel.mono (by omega))
    by_cases hlt : k < M.length
    · have HROW := hideC (rowr_any C A c M k wr (h.below hbw))
      go_wp2_with fail
      refine HROW.out.mono ?_
      rintro e w2 ⟨B, d, rfl, hd, hrow, hb2⟩
      have hrl := rowTo_len C M k C
      have hof := of_any B d ((rowTo C M k C).map Int.ofNat) w2 (by rw [List.map_map]; exact hrow) (by rw [List.length_map]; omega)
      rw [List.length_map] at hof
      have hmc : setOf ((rowTo C M k C).map Int.ofNat) = rowN C M k := rfl
      rw [hmc] at hof
      clear hmc
      have HC := hideC hof; clear hof
      go_wp2_with fail
      refine HC.out.mono ?_
      rintro e w3 ⟨r, rfl, hset, hb3⟩
      have hb23 := hb2.trans (hb3.mono hb2.size)
      obtain ⟨A2, c2, rfl, _⟩ := id hset
      have hown3 := (own_below hown hb23).alloc (.cells #[.slice A2 (nw (rowN C M k)) c2] 74)
      have hsz := hbel.size
      have hsz2 := hb23.size
      have hzz := HZ.out
      have hbel3 : Below (w.heap.size + 1) W0 w3 := hbel.trans (hb23.mono (by omega))
      have hS3 : Sets w3 (vs ++ [.slice A2 (nw (rowN C M k)) c2]) (nsTo C M (k + 1)) := by rw [nsTo_succ]; exact (hsets.below hb23).snoc hset
      go_wp2_with (at_builtin; refine wpList_append_own _ rfl _ _ 71 rfl (w.heap.size + 1) 74 i0 (.agg #[.slice none 0 0]) 1 24 Tryz.underlying71 hi0 hz0 hz1 hz2 rfl (by decide) _ _ _ rfl (hown3) ⟨w3.heap.size, 0, none⟩ 1 1 [.slice A2 (nw (rowN C M k)) c2] rfl rfl (cell_one_new _ _ _) (by simp [Value.oneCell']) (by unfold maxLen; omega) (by omega) (by simp; omega) ?_; intro v' w3 hown' hgrow _)
      exact ⟨⟨k + 1, vs ++ [.slice A2 (nw (rowN C M k)) c2], by omega, by go_num, hown', (hS3.keep (KeepW.alloc _ _)).keep (KeepW.grown hgrow hown3 (by decide)), (hbel3.alloc (by omega) _).grown hgrow (by simp; omega) (fun q hq => (hown3.lt q hq).1)⟩, by simp [intOf]; omega⟩
    · obtain rfl : k = M.length := by omega
      obtain ⟨B, d, rfl, h1, _, h2, _⟩ := row_of_own hown
      have hof := ofm_any B d C vs (nsOf C M) wr h2 hsets hC (by rw [nsTo_len]; exact hR)
      rw [nsTo_len] at hof
      have HO := hideC hof; clear hof
      go_wp2_with fail
      refine HO.out.mono ?_
      rintro e w2 (⟨_, hno, _⟩ | ⟨q, rfl, _, hm, hq, hb2⟩)
      · exact absurd (rowsIn_nsOf C M (by omega)) hno
      have hsz := hbw.size
      go_wp2_with fail
      go_ret
      exact ⟨q, rfl, hm, by omega, hbw.trans (hb2.mono hbw.size)⟩
end Go.Proofs.YtfbkcdhmggjbaaaGreatDoor

namespace Go.Proofs.YtfbkcdhmggjbaaaGreatDoor
open Go.RowKit

/-- A matrix of the program's, as the specification has it. -/
def toldF (C : Nat) (Ns : List Nat) (i j : Nat) : Bool := mhas C Ns i j
set_option maxRecDepth 100000 in
set_option maxHeartbeats 2000000 in
theorem told_any (p C : Nat) (Ns : List Nat) (w : World) (h : IsMat w p C Ns) (hC : C ≤ 256) (hR : Ns.length ≤ 256) :
    Calls Tryz.prog 99 #[ptr p] w fun e w' => ∃ A' c' gs, e = .returned (refV C A' Ns.length c') ∧ gs.length = Ns.length ∧ OwnRef w' w.heap.size C (.slice A' Ns.length c') gs (toldF C Ns) ∧ Below w.heap.size w w' := by
  have hmin1 : min (Ns.length : Int) 300 = (Ns.length : Int) := by omega
  have hmin2 : min (C : Int) 300 = (C : Int) := by omega
  go_enter Tryz.func99, Tryz.ntmps99
  go_wp2_with fail
  refine absC1 fun W0 hY0 hbel0 hz0 => ?_
  have HR := hideC (rows_any p C Ns W0 (h.below hbel0))
  have HC := hideC (cols_any p C Ns W0 (h.below hbel0))
  refine HR.out.mono ?_
  rintro e w' ⟨rfl, rfl⟩
  go_wp2_with fail
  refine HC.out.mono ?_
  rintro e w' ⟨rfl, rfl⟩
  go_wp2_with fail
  clear hmin1 hmin2
  refine (newr_any Ns.length C W0 (by omega) (by omega)).mono ?_
  rintro e w1 ⟨A1, c1, gs, rfl, hgs, hO1, hb1⟩
  go_wp2_with fail
  refine abs1 fun W2 hM2 hb2 hz2 => ?_
  have hY2 := (hY0.below hb1 hY0.lt).below hb2 (by have := hb1.size; omega)
  have hO2 := hO1.below hb2
  have hbe2 : Below w.heap.size w W2 := hbel0.trans ((hb1.trans (hb2.mono hb1.size)).mono (by omega))
  have hsz1 : w.heap.size + 1 ≤ w1.heap.size := by have := hb1.size; omega
  have HZ2 := Lib.hid hz2; have HZ0 := Lib.hid hz0
  rw [← hgs] at hO2 hM2 ⊢
  rw [← hgs] at hR
  have HGS := Lib.hid hgs
  clear hz2 hz0 hY0 hO1 hbel0 hb1 hb2 hgs
  go_loopw [18] (fun i wr => ∃ k : Nat, k ≤ gs.length ∧ i = .int .i64 k ∧ Blk wr w.heap.size 28 #[.int .i64 0, .slice none 0 0] ∧
    Blk wr w1.heap.size 28 #[.int .i64 (C : Int), .slice A1 gs.length c1] ∧ OwnRef wr W0.heap.size C (.slice A1 gs.length c1) gs (part k 0 (toldF C Ns)) ∧ Below w.heap.size w wr) (fun i _ => gs.length - (intOf i).toNat)
  case atStart => exact ⟨0, Nat.zero_le _, rfl, hY2, hM2, by rw [part_zero]; exact hO2, hbe2⟩
  case round =>
    obtain ⟨k, hk, rfl, hY, hM, hO, hbel⟩ := hrel
    clear hY2 hM2 hO2 hbe2
    by_cases hlt : k < gs.length
    · have m1 := hM.cell 1
      have m0 := hM.cell 0
      go_wp2_with fail
      obtain ⟨wo, rfl⟩ : ∃ wo : World, wo = wr := ⟨_, rfl⟩
      go_loopw [23] (fun j wq => ∃ n : Nat, n ≤ C ∧ j = .int .i64 n ∧ Blk wq w.heap.size 28 #[.int .i64 0, .slice none 0 0] ∧
        Blk wq w1.heap.size 28 #[.int .i64 (C : Int), .slice A1 gs.length c1] ∧ OwnRef wq W0.heap.size C (.slice A1 gs.length c1) gs (part k n (toldF C Ns)) ∧ Below w.heap.size w wq) (fun j _ => C - (intOf j).toNat)
      case atStart => exact ⟨0, Nat.zero_le _, rfl, hY, hM, hO, hbel⟩
      case round =>
        clear hY hM hO hbel m0 m1
        obtain ⟨n, hn, rfl, hY, hM, hO, hbel⟩ := hrel
        have m1 := hM.cell 1
        have m0 := hM.cell 0
        by_cases hnC : n < C
        · have hcall := hasm_any p C Ns k n wr.drew (h.below hbel.drew)
          have hcell0 := (onB (Below.refl _ _).drew m1 : wr.drew.cell? _ = _)
          obtain ⟨g, off, rfl, hg, h1, hB, hbase⟩ := hO.at_ hlt
          have b0 := (hB.cell n).trans (bools_get hnC _)
          have f0 := hB.frozen n
          have hnY := hY.ne_ hB (by decide)
          have hnM := hM.ne_ hB (by decide)
          have HCALL := hideC hcall; clear hcall
          have hputk : ∀ W, OwnRef W W0.heap.size C (.slice (some ⟨g, off, none⟩) gs.length c1) gs (part k n (toldF C Ns)) → OwnRef (W.setCell ⟨gs[k], n, none⟩ (.bool (toldF C Ns k n))) W0.heap.size C (.slice (some ⟨g, off, none⟩) gs.length c1) gs (part k (n + 1) (toldF C Ns)) := fun W hW => by
            have := hW.put (j := n) hlt (toldF C Ns k n)
            rwa [part_step] at this
          have HPUT := hideC hputk; clear hputk
          have lB := hB.lt
          generalize gs[k] = gk at *
          go_wp2_with fail
          refine wp_spine (fun W => Below wr.heap.size wr W) [0, 1, 2, 3, 4, 5, 6, 7, 8] [9, 10, 11] (by kernel_rfl) (by kernel_rfl) ?_
          iterate 9 (refine wpE_op (v := ?_) rfl rfl (fun W hW => ?_) ?_; rotate_left; (have y1 := onB hW m1; have y3 := onB hW h1; go_simp; first | done | with_reducible rfl); simp only [Act.put, List.setIfInBounds_toArray, List.set_cons_zero, List.set_cons_succ])
          refine wpE_nil ⟨fun h => (by cases h), wpSp_op rfl (Below.refl _ _).drew ?_⟩
          go_wp2_with fail
          refine HCALL.out.mono ?_
          rintro e w3 ⟨rfl, hb3⟩
          have hb4 : Below wr.heap.size wr w3 := (Below.refl _ _).drew.trans hb3
          have b4 := onB hb4 b0
          have f4 := onFrozen hb4 b0 f0
          have hput := HPUT.out w3 (hO.below hb4)
          have hw2 := (hY.below hb4 hY.lt).far (p := ⟨gk, n, none⟩) hnY (.bool (toldF C Ns k n))
          have hw3 := (hM.below hb4 hM.lt).far (p := ⟨gk, n, none⟩) hnM (.bool (toldF C Ns k n))
          have hbw := (hbel.trans (hb4.mono hbel.size)).setCell (p := ⟨gk, n, none⟩) (by have := HZ0.out; simp; omega) (.bool (toldF C Ns k n))
          clear hY hM hO
          go_wp2_with fail
          refine nxt_op rfl hb4 ?_
          go_wp2_with fail
          refine nxt_op rfl hb4 ?_
          go_wp2_with fail
          refine nxt_nil ?_
          go_wp2_with fail
          exact ⟨⟨n + 1, by omega, by go_num, hw2, hw3, hput, hbw⟩, by simp [intOf]; omega⟩
        · obtain rfl : n = C := by omega
          go_wp2_with fail
          exact ⟨⟨k + 1, by omega, by go_num, hY, hM, hO.row_done, hbel⟩, by simp [intOf]; omega⟩
    · obtain rfl : k = gs.length := by omega
      have m0 := hM.cell 0
      have m1 := hM.cell 1
      have fy0 := hY.frozen 0
      have fy1 := hY.frozen 1
      have y0 := hY.cell 0
      have y1 := hY.cell 1
      have nM := hM.lt
      go_wp2_with fail
      have hE := (hY.set_ 0 (.int .i64 (C : Int))).set_ 1 (.slice A1 gs.length c1)
      have hOE := (hO.all_done.far hY (by decide) (by decide) 0 (.int .i64 (C : Int))).far (hY.set_ 0 (.int .i64 (C : Int))) (by decide) (by decide) 1 (.slice A1 gs.length c1)
      have cX := hE.cell 0
      have cY := hE.cell 1
      have hbs : w.heap.size ≤ W0.heap.size := by have := HZ0.out; omega
      refine bodyPost_ret (v := refV C A1 gs.length c1) (by simp [results, Tryz.results99, go_sem, cX, cY]) rfl ⟨A1, c1, gs, by rw [HGS.out], HGS.out, by rw [← HGS.out]; exact ⟨hOE.1.mono hbs, hOE.2.1, fun g hg => Nat.le_trans hbs (hOE.2.2.1 g hg), hOE.2.2.2⟩, (hbel.setCell (by simp) _).setCell (by simp) _⟩
/-- A matrix of the program's as the specification's. -/
abbrev toldM (C : Nat) (Ns : List Nat) : List (List Bool) := mat Ns.length C (toldF C Ns)
set_option maxRecDepth 100000 in
set_option maxHeartbeats 2000000 in
theorem samel_any (p C D : Nat) (Ns : List Nat) (A : Option Addr) (c : Nat) (M : List (List Bool)) (w : World) (h : IsMat w p C Ns) (hC : C ≤ 256) (hR : Ns.length ≤ 256) (h' : IsRef w D A M) :
    Calls Tryz.prog 47 #[ptr p, refV D A M.length c] w fun e w' => e = .returned (.bool (sameB C D (toldM C Ns) M)) ∧ Below w.heap.size w w' := by
  go_enter Tryz.func47, Tryz.ntmps47
  go_wp2_with fail
  refine abs1 fun W0 hX hbel0 hz => ?_
  have x0 := hX.cell 0
  have x1 := hX.cell 1
  have HT := hideC (told_any p C Ns W0.drew ((h.below hbel0).below (Below.refl _ _).drew) hC hR)
  refine wp_spine (fun W => Below W0.heap.size W0 W) [0, 1, 2, 3, 5] [4, 6, 7, 8] (by kernel_rfl) (by kernel_rfl) ?_
  iterate 3 (refine wpE_op (v := ?_) rfl rfl (fun W hW => ?_) ?_; rotate_left; (go_simp; first | done | with_reducible rfl); simp only [Act.put, List.setIfInBounds_toArray, List.set_cons_zero, List.set_cons_succ])
  iterate 1 (refine wpE_yes (v := ?_) rfl (by rfl) (fun W hW => ?_) ?_; rotate_left; (go_simp; first | done | with_reducible rfl); simp only [Act.put, List.setIfInBounds_toArray, List.set_cons_zero, List.set_cons_succ])
  iterate 1 (refine wpE_yes (v := ?_) rfl (by rfl) (fun W hW => ?_) ?_; rotate_left; (have y0 := onB hW x0; have y1 := onB hW x1; go_simp; first | done | with_reducible rfl); simp only [Act.put, List.setIfInBounds_toArray, List.set_cons_zero, List.set_cons_succ])
  refine wpE_nil ⟨fun h => (by cases h), wpSp_op rfl (Below.refl _ _).drew ?_⟩
  go_wp2_with fail
  refine HT.out.mono ?_
  rintro e w1 ⟨A1, c1, gs, rfl, hgs, hO, hb1⟩
  have hb2 : Below W0.heap.size W0 w1 := (Below.refl _ _).drew.trans hb1
  rw [← hgs] at hO
  obtain ⟨A2, c2, hv, _, hI⟩ := hO.ref (by omega) (by omega)
  cases hv
  rw [hgs] at hI
  have hcall := samer_any C D A1 A c1 c (toldM C Ns) M w1 hI ((h'.below hbel0).below hb2)
  rw [mat_len] at hcall
  have HC := hideC hcall; clear hcall
  go_wp2_with fail
  refine nxt_op rfl hb2 ?_
  go_wp2_with fail
  refine HC.out.mono ?_
  rintro e w3 ⟨rfl, hb3⟩
  have hb4 := hb2.trans (hb3.mono hb2.size)
  go_wp2_with fail
  refine nxt_op rfl hb4 ?_
  go_wp2_with fail
  refine nxt_op rfl hb4 ?_
  go_wp2_with fail
  refine nxt_nil ?_
  go_wp2_with fail
  go_ret
  exact ⟨rfl, hbel0.trans (hb4.mono hbel0.size)⟩
end Go.Proofs.YtfbkcdhmggjbaaaGreatDoor

namespace Go.Proofs.YtfbkcdhmggjbaaaGreatDoor
open Go.RowKit


/-- The slice v reads as the row r. -/
def Hdr (w : World) (C : Nat) (v : Value) (r : List Bool) : Prop := r.length = C ∧ ∃ B d, v = .slice B C d ∧ Row w B (r.map .bool)
def Hdrs (w : World) (C : Nat) (hs : List Value) (D : List (List Bool)) : Prop := hs.length = D.length ∧ ∀ (i : Nat) r, D[i]? = some r → ∃ v, hs[i]? = some v ∧ Hdr w C v r
theorem Hdr.below {w w' : World} {C : Nat} {v : Value} {r : List Bool} (h : Hdr w C v r) (hb : Below w.heap.size w w') : Hdr w' C v r := by
  obtain ⟨h1, B, d, h2, h3⟩ := h
  exact ⟨h1, B, d, h2, h3.below hb⟩
theorem Hdrs.below {w w' : World} {C : Nat} {hs : List Value} {D : List (List Bool)} (h : Hdrs w C hs D) (hb : Below w.heap.size w w') : Hdrs w' C hs D :=
  ⟨h.1, fun i r hr => by obtain ⟨v, h1, h2⟩ := h.2 i r hr; exact ⟨v, h1, h2.below hb⟩⟩
theorem Hdrs.nil (w : World) (C : Nat) : Hdrs w C [] [] := ⟨rfl, fun i r h => by simp at h⟩
theorem Hdrs.snoc {w : World} {C : Nat} {hs : List Value} {D : List (List Bool)} {v : Value} {r : List Bool} (h : Hdrs w C hs D) (hv : Hdr w C v r) : Hdrs w C (hs ++ [v]) (D ++ [r]) := by
  refine ⟨by simp [h.1], fun i q hq => ?_⟩
  by_cases hi : i < D.length
  · rw [List.getElem?_append_left hi] at hq
    obtain ⟨u, h1, h2⟩ := h.2 i q hq
    exact ⟨u, by rw [List.getElem?_append_left (by rw [h.1]; exact hi)]; exact h1, h2⟩
  · rw [List.getElem?_append_right (by omega)] at hq
    have : i = D.length := by
      have := (List.getElem?_eq_some_iff.1 hq).1
      simp at this; omega
    subst this
    rw [Nat.sub_self] at hq
    simp at hq
    subst hq
    exact ⟨v, by rw [← h.1, List.getElem?_append_right (Nat.le_refl _), Nat.sub_self]; rfl, hv⟩
theorem Hdrs.ref {w : World} {C : Nat} {A : Option Addr} {hs : List Value} {D : List (List Bool)} (h : Hdrs w C hs D) (hr : Row w A hs) (hC : C ≤ 4096) (hD : D.length ≤ 4096) : IsRef w C A D :=
  ⟨hC, hD, hs, h.1, hr, fun i r hq => by
    obtain ⟨v, h1, h2, B, d, rfl, h4⟩ := h.2 i r hq
    exact ⟨h2, B, d, h1, h4⟩⟩
theorem Hdr.cell {w : World} {C : Nat} {v : Value} {r : List Bool} (h : Hdr w C v r) {j : Nat} (hj : j < C) : ∃ g off d, v = .slice (some ⟨g, off, none⟩) C d ∧ g < w.heap.size ∧ w.cell? ⟨g, off + j, none⟩ = some (.bool (r.getD j false)) := by
  obtain ⟨h1, B, d, h2, h3⟩ := h
  obtain ⟨g, off, rfl, hg, hc⟩ := h3 (by rw [List.length_map]; omega)
  refine ⟨g, off, d, h2, hg, hc j _ ?_⟩
  rw [List.getElem?_map, List.getElem?_eq_getElem (by omega), List.getD_eq_getElem?_getD, List.getElem?_eq_getElem (by omega)]; rfl

end Go.Proofs.YtfbkcdhmggjbaaaGreatDoor

namespace Go.Proofs.YtfbkcdhmggjbaaaGreatDoor
open Go.RowKit

/-- With another element. -/
def withF (M : List (List Bool)) (a b : Nat) (one : Bool) (i j : Nat) : Bool := if i = a ∧ j = b then one else mget M i j
set_option maxRecDepth 100000 in
set_option maxHeartbeats 4000000 in
theorem withr_own (C : Nat) (A : Option Addr) (c : Nat) (M : List (List Bool)) (a b : Nat) (one : Bool) (w : World) (h : IsRef w C A M) (ha : a < M.length) (hb : b < C) :
    Calls Tryz.prog 46 #[refV C A M.length c, .int .i64 a, .int .i64 b, .bool one] w fun e w' => ∃ A' c', e = .returned (refV C A' M.length c') ∧ TRef w' C A' c' (mat M.length C (withF M a b one)) ∧ Below w.heap.size w w' := by
  have hC : C ≤ 4096 := h.1
  have hR : M.length ≤ 4096 := h.2.1
  go_enter Tryz.func46, Tryz.ntmps46
  go_wp2_with fail
  refine absC2 fun W0 hX0 hY0 hbel0 hz0 => ?_
  refine (newr_any M.length C W0 hR hC).mono ?_
  rintro e w1 ⟨A1, c1, gs, rfl, hgs, hO1, hb1⟩
  have hX1 := hX0.below hb1 hX0.lt
  have x1 := hX1.cell 1
  have lX := hX1.lt
  go_wp2_with fail
  refine abs1 fun W2 hM2 hb2 hz2 => ?_
  clear x1
  have hX2 := hX1.below hb2 lX
  have hY2 := (hY0.below hb1 hY0.lt).below hb2 (by have := hb1.size; omega)
  have hbe2 : Below w.heap.size w W2 := hbel0.trans ((hb1.trans (hb2.mono hb1.size)).mono (by omega))
  have hsz1 : w.heap.size + 2 ≤ w1.heap.size := by have := hb1.size; omega
  have hbase : w.heap.size ≤ W0.heap.size := by omega
  have hF2 := Fill.start (hO1.below hb2) hbe2
  have HGS := Lib.hid hgs
  clear hz2 hz0 hX0 hY0 hO1 hbel0 hb1 hb2 hX1 hgs
  go_loopw [21] (fun i wr => ∃ k : Nat, k ≤ M.length ∧ i = .int .i64 k ∧ Fill w W2 wr W0.heap.size C (.slice A1 M.length c1) gs (part k 0 (mget M))) (fun i _ => M.length - (intOf i).toNat)
  case atStart => exact ⟨0, Nat.zero_le _, rfl, by rw [part_zero]; exact hF2⟩
  case round =>
    obtain ⟨k, hk, rfl, hF⟩ := hrel
    clear hF2
    by_cases hlt : k < M.length
    · have hM := hF.blk hM2 (by decide)
      have hX := hF.blk hX2 (by decide)
      have m0 := hX.cell 0
      go_wp2_with fail
      obtain ⟨wo, rfl⟩ : ∃ wo : World, wo = wr := ⟨_, rfl⟩
      go_loopw [11] (fun j wq => ∃ n : Nat, n ≤ C ∧ j = .int .i64 n ∧ Fill w W2 wq W0.heap.size C (.slice A1 M.length c1) gs (part k n (mget M))) (fun j _ => C - (intOf j).toNat)
      case atStart => exact ⟨0, Nat.zero_le _, rfl, hF⟩
      case round =>
        clear hF hM hX m0
        obtain ⟨n, hn, rfl, hF⟩ := hrel
        have hM := hF.blk hM2 (by decide)
        have hX := hF.blk hX2 (by decide)
        have m1 := hM.cell 1
        have x0 := hX.cell 0
        have x1 := hX.cell 1
        by_cases hnC : n < C
        · have hkg : k < gs.length := by rw [HGS.out]; exact hlt
          obtain ⟨g, off, rfl, hg, h1, b0, f0, lg⟩ := hF.at_ HGS.out hkg hnC
          have hS := hF.drew.store hbase hkg (j := n) (mget M k n)
          rw [part_step] at hS
          obtain ⟨ga, oa, gb, ob, db, rfl, hga, hgb, ca, cb⟩ := (h.below hF.below).at_ hlt hnC
          generalize gs[k] = gk at *
          clear hF hM hX h
          go_wp2_with fail
          refine wp_spine (fun W => Below wr.heap.size wr W) [0, 1, 2, 3, 4, 5, 6, 7, 8, 9, 10, 11, 12, 13, 14] [15] (by kernel_rfl) (by kernel_rfl) ?_
          iterate 15 (refine wpE_op (v := ?_) rfl rfl (fun W hW => ?_) ?_; rotate_left; (have y1 := onB hW m1; have y2 := onB hW x1; have y3 := onB hW h1; have y4 := onB hW ca; have y5 := onB hW cb; go_simp; first | done | with_reducible rfl); simp only [Act.put, List.setIfInBounds_toArray, List.set_cons_zero, List.set_cons_succ])
          refine wpE_nil ⟨fun h => (by cases h), wpSp_op rfl (Below.refl _ _).drew ?_⟩
          go_wp2_with fail
          refine nxt_nil ?_
          go_wp2_with fail
          exact ⟨⟨n + 1, by omega, by go_num, hS⟩, by simp [intOf]; omega⟩
        · obtain rfl : n = C := by omega
          go_wp2_with fail
          exact ⟨⟨k + 1, by omega, by go_num, hF.row_done⟩, by simp [intOf]; omega⟩
    · obtain rfl : k = M.length := by omega
      have hM := hF.blk hM2 (by decide)
      have m0 := hM.cell 0
      have m1 := hM.cell 1
      have hag : a < gs.length := by rw [HGS.out]; exact ha
      obtain ⟨g, off, rfl, hg, h1, b0, f0, lg⟩ := hF.at_ HGS.out hag hb
      have hS := (hF.store hbase hag (j := b) one).congr (f' := withF M a b one) fun i hi j _ => by
        show (if i = a ∧ j = b then one else part _ _ _ i j) = _
        unfold withF
        split
        · rfl
        · unfold part; rw [if_pos (by rw [HGS.out] at hi; omega)]
      obtain ⟨y0, y1, fy0, fy1⟩ := hS.done_cells hY2
      have hMS := hS.blk hM2 (by decide)
      have ms0 := hMS.cell 0
      have ms1 := hMS.cell 1
      obtain ⟨cX, cY, hI, hbE⟩ := hS.done HGS.out hY2 (by omega) hC hR
      have HI := hideC hI; have HB := hideC hbE
      have HCX := hideC cX; have HCY := hideC cY
      clear hI hbE cX cY hS hF hM hMS hM2 hX2 hY2 h
      generalize gs[a] = ga at *
      go_wp2_with fail
      have cX := HCX.out
      have cY := HCY.out
      exact bodyPost_ret (v := refV C (some ⟨g, off, none⟩) M.length c1) (by simp [results, Tryz.results46, go_sem, cX, cY]) rfl ⟨_, _, rfl, HI.out, HB.out⟩
theorem withr_any (C : Nat) (A : Option Addr) (c : Nat) (M : List (List Bool)) (a b : Nat) (one : Bool) (w : World) (h : IsRef w C A M) (ha : a < M.length) (hb : b < C) :
    Calls Tryz.prog 46 #[refV C A M.length c, .int .i64 a, .int .i64 b, .bool one] w fun e w' => ∃ A' c', e = .returned (refV C A' M.length c') ∧ IsRef w' C A' (mat M.length C (withF M a b one)) ∧ Below w.heap.size w w' :=
  (withr_own C A c M a b one w h ha hb).mono fun _ _ ⟨A', c', e, h1, h2⟩ => ⟨A', c', e, h1.ref, h2⟩
end Go.Proofs.YtfbkcdhmggjbaaaGreatDoor

namespace Go.Proofs.YtfbkcdhmggjbaaaGreatDoor
open Go.RowKit

end Go.Proofs.YtfbkcdhmggjbaaaGreatDoor

namespace Go.Proofs.YtfbkcdhmggjbaaaGreatDoor
open Go.RowKit

section
variable {w W2 W : World} {base C : Nat} {v : Value} {gs : List Nat} {T : Nat → Nat → Bool}
end

/-- Is there a common one below q? -/
def anyTo (M P : List (List Bool)) (i j q : Nat) : Bool := (List.range q).any fun k => mget M i k && mget P k j
theorem anyTo_succ (M P : List (List Bool)) (i j q : Nat) : anyTo M P i j (q + 1) = (anyTo M P i j q || (mget M i q && mget P q j)) := by
  unfold anyTo; rw [List.range_succ, List.any_append]; simp
/-- The Boolean product. -/
def prodF (M P : List (List Bool)) (K i j : Nat) : Bool := anyTo M P i j K
/-- Element (i, j) is being made: so far b. -/
def partP (i j : Nat) (b : Bool) (T : Nat → Nat → Bool) (x y : Nat) : Bool := if x = i ∧ y = j then b else part i j T x y
theorem partP_start (i j : Nat) (T : Nat → Nat → Bool) : part i j T = partP i j false T := by
  funext x y
  unfold partP
  split
  · rename_i h; unfold part; rw [if_neg (by omega)]
  · rfl
theorem partP_store (i j : Nat) (b b' : Bool) (T : Nat → Nat → Bool) : (fun x y => if x = i ∧ y = j then b' else partP i j b T x y) = partP i j b' T := by
  funext x y
  unfold partP
  split <;> rfl
theorem partP_done (i j : Nat) (T : Nat → Nat → Bool) : partP i j (T i j) T = part i (j + 1) T := by rw [← part_step]; rfl
set_option maxRecDepth 100000 in
set_option maxHeartbeats 4000000 in
theorem prodr_own (C D : Nat) (A B : Option Addr) (c d : Nat) (M P : List (List Bool)) (w : World) (h : IsRef w C A M) (h' : IsRef w D B P) (hL : C = P.length) :
    Calls Tryz.prog 33 #[refV C A M.length c, refV D B P.length d] w fun e w' => ∃ A' c', e = .returned (refV D A' M.length c') ∧ TRef w' D A' c' (mat M.length D (prodF M P C)) ∧ Below w.heap.size w w' := by
  have hC : C ≤ 4096 := h.1
  have hD : D ≤ 4096 := h'.1
  have hR : M.length ≤ 4096 := h.2.1
  have HL := Lib.hid hL; clear hL
  go_enter Tryz.func33, Tryz.ntmps33
  go_wp2_with fail
  refine absC3 fun W0 hX0 hV0 hY0 hbel0 hz0 => ?_
  refine (newr_any M.length D W0 hR hD).mono ?_
  rintro e w1 ⟨A1, c1, gs, rfl, hgs, hO1, hb1⟩
  have hX1 := hX0.below hb1 hX0.lt
  have x1 := hX1.cell 1
  have lX := hX1.lt
  go_wp2_with fail
  refine abs1 fun W2 hM2 hb2 hz2 => ?_
  clear x1
  have hX2 := hX1.below hb2 lX
  have hV2 := (hV0.below hb1 hV0.lt).below hb2 (by have := hb1.size; omega)
  have hY2 := (hY0.below hb1 hY0.lt).below hb2 (by have := hb1.size; omega)
  have hbe2 : Below w.heap.size w W2 := hbel0.trans ((hb1.trans (hb2.mono hb1.size)).mono (by omega))
  have hsz1 : w.heap.size + 3 ≤ w1.heap.size := by have := hb1.size; omega
  have hbase : w.heap.size ≤ W0.heap.size := by omega
  have hF2 := Fill.start (hO1.below hb2) hbe2
  have HGS := Lib.hid hgs
  clear hz2 hz0 hX0 hY0 hO1 hbel0 hb1 hb2 hX1 hgs hV0
  go_loopw [18] (fun i wr => ∃ k : Nat, k ≤ M.length ∧ i = .int .i64 k ∧ Fill w W2 wr W0.heap.size D (.slice A1 M.length c1) gs (part k 0 (prodF M P C))) (fun i _ => M.length - (intOf i).toNat)
  case atStart => exact ⟨0, Nat.zero_le _, rfl, by rw [part_zero]; exact hF2⟩
  case round =>
    obtain ⟨k, hk, rfl, hF⟩ := hrel
    clear hF2
    by_cases hlt : k < M.length
    · have hV := hF.blk hV2 (by decide)
      have m0 := hV.cell 0
      go_wp2_with fail
      obtain ⟨wo, rfl⟩ : ∃ wo : World, wo = wr := ⟨_, rfl⟩
      go_loopw [7] (fun j wq => ∃ n : Nat, n ≤ D ∧ j = .int .i64 n ∧ Fill w W2 wq W0.heap.size D (.slice A1 M.length c1) gs (part k n (prodF M P C))) (fun j _ => D - (intOf j).toNat)
      case atStart => exact ⟨0, Nat.zero_le _, rfl, hF⟩
      case round =>
        clear hF hV m0
        obtain ⟨n, hn, rfl, hF⟩ := hrel
        have hX := hF.blk hX2 (by decide)
        have hV := hF.blk hV2 (by decide)
        have x0 := hX.cell 0
        have v0 := hV.cell 0
        by_cases hnD : n < D
        · go_wp2_with fail
          obtain ⟨wi, rfl⟩ : ∃ wi : World, wi = wr := ⟨_, rfl⟩
          go_loopw [8] (fun j wq => ∃ q : Nat, q ≤ C ∧ j = .int .i64 q ∧ Fill w W2 wq W0.heap.size D (.slice A1 M.length c1) gs (partP k n (anyTo M P k n q) (prodF M P C))) (fun j _ => C - (intOf j).toNat)
          case atStart => exact ⟨0, Nat.zero_le _, rfl, by show Fill _ _ _ _ _ _ _ (partP k n false _); rw [← partP_start]; exact hF⟩
          case round =>
            clear hF hX hV x0 v0
            obtain ⟨q, hq, rfl, hF⟩ := hrel
            have hM := hF.blk hM2 (by decide)
            have hX := hF.blk hX2 (by decide)
            have hV := hF.blk hV2 (by decide)
            have m1 := hM.cell 1
            have x0 := hX.cell 0
            have x1 := hX.cell 1
            have v0 := hV.cell 0
            have v1 := hV.cell 1
            by_cases hqC : q < C
            · have hkg : k < gs.length := by rw [HGS.out]; exact hlt
              have hqP : q < P.length := by rw [← HL.out]; exact hqC
              obtain ⟨g, off, rfl, hg, h1, b0, f0, lg⟩ := hF.at_ HGS.out hkg hnD
              have hS := hF.store hbase hkg (j := n) true
              rw [partP_store] at hS
              have hA := anyTo_succ M P k n q
              obtain ⟨ga, oa, gb, ob, db, rfl, hga, hgb, ca, cb⟩ := (h.below hF.below).at_ hlt hqC
              obtain ⟨gc, oc, gd, od, dd, rfl, hgc, hgd, cc, cd⟩ := (h'.below hF.below).at_ hqP hnD
              generalize gs[k] = gk at *
              have HA := Lib.hid hA; clear hA
              have HF := hideC hF
              clear hF hM hX hV h h'
              generalize mget M k q = x at *
              generalize mget P q n = y at *
              cases x
              · have HA2 := Lib.hid (show anyTo M P k n (q + 1) = anyTo M P k n q by rw [HA.out]; simp)
                clear HA
                go_wp2_with fail
                exact ⟨⟨q + 1, by omega, by go_num, by rw [HA2.out]; exact HF.out⟩, by simp [intOf]; omega⟩
              · cases y
                · have HA2 := Lib.hid (show anyTo M P k n (q + 1) = anyTo M P k n q by rw [HA.out]; simp)
                  clear HA
                  go_wp2_with fail
                  exact ⟨⟨q + 1, by omega, by go_num, by rw [HA2.out]; exact HF.out⟩, by simp [intOf]; omega⟩
                · have HA2 := Lib.hid (show anyTo M P k n (q + 1) = true by rw [HA.out]; simp)
                  clear HA
                  go_wp2_with fail
                  exact ⟨⟨q + 1, by omega, by go_num, by rw [HA2.out]; exact hS⟩, by simp [intOf]; omega⟩
            · obtain rfl : q = C := by omega
              go_wp2_with fail
              exact ⟨⟨n + 1, by omega, by go_num, by rw [← partP_done]; exact hF⟩, by simp [intOf]; omega⟩
        · obtain rfl : n = D := by omega
          go_wp2_with fail
          exact ⟨⟨k + 1, by omega, by go_num, hF.row_done⟩, by simp [intOf]; omega⟩
    · obtain rfl : k = M.length := by omega
      have hM := hF.blk hM2 (by decide)
      have m0 := hM.cell 0
      have m1 := hM.cell 1
      have lM := hM.lt
      have hS := hF.all_done HGS.out
      obtain ⟨y0, y1, fy0, fy1⟩ := hS.done_cells hY2
      obtain ⟨cX, cY, hI, hbE⟩ := hS.done HGS.out hY2 (by omega) hD hR
      have HI := hideC hI; have HB := hideC hbE
      have HCX := hideC cX; have HCY := hideC cY
      clear hI hbE cX cY hS hF hM hM2 hX2 hY2 h h' hV2
      go_wp2_with fail
      have cX := HCX.out
      have cY := HCY.out
      exact bodyPost_ret (v := refV D A1 M.length c1) (by simp [results, Tryz.results33, go_sem, cX, cY]) rfl ⟨_, _, rfl, HI.out, HB.out⟩
theorem prodr_any (C D : Nat) (A B : Option Addr) (c d : Nat) (M P : List (List Bool)) (w : World) (h : IsRef w C A M) (h' : IsRef w D B P) (hL : C = P.length) :
    Calls Tryz.prog 33 #[refV C A M.length c, refV D B P.length d] w fun e w' => ∃ A' c', e = .returned (refV D A' M.length c') ∧ IsRef w' D A' (mat M.length D (prodF M P C)) ∧ Below w.heap.size w w' :=
  (prodr_own C D A B c d M P w h h' hL).mono fun _ _ ⟨A', c', e, h1, h2⟩ => ⟨A', c', e, h1.ref, h2⟩
end Go.Proofs.YtfbkcdhmggjbaaaGreatDoor
