import Derived.Test.YtjlcnbfkblmoeaaDoorRef6
namespace Go.Proofs.YtjlcnbfkblmoeaaDoor
open Go.RowKit

/-- Row i of M as a set. -/
def rowN (C : Nat) (M : List (List Bool)) (i : Nat) : Nat := setOf ((rowTo C M i C).map Int.ofNat)
/-- The rows below k as sets. -/
def nsTo (C : Nat) (M : List (List Bool)) (k : Nat) : List Nat := (List.range k).map (rowN C M)
abbrev nsOf (C : Nat) (M : List (List Bool)) : List Nat := nsTo C M M.length
theorem nsTo_len (C : Nat) (M : List (List Bool)) (k : Nat) : (nsTo C M k).length = k := by simp [nsTo]
theorem nsTo_succ (C : Nat) (M : List (List Bool)) (k : Nat) : nsTo C M (k + 1) = nsTo C M k ++ [rowN C M k] := by simp [nsTo, List.range_succ]
theorem hasR_nat (C : Nat) (M : List (List Bool)) (i j : Nat) : hasR C M i j = (decide (i < M.length) && decide (j < C) && mget M i j) := by
  unfold hasR insideB
  by_cases h1 : i < M.length <;> by_cases h2 : j < C <;> simp [h1, h2]
theorem testBit_rowN (C : Nat) (M : List (List Bool)) (i j : Nat) (hC : C ≤ 4096) : (rowN C M i).testBit j = hasR C M i j := by
  unfold rowN
  rw [testBit_setOf, Bool.eq_iff_iff, decide_eq_true_eq]
  constructor
  · rintro ⟨_, h2⟩
    obtain ⟨x, hx, e⟩ := List.mem_map.1 h2
    have e' : x = j := Int.ofNat.inj e
    subst e'
    exact (List.mem_filter.1 hx).2
  · intro h2
    have hj : j < C := by
      rw [hasR_nat] at h2; simp at h2; omega
    exact ⟨by omega, List.mem_map.2 ⟨j, List.mem_filter.2 ⟨List.mem_range.2 hj, h2⟩, rfl⟩⟩
theorem nsOf_get {C : Nat} {M : List (List Bool)} {i k : Nat} (h : i < k) : (nsTo C M k).getD i 0 = rowN C M i := by
  unfold nsTo; rw [List.getD_eq_getElem?_getD, List.getElem?_map, List.getElem?_range h]; rfl
theorem rowsIn_nsOf (C : Nat) (M : List (List Bool)) (hC : C ≤ 4096) : rowsIn C (nsOf C M) := by
  intro k hk
  rw [nsTo_len] at hk
  rw [nsOf_get hk]
  apply Nat.eq_of_testBit_eq
  intro j
  rw [Nat.testBit_and, testBit_rowN _ _ _ _ hC, testBit_lowN, hasR_nat]
  by_cases h : j < C <;> simp [h]
theorem mhas_nsOf (C : Nat) (M : List (List Bool)) (hC : C ≤ 4096) (i j : Int) : mhas C (nsOf C M) i j = hasR C M i j := by
  unfold mhas
  rw [nsTo_len]
  by_cases h : insideB M.length C i j = true
  · have h' := h
    simp only [insideB, decide_eq_true_eq] at h'
    obtain ⟨a1, a2, a3, a4⟩ := h'
    rw [h, Bool.true_and, nsOf_get (by omega), testBit_rowN _ _ _ _ hC, Int.toNat_of_nonneg a1, Int.toNat_of_nonneg a3]
  · have h' : insideB M.length C i j = false := by simpa using h
    rw [h', Bool.false_and, hasR, h', Bool.false_and]

set_option maxRecDepth 100000 in
set_option maxHeartbeats 2000000 in
theorem matrixl_any (C : Nat) (A : Option Addr) (c : Nat) (M : List (List Bool)) (w : World) (h : IsRef w C A M) (hC : C ≤ 256) (hR : M.length ≤ 256) :
    Calls Tryd.prog 15 #[refV C A M.length c] w fun e w' => ∃ q, e = .returned (ptr q) ∧ IsMat w' q C (nsOf C M) ∧ w.heap.size ≤ q ∧ Below w.heap.size w w' := by
  obtain ⟨i0, hi0, hz0, hz1, hz2⟩ := info_parts info_set
  go_enter Tryd.func15, Tryd.ntmps15
  go_wp2_with fail
  refine abs1 fun W0 hX0 hbel0 hz => ?_
  have HZ := Lib.hid hz; clear hz
  have x0 := hX0.cell 0
  have x1 := hX0.cell 1
  go_loopw [3, 10] (fun l j wr => ∃ (k : Nat) (vs : List Value), k ≤ M.length ∧ j = .int .i64 k ∧ wr.ownsRow (w.heap.size + 1) 65 1 l k vs ∧ Sets wr vs (nsTo C M k) ∧ Below (w.heap.size + 1) W0 wr) (fun _ j _ => M.length - (intOf j).toNat)
  case atStart => exact ⟨0, [], Nat.zero_le _, rfl, World.ownsRow_nil _ _ _ _, Sets.nil _, Below.refl _ _⟩
  case round =>
    obtain ⟨k, vs, hk, rfl, hown, hsets, hbel⟩ := hrel
    have hX := hX0.below hbel (by omega)
    have x0 := hX.cell 0
    have x1 := hX.cell 1
    have hbw : Below w.heap.size w wr := hbel0.trans (hbel.mono (by omega))
    by_cases hlt : k < M.length
    · have HROW := hideC (rowr_any C A c M k wr (h.below hbw))
      go_wp2_with fail
      refine HROW.out.mono ?_
      rintro e w2 ⟨B, d, rfl, hd, hrow, hb2⟩
      have hrl := rowTo_len C M k C
      have hof := of_any B d ((rowTo C M k C).map Int.ofNat) w2 (by rw [List.map_map]; exact hrow) (by rw [List.length_map]; omega)
      rw [List.length_map] at hof
      have hmc : setOf ((rowTo C M k C).map Int.ofNat) = rowN C M k := rfl
      rw [hmc] at hof
      clear hmc
      have HC := hideC hof; clear hof
      go_wp2_with fail
      refine HC.out.mono ?_
      rintro e w3 ⟨r, rfl, hset, hb3⟩
      have hb23 := hb2.trans (hb3.mono hb2.size)
      obtain ⟨A2, c2, rfl, _⟩ := id hset
      have hown3 := (own_below hown hb23).alloc (.cells #[.slice A2 (nw (rowN C M k)) c2] 65)
      have hsz := hbel.size
      have hsz2 := hb23.size
      have hzz := HZ.out
      have hbel3 : Below (w.heap.size + 1) W0 w3 := hbel.trans (hb23.mono (by omega))
      have hS3 : Sets w3 (vs ++ [.slice A2 (nw (rowN C M k)) c2]) (nsTo C M (k + 1)) := by rw [nsTo_succ]; exact (hsets.below hb23).snoc hset
      go_wp2_with (at_builtin; refine wpList_append_own _ rfl _ _ 62 rfl (w.heap.size + 1) 65 i0 (.agg #[.slice none 0 0]) 1 24 Tryd.underlying62 hi0 hz0 hz1 hz2 rfl (by decide) _ _ _ rfl (hown3) ⟨w3.heap.size, 0, none⟩ 1 1 [.slice A2 (nw (rowN C M k)) c2] rfl rfl (cell_one_new _ _ _) (by simp [Value.oneCell']) (by unfold maxLen; omega) (by omega) (by simp; omega) ?_; intro v' w3 hown' hgrow _)
      exact ⟨⟨k + 1, vs ++ [.slice A2 (nw (rowN C M k)) c2], by omega, by go_num, hown', (hS3.keep (KeepW.alloc _ _)).keep (KeepW.grown hgrow hown3 (by decide)), (hbel3.alloc (by omega) _).grown hgrow (by simp; omega) (fun q hq => (hown3.lt q hq).1)⟩, by simp [intOf]; omega⟩
    · obtain rfl : k = M.length := by omega
      obtain ⟨B, d, rfl, h1, _, h2, _⟩ := row_of_own hown
      have hof := ofm_any B d C vs (nsOf C M) wr h2 hsets hC (by rw [nsTo_len]; exact hR)
      rw [nsTo_len] at hof
      have HO := hideC hof; clear hof
      go_wp2_with fail
      refine HO.out.mono ?_
      rintro e w2 (⟨_, hno, _⟩ | ⟨q, rfl, _, hm, hq, hb2⟩)
      · exact absurd (rowsIn_nsOf C M (by omega)) hno
      have hsz := hbw.size
      go_wp2_with fail
      go_ret
      exact ⟨q, rfl, hm, by omega, hbw.trans (hb2.mono hbw.size)⟩
end Go.Proofs.YtjlcnbfkblmoeaaDoor
