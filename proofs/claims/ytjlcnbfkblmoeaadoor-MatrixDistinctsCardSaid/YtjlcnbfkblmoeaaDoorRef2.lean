import Derived.Test.YtjlcnbfkblmoeaaDoorRef1
namespace Go.Proofs.YtjlcnbfkblmoeaaDoor
open Go.RowKit

/-- The ones of row i below column k. -/
def rowTo (C : Nat) (M : List (List Bool)) (i : Int) (k : Nat) : List Nat := (List.range k).filter fun j => hasR C M i j
theorem rowTo_yes {C : Nat} {M : List (List Bool)} {i : Int} {k : Nat} (h : hasR C M i k = true) : rowTo C M i (k + 1) = rowTo C M i k ++ [k] := by simp [rowTo, List.range_succ, h]
theorem rowTo_no {C : Nat} {M : List (List Bool)} {i : Int} {k : Nat} (h : hasR C M i k = false) : rowTo C M i (k + 1) = rowTo C M i k := by simp [rowTo, List.range_succ, h]
theorem rowTo_len (C : Nat) (M : List (List Bool)) (i : Int) (k : Nat) : (rowTo C M i k).length ≤ k := by unfold rowTo; exact Nat.le_trans (List.length_filter_le _ _) (by simp)
set_option maxRecDepth 100000 in
set_option maxHeartbeats 1000000 in
theorem rowr_any (C : Nat) (A : Option Addr) (c : Nat) (M : List (List Bool)) (i : Int) (w : World) (h : IsRef w C A M) :
    Calls Tryd.prog 50 #[refV C A M.length c, .int .i64 i] w fun e w' => ∃ B d, e = .returned (.slice B (rowTo C M i C).length d) ∧ (rowTo C M i C).length ≤ d ∧ Row w' B ((rowTo C M i C).map i64) ∧ Below w.heap.size w w' := by
  obtain ⟨i0, hi0, hz0, hz1, hz2⟩ := info_parts info_int
  have hC : C ≤ 4096 := h.1
  go_enter Tryd.func50, Tryd.ntmps50
  go_wp2_with fail
  refine abs1 fun W0 hX0 hbel0 hz => ?_
  have HZ := Lib.hid hz; clear hz
  go_loopw [5, 6] (fun l j wr => ∃ k : Nat, k ≤ C ∧ j = .int .i64 k ∧ wr.ownsRow (w.heap.size + 1) 3 1 l (rowTo C M i k).length ((rowTo C M i k).map i64) ∧ Below (w.heap.size + 1) W0 wr) (fun _ j _ => C - (intOf j).toNat)
  case atStart => exact ⟨0, Nat.zero_le _, rfl, World.ownsRow_nil _ _ _ _, Below.refl _ _⟩
  case round =>
    obtain ⟨k, hk, rfl, hown, hbel⟩ := hrel
    have hX := hX0.below hbel (by omega)
    have x0 := hX.cell 0
    have x1 := hX.cell 1
    have hbw : Below w.heap.size w wr := hbel0.trans (hbel.mono (by omega))
    have hrl := rowTo_len C M i k
    by_cases hlt : k < C
    · have hcall := hasr_any C A c M i k wr (h.below hbw)
      cases hh : hasR C M i k with
      | true =>
        rw [hh] at hcall
        have HC := hideC hcall; clear hcall
        have HS := Lib.hid (rowTo_yes hh); clear hh
        go_wp2_with fail
        refine HC.out.mono ?_
        rintro e w2 ⟨rfl, hb2⟩
        have hown2 := (own_below hown hb2).alloc (.cells #[.int .i64 (k : Int)] 3)
        have hsz := hbel.size
        have hsz2 := hb2.size
        have hbel2 : Below (w.heap.size + 1) W0 w2 := hbel.trans (hb2.mono (by have := HZ.out; omega))
        have hzz := HZ.out
        go_wp2_with (at_builtin; refine wpList_append_own _ rfl _ _ 32 rfl (w.heap.size + 1) 3 i0 (.int .i64 0) 1 8 Tryd.underlying32 hi0 hz0 hz1 hz2 rfl (by decide) _ _ _ rfl (hown2) ⟨w2.heap.size, 0, none⟩ 1 1 [.int .i64 k] rfl rfl (cell_one_new _ _ _) (by simp [Value.oneCell']) (by unfold maxLen; omega) (by omega) (by simp; omega) ?_; intro v' w3 hown' hgrow _)
        exact ⟨⟨k + 1, by omega, by go_num, by rw [HS.out]; simpa using hown', (hbel2.alloc (by omega) _).grown hgrow (by simp; omega) (fun q hq => (hown2.lt q hq).1)⟩, by simp [intOf]; omega⟩
      | false =>
        rw [hh] at hcall
        have HC := hideC hcall; clear hcall
        have HS := Lib.hid (rowTo_no hh); clear hh
        go_wp2_with fail
        refine HC.out.mono ?_
        rintro e w2 ⟨rfl, hb2⟩
        go_wp2_with fail
        exact ⟨⟨k + 1, by omega, by go_num, by rw [HS.out]; exact own_below hown hb2, hbel.trans (hb2.mono (by have := HZ.out; have := hbel.size; omega))⟩, by simp [intOf]; omega⟩
    · obtain rfl : k = C := by omega
      obtain ⟨B, d, rfl, h1, _, h2, _⟩ := row_of_own hown
      go_wp2_with fail
      go_ret
      exact ⟨B, d, rfl, h1, h2, hbw⟩
end Go.Proofs.YtjlcnbfkblmoeaaDoor
