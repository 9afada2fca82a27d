/-
  The reference of chapter 47: the lectic order of numbers.
-/
import Derived.Test.YtgpooflcbljidaaDoorClo13
import Derived.Test.YtgpooflcbljidaaDoorRk3
namespace Go.Proofs.YtgpooflcbljidaaDoor
open Go.RowKit
set_option maxRecDepth 100000 in
set_option maxHeartbeats 2000000 in
theorem before_ref (a b : Nat) (ha : a < 2 ^ 64) (hb : b < 2 ^ 64) (w : World) :
    Calls Tryd.prog 111 #[.int .u64 a, .int .u64 b] w fun e w' => e = .returned (.bool (lecR a b)) ∧ Below w.heap.size w w' := by
  go_enter Tryd.func111, Tryd.ntmps111
  go_wp2_with fail
  refine wp_loopF (β := Nat) (fun k f => #[.int .u64 (a : Int), .int .u64 (b : Int), f 2, f 3, .bool false, .int .i64 (k : Int), f 6, f 7, f 8, f 9, f 10, f 11, f 12, f 13, f 14, f 15, f 16, f 17, f 18, f 19, f 20, f 21, f 22, f 23])
    (fun k ds wr => k ≤ 64 ∧ ds = [] ∧ Below w.heap.size w wr ∧ ∀ x, x < k → a.testBit x = b.testBit x) (fun k => 64 - k) 0 rfl ⟨Nat.zero_le _, rfl, Below.refl _ _, fun x h => by omega⟩ ?_
  rintro k f ds wr ⟨hk, rfl, hbw, hN⟩
  dsimp only at hk hN ⊢
  have HN := Lib.hid hN; clear hN
  have ea := tmod_form a k
  have eb := tmod_form b k
  by_cases hlt : k < 64
  · by_cases h1 : a.testBit k = true <;> by_cases h2 : b.testBit k = true
    · rw [if_pos h1] at ea
      rw [if_pos h2] at eb
      have H12 := Lib.hid (h1.trans h2.symm)
      clear h1 h2
      go_wp2_with fail
      refine wp_spine (fun W => Below wr.heap.size wr W) [0, 1, 2, 3, 4, 5, 6, 7, 8] [] (by kernel_rfl) (by kernel_rfl) ?_
      iterate 9 (refine wpE_op (v := ?_) rfl rfl (fun W hW => ?_) ?_; rotate_left; (go_simp; first | done | with_reducible rfl); simp only [Act.put, List.setIfInBounds_toArray, List.set_cons_zero, List.set_cons_succ])
      refine wpE_nil ⟨fun _ => (Below.refl _ _).drew, wpSp_nil ?_⟩
      go_wp2_with fail
      exact ⟨k + 1, rfl, ⟨by omega, by first | rfl | trivial, hbw.drew, fun x hx => by
        by_cases e : x = k
        · subst e; exact H12.out
        · exact HN.out x (by omega)⟩, by omega⟩
    · rw [if_pos h1] at ea
      rw [if_neg h2] at eb
      have hl : lecR a b = false := lecR_asymm _ _ (lecR_at k b a (fun j hj => (HN.out j hj).symm) (by simpa using h2) h1)
      have HL := Lib.hid hl
      clear h1 h2 hl
      go_wp2_with fail
      refine wp_spine (fun W => Below wr.heap.size wr W) [0, 1, 2, 3, 4, 5, 6, 7, 8] [] (by kernel_rfl) (by kernel_rfl) ?_
      iterate 9 (refine wpE_op (v := ?_) rfl rfl (fun W hW => ?_) ?_; rotate_left; (go_simp; first | done | with_reducible rfl); simp only [Act.put, List.setIfInBounds_toArray, List.set_cons_zero, List.set_cons_succ])
      refine wpE_nil ⟨fun _ => (Below.refl _ _).drew, wpSp_nil ?_⟩
      go_wp2_with fail
      go_ret
      exact ⟨by rw [HL.out]; rfl, hbw.drew⟩
    · rw [if_neg h1] at ea
      rw [if_pos h2] at eb
      have hl : lecR a b = true := lecR_at k a b HN.out (by simpa using h1) h2
      have HL := Lib.hid hl
      clear h1 h2 hl
      go_wp2_with fail
      refine wp_spine (fun W => Below wr.heap.size wr W) [0, 1, 2, 3, 4, 5, 6, 7, 8] [] (by kernel_rfl) (by kernel_rfl) ?_
      iterate 9 (refine wpE_op (v := ?_) rfl rfl (fun W hW => ?_) ?_; rotate_left; (go_simp; first | done | with_reducible rfl); simp only [Act.put, List.setIfInBounds_toArray, List.set_cons_zero, List.set_cons_succ])
      refine wpE_nil ⟨fun _ => (Below.refl _ _).drew, wpSp_nil ?_⟩
      go_wp2_with fail
      go_ret
      exact ⟨by rw [HL.out]; rfl, hbw.drew⟩
    · rw [if_neg h1] at ea
      rw [if_neg h2] at eb
      have H12 := Lib.hid (show a.testBit k = b.testBit k by simp_all)
      clear h1 h2
      go_wp2_with fail
      refine wp_spine (fun W => Below wr.heap.size wr W) [0, 1, 2, 3, 4, 5, 6, 7, 8] [] (by kernel_rfl) (by kernel_rfl) ?_
      iterate 9 (refine wpE_op (v := ?_) rfl rfl (fun W hW => ?_) ?_; rotate_left; (go_simp; first | done | with_reducible rfl); simp only [Act.put, List.setIfInBounds_toArray, List.set_cons_zero, List.set_cons_succ])
      refine wpE_nil ⟨fun _ => (Below.refl _ _).drew, wpSp_nil ?_⟩
      go_wp2_with fail
      exact ⟨k + 1, rfl, ⟨by omega, by first | rfl | trivial, hbw.drew, fun x hx => by
        by_cases e : x = k
        · subst e; exact H12.out
        · exact HN.out x (by omega)⟩, by omega⟩
  · obtain rfl : k = 64 := by omega
    have he : a = b := Nat.eq_of_testBit_eq fun i => by
      by_cases hi : i < 64
      · exact HN.out i hi
      · have p : 2 ^ 64 ≤ 2 ^ i := Nat.pow_le_pow_right (by omega) (by omega)
        rw [Nat.testBit_lt_two_pow (Nat.lt_of_lt_of_le ha p), Nat.testBit_lt_two_pow (Nat.lt_of_lt_of_le hb p)]
    have HL := Lib.hid (show lecR a b = false by rw [he, lecR_irrefl])
    clear ea eb he
    go_wp2_with fail
    go_ret
    exact ⟨by rw [HL.out]; rfl, hbw⟩
end Go.Proofs.YtgpooflcbljidaaDoor
