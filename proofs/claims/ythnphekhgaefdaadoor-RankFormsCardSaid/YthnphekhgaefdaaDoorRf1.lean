/-
  The reference's has and wrong: the form of a node.
-/
import Derived.Test.YthnphekhgaefdaaDoorRk11
import Derived.Test.YthnphekhgaefdaaDoorRe2
namespace Go.Proofs.YthnphekhgaefdaaDoor
open Go.RowKit

set_option maxRecDepth 100000 in
set_option maxHeartbeats 2000000 in
theorem hasl_any (A : Option Addr) (n c : Nat) (xs : List Int) (z : Int) (w : World) (hr : Row w A (xs.map (.int .i64))) (hn : xs.length = n) (hl : n ≤ 1000000) :
    Calls Tryd.prog 70 #[.slice A n c, .int .i64 z] w fun e w' => e = .returned (.bool (decide (z ∈ xs))) ∧ w = w' := by
  obtain ⟨r, hr0⟩ : ∃ r, r = decide (z ∈ xs) := ⟨_, rfl⟩
  rw [← hr0]
  have HR := Lib.hid hr0
  have HN := Lib.hid hn
  clear hr0 hn
  go_enter Tryd.func70, Tryd.ntmps70
  go_wp2_with fail
  refine wp_loopF (β := Nat) (fun i f => #[.slice A n c, .int .i64 z, f 2, f 3, .bool false, f 5, f 6, .slice A n c, .int .i64 (n : Int), .int .i64 (i : Int), f 10, f 11, f 12, f 13, f 14, f 15, f 16])
    (fun i ds W => i ≤ n ∧ ds = [] ∧ W = w ∧ ∀ k, k < i → xs[k]? ≠ some z) (fun i => n - i) 0 rfl ⟨Nat.zero_le _, rfl, rfl, fun k hk => by omega⟩ ?_
  rintro i f ds W ⟨hi, rfl, rfl, hpre⟩
  dsimp only at hi ⊢
  have HP := Lib.hid hpre
  clear hpre
  by_cases hlt : i < n
  · obtain ⟨x, hx⟩ : ∃ x, xs[i]? = some x := ⟨_, List.getElem?_eq_getElem (by have := HN.out; omega)⟩
    obtain ⟨g, off, rfl, hg, hc⟩ := hr (by rw [List.length_map]; have := HN.out; omega)
    have c0 := hc i (.int .i64 x) (by rw [List.getElem?_map, hx]; rfl)
    have HX := Lib.hid hx
    clear hx hc
    by_cases e : x = z
    · have HRE := Lib.hid (show r = true by rw [HR.out, decide_eq_true_eq]; rw [← e]; exact List.mem_of_getElem? HX.out)
      subst e
      go_wp2_with fail
      go_ret
      exact ⟨by rw [HRE.out]; rfl, rfl⟩
    · have eb : (x == z) = false := by rw [beq_eq_false_iff_ne]; exact e
      have HN2 := Lib.hid (fun k (hk : k < i + 1) => (by
        by_cases e2 : k = i
        · subst e2; rw [HX.out]; exact fun h => e (Option.some.inj h)
        · exact HP.out k (by omega) : xs[k]? ≠ some z))
      go_wp2_with fail
      exact ⟨i + 1, rfl, ⟨by omega, by first | rfl | trivial, by first | rfl | trivial, HN2.out⟩, by omega⟩
  · obtain rfl : i = n := by omega
    have HRE := Lib.hid (show r = false by
      rw [HR.out, decide_eq_false_iff_not]
      intro hm
      obtain ⟨k, hk⟩ := List.mem_iff_getElem?.1 hm
      exact HP.out k (by have := (List.getElem?_eq_some_iff.1 hk).1; have := HN.out; omega) hk)
    go_wp2_with fail
    go_ret
    exact ⟨by rw [HRE.out]; rfl, rfl⟩
theorem hasl_is {A : Option Addr} {n c : Nat} {xs : List Int} {z : Int} {w : World} {b : Bool} (hb : decide (z ∈ xs) = b) (hr : Row w A (xs.map (.int .i64))) (hn : xs.length = n) (hl : n ≤ 1000000) :
    Calls Tryd.prog 70 #[.slice A n c, .int .i64 z] w fun e w' => e = .returned (.bool b) ∧ w = w' := by
  subst hb
  exact hasl_any A n c xs z w hr hn hl
end Go.Proofs.YthnphekhgaefdaaDoor
