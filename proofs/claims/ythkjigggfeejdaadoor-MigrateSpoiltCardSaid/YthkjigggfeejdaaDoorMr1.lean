import Derived.Test.YthkjigggfeejdaaDoorMigR
import Derived.Test.YthkjigggfeejdaaDoorMig7
import Derived.Test.YthkjigggfeejdaaDoorMig4
namespace Go.Proofs.YthkjigggfeejdaaDoor
open Go.RowKit

/-! The reference's functions over configurations. -/
/-- Agreeing up to n. -/
def agr (r s : List Bool) (n : Nat) : Prop := ∀ j, j < n → r.getD j false = s.getD j false
theorem agr_all {r s : List Bool} {D : Nat} (hr : r.length = D) (hs : s.length = D) (h : agr r s D) : r = s := by
  apply List.ext_getElem
  · omega
  · intro j h1 h2
    have := h j (by omega)
    simpa [List.getD_eq_getElem?_getD, List.getElem?_eq_getElem h1, List.getElem?_eq_getElem h2] using this
set_option maxRecDepth 100000 in
set_option maxHeartbeats 2000000 in
theorem eqrow_any (A B : Option Addr) (c d D : Nat) (r s : List Bool) (w : World) (hr : r.length = D) (hs : s.length = D) (hA : Row w A (r.map .bool)) (hB : Row w B (s.map .bool)) (hD : D ≤ 4096) :
    Calls Tryd.prog 74 #[.slice A D c, .slice B D d] w fun e w' => e = .returned (.bool (decide (r = s))) ∧ Below w.heap.size w w' := by
  go_enter Tryd.func74, Tryd.ntmps74
  go_wp2_with fail
  refine wp_loopF (β := Nat) (fun k f => #[.slice A D c, .slice B D d, f 2, f 3, .bool false, f 5, f 6, .int .i64 (D : Int), .int .i64 (k : Int), f 9, f 10, f 11, f 12, f 13, f 14, f 15, f 16, f 17, f 18, f 19, f 20])
    (fun k ds wr => k ≤ D ∧ ds = [] ∧ Hid (agr r s k) ∧ Below w.heap.size w wr) (fun k => D - k) 0 rfl ⟨Nat.zero_le _, rfl, hideC (fun j hj => by omega), Below.refl _ _⟩ ?_
  rintro k f ds wr ⟨hk, rfl, HG, hb⟩
  dsimp only
  by_cases hlt : k < D
  · have HR := Lib.hid hr
    have HS := Lib.hid hs
    obtain ⟨g, off, rfl, hg, hc⟩ := hA (by rw [List.length_map]; omega)
    obtain ⟨g2, off2, rfl, hg2, hc2⟩ := hB (by rw [List.length_map]; omega)
    have c1 := onB hb (hc k (.bool (r.getD k false)) (by rw [List.getElem?_map, List.getElem?_eq_getElem (by omega), List.getD_eq_getElem?_getD, List.getElem?_eq_getElem (by omega)]; rfl))
    have c2 := onB hb (hc2 k (.bool (s.getD k false)) (by rw [List.getElem?_map, List.getElem?_eq_getElem (by omega), List.getD_eq_getElem?_getD, List.getElem?_eq_getElem (by omega)]; rfl))
    obtain ⟨x, hx⟩ : ∃ x, x = r.getD k false := ⟨_, rfl⟩
    obtain ⟨y, hy⟩ : ∃ y, y = s.getD k false := ⟨_, rfl⟩
    rw [← hx] at c1
    rw [← hy] at c2
    have HX := Lib.hid hx
    have HY := Lib.hid hy
    clear hx hy hr hs hc hc2
    go_wp2_with fail
    refine wp_spine (fun W => Below wr.heap.size wr W) [0, 1, 2, 3, 4, 5, 6, 7, 8] [] (by kernel_rfl) (by kernel_rfl) ?_
    by_cases hxy : x = y
    · have e1 : (x == y) = true := by simp [hxy]
      have HXY := Lib.hid hxy
      clear hxy
      iterate 9 (refine wpE_op (v := ?_) rfl rfl (fun W hW => ?_) ?_; rotate_left; (have z1 := onB hW c1; have z2 := onB hW c2; go_simp; first | done | with_reducible rfl); simp only [Act.put, List.setIfInBounds_toArray, List.set_cons_zero, List.set_cons_succ])
      refine wpE_nil ⟨fun _ => (Below.refl _ _).drew, wpSp_nil ?_⟩
      go_wp2_with fail
      refine ⟨k + 1, rfl, ⟨by omega, by first | rfl | trivial, hideC fun j hj => ?_, hb.drew⟩, by omega⟩
      by_cases e : j = k
      · subst e; rw [← HX.out, ← HY.out]; exact HXY.out
      · exact HG.out j (by omega)
    · have e1 : (x == y) = false := by simp [hxy]
      have HN : decide (r = s) = false := decide_eq_false fun e => hxy (by rw [HX.out, HY.out, e])
      have HN := Lib.hid HN
      clear hxy
      iterate 9 (refine wpE_op (v := ?_) rfl rfl (fun W hW => ?_) ?_; rotate_left; (have z1 := onB hW c1; have z2 := onB hW c2; go_simp; first | done | with_reducible rfl); simp only [Act.put, List.setIfInBounds_toArray, List.set_cons_zero, List.set_cons_succ])
      refine wpE_nil ⟨fun _ => (Below.refl _ _).drew, wpSp_nil ?_⟩
      go_wp2_with fail
      go_ret
      exact ⟨by rw [HN.out]; rfl, hb.drew⟩
  · obtain rfl : k = D := by omega
    have HN := Lib.hid (show decide (r = s) = true from decide_eq_true (agr_all hr hs HG.out))
    clear hr hs
    go_wp2_with fail
    go_ret
    exact ⟨by rw [HN.out]; rfl, hb⟩
set_option maxRecDepth 100000 in
set_option maxHeartbeats 2000000 in
theorem in_any (A : Option Addr) (c R : Nat) (l : List Nat) (x : Nat) (w : World) (hl : l.length = R) (hA : Row w A (l.map i64)) (hR : R ≤ 100000) :
    Calls Tryd.prog 73 #[.slice A R c, .int .i64 x] w fun e w' => e = .returned (.bool (decide (x ∈ l))) ∧ w = w' := by
  subst hl
  go_enter Tryd.func73, Tryd.ntmps73
  go_wp2_with fail
  refine wp_loopF (β := Nat) (fun k f => #[.slice A l.length c, .int .i64 (x : Int), f 2, f 3, .bool false, f 5, f 6, .slice A l.length c, .int .i64 (l.length : Int), .int .i64 (k : Int), f 10, f 11, f 12, f 13, f 14, f 15, f 16])
    (fun k ds wr => k ≤ l.length ∧ ds = [] ∧ Hid (∀ j, j < k → l.getD j 0 ≠ x) ∧ w = wr) (fun k => l.length - k) 0 rfl ⟨Nat.zero_le _, rfl, hideC (fun j hj => by omega), rfl⟩ ?_
  rintro k f ds wr ⟨hk, rfl, HG, rfl⟩
  dsimp only
  by_cases hlt : k < l.length
  · obtain ⟨g, off, rfl, hg, hc⟩ := hA (by rw [List.length_map]; omega)
    have c1 := hc k (i64 (l.getD k 0)) (by rw [List.getElem?_map, List.getElem?_eq_getElem hlt, List.getD_eq_getElem?_getD, List.getElem?_eq_getElem hlt]; rfl)
    obtain ⟨y, hy⟩ : ∃ y, y = l.getD k 0 := ⟨_, rfl⟩
    have hmem : l.getD k 0 ∈ l := by rw [List.getD_eq_getElem?_getD, List.getElem?_eq_getElem hlt]; exact List.getElem_mem hlt
    rw [← hy] at c1 hmem
    have HY := Lib.hid hy
    clear hy hc
    by_cases hxy : y = x
    · have e1 : ((y : Int) == (x : Int)) = true := by simp [hxy]
      have HN := Lib.hid (show decide (x ∈ l) = true from decide_eq_true (hxy ▸ hmem))
      clear hxy
      go_wp2_with fail
      go_ret
      exact ⟨by rw [HN.out]; rfl, rfl⟩
    · have e1 : ((y : Int) == (x : Int)) = false := by rw [beq_eq_false_iff_ne]; omega
      have HXY := Lib.hid hxy
      clear hxy
      go_wp2_with fail
      refine ⟨k + 1, rfl, ⟨by omega, by first | rfl | trivial, hideC fun j hj => ?_, by first | rfl | trivial⟩, by omega⟩
      by_cases e : j = k
      · subst e; rw [← HY.out]; exact HXY.out
      · exact HG.out j (by omega)
  · obtain rfl : k = l.length := by omega
    have HN := Lib.hid (show decide (x ∈ l) = false from decide_eq_false fun h => by
      obtain ⟨j, hj, e⟩ := List.mem_iff_getElem.1 h
      exact HG.out j hj (by rw [List.getD_eq_getElem?_getD, List.getElem?_eq_getElem hj]; exact e))
    go_wp2_with fail
    go_ret
    exact ⟨by rw [HN.out]; rfl, rfl⟩
end Go.Proofs.YthkjigggfeejdaaDoor
