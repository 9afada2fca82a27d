/-
  slices.EqualFunc over nodes, with the law's function and with rank.Equal's; rank.Equal.
-/
import Derived.Test.YthnphekhgaefdaaDoorRb4
import Derived.Test.YthnphekhgaefdaaDoorRq3
namespace Go.Proofs.YthnphekhgaefdaaDoor
open Go.RowKit

/-- Two nodes, field by field. -/
def eqN (x y : Nd) : Bool := decide (x.kind = y.kind) && decide (x.row = y.row) && decide (x.col = y.col) && decide (x.ch = y.ch) && decide (x.cells = y.cells)
def eqNs (P Q : List Nd) : Bool := decide (P.length = Q.length) && (List.range P.length).all fun i => eqN (P.getD i default) (Q.getD i default)
theorem eqN_self (x : Nd) : eqN x x = true := by simp [eqN]
theorem eqNs_self (P : List Nd) : eqNs P P = true := by
  unfold eqNs
  rw [Bool.and_eq_true, List.all_eq_true]
  exact ⟨by simp, fun i _ => eqN_self _⟩
theorem getD_of {P : List Nd} {i : Nat} {x : Nd} (h : P[i]? = some x) : P.getD i default = x := by rw [List.getD_eq_getElem?_getD, h]; rfl
theorem eqNs_no {P Q : List Nd} {i : Nat} {x y : Nd} (hx : P[i]? = some x) (hy : Q[i]? = some y) (h : eqN x y = false) : eqNs P Q = false := by
  unfold eqNs
  rw [Bool.and_eq_false_iff]
  refine .inr ?_
  rw [List.all_eq_false]
  exact ⟨i, List.mem_range.2 (List.getElem?_eq_some_iff.1 hx).1, by rw [getD_of hx, getD_of hy, h]; simp⟩
theorem eqNs_yes {P Q : List Nd} (hl : P.length = Q.length) (h : ∀ k, k < P.length → eqN (P.getD k default) (Q.getD k default) = true) : eqNs P Q = true := by
  unfold eqNs
  rw [Bool.and_eq_true, decide_eq_true_eq, List.all_eq_true]
  exact ⟨hl, fun i hi => h i (List.mem_range.1 hi)⟩



end Go.Proofs.YthnphekhgaefdaaDoor
