/-
  Lists of nodes; rank.form: the first node whose form is wrong.
-/
import Derived.Test.YtfbkcdhmggjbaaaGreatDoorRnA
import Derived.Test.YtfbkcdhmggjbaaaGreatDoorRef
namespace Go.Proofs.YtfbkcdhmggjbaaaGreatDoor
open Go.RowKit

/-- The cells of a node. -/
def NodeAt (w : World) (vs : List Value) (x : Nd) : Prop := ∃ (A1 : Option Addr) (c1 : Nat) (A2 : Option Addr) (c2 : Nat), vs = [.int .u8 x.kind, .int .i64 x.row, .int .i64 x.col, .slice A1 x.ch.length c1, .slice A2 x.cells.length c2] ∧
  Row w A1 (x.ch.map (.int .i64)) ∧ Row w A2 (cellsP x.cells) ∧ x.cells.length ≤ c2 ∧ x.cells.length ≤ 1000000 ∧ x.ch.length ≤ 1000000 ∧ 0 ≤ x.kind ∧ x.kind ≤ 255
theorem NodeAt.below {w w' : World} {vs : List Value} {x : Nd} (h : NodeAt w vs x) (hb : Below w.heap.size w w') : NodeAt w' vs x := by
  obtain ⟨A1, c1, A2, c2, h1, h2, h3, h4⟩ := h
  exact ⟨A1, c1, A2, c2, h1, h2.below hb, h3.below hb, h4⟩
theorem NodeAt.len {w : World} {vs : List Value} {x : Nd} (h : NodeAt w vs x) : vs.length = 5 := by
  obtain ⟨A1, c1, A2, c2, rfl, _⟩ := h; rfl
def IsNodes (w : World) (A : Option Addr) (P : List Nd) : Prop := ∃ vss : List (List Value), vss.length = P.length ∧ (∀ (k : Nat) x, P[k]? = some x → ∃ vs, vss[k]? = some vs ∧ NodeAt w vs x) ∧ Row w A vss.flatten
theorem IsNodes.below {w w' : World} {A : Option Addr} {P : List Nd} (h : IsNodes w A P) (hb : Below w.heap.size w w') : IsNodes w' A P := by
  obtain ⟨vss, h1, h2, h3⟩ := h
  exact ⟨vss, h1, fun k x hx => by obtain ⟨vs, a, b⟩ := h2 k x hx; exact ⟨vs, a, b.below hb⟩, h3.below hb⟩
theorem flatten5 : ∀ (vss : List (List Value)), (∀ vs ∈ vss, vs.length = 5) → ∀ (k r : Nat) (vs : List Value), vss[k]? = some vs → r < 5 → vss.flatten[k * 5 + r]? = vs[r]?
  | [], _, _, _, _, h, _ => by simp at h
  | a :: l, h5, 0, r, vs, h, hr => by
    obtain rfl : a = vs := by simpa using h
    have := h5 a (by simp)
    rw [List.flatten_cons, Nat.zero_mul, Nat.zero_add, List.getElem?_append_left (by omega)]
  | a :: l, h5, k + 1, r, vs, h, hr => by
    have ha := h5 a (by simp)
    rw [List.flatten_cons, List.getElem?_append_right (by omega), ha, show (k + 1) * 5 + r - 5 = k * 5 + r by omega]
    exact flatten5 l (fun x hx => h5 x (by simp [hx])) k r vs (by simpa using h) hr
end Go.Proofs.YtfbkcdhmggjbaaaGreatDoor
