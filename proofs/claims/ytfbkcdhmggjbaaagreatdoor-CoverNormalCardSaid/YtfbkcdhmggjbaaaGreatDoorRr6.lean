/-
  Rows of the reference's nodes that grow: what stays when nodes and children are appended.
-/
import Derived.Test.YtfbkcdhmggjbaaaGreatDoorRr5
import Derived.Test.YtfbkcdhmggjbaaaGreatDoorRn3
namespace Go.Proofs.YtfbkcdhmggjbaaaGreatDoor
open Go.RowKit


/-- The cells of a node of the reference's: its rows are the call's own. -/
def RNodeAt (w : World) (base : Nat) (vs : List Value) (x : Nd) : Prop := ∃ v3 v4, vs = [.int .i64 x.kind, .int .i64 x.row, .int .i64 x.col, v3, v4] ∧ w.ownsRow base 3 1 v3 x.ch.length (x.ch.map (.int .i64)) ∧ OwnP w base v4 x.cells
section
variable {w w' : World} {base : Nat} {v : Value} {P : List Nd} {vss : List (List Value)} {vs : List Value} {x : Nd}
theorem RNodeAt.len (h : RNodeAt w base vs x) : vs.length = 5 := by obtain ⟨_, _, rfl, _⟩ := h; rfl
theorem RNodeAt.below (h : RNodeAt w base vs x) (hb : Below w.heap.size w w') : RNodeAt w' base vs x := by
  obtain ⟨v3, v4, h1, h2, h3⟩ := h; exact ⟨v3, v4, h1, own_below h2 hb, h3.below hb⟩
end
end Go.Proofs.YtfbkcdhmggjbaaaGreatDoor
