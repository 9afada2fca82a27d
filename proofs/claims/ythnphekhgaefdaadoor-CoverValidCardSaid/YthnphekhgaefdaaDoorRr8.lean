/-
  The reference of chapter 47: Prove.
-/
import Derived.Test.YthnphekhgaefdaaDoorRr7
namespace Go.Proofs.YthnphekhgaefdaaDoor
open Go.RowKit
theorem OwnN.low {w : World} {base b0 : Nat} {v : Value} {P : List Nd} (h : OwnN w base v P) (hb : b0 ≤ base) : OwnN w b0 v P := by
  obtain ⟨vss, h1, h2, h3, h4⟩ := h
  exact ⟨vss, h1, fun k x hx => by
    obtain ⟨vs, e, v3, v4, rfl, k3, k4⟩ := h2 k x hx
    exact ⟨_, e, v3, v4, rfl, own_low k3 hb, k4.low hb⟩, h3, own_low h4 hb⟩
/-- A store into a block of another kind. -/
theorem OwnN.cell {w : World} {base : Nat} {v : Value} {P : List Nd} {p : Addr} {t : TypeId} {cs : Array Value} (h : OwnN w base v P) (hB : Blk w p.block t cs) (h1 : t ≠ 39) (h2 : t ≠ 3) (h3 : t ≠ 40) (u : Value) : OwnN (w.setCell p u) base v P := by
  obtain ⟨vss, k1, k2, k3, k4⟩ := h
  have key : ∀ {b e size v' n xs}, w.ownsRow b e size v' n xs → t ≠ e → (w.setCell p u).ownsRow b e size v' n xs := fun ho hne => ownsRow_setCell_other ho (fun e => own_ne ho hB hne e.symm) u
  exact ⟨vss, k1, fun k x hx => by
    obtain ⟨vs, e, v3, v4, rfl, q3, q4⟩ := k2 k x hx
    exact ⟨_, e, v3, v4, rfl, key q3 h2, key q4 h3⟩, k3, key k4 h1⟩
namespace Mix2

end Mix2
end Go.Proofs.YthnphekhgaefdaaDoor
