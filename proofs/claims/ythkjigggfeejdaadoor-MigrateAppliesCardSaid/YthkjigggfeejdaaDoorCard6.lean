import Derived.Test.YthkjigggfeejdaaDoorCard5
namespace Go.Proofs.YthkjigggfeejdaaDoor
open Go.ChangeShapes Go.WideShapes Go.ChangeAt Go.RowKit Go.Joins Go.Deep
set_option maxRecDepth 100000

/-- A step of the reference's that came in. -/
theorem rstep_open {H : Type} {enc : TypeId × Value → H} {W : World} {base b0 : Nat} {sp : Nat → Bool} {held : Bool} {r : Reach} {v : Value} {d : DataW H} {p : List MemPlace} (hv : Value.okWide Tryd.prog W r b0 48 v) (h : DataW.Trod enc Tryd.prog W base sp held 48 v d p) :
    ∃ k x y : Int, v = .agg #[.int .i64 k, .int .i64 x, .int .i64 y] ∧ True := by
  obtain ⟨v0, v1, v2, y0, y1, y2, n, rfl, -, -, h0, h1, h2⟩ := Joins.open_agg3 Tryd.underlying48 (by kernel_rfl) (by kernel_rfl) hv h
  obtain ⟨k0, e0, -, w0⟩ := DataW.trod_int Tryd.underlying3 h0
  obtain ⟨k1, e1, -, w1⟩ := DataW.trod_int Tryd.underlying3 h1
  obtain ⟨k2, e2, -, w2⟩ := DataW.trod_int Tryd.underlying3 h2
  cases e0; cases e1; cases e2
  exact ⟨k0, k1, k2, rfl, trivial⟩
end Go.Proofs.YthkjigggfeejdaaDoor
