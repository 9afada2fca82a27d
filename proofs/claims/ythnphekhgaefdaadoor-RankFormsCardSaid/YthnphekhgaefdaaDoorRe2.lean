/-
  rank.Equal; typed rows behind calls.
-/
import Derived.Test.YthnphekhgaefdaaDoorRe1
import Derived.Test.YthnphekhgaefdaaDoorRq4
namespace Go.Proofs.YthnphekhgaefdaaDoor
open Go.RowKit

theorem RowT.below {w w' : World} {e : TypeId} {A : Option Addr} {n c : Nat} {xs : List Value} (h : RowT w e A n c xs) (hb : Below w.heap.size w w') : RowT w' e A n c xs :=
  ⟨h.1.below hb, fun ad ha => by obtain ⟨cs, hB⟩ := h.2 ad ha; exact ⟨cs, Blk.below hB hb hB.lt⟩⟩
theorem IsNT.below {w w' : World} {A : Option Addr} {P : List Nd} (h : IsNT w A P) (hb : Below w.heap.size w w') : IsNT w' A P := by
  obtain ⟨vss, h1, h2, h3, h4⟩ := h
  exact ⟨vss, h1, fun k x hx => by
    obtain ⟨vs, e, A1, c1, A2, c2, e2, r1, r2⟩ := h2 k x hx
    exact ⟨vs, e, A1, c1, A2, c2, e2, r1.below hb, r2.below hb⟩, h3.below hb, fun ad ha => by
      obtain ⟨cs, hB⟩ := h4 ad ha
      exact ⟨cs, Blk.below hB hb hB.lt⟩⟩
theorem PRt.below {w w' : World} {v : Value} {size : Int} {P : List Nd} (h : PRt w v size P) (hb : Below w.heap.size w w') : PRt w' v size P := by
  obtain ⟨A, c, h1, h2, h3⟩ := h
  exact ⟨A, c, h1, h2.below hb, h3⟩
/-- A variable of a proof's type is written. -/
theorem PRt.store {V : World} {v u0 u1 : Value} {size : Int} {P : List Nd} {g : Nat} {cs : Array Value} (h : PRt V v size P) (hB : Blk V g 33 cs) : PRt ((V.setCell ⟨g, 0, none⟩ u0).setCell ⟨g, 1, none⟩ u1) v size P :=
  (h.far (p := ⟨g, 0, none⟩) hB (by decide) (by decide) (by decide) u0).far (p := ⟨g, 1, none⟩) (hB.set_ 0 u0) (by decide) (by decide) (by decide) u1
theorem nok_of {B : Nat} {P : List Nd} (h : ∀ x ∈ P, NdB B x) (hB : B ≤ 1000000) : ∀ x ∈ P, NdOK x := fun x hx => by
  obtain ⟨h1, h2, h3, h4⟩ := h x hx
  exact ⟨by omega, by omega, h3, h4⟩
end Go.Proofs.YthnphekhgaefdaaDoor
