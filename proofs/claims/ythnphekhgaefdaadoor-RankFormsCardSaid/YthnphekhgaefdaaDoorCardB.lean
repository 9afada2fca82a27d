/-
  What opens parameters that are changes of proofs.
-/
import Derived.Test.YthnphekhgaefdaaDoorCard9
namespace Go.Proofs.YthnphekhgaefdaaDoor
open Go.ChangeShapes Go.WideShapes Go.ChangeAt Go.RowKit Go.Joins Go.Deep
set_option maxRecDepth 100000

/-- A change that came in. -/
theorem odd_open {H : Type} {enc : TypeId × Value → H} {W : World} {base b0 : Nat} {sp : Nat → Bool} {held : Bool} {r : Reach} {v : Value} {d : DataW H} {p : List MemPlace} (hv : Value.okWide Tryd.prog W r b0 35 v) (h : DataW.Trod enc Tryd.prog W base sp held 35 v d p) :
    ∃ zo : Odd4, v = oddV zo ∧ OddOK zo := by
  have hag : ∃ cs, v = .agg cs := by
    simp only [Value.okWide, Tryd.underlying35] at hv
    cases v <;> simp_all
  obtain ⟨cs, rfl⟩ := hag
  obtain ⟨fuel, hf⟩ := h
  obtain ⟨hl, hel⟩ := allU8_odd H enc W _ _ _ _ _ _ hf
  have hsz : cs.size = 4 := by simpa [Value.cells] using hl
  obtain ⟨k0, e0, l0⟩ := hel 0 (by omega)
  obtain ⟨k1, e1, l1⟩ := hel 1 (by omega)
  obtain ⟨k2, e2, l2⟩ := hel 2 (by omega)
  obtain ⟨k3, e3, l3⟩ := hel 3 (by omega)
  refine ⟨(k0, k1, k2, k3), ?_, l0, l1, l2, l3⟩
  simp [Value.cells] at e0 e1 e2 e3
  unfold oddV
  congr 1
  refine Array.ext_getElem? fun i => ?_
  match i with
  | 0 => simpa using e0
  | 1 => simpa using e1
  | 2 => simpa using e2
  | 3 => simpa using e3
  | i + 4 => rw [Array.getElem?_eq_none (by omega)]; simp
/-- Changes that came in. -/
theorem odds_open {H : Type} {enc : TypeId × Value → H} {W : World} {base b0 : Nat} {sp : Nat → Bool} {held : Bool} {r : Reach} {v : Value} {d : DataW H} {p : List MemPlace} (hv : Value.okWide Tryd.prog W r b0 25 v) (h : DataW.Trod enc Tryd.prog W base sp held 25 v d p) :
    ∃ zq, IsOdds W v zq := by
  obtain ⟨a0, len0, cap0, rfl⟩ := okWide_slice Tryd.underlying25 hv
  obtain ⟨fuel, h2⟩ := h
  exact odds_open' ⟨_, _, _, rfl⟩ h2
end Go.Proofs.YthnphekhgaefdaaDoor
