import Derived.Test.YtiicgbbgiedknaaDoorCard2
namespace Go.Proofs.YtiicgbbgiedknaaDoor
open Go.ChangeShapes Go.WideShapes Go.ChangeAt Go.RowKit
set_option maxRecDepth 100000

theorem wf_u16 {k : Int} (h : (Lit.int .u16 k).wf = true) : 0 ≤ k ∧ k ≤ 65535 := by
  rw [Lit.wf, Bool.and_eq_true, decide_eq_true_eq, decide_eq_true_eq, show IntKind.u16.min = 0 from by decide, show IntKind.u16.max = 65535 from by decide] at h
  exact h
theorem u16_open {H : Type} {enc : TypeId × Value → H} {W : World} {base b0 : Nat} {sp : Nat → Bool} {held : Bool} {r : Reach} {v : Value} {d : DataW H} {p : List MemPlace} (hv : Value.okWide Tryd.prog W r b0 42 v) (h : DataW.Trod enc Tryd.prog W base sp held 42 v d p) : ∃ n : Nat, v = .int .u16 n ∧ n ≤ 65535 := by
  obtain ⟨n, rfl, -, -, hw⟩ := open_int Tryd.underlying42 hv h
  obtain ⟨h1, h2⟩ := wf_u16 hw
  obtain ⟨m, rfl⟩ := Int.eq_ofNat_of_zero_le h1
  exact ⟨m, rfl, by omega⟩
end Go.Proofs.YtiicgbbgiedknaaDoor
