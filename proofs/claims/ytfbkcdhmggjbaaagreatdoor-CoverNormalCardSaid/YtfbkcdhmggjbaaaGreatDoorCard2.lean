import Derived.Test.YtfbkcdhmggjbaaaGreatDoorCard
import Derived.ChangeMaps5
namespace Go.Proofs.YtfbkcdhmggjbaaaGreatDoor
open Go.ChangeShapes Go.WideShapes Go.ChangeAt Go.RowKit
set_option maxRecDepth 100000

theorem wf_i64 {n : Int} (h : (Lit.int .i64 n).wf = true) : -9223372036854775808 ≤ n ∧ n ≤ 9223372036854775807 := by
  rw [Lit.wf, Bool.and_eq_true, decide_eq_true_eq, decide_eq_true_eq, show IntKind.i64.min = -9223372036854775808 from by decide, show IntKind.i64.max = 9223372036854775807 from by decide] at h
  exact h
section
variable {H : Type} {enc : TypeId × Value → H} {W : World} {base b0 : Nat} {sp : Nat → Bool} {held : Bool} {r : Reach} {v : Value} {d : DataW H} {p : List MemPlace}
theorem int_open (hv : Value.okWide Tryz.prog W r b0 3 v) (h : DataW.Trod enc Tryz.prog W base sp held 3 v d p) : ∃ n, v = .int .i64 n ∧ True ∧ (-9223372036854775808 ≤ n ∧ n ≤ 9223372036854775807) := by
  obtain ⟨n, rfl, -, -, hw⟩ := open_int Tryz.underlying3 hv h
  exact ⟨n, rfl, trivial, wf_i64 hw⟩
theorem u8_open (hv : Value.okWide Tryz.prog W r b0 5 v) (h : DataW.Trod enc Tryz.prog W base sp held 5 v d p) : ∃ n : Nat, v = .int .u8 n ∧ n ≤ 255 := by
  obtain ⟨n, rfl, -, -, hw⟩ := open_int Tryz.underlying5 hv h
  obtain ⟨h1, h2⟩ := u8_bd hw
  obtain ⟨m, rfl⟩ := Int.eq_ofNat_of_zero_le h1
  exact ⟨m, rfl, by omega⟩
theorem str_open (hv : Value.okWide Tryz.prog W r b0 9 v) (h : DataW.Trod enc Tryz.prog W base sp held 9 v d p) : ∃ s : ByteArray, v = .string s ∧ s.size ≤ maxLen := by
  obtain ⟨s, rfl, -, -, hs⟩ := Go.ChangeMaps.open_string Tryz.underlying9 hv h
  exact ⟨s, rfl, hs⟩
set_option maxRecDepth 100000 in
theorem pair_open (hv : Value.okWide Tryz.prog W r b0 146 v) (h : DataW.Trod enc Tryz.prog W base sp held 146 v d p) : ∃ x y, v = .agg #[.int .i64 x, .int .i64 y] ∧ (-9223372036854775808 ≤ x ∧ x ≤ 9223372036854775807) ∧ (-9223372036854775808 ≤ y ∧ y ≤ 9223372036854775807) := by
  have hcl : Tryz.prog.cellsOf 146 = 2 := by kernel_rfl
  have hci : Tryz.prog.cellsOf 3 = 1 := by kernel_rfl
  have hag : ∃ cs, v = .agg cs := by
    simp only [Value.okWide, Tryz.underlying146] at hv
    cases v <;> simp_all
  obtain ⟨cs, rfl⟩ := hag
  obtain ⟨fuel, hf⟩ := h
  obtain ⟨xs, m, -, hx, hl, hn, hel⟩ := DataW.trod_array Tryz.underlying146 hf
  rw [hcl] at hl
  have hsz : cs.size = 2 := by simpa [Value.cells] using hl
  obtain ⟨c0, c1, rfl⟩ := Joins.array2 hsz
  have e0 := hel 0 (by omega)
  have e1 := hel 1 (by omega)
  rw [hci] at e0 e1
  have hx0 : ∃ y, xs[0]? = some y := ⟨_, List.getElem?_eq_getElem (by omega)⟩
  have hx1 : ∃ y, xs[1]? = some y := ⟨_, List.getElem?_eq_getElem (by omega)⟩
  obtain ⟨y0, hy0⟩ := hx0
  obtain ⟨y1, hy1⟩ := hx1
  rw [hy0] at e0
  rw [hy1] at e1
  obtain ⟨k0, h0, -, w0⟩ := DataW.trod_int Tryz.underlying3 e0
  obtain ⟨k1, h1, -, w1⟩ := DataW.trod_int Tryz.underlying3 e1
  simp [Value.cells] at h0 h1
  subst h0; subst h1
  exact ⟨k0, k1, rfl, wf_i64 w0, wf_i64 w1⟩
end
end Go.Proofs.YtfbkcdhmggjbaaaGreatDoor
