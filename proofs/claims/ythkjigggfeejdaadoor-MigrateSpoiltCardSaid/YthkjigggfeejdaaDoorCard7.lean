import Derived.Test.YthkjigggfeejdaaDoorCard6
import Derived.Test.YthkjigggfeejdaaDoorMl13
namespace Go.Proofs.YthkjigggfeejdaaDoor
open Go.ChangeShapes Go.WideShapes Go.ChangeAt Go.RowKit Go.Joins Go.Deep
set_option maxRecDepth 100000

/-- Changes of plans that came in. -/
theorem spoils_open {H : Type} {enc : TypeId × Value → H} {W : World} {base b0 : Nat} {sp : Nat → Bool} {held : Bool} {r : Reach} {v : Value} {d : DataW H} {p : List MemPlace} (hv : Value.okWide Tryd.prog W r b0 80 v) (h : DataW.Trod enc Tryd.prog W base sp held 80 v d p) :
    ∃ zq, IsSP W v zq := by
  obtain ⟨a0, len0, cap0, rfl⟩ := okWide_slice Tryd.underlying80 hv
  obtain ⟨fuel, h2⟩ := h
  rcases elems_three Tryd.underlying80 Tryd.underlying83 (by kernel_rfl) (by kernel_rfl) h2 with e | ⟨a, len, cap, e, hl, hm, hel⟩
  · cases e
    exact ⟨[], none, 0, rfl, by simp, by unfold maxLen; omega, fun j hj => by simp at hj⟩
  · cases e
    have hex : ∀ i, ∃ s : Nat × Nat × Nat, i < len0 → s.1 ≤ 255 ∧ s.2.1 ≤ 255 ∧ s.2.2 ≤ 255 ∧ W.cell? (a.add (i * 3)) = some (.int .u8 s.1) ∧ W.cell? (a.add (i * 3 + 1)) = some (.int .u8 s.2.1) ∧ W.cell? (a.add (i * 3 + 2)) = some (.int .u8 s.2.2) := by
      intro i
      by_cases hi : i < len0
      · obtain ⟨va, vb, vc, n, q0, q1, q2, ⟨_, g0⟩, ⟨_, g1⟩, ⟨_, g2⟩⟩ := hel i hi
        obtain ⟨k0, rfl, l0⟩ := u8_of g0
        obtain ⟨k1, rfl, l1⟩ := u8_of g1
        obtain ⟨k2, rfl, l2⟩ := u8_of g2
        exact ⟨(k0, k1, k2), fun _ => ⟨l0, l1, l2, q0, q1, q2⟩⟩
      · exact ⟨(0, 0, 0), fun h => absurd h hi⟩
    obtain ⟨f, hf⟩ := Classical.axiomOfChoice hex
    refine ⟨(List.range len0).map f, some a, cap0, by simp, by simpa using hl, hm, fun j hj => ?_⟩
    rw [List.length_map, List.length_range] at hj
    obtain ⟨l0, l1, l2, t0, t1, t2⟩ := hf j hj
    have hs := spot_none (a := a) (v := .int .u8 (f 0).1) (by have := (hf 0 (by omega)).2.2.2.1; rwa [Nat.zero_mul] at this)
    obtain ⟨g, off, spot⟩ := a
    cases hs
    have hadd : ∀ k, (⟨g, off, none⟩ : Addr).add k = ⟨g, off + k, none⟩ := fun k => by unfold Addr.add; split <;> simp_all
    rw [hadd] at t0 t1 t2
    refine ⟨g, off, f j, rfl, ?_, l0, l1, l2, t0, t1, t2⟩
    rw [List.getElem?_map, List.getElem?_range hj]; rfl
end Go.Proofs.YthkjigggfeejdaaDoor
