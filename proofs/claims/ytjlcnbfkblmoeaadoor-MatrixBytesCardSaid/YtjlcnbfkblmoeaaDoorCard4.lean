import Derived.Test.YtjlcnbfkblmoeaaDoorCard2
import Derived.Test.YtjlcnbfkblmoeaaDoorRead9
namespace Go.Proofs.YtjlcnbfkblmoeaaDoor
open Go.ChangeShapes Go.WideShapes Go.ChangeAt Go.RowKit
set_option maxRecDepth 100000

/-- A slice of bytes that came in. -/
theorem bytes_open {H : Type} {enc : TypeId × Value → H} {W : World} {base b0 : Nat} {sp : Nat → Bool} {held : Bool} {r : Reach} {v : Value} {d : DataW H} {p : List MemPlace} (hv : Value.okWide Tryd.prog W r b0 22 v) (h : DataW.Trod enc Tryd.prog W base sp held 22 v d p) :
    ∃ A c ps, v = .slice A ps.length c ∧ IsBy W A c ps ∧ ∀ b ∈ ps, b < 256 := by
  obtain ⟨a0, len0, cap0, rfl⟩ := okWide_slice Tryd.underlying22 hv
  obtain ⟨fuel, h2⟩ := h
  rcases open_ints Tryd.underlying22 Tryd.underlying5 cellsU8 h2 with ⟨e, -⟩ | ⟨a, len, cap, zs, e, -, hlc, hcm, hlen, -, hcell, hwf⟩
  · cases e
    exact ⟨none, 0, [], rfl, ⟨by simp, by simp [maxLen], fun _ => rfl, fun h => by simp at h⟩, fun b hb => by simp at hb⟩
  · cases e
    have hle : len0 ≤ zs.length := by rw [hlen]; split <;> omega
    have hlt : ((zs.take len0).map Int.toNat).length = len0 := by rw [List.length_map, List.length_take]; omega
    refine ⟨some a, cap0, (zs.take len0).map Int.toNat, by rw [hlt], ⟨by rw [hlt]; exact hlc, by omega, (fun e => by cases e), fun h => ?_⟩, fun z hz => ?_⟩
    · rw [List.length_map, List.length_map, hlt] at h
      have h0 := hcell 0 (by omega)
      have hs : a.spot = none := by
        have h0' : W.cell? a = some (.int .u8 (zs.getD 0 0)) := by
          unfold Addr.add at h0; rwa [if_pos rfl] at h0
        unfold World.cell? at h0'
        split at h0'
        · split at h0'
          · cases h0'
          · rename_i hh; simpa using hh
        · cases h0'
      obtain ⟨g, off, spot⟩ := a
      cases hs
      refine ⟨g, off, rfl, by have := cell_lt h0; simpa [Addr.add] using this, fun k u hu => ?_⟩
      rw [List.getElem?_map] at hu
      obtain ⟨z', hz', rfl⟩ := Option.map_eq_some_iff.1 hu
      rw [List.getElem?_map] at hz'
      obtain ⟨z'', hz'', rfl⟩ := Option.map_eq_some_iff.1 hz'
      rw [List.getElem?_map] at hz''
      obtain ⟨z, hz, rfl⟩ := Option.map_eq_some_iff.1 hz''
      have hk : k < len0 := by
        have := (List.getElem?_eq_some_iff.1 hz).1
        rw [List.length_take] at this
        omega
      have hc := hcell k (by omega)
      rw [List.getElem?_take_of_lt hk] at hz
      have hmem : z ∈ zs := List.mem_of_getElem? hz
      have hb := u8_bd (hwf z hmem)
      rw [List.getD_eq_getElem?_getD, hz, Option.getD_some] at hc
      rw [Int.toNat_of_nonneg hb.1]
      by_cases hk0 : k = 0
      · subst hk0; simpa [Addr.add] using hc
      · simpa [Addr.add, hk0] using hc
    · obtain ⟨y, hy, rfl⟩ := List.mem_map.1 hz
      have := u8_bd (hwf y (List.mem_of_mem_take hy))
      omega
end Go.Proofs.YtjlcnbfkblmoeaaDoor
