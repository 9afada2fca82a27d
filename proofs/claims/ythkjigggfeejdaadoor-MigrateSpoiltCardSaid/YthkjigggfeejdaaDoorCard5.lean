import Derived.Test.YthkjigggfeejdaaDoorCard2
import Derived.Test.YthkjigggfeejdaaDoorMl4
import Derived.Lib.SmallJoins
namespace Go.Proofs.YthkjigggfeejdaaDoor
open Go.ChangeShapes Go.WideShapes Go.ChangeAt Go.RowKit Go.Joins Go.Deep
set_option maxRecDepth 100000

/-- Bytes that came in. -/
theorem bytes49_open {H : Type} {enc : TypeId × Value → H} {W : World} {base : Nat} {sp : Nat → Bool} {held : Bool} {v : Value} {y : DataW H × List MemPlace} {n : Nat} (h2 : DataW.trod enc Tryd.prog W base sp held n 22 [v] = some y) :
    ∃ (zs : List Int) (Ad : Option Addr) (c : Nat), v = .slice Ad zs.length c ∧ Row W Ad (zs.map (.int .u8)) ∧ (∀ z ∈ zs, 0 ≤ z ∧ z ≤ 255) ∧ zs.length ≤ maxLen := by
  rcases open_ints Tryd.underlying22 Tryd.underlying5 cellsU8 h2 with ⟨e, -⟩ | ⟨a, len, cap, zs, e, -, hlc, hcm, hlen, -, hcell, hwf⟩
  · cases e
    exact ⟨[], none, 0, rfl, fun h => by simp at h, fun z hz => by simp at hz, by simp⟩
  · cases e
    have hle : len ≤ zs.length := by rw [hlen]; split <;> omega
    have hlt : (zs.take len).length = len := by rw [List.length_take]; omega
    refine ⟨zs.take len, some a, cap, by rw [hlt], fun h => ?_, fun z hz => u8_bd (hwf z (List.mem_of_mem_take hz)), by omega⟩
    rw [List.length_map, hlt] at h
    have h0 := hcell 0 (by omega)
    have hs : a.spot = none := by
      have h0' : W.cell? a = some (.int .u8 (zs.getD 0 0)) := by
        unfold Addr.add at h0; rwa [if_pos rfl] at h0
      unfold World.cell? at h0'
      split at h0'
      · split at h0'
        · cases h0'
        · rename_i hh; simpa using hh
      · cases h0'
    obtain ⟨g, off, spot⟩ := a
    cases hs
    refine ⟨g, off, rfl, by have := cell_lt h0; simpa [Addr.add] using this, fun k u hu => ?_⟩
    rw [List.getElem?_map] at hu
    obtain ⟨z, hz, rfl⟩ := Option.map_eq_some_iff.1 hu
    have hk : k < len := by
      have := (List.getElem?_eq_some_iff.1 hz).1
      omega
    have hc := hcell k (by omega)
    rw [List.getElem?_take_of_lt hk] at hz
    rw [List.getD_eq_getElem?_getD, hz, Option.getD_some] at hc
    by_cases hk0 : k = 0
    · subst hk0; simpa [Addr.add] using hc
    · simpa [Addr.add, hk0] using hc
theorem u8_of {H : Type} {enc : TypeId × Value → H} {W : World} {base : Nat} {sp : Nat → Bool} {held : Bool} {v : Value} {y : DataW H × List MemPlace} {n : Nat} (h : DataW.trod enc Tryd.prog W base sp held n 5 [v] = some y) : ∃ k : Nat, v = .int .u8 k ∧ k ≤ 255 := by
  obtain ⟨k, e, -, hw⟩ := DataW.trod_int Tryd.underlying5 h
  cases e
  obtain ⟨l, g⟩ := u8_bd hw
  obtain ⟨m, rfl⟩ := Int.eq_ofNat_of_zero_le l
  exact ⟨m, rfl, by omega⟩
/-- The fields of a struct of five one-cell fields that came in. -/
theorem fields_five {H : Type} {enc : TypeId × Value → H} {P : Program} {W : World} {base b0 : Nat} {sp : Nat → Bool} {held : Bool} {r : Reach} {t : TypeId} {fa fb fc fd fe : Field} {v : Value} {d : DataW H} {p : List MemPlace}
    (hs : P.underlying t = some (.struct #[fa, fb, fc, fd, fe])) (h1 : oneCellFields P #[fa, fb, fc, fd, fe] = true) (hC : P.cellsOf t = 5) (hv : Value.okWide P W r b0 t v) (h : DataW.Trod enc P W base sp held t v d p) :
    ∃ va vb vc vd ve n, v = .agg #[va, vb, vc, vd, ve] ∧ (∃ y, DataW.trod enc P W base sp held n fa.type [va] = some y) ∧ (∃ y, DataW.trod enc P W base sp held n fb.type [vb] = some y) ∧ (∃ y, DataW.trod enc P W base sp held n fc.type [vc] = some y) ∧ (∃ y, DataW.trod enc P W base sp held n fd.type [vd] = some y) ∧ (∃ y, DataW.trod enc P W base sp held n fe.type [ve] = some y) := by
  obtain ⟨cs, rfl, hsz⟩ := okWide_struct hs hv
  obtain ⟨l⟩ := cs
  obtain ⟨fuel, hf⟩ := h
  obtain ⟨xs, n, _, _, _, hlen, hg⟩ := DataW.trod_struct hs hf
  have key : ∀ (i : Nat) (f : Field) (ci : Value), #[fa, fb, fc, fd, fe][i]? = some f → l[i]? = some ci → ∃ y, DataW.trod enc P W base sp held n f.type [ci] = some y := by
    intro i f ci hfi hci
    obtain ⟨o, k⟩ := hone_of h1 i f hfi
    have hil : i < xs.length := by
      have := (Array.getElem?_eq_some_iff.1 hfi).1
      rw [hlen]; exact this
    have hgi := hg i f hfi
    rw [o, k, List.getElem?_eq_getElem hil] at hgi
    refine ⟨xs[i], ?_⟩
    rw [← hgi]
    congr 1
    simp only [Value.cells]
    have hl : i < l.length := (List.getElem?_eq_some_iff.1 hci).1
    rw [List.getElem?_eq_getElem hl] at hci
    rw [← Option.some.inj hci, List.drop_eq_getElem_cons hl]
    rfl
  match l, hsz.trans hC, key with
  | [c0, c1, c2, c3, c4], _, key => exact ⟨c0, c1, c2, c3, c4, n, rfl, key 0 fa c0 rfl rfl, key 1 fb c1 rfl rfl, key 2 fc c2 rfl rfl, key 3 fd c3 rfl rfl, key 4 fe c4 rfl rfl⟩
/-- The raw data of two configurations that came in. -/
theorem raw49_open {H : Type} {enc : TypeId × Value → H} {W : World} {base b0 : Nat} {sp : Nat → Bool} {held : Bool} {r : Reach} {v : Value} {d : DataW H} {p : List MemPlace} (hv : Value.okWide Tryd.prog W r b0 46 v) (h : DataW.Trod enc Tryd.prog W base sp held 46 v d p) :
    ∃ u a b p zs, IsRaw49 W v u a b p zs := by
  obtain ⟨_, _, _, _, _, n, rfl, ⟨_, g0⟩, ⟨_, g1⟩, ⟨_, g2⟩, ⟨_, g3⟩, _, g4⟩ := fields_five Tryd.underlying46 (by kernel_rfl) (by kernel_rfl) hv h
  obtain ⟨m0, rfl, l0⟩ := u8_of g0
  obtain ⟨m1, rfl, l1⟩ := u8_of g1
  obtain ⟨m2, rfl, l2⟩ := u8_of g2
  obtain ⟨m3, rfl, l3⟩ := u8_of g3
  obtain ⟨zs, Ad, c, rfl, hr, hz, hl⟩ := bytes49_open g4
  exact ⟨_, _, _, _, zs, m0, m1, m2, m3, Ad, c, rfl, rfl, rfl, rfl, rfl, l0, l1, l2, l3, hr, hz, hl⟩
end Go.Proofs.YthkjigggfeejdaaDoor
