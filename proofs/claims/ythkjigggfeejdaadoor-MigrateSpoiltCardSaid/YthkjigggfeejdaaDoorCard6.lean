import Derived.Test.YthkjigggfeejdaaDoorCard5
import Derived.Test.YthkjigggfeejdaaDoorMl7
import Derived.Deep.Slices
namespace Go.Proofs.YthkjigggfeejdaaDoor
open Go.ChangeShapes Go.WideShapes Go.ChangeAt Go.RowKit Go.Joins Go.Deep
set_option maxRecDepth 100000

/-- A step of the reference's that came in. -/
theorem rstep_open {H : Type} {enc : TypeId × Value → H} {W : World} {base b0 : Nat} {sp : Nat → Bool} {held : Bool} {r : Reach} {v : Value} {d : DataW H} {p : List MemPlace} (hv : Value.okWide Tryd.prog W r b0 48 v) (h : DataW.Trod enc Tryd.prog W base sp held 48 v d p) :
    ∃ k x y : Int, v = .agg #[.int .i64 k, .int .i64 x, .int .i64 y] ∧ True := by
  obtain ⟨v0, v1, v2, y0, y1, y2, n, rfl, -, -, h0, h1, h2⟩ := Joins.open_agg3 Tryd.underlying48 (by kernel_rfl) (by kernel_rfl) hv h
  obtain ⟨k0, e0, -, w0⟩ := DataW.trod_int Tryd.underlying3 h0
  obtain ⟨k1, e1, -, w1⟩ := DataW.trod_int Tryd.underlying3 h1
  obtain ⟨k2, e2, -, w2⟩ := DataW.trod_int Tryd.underlying3 h2
  cases e0; cases e1; cases e2
  exact ⟨k0, k1, k2, rfl, trivial⟩
/-- A slice of structs of three one-cell fields that came in: its cells. -/
theorem elems_three {H : Type} {enc : TypeId × Value → H} {P : Program} {W : World} {base : Nat} {sp : Nat → Bool} {held : Bool} {fuel : Nat} {t e : TypeId} {fa fb fc : Field} {v : Value} {x : DataW H × List MemPlace}
    (ht : P.underlying t = some (.slice e)) (he : P.underlying e = some (.struct #[fa, fb, fc])) (h1 : oneCellFields P #[fa, fb, fc] = true) (hC : P.cellsOf e = 3) (h : DataW.trod enc P W base sp held fuel t [v] = some x) :
    v = .slice none 0 0 ∨ ∃ a len cap, v = .slice (some a) len cap ∧ len ≤ cap ∧ cap ≤ maxLen ∧ ∀ i, i < len → ∃ va vb vc n, W.cell? (a.add (i * 3)) = some va ∧ W.cell? (a.add (i * 3 + 1)) = some vb ∧ W.cell? (a.add (i * 3 + 2)) = some vc ∧
      (∃ y, DataW.trod enc P W base sp held n fa.type [va] = some y) ∧ (∃ y, DataW.trod enc P W base sp held n fb.type [vb] = some y) ∧ (∃ y, DataW.trod enc P W base sp held n fc.type [vc] = some y) := by
  rcases DataW.trod_slice ht h with ⟨h0, -⟩ | ⟨a, len, cap, elems, rest, n, -, hv, -, -, hl, hm, hlen, hel, -, -⟩
  · exact .inl (List.cons.inj h0).1
  · refine .inr ⟨a, len, cap, (List.cons.inj hv).1, hl, hm, fun i hi => ?_⟩
    have hei := hel i hi
    rw [hC, List.getElem?_eq_getElem (by omega), Option.bind_eq_some_iff] at hei
    obtain ⟨cs, hcs, htr⟩ := hei
    obtain ⟨_, hcl, hat⟩ := World.cells?_some hcs
    obtain ⟨xs, m, _, _, _, hxl, hg⟩ := DataW.trod_struct he htr
    have key : ∀ (j : Nat) (f : Field), #[fa, fb, fc][j]? = some f → ∃ u, W.cell? (a.add (i * 3 + j)) = some u ∧ ∃ y, DataW.trod enc P W base sp held m f.type [u] = some y := by
      intro j f hf
      have hj : j < 3 := (Array.getElem?_eq_some_iff.1 hf).1
      obtain ⟨o, k⟩ := hone_of h1 j f hf
      have hgj := hg j f hf
      have hjx : j < xs.length := by rw [hxl]; exact hj
      have hjc : j < cs.length := by omega
      rw [o, k, List.getElem?_eq_getElem hjx, List.drop_eq_getElem_cons hjc] at hgj
      refine ⟨cs[j], ?_, xs[j], hgj⟩
      rw [← Go.Deep.add_add, hat j hj, List.getElem?_eq_getElem hjc]
    obtain ⟨va, a1, a2⟩ := key 0 fa rfl
    obtain ⟨vb, b1, b2⟩ := key 1 fb rfl
    obtain ⟨vc, c1, c2⟩ := key 2 fc rfl
    exact ⟨va, vb, vc, m, a1, b1, c1, a2, b2, c2⟩
theorem int_of {H : Type} {enc : TypeId × Value → H} {W : World} {base : Nat} {sp : Nat → Bool} {held : Bool} {v : Value} {n : Nat} (h : ∃ y, DataW.trod enc Tryd.prog W base sp held n 3 [v] = some y) : ∃ k : Int, v = .int .i64 k := by
  obtain ⟨y, h⟩ := h
  obtain ⟨k, e, -, -⟩ := DataW.trod_int Tryd.underlying3 h
  cases e
  exact ⟨k, rfl⟩
theorem spot_none {W : World} {a : Addr} {v : Value} (h : W.cell? (a.add 0) = some v) : a.spot = none := by
  have h0 : W.cell? a = some v := by unfold Addr.add at h; rwa [if_pos rfl] at h
  unfold World.cell? at h0
  split at h0
  · split at h0
    · cases h0
    · rename_i hh; simpa using hh
  · cases h0
/-- Steps of the reference's that came in. -/
theorem rsteps_open {H : Type} {enc : TypeId × Value → H} {W : World} {base b0 : Nat} {sp : Nat → Bool} {held : Bool} {r : Reach} {v : Value} {d : DataW H} {p : List MemPlace} (hv : Value.okWide Tryd.prog W r b0 74 v) (h : DataW.Trod enc Tryd.prog W base sp held 74 v d p) :
    ∃ zq, IsRS W v zq := by
  obtain ⟨a0, len0, cap0, rfl⟩ := okWide_slice Tryd.underlying74 hv
  obtain ⟨fuel, h2⟩ := h
  rcases elems_three Tryd.underlying74 Tryd.underlying48 (by kernel_rfl) (by kernel_rfl) h2 with e | ⟨a, len, cap, e, hl, hm, hel⟩
  · cases e
    exact ⟨[], none, 0, rfl, fun h => by simp [cellsI] at h, by simp, by unfold maxLen; omega, fun _ => ⟨rfl, rfl⟩⟩
  · cases e
    have hex : ∀ i, ∃ s : Int × Int × Int, i < len0 → W.cell? (a.add (i * 3)) = some (.int .i64 s.1) ∧ W.cell? (a.add (i * 3 + 1)) = some (.int .i64 s.2.1) ∧ W.cell? (a.add (i * 3 + 2)) = some (.int .i64 s.2.2) := by
      intro i
      by_cases hi : i < len0
      · obtain ⟨va, vb, vc, n, q0, q1, q2, g0, g1, g2⟩ := hel i hi
        obtain ⟨k0, rfl⟩ := int_of g0
        obtain ⟨k1, rfl⟩ := int_of g1
        obtain ⟨k2, rfl⟩ := int_of g2
        exact ⟨(k0, k1, k2), fun _ => ⟨q0, q1, q2⟩⟩
      · exact ⟨(0, 0, 0), fun h => absurd h hi⟩
    obtain ⟨f, hf⟩ := Classical.axiomOfChoice hex
    refine ⟨(List.range len0).map f, some a, cap0, by simp, fun hpos => ?_, by simpa using hl, hm, fun e => by cases e⟩
    rw [cellsI_len, List.length_map, List.length_range] at hpos
    have h0 := (hf 0 (by omega)).1
    rw [Nat.zero_mul] at h0
    have hs := spot_none h0
    obtain ⟨g, off, spot⟩ := a
    cases hs
    have hadd : ∀ k, (⟨g, off, none⟩ : Addr).add k = ⟨g, off + k, none⟩ := fun k => by unfold Addr.add; split <;> simp_all
    refine ⟨g, off, rfl, by have := cell_lt h0; simpa [Addr.add] using this, fun k u hu => ?_⟩
    have hk : k < len0 * 3 := by have := (List.getElem?_eq_some_iff.1 hu).1; rw [cellsI_len, List.length_map, List.length_range] at this; exact this
    have hq : k / 3 < len0 := by omega
    have hsq : ((List.range len0).map f)[k / 3]? = some (f (k / 3)) := by rw [List.getElem?_map, List.getElem?_range hq]; rfl
    obtain ⟨r0, r1, r2⟩ := cellsI_get _ _ _ hsq
    obtain ⟨t0, t1, t2⟩ := hf (k / 3) hq
    rw [hadd] at t0 t1 t2
    have h3 : k = k / 3 * 3 ∨ k = k / 3 * 3 + 1 ∨ k = k / 3 * 3 + 2 := by omega
    rcases h3 with e | e | e <;> rw [e] at hu ⊢
    · rw [r0] at hu; cases hu; exact t0
    · rw [r1] at hu; cases hu; exact t1
    · rw [r2] at hu; cases hu; exact t2
end Go.Proofs.YthkjigggfeejdaaDoor
