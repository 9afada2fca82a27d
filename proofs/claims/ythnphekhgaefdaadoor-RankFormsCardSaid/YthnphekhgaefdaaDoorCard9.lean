/-
  What opens the parameters of chapter 47's laws.
-/
import Derived.Test.YthnphekhgaefdaaDoorCardW
import Derived.Test.YthnphekhgaefdaaDoorRl0
import Derived.Lib.SmallJoins
import Derived.Deep.Slices
namespace Go.Proofs.YthnphekhgaefdaaDoor
open Go.ChangeShapes Go.WideShapes Go.ChangeAt Go.RowKit Go.Joins Go.Deep
set_option maxRecDepth 100000

theorem u8_of9 {H : Type} {enc : TypeId × Value → H} {W : World} {base : Nat} {sp : Nat → Bool} {held : Bool} {cs : List Value} {y : DataW H × List MemPlace} {n : Nat} (h : DataW.trod enc Tryd.prog W base sp held n 5 cs = some y) : ∃ k : Nat, cs = [.int .u8 k] ∧ k ≤ 255 := by
  obtain ⟨k, e, -, hw⟩ := DataW.trod_int Tryd.underlying5 h
  obtain ⟨l, g⟩ := u8_bd hw
  obtain ⟨m, rfl⟩ := Int.eq_ofNat_of_zero_le l
  exact ⟨m, e, by omega⟩
/-- All cells of an element are bytes. -/
def AllU8 (H : Type) (enc : TypeId × Value → H) (W : World) (e : TypeId) (n : Nat) : Prop := ∀ (base : Nat) (sp : Nat → Bool) (held : Bool) (m : Nat) (cs : List Value) (y : DataW H × List MemPlace), DataW.trod enc Tryd.prog W base sp held m e cs = some y → cs.length = n ∧ ∀ j, j < n → ∃ k : Nat, cs[j]? = some (.int .u8 k) ∧ k ≤ 255
/-- A slice of elements whose cells are bytes. -/
theorem elems_u8 {H : Type} {enc : TypeId × Value → H} {W : World} {base : Nat} {sp : Nat → Bool} {held : Bool} {fuel n : Nat} {t e : TypeId} {v : Value} {x : DataW H × List MemPlace}
    (ht : Tryd.prog.underlying t = some (.slice e)) (hC : Tryd.prog.cellsOf e = n) (hU : AllU8 H enc W e n) (h : DataW.trod enc Tryd.prog W base sp held fuel t [v] = some x) :
    v = .slice none 0 0 ∨ ∃ a len cap, v = .slice (some a) len cap ∧ len ≤ cap ∧ cap ≤ maxLen ∧ ∀ i, i < len → ∀ j, j < n → ∃ k : Nat, W.cell? (a.add (i * n + j)) = some (.int .u8 k) ∧ k ≤ 255 := by
  rcases DataW.trod_slice ht h with ⟨h0, -⟩ | ⟨a, len, cap, elems, rest, m, -, hv, -, -, hl, hm, hlen, hel, -, -⟩
  · exact .inl (List.cons.inj h0).1
  · refine .inr ⟨a, len, cap, (List.cons.inj hv).1, hl, hm, fun i hi j hj => ?_⟩
    have hei := hel i hi
    rw [hC, List.getElem?_eq_getElem (by omega), Option.bind_eq_some_iff] at hei
    obtain ⟨cs, hcs, htr⟩ := hei
    obtain ⟨_, hcl, hat⟩ := World.cells?_some hcs
    obtain ⟨hcn, hall⟩ := hU _ _ _ _ _ _ htr
    obtain ⟨k, hk, hle⟩ := hall j hj
    exact ⟨k, by rw [← Go.Deep.add_add, hat j hj, hk], hle⟩
theorem spot_none9 {W : World} {a : Addr} {v : Value} (h : W.cell? (a.add 0) = some v) : a.spot = none := by
  have h0 : W.cell? a = some v := by unfold Addr.add at h; rwa [if_pos rfl] at h
  unfold World.cell? at h0
  split at h0
  · split at h0
    · cases h0
    · rename_i hh; simpa using hh
  · cases h0
theorem add9 (g off k : Nat) : (⟨g, off, none⟩ : Addr).add k = ⟨g, off + k, none⟩ := by unfold Addr.add; split <;> simp_all
/-- The cells of a struct whose fields are bytes. -/
theorem allU8_struct (H : Type) (enc : TypeId × Value → H) (W : World) {e : TypeId} {fs : Array Field} (hs : Tryd.prog.underlying e = some (.struct fs)) (h1 : oneCellFields Tryd.prog fs = true) (hC : Tryd.prog.cellsOf e = fs.size) (hu : ∀ (j : Nat) (f : Field), fs[j]? = some f → f.type = 5) : AllU8 H enc W e fs.size := fun base sp held m cs y h => by
  obtain ⟨xs, n, q1, q2, q3, hxl, hg⟩ := DataW.trod_struct hs h
  have hcl : cs.length = fs.size := by
    first | exact q1.trans hC | exact q3.trans hC | exact q2.trans hC
  refine ⟨hcl, fun j hj => ?_⟩
  have hf : fs[j]? = some fs[j] := Array.getElem?_eq_getElem hj
  obtain ⟨o, k⟩ := hone_of h1 j _ hf
  have hgj := hg j _ hf
  have hjx : j < xs.length := by rw [hxl]; exact hj
  have hjc : j < cs.length := by omega
  rw [o, k, List.getElem?_eq_getElem hjx, List.drop_eq_getElem_cons hjc] at hgj
  rw [hu j _ hf] at hgj
  obtain ⟨i, hi, hle⟩ := u8_of9 hgj
  refine ⟨i, ?_, hle⟩
  rw [List.getElem?_eq_getElem hjc]
  have : cs[j] = .int .u8 i := by
    first | (rw [List.take_succ_cons, List.take_zero] at hi; exact (List.cons.inj hi).1) | exact (List.cons.inj hi).1
  rw [this]
theorem allU8_odd (H : Type) (enc : TypeId × Value → H) (W : World) : AllU8 H enc W 35 4 :=
  allU8_struct H enc W Tryd.underlying35 (by kernel_rfl) (by kernel_rfl) (fun j f hf => by
    match j, hf with
    | 0, hf => cases hf; rfl
    | 1, hf => cases hf; rfl
    | 2, hf => cases hf; rfl
    | 3, hf => cases hf; rfl
    | j + 4, hf => simp at hf)
/-- Changes that came in. -/
theorem odds_open' {H : Type} {enc : TypeId × Value → H} {W : World} {base : Nat} {sp : Nat → Bool} {held : Bool} {fuel : Nat} {v : Value} {x : DataW H × List MemPlace} (hsl : ∃ a l c, v = .slice a l c) (h2 : DataW.trod enc Tryd.prog W base sp held fuel 25 [v] = some x) :
    ∃ zq, IsOdds W v zq := by
  obtain ⟨a0, len0, cap0, rfl⟩ := hsl
  rcases elems_u8 Tryd.underlying25 (by kernel_rfl) (allU8_odd H enc W) h2 with e | ⟨a, len, cap, e, hl, hm, hel⟩
  · cases e
    exact ⟨[], none, 0, rfl, fun h => by simp at h, by simp, by simp, fun x hx => by simp at hx⟩
  · cases e
    have hex : ∀ i, ∃ s : Odd4, i < len0 → (W.cell? (a.add (i * 4)) = some (.int .u8 s.1) ∧ W.cell? (a.add (i * 4 + 1)) = some (.int .u8 s.2.1) ∧ W.cell? (a.add (i * 4 + 2)) = some (.int .u8 s.2.2.1) ∧ W.cell? (a.add (i * 4 + 3)) = some (.int .u8 s.2.2.2)) ∧ OddOK s := by
      intro i
      by_cases hi : i < len0
      · obtain ⟨k0, c0, l0⟩ := hel i hi 0 (by omega)
        obtain ⟨k1, c1, l1⟩ := hel i hi 1 (by omega)
        obtain ⟨k2, c2, l2⟩ := hel i hi 2 (by omega)
        obtain ⟨k3, c3, l3⟩ := hel i hi 3 (by omega)
        exact ⟨(k0, k1, k2, k3), fun _ => ⟨⟨c0, c1, c2, c3⟩, l0, l1, l2, l3⟩⟩
      · exact ⟨(0, 0, 0, 0), fun h => absurd h hi⟩
    obtain ⟨f, hf⟩ := Classical.axiomOfChoice hex
    refine ⟨(List.range len0).map f, some a, cap0, by simp, fun hpos => ?_, by simpa using hl, by simp; omega, fun x hx => ?_⟩
    · rw [List.length_map, List.length_range] at hpos
      have h0 := (hf 0 hpos).1.1
      rw [Nat.zero_mul] at h0
      have hs := spot_none9 h0
      obtain ⟨g, off, spot⟩ := a
      cases hs
      refine ⟨g, off, rfl, by have := cell_lt h0; simpa [Addr.add] using this, fun k x hx => ?_⟩
      have hk : k < len0 := by have := (List.getElem?_eq_some_iff.1 hx).1; simpa using this
      have hxk : x = f k := by
        rw [List.getElem?_map, List.getElem?_range hk] at hx
        exact (Option.some.inj hx).symm
      obtain ⟨⟨t0, t1, t2, t3⟩, -⟩ := hf k hk
      rw [add9] at t0 t1 t2 t3
      rw [hxk]
      exact ⟨t0, t1, t2, t3⟩
    · obtain ⟨i, hi, rfl⟩ := List.mem_map.1 hx
      exact (hf i (List.mem_range.1 hi)).2
end Go.Proofs.YthnphekhgaefdaaDoor
