/-
  What a child's turn leaves open, cell for cell, and the clone that holds it.
-/
import Derived.Test.YtgpooflcbljidaaDoorRk4
import Derived.Test.YtgpooflcbljidaaDoorSets
namespace Go.Proofs.YtgpooflcbljidaaDoor
open Go.RowKit
/-- The ones left, where the columns of s have been taken out of the rows tried. -/
def lessP (s : Nat) (Os : List Nat) (pre : List Nat) : List Nat := (List.range Os.length).map fun i => if i ∈ pre then minusN (Os.getD i 0) s else Os.getD i 0
theorem lessP_len (s : Nat) (Os pre : List Nat) : (lessP s Os pre).length = Os.length := by simp [lessP]
theorem lessP_at {s : Nat} {Os pre : List Nat} {i : Nat} (hi : i < Os.length) : (lessP s Os pre)[i]? = some (if i ∈ pre then minusN (Os.getD i 0) s else Os.getD i 0) := by
  unfold lessP
  rw [List.getElem?_map, List.getElem?_range hi, Option.map_some]
theorem lessP_nil (s : Nat) (Os : List Nat) : lessP s Os [] = Os := by
  apply List.ext_getElem?
  intro i
  by_cases hi : i < Os.length
  · rw [lessP_at hi, if_neg (by simp), List.getD_eq_getElem?_getD, List.getElem?_eq_getElem hi]; rfl
  · rw [List.getElem?_eq_none (by rw [lessP_len]; omega), List.getElem?_eq_none (by omega)]
theorem minus_minus (a s : Nat) : minusN (minusN a s) s = minusN a s := nat_ext fun x => by
  rw [testBit_minusN, testBit_minusN]
  cases a.testBit x <;> cases s.testBit x <;> rfl
theorem lessP_snoc {s : Nat} {Os pre : List Nat} {x : Nat} (hx : x < Os.length) : (lessP s Os pre).set x (minusN ((lessP s Os pre).getD x 0) s) = lessP s Os (pre ++ [x]) := by
  apply List.ext_getElem?
  intro i
  have e : (lessP s Os pre).getD x 0 = if x ∈ pre then minusN (Os.getD x 0) s else Os.getD x 0 := by rw [List.getD_eq_getElem?_getD, lessP_at hx]; rfl
  rw [e, List.getElem?_set]
  by_cases hi : x = i
  · subst hi
    rw [if_pos rfl, if_pos (show x < (lessP s Os pre).length by rw [lessP_len]; exact hx), lessP_at hx, if_pos (show x ∈ pre ++ [x] from List.mem_append_right _ (List.mem_singleton.2 rfl))]
    by_cases hp : x ∈ pre
    · rw [if_pos hp, minus_minus]
    · rw [if_neg hp]
  · rw [if_neg hi]
    by_cases hl : i < Os.length
    · rw [lessP_at hl, lessP_at hl]
      have : i ∈ pre ++ [x] ↔ i ∈ pre := by
        rw [List.mem_append, List.mem_singleton]
        exact ⟨fun h => h.elim id fun h => absurd h.symm hi, .inl⟩
      simp only [this]
    · rw [List.getElem?_eq_none (by rw [lessP_len]; omega), List.getElem?_eq_none (by rw [lessP_len]; omega)]
theorem lessP_mems (C : Nat) (Ns Os : List Nat) (s : Nat) : lessP s Os (mems (havN C Ns s)) = lessO C Ns Os s := by
  unfold lessP lessO
  refine List.map_congr_left fun i _ => ?_
  simp only [mem_mems]
theorem sum_step {su c i L : Nat} (hi : i < L) (hL : L ≤ 4096) (hs : su ≤ i * 4096) (hc : c ≤ 4096) : wrap64 ((su : Int) + (c : Int)) = ((su + c : Nat) : Int) ∧ su + c ≤ (i + 1) * 4096 ∧ i + 1 ≤ L ∧ L - (i + 1) < L - i := by
  have : i * 4096 ≤ 16777216 := by omega
  refine ⟨?_, by omega, by omega, by omega⟩
  rw [Int.natCast_add]
  exact IntWalk.wrap64_in _ ⟨by omega, by omega⟩
/-- A block holds, cell for cell from its start, the sets. -/
def Cln (w : World) (g : Nat) (Ls : List Nat) : Prop := ∃ cs vs, Blk w g 66 cs ∧ (∀ (k : Nat) v, vs[k]? = some v → cs[k]? = some v) ∧ Sets w vs Ls
section
variable {w w' : World} {g : Nat} {Ls : List Nat}
theorem Cln.below (h : Cln w g Ls) (hb : Below w.heap.size w w') : Cln w' g Ls := by
  obtain ⟨cs, vs, h1, h2, h3⟩ := h
  exact ⟨cs, vs, h1.below hb h1.lt, h2, h3.below hb⟩
theorem Cln.lt (h : Cln w g Ls) : g < w.heap.size := by obtain ⟨_, _, h1, _⟩ := h; exact h1.lt
theorem Cln.row (h : Cln w g Ls) : ∃ vs, Row w (some ⟨g, 0, none⟩) vs ∧ Sets w vs Ls := by
  obtain ⟨cs, vs, h1, h2, h3⟩ := h
  refine ⟨vs, fun _ => ⟨g, 0, rfl, h1.lt, fun k u hu => ?_⟩, h3⟩
  have hc := h2 k u hu
  obtain ⟨hk, hc'⟩ := Array.getElem?_eq_some_iff.1 hc
  have := h1.cell k
  simpa [hc, hc', hk] using this
theorem Cln.put (h : Cln w g Ls) {v : Value} {N i : Nat} (hs : IsSet w v N) : Cln (w.setCell ⟨g, i, none⟩ v) g (Ls.set i N) := by
  obtain ⟨cs, vs, h1, h2, h3⟩ := h
  have hk := KeepW.setCell (p := ⟨g, i, none⟩) h1 (by decide) v
  refine ⟨_, vs.set i v, h1.set_ i v, fun k u hu => ?_, (h3.put hs).keep hk⟩
  rw [List.getElem?_set] at hu
  rw [Array.getElem?_setIfInBounds]
  by_cases e : i = k
  · subst e
    rw [if_pos rfl] at hu
    split at hu
    · next hl =>
      have := Array.getElem?_eq_some_iff.1 (h2 i _ (List.getElem?_eq_getElem hl))
      obtain ⟨hi, _⟩ := this
      rw [if_pos rfl, if_pos hi]
      exact hu
    · cases hu
  · rw [if_neg e] at hu
    rw [if_neg e]
    exact h2 k u hu
end
end Go.Proofs.YtgpooflcbljidaaDoor
