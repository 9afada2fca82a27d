import Derived.Test.YtjlcnbfkblmoeaaDoorRef3
namespace Go.Proofs.YtjlcnbfkblmoeaaDoor
open Go.RowKit

/-- The matrix with the elements f. -/
def mat (R C : Nat) (f : Nat → Nat → Bool) : List (List Bool) := (List.range R).map fun i => (List.range C).map fun j => f i j
theorem mat_len (R C : Nat) (f : Nat → Nat → Bool) : (mat R C f).length = R := by simp [mat]
theorem mat_get {R C : Nat} {f : Nat → Nat → Bool} {i j : Nat} (hi : i < R) (hj : j < C) : mget (mat R C f) i j = f i j := by simp [mget, mat, hi, hj]
theorem info_bool : (Tryd.prog.info? 4).map (fun i => (i.zero, i.size, i.bytes)) = some (some (.bool false), 1, 1) := by kernel_rfl
theorem info_bools : (Tryd.prog.info? 84).map (fun i => (i.zero, i.size, i.bytes)) = some (some (.slice none 0 0), 1, 24) := by kernel_rfl
/-- Rows of our own: row i lies in block gs[i], by itself. -/
def OwnRows (W : World) (base C : Nat) (gs : List Nat) (f : Nat → Nat → Bool) : Prop :=
  gs.Nodup ∧ (∀ g ∈ gs, base ≤ g) ∧ ∀ (i : Nat) g, gs[i]? = some g → Blk W g 4 ((List.range C).map fun j => Value.bool (f i j)).toArray
/-- The rows' slices. -/
def hdrs (C : Nat) (gs : List Nat) : List Value := gs.map fun g => .slice (some ⟨g, 0, none⟩) C C
/-- A matrix of the specification's that nobody else has. -/
def OwnRef (W : World) (base C : Nat) (v : Value) (gs : List Nat) (f : Nat → Nat → Bool) : Prop :=
  W.ownsRow base 84 1 v gs.length (hdrs C gs) ∧ OwnRows W base C gs f
section
variable {W W' : World} {base C : Nat} {gs : List Nat} {f : Nat → Nat → Bool} {v : Value}
theorem OwnRows.below (h : OwnRows W base C gs f) (hb : Below W.heap.size W W') : OwnRows W' base C gs f := ⟨h.1, h.2.1, fun i g hg => (h.2.2 i g hg).below hb (h.2.2 i g hg).lt⟩
theorem OwnRef.below (h : OwnRef W base C v gs f) (hb : Below W.heap.size W W') : OwnRef W' base C v gs f := ⟨own_below h.1 hb, h.2.below hb⟩
theorem OwnRef.ref (h : OwnRef W base C v gs f) (hC : C ≤ 4096) (hR : gs.length ≤ 4096) : ∃ A c, v = .slice A gs.length c ∧ gs.length ≤ c ∧ IsRef W C A (mat gs.length C f) := by
  obtain ⟨A, c, hv, h1, _, h2, _⟩ := row_of_own h.1
  refine ⟨A, c, hv, h1, hC, by rw [mat_len]; exact hR, hdrs C gs, by simp [hdrs, mat], h2, fun i r hr => ?_⟩
  have hi : i < gs.length := by have := (List.getElem?_eq_some_iff.1 hr).1; rwa [mat_len] at this
  have hr' : r = (List.range C).map fun j => f i j := by
    unfold mat at hr
    rw [List.getElem?_map, List.getElem?_range hi] at hr
    simpa using hr.symm
  subst hr'
  refine ⟨by simp, some ⟨gs[i], 0, none⟩, C, by unfold hdrs; rw [List.getElem?_map, List.getElem?_eq_getElem hi]; rfl, ?_⟩
  refine Row.of_blk (h.2.2.2 i gs[i] (List.getElem?_eq_getElem hi)) fun k u hu => ?_
  rw [List.getElem?_toArray]
  rw [List.map_map] at hu
  exact hu
/-- One element is set. -/
theorem OwnRows.set_ (h : OwnRows W base C gs f) {i j g : Nat} (hg : gs[i]? = some g) (b : Bool) :
    OwnRows (W.setCell ⟨g, j, none⟩ (.bool b)) base C gs (fun x y => if x = i ∧ y = j then b else f x y) := by
  refine ⟨h.1, h.2.1, fun i' g' hg' => ?_⟩
  by_cases e : i' = i
  · subst e
    rw [hg] at hg'; cases hg'
    have := (h.2.2 i' g hg).set_ j (.bool b)
    have e2 : ((List.range C).map fun y => Value.bool (f i' y)).toArray.setIfInBounds j (.bool b) = ((List.range C).map fun y => Value.bool (if i' = i' ∧ y = j then b else f i' y)).toArray := by
      apply Array.ext_getElem?
      intro k
      rw [Array.getElem?_setIfInBounds]
      by_cases hk : k < C
      · by_cases hjk : j = k
        · subst hjk; simp [hk]
        · rw [if_neg hjk]; simp [hk, show ¬ k = j from fun e => hjk e.symm]
      · rw [List.getElem?_toArray, List.getElem?_toArray, List.getElem?_eq_none (by simp; omega), List.getElem?_eq_none (by simp; omega)]
        split
        · rename_i hh; rw [if_neg (by simp; omega)]
        · rfl
    rw [e2] at this
    exact this
  · have hne : g' ≠ g := fun eg => by
      subst eg
      have hi := (List.getElem?_eq_some_iff.1 hg)
      have hi' := (List.getElem?_eq_some_iff.1 hg')
      obtain ⟨a1, a2⟩ := hi
      obtain ⟨b1, b2⟩ := hi'
      exact e ((List.getElem_inj h.1).1 (b2.trans a2.symm))
    have := (h.2.2 i' g' hg').far (p := ⟨g, j, none⟩) hne (.bool b)
    simpa [e] using this
end
end Go.Proofs.YtjlcnbfkblmoeaaDoor
