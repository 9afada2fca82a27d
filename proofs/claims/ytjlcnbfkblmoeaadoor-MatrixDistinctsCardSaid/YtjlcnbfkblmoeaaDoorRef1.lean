import Derived.Test.YtjlcnbfkblmoeaaDoorAwake
namespace Go.Proofs.YtjlcnbfkblmoeaaDoor
open Go.RowKit

/-- A matrix of the specification's, as a value. -/
abbrev refV (C : Nat) (A : Option Addr) (R c : Nat) : Value := .agg #[.int .i64 (C : Int), .slice A R c]
/-- Element (i, j) of lists of lists. -/
def mget (M : List (List Bool)) (i j : Nat) : Bool := (M.getD i []).getD j false
/-- The rows at A are the lists M, each of C elements. -/
def IsRef (w : World) (C : Nat) (A : Option Addr) (M : List (List Bool)) : Prop :=
  C ≤ 4096 ∧ M.length ≤ 4096 ∧ ∃ vs : List Value, vs.length = M.length ∧ Row w A vs ∧ ∀ (i : Nat) r, M[i]? = some r → r.length = C ∧ ∃ B d, vs[i]? = some (.slice B C d) ∧ Row w B (r.map .bool)
theorem IsRef.below {w w' : World} {C : Nat} {A : Option Addr} {M : List (List Bool)} (h : IsRef w C A M) (hb : Below w.heap.size w w') : IsRef w' C A M := by
  obtain ⟨h1, h2, vs, h3, h4, h5⟩ := h
  refine ⟨h1, h2, vs, h3, h4.below hb, fun i r hr => ?_⟩
  obtain ⟨h6, B, d, h7, h8⟩ := h5 i r hr
  exact ⟨h6, B, d, h7, h8.below hb⟩
theorem IsRef.row {w : World} {C : Nat} {A : Option Addr} {M : List (List Bool)} (h : IsRef w C A M) {i : Nat} (hi : i < M.length) :
    ∃ g off B d, A = some ⟨g, off, none⟩ ∧ g < w.heap.size ∧ w.cell? ⟨g, off + i, none⟩ = some (.slice B C d) ∧ Row w B (M[i].map .bool) ∧ M[i].length = C := by
  obtain ⟨_, _, vs, h3, h4, h5⟩ := h
  obtain ⟨h6, B, d, h7, h8⟩ := h5 i M[i] (List.getElem?_eq_getElem hi)
  obtain ⟨g, off, hA, hg, hc⟩ := h4 (by omega)
  exact ⟨g, off, B, d, hA, hg, hc i _ h7, h8, h6⟩
theorem IsRef.at_ {w : World} {C : Nat} {A : Option Addr} {M : List (List Bool)} (h : IsRef w C A M) {i j : Nat} (hi : i < M.length) (hj : j < C) :
    ∃ g off g2 off2 d, A = some ⟨g, off, none⟩ ∧ g < w.heap.size ∧ g2 < w.heap.size ∧ w.cell? ⟨g, off + i, none⟩ = some (.slice (some ⟨g2, off2, none⟩) C d) ∧ w.cell? ⟨g2, off2 + j, none⟩ = some (.bool (mget M i j)) := by
  obtain ⟨g, off, B, d, hA, hg, hc, hr, hl⟩ := h.row hi
  obtain ⟨g2, off2, rfl, hg2, hc2⟩ := hr (by simp; omega)
  refine ⟨g, off, g2, off2, d, hA, hg, hg2, hc, hc2 j _ ?_⟩
  have hj' : j < M[i].length := by omega
  rw [List.getElem?_map, List.getElem?_eq_getElem hj', Option.map_some]
  simp only [mget, List.getD_eq_getElem?_getD, List.getElem?_eq_getElem hi, Option.getD_some, List.getElem?_eq_getElem hj']

/-- What the specification's Has answers. -/
def hasR (C : Nat) (M : List (List Bool)) (i j : Int) : Bool := insideB M.length C i j && mget M i.toNat j.toNat
set_option maxRecDepth 100000 in
set_option maxHeartbeats 1000000 in
theorem hasr_any (C : Nat) (A : Option Addr) (c : Nat) (M : List (List Bool)) (i j : Int) (w : World) (h : IsRef w C A M) :
    Calls Tryd.prog 47 #[refV C A M.length c, .int .i64 i, .int .i64 j] w fun e w' => e = .returned (.bool (hasR C M i j)) ∧ Below w.heap.size w w' := by
  have hb := (Below.refl w.heap.size w).alloc (Nat.le_refl _) (.cells #[.int .i64 (C : Int), .slice A M.length c] 28)
  unfold hasR
  by_cases h1 : 0 ≤ i
  · by_cases h2 : i < M.length
    · by_cases h3 : 0 ≤ j
      · by_cases h4 : j < C
        · obtain ⟨I, rfl⟩ := Int.eq_ofNat_of_zero_le h1
          obtain ⟨J, rfl⟩ := Int.eq_ofNat_of_zero_le h3
          obtain ⟨g, off, g2, off2, d, rfl, hg, hg2, c1, c2⟩ := h.at_ (i := I) (j := J) (by omega) (by omega)
          have hin : insideB M.length C I J = true := by unfold insideB; rw [decide_eq_true_eq]; omega
          rw [hin, Bool.true_and, Int.toNat_natCast, Int.toNat_natCast]
          clear h hin
          go_enter Tryd.func47, Tryd.ntmps47
          go_wp2
          go_ret
          exact ⟨rfl, hb⟩
        · have hin : insideB M.length C i j = false := by unfold insideB; rw [decide_eq_false_iff_not]; omega
          rw [hin, Bool.false_and]
          clear h hin
          go_enter Tryd.func47, Tryd.ntmps47
          go_wp2
          go_ret
          exact ⟨rfl, hb⟩
      · have hin : insideB M.length C i j = false := by unfold insideB; rw [decide_eq_false_iff_not]; omega
        rw [hin, Bool.false_and]
        clear h hin
        go_enter Tryd.func47, Tryd.ntmps47
        go_wp2
        go_ret
        exact ⟨rfl, hb⟩
    · have hin : insideB M.length C i j = false := by unfold insideB; rw [decide_eq_false_iff_not]; omega
      rw [hin, Bool.false_and]
      clear h hin
      go_enter Tryd.func47, Tryd.ntmps47
      go_wp2
      go_ret
      exact ⟨rfl, hb⟩
  · have hin : insideB M.length C i j = false := by unfold insideB; rw [decide_eq_false_iff_not]; omega
    rw [hin, Bool.false_and]
    clear h hin
    go_enter Tryd.func47, Tryd.ntmps47
    go_wp2
    go_ret
    exact ⟨rfl, hb⟩
set_option maxRecDepth 100000 in
set_option maxHeartbeats 1000000 in
theorem fitsr_any (C D R S : Nat) (A B : Option Addr) (c d : Nat) (w : World) :
    Calls Tryd.prog 38 #[refV C A R c, refV D B S d] w fun e w' => e = .returned (.bool (decide (R = S ∧ C = D))) ∧ Below w.heap.size w w' := by
  have hb := ((Below.refl w.heap.size w).alloc (Nat.le_refl _) (.cells #[.int .i64 (C : Int), .slice A R c] 28)).alloc (by simp) (.cells #[.int .i64 (D : Int), .slice B S d] 28)
  by_cases h1 : R = S
  · by_cases h2 : C = D
    · have e1 : ((R : Int) == (S : Int)) = true := by simp [h1]
      have e2 : ((C : Int) == (D : Int)) = true := by simp [h2]
      rw [decide_eq_true ⟨h1, h2⟩]
      clear h1 h2
      go_enter Tryd.func38, Tryd.ntmps38
      go_wp2
      go_ret
      exact ⟨rfl, hb⟩
    · have e1 : ((R : Int) == (S : Int)) = true := by simp [h1]
      have e2 : ((C : Int) == (D : Int)) = false := by simp; omega
      rw [decide_eq_false (fun h => h2 h.2)]
      clear h1 h2
      go_enter Tryd.func38, Tryd.ntmps38
      go_wp2
      go_ret
      exact ⟨rfl, hb⟩
  · have e1 : ((R : Int) == (S : Int)) = false := by simp; omega
    rw [decide_eq_false (fun h => h1 h.1)]
    clear h1
    go_enter Tryd.func38, Tryd.ntmps38
    go_wp2
    go_ret
    exact ⟨rfl, hb⟩
end Go.Proofs.YtjlcnbfkblmoeaaDoor
