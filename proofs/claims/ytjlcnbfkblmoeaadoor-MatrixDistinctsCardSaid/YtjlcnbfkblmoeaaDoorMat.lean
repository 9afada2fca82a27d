import Derived.Test.YtjlcnbfkblmoeaaDoorList
namespace Go.Proofs.YtjlcnbfkblmoeaaDoor
open Go.RowKit

/-- The values vs are sets, with the members Ns. -/
def Sets (w : World) (vs : List Value) (Ns : List Nat) : Prop := vs.length = Ns.length ∧ ∀ (k : Nat) v N, vs[k]? = some v → Ns[k]? = some N → IsSet w v N
theorem Sets.keep {w w' : World} {vs : List Value} {Ns : List Nat} (h : Sets w vs Ns) (hk : KeepW w w') : Sets w' vs Ns := ⟨h.1, fun k v N hv hN => (h.2 k v N hv hN).keep hk⟩
theorem Sets.below {w w' : World} {vs : List Value} {Ns : List Nat} (h : Sets w vs Ns) (hb : Below w.heap.size w w') : Sets w' vs Ns := h.keep (.of_below hb)
theorem Sets.nil (w : World) : Sets w [] [] := ⟨rfl, fun k v N h => by simp at h⟩
theorem Sets.snoc {w : World} {vs : List Value} {Ns : List Nat} {v : Value} {N : Nat} (h : Sets w vs Ns) (hs : IsSet w v N) : Sets w (vs ++ [v]) (Ns ++ [N]) := by
  refine ⟨by simp [h.1], fun k u M hu hM => ?_⟩
  by_cases hk : k < vs.length
  · rw [List.getElem?_append_left hk] at hu
    rw [List.getElem?_append_left (by rw [← h.1]; exact hk)] at hM
    exact h.2 k u M hu hM
  · rw [List.getElem?_append_right (by omega)] at hu
    rw [List.getElem?_append_right (by rw [← h.1]; omega), ← h.1] at hM
    have hk2 : k - vs.length = 0 := by
      rcases Nat.eq_zero_or_pos (k - vs.length) with h0 | h0
      · exact h0
      · rw [List.getElem?_eq_none (by simp; omega)] at hu; cases hu
    rw [hk2] at hu hM
    simp at hu hM
    subst hu; subst hM; exact hs
theorem Sets.at_ {w : World} {vs : List Value} {Ns : List Nat} (h : Sets w vs Ns) {k : Nat} (hk : k < Ns.length) : ∃ A c, vs[k]? = some (.slice A (nw Ns[k]) c) ∧ IsSet w (.slice A (nw Ns[k]) c) Ns[k] := by
  have hk' : k < vs.length := by rw [h.1]; exact hk
  have hs := h.2 k vs[k] Ns[k] (List.getElem?_eq_getElem hk') (List.getElem?_eq_getElem hk)
  obtain ⟨A, c, e, _⟩ := id hs
  exact ⟨A, c, by rw [← e]; exact List.getElem?_eq_getElem hk', by rw [← e]; exact hs⟩

/-- The matrix at block p: C columns, the rows as sets. -/
def IsMat (w : World) (p C : Nat) (Ns : List Nat) : Prop :=
  C ≤ 4096 ∧ Ns.length ≤ 4096 ∧ ∃ (A : Option Addr) (c : Nat) (vs : List Value), Blk w p 86 #[.int .i64 (C : Int), .slice A Ns.length c] ∧ Ns.length ≤ c ∧ Row w A vs ∧ Sets w vs Ns
theorem IsMat.below {w w' : World} {p C : Nat} {Ns : List Nat} (h : IsMat w p C Ns) (hb : Below w.heap.size w w') : IsMat w' p C Ns := by
  obtain ⟨h1, h2, A, c, vs, hB, hc, hr, hs⟩ := h
  exact ⟨h1, h2, A, c, vs, hB.below hb hB.lt, hc, hr.below hb, hs.below hb⟩
theorem IsMat.lt {w : World} {p C : Nat} {Ns : List Nat} (h : IsMat w p C Ns) : p < w.heap.size := by
  obtain ⟨_, _, _, _, _, hB, _⟩ := h; exact hB.lt
abbrev ptr (p : Nat) : Value := .pointer (some ⟨p, 0, none⟩)

set_option maxRecDepth 100000 in
set_option maxHeartbeats 400000 in
theorem rows_any (p C : Nat) (Ns : List Nat) (w : World) (h : IsMat w p C Ns) :
    Calls Tryd.prog 28 #[ptr p] w fun e w' => e = .returned (.int .i64 Ns.length) ∧ w = w' := by
  obtain ⟨h1, h2, A, c, vs, hB, hc, _⟩ := h
  have c1 := hB.cell 1
  clear hB
  go_enter Tryd.func28, Tryd.ntmps28
  go_wp2
  go_ret
  exact ⟨rfl, rfl⟩
set_option maxRecDepth 100000 in
theorem rows_nil (w : World) : Calls Tryd.prog 28 #[.pointer none] w fun e w' => e = .returned (.int .i64 0) ∧ w = w' := by
  go_enter Tryd.func28, Tryd.ntmps28
  go_wp2
  go_ret
  exact ⟨rfl, rfl⟩
set_option maxRecDepth 100000 in
set_option maxHeartbeats 400000 in
theorem cols_any (p C : Nat) (Ns : List Nat) (w : World) (h : IsMat w p C Ns) :
    Calls Tryd.prog 29 #[ptr p] w fun e w' => e = .returned (.int .i64 C) ∧ w = w' := by
  obtain ⟨h1, h2, A, c, vs, hB, hc, _⟩ := h
  have c1 := hB.cell 0
  clear hB
  go_enter Tryd.func29, Tryd.ntmps29
  go_wp2
  go_ret
  exact ⟨rfl, rfl⟩
set_option maxRecDepth 100000 in
theorem cols_nil (w : World) : Calls Tryd.prog 29 #[.pointer none] w fun e w' => e = .returned (.int .i64 0) ∧ w = w' := by
  go_enter Tryd.func29, Tryd.ntmps29
  go_wp2
  go_ret
  exact ⟨rfl, rfl⟩

/-- Is there such an element? -/
def insideB (R C : Nat) (i j : Int) : Bool := decide (0 ≤ i ∧ i < R ∧ 0 ≤ j ∧ j < C)
set_option maxRecDepth 100000 in
set_option maxHeartbeats 400000 in
theorem inside_core (m : Value) (R C : Nat) (i j : Int) (w : World) (hr : Calls Tryd.prog 28 #[m] w fun e w' => e = .returned (.int .i64 R) ∧ w = w') (hc : Calls Tryd.prog 29 #[m] w fun e w' => e = .returned (.int .i64 C) ∧ w = w') :
    Calls Tryd.prog 67 #[m, .int .i64 i, .int .i64 j] w fun e w' => e = .returned (.bool (insideB R C i j)) ∧ w = w' := by
  have HR := hideC hr; have HC := hideC hc
  clear hr hc
  by_cases h1 : 0 ≤ i
  · by_cases h2 : i < R
    · by_cases h3 : 0 ≤ j
      · by_cases h4 : j < C
        · go_enter Tryd.func67, Tryd.ntmps67
          go_wp2_with (first | (go_at_call 28; refine HR.out.mono ?_; rintro e w' ⟨rfl, rfl⟩) | (go_at_call 29; refine HC.out.mono ?_; rintro e w' ⟨rfl, rfl⟩))
          go_ret
          exact ⟨ret_bool (by simp [insideB, h1, h2, h3, h4]), rfl⟩
        · go_enter Tryd.func67, Tryd.ntmps67
          go_wp2_with (first | (go_at_call 28; refine HR.out.mono ?_; rintro e w' ⟨rfl, rfl⟩) | (go_at_call 29; refine HC.out.mono ?_; rintro e w' ⟨rfl, rfl⟩))
          go_ret
          exact ⟨ret_bool (by simp [insideB, h1, h2, h3, h4]), rfl⟩
      · go_enter Tryd.func67, Tryd.ntmps67
        go_wp2_with (first | (go_at_call 28; refine HR.out.mono ?_; rintro e w' ⟨rfl, rfl⟩))
        go_ret
        exact ⟨ret_bool (by rw [eq_comm]; unfold insideB; rw [decide_eq_false_iff_not]; omega), rfl⟩
    · go_enter Tryd.func67, Tryd.ntmps67
      go_wp2_with (first | (go_at_call 28; refine HR.out.mono ?_; rintro e w' ⟨rfl, rfl⟩))
      go_ret
      exact ⟨ret_bool (by rw [eq_comm]; unfold insideB; rw [decide_eq_false_iff_not]; omega), rfl⟩
  · go_enter Tryd.func67, Tryd.ntmps67
    go_wp2
    go_ret
    exact ⟨ret_bool (by rw [eq_comm]; unfold insideB; rw [decide_eq_false_iff_not]; omega), rfl⟩
theorem inside_any (p C : Nat) (Ns : List Nat) (i j : Int) (w : World) (h : IsMat w p C Ns) :
    Calls Tryd.prog 67 #[ptr p, .int .i64 i, .int .i64 j] w fun e w' => e = .returned (.bool (insideB Ns.length C i j)) ∧ w = w' :=
  inside_core _ _ _ i j w (rows_any p C Ns w h) (cols_any p C Ns w h)
theorem inside_nil (i j : Int) (w : World) :
    Calls Tryd.prog 67 #[.pointer none, .int .i64 i, .int .i64 j] w fun e w' => e = .returned (.bool false) ∧ w = w' := by
  have h := inside_core _ 0 0 i j w (rows_nil w) (cols_nil w)
  have e : insideB 0 0 i j = false := by unfold insideB; rw [decide_eq_false_iff_not]; omega
  rwa [e] at h

/-- What matrix.Has answers. -/
def mhas (C : Nat) (Ns : List Nat) (i j : Int) : Bool := insideB Ns.length C i j && (Ns.getD i.toNat 0).testBit j.toNat
set_option maxRecDepth 100000 in
set_option maxHeartbeats 400000 in
theorem hasm_any (p C : Nat) (Ns : List Nat) (i j : Int) (w : World) (h : IsMat w p C Ns) :
    Calls Tryd.prog 46 #[ptr p, .int .i64 i, .int .i64 j] w fun e w' => e = .returned (.bool (mhas C Ns i j)) ∧ Below w.heap.size w w' := by
  obtain ⟨h1, h2, A, c, vs, hB, hc, hr, hs⟩ := id h
  have hin := hideC (inside_any p C Ns i j w h)
  unfold mhas
  by_cases hi : insideB Ns.length C i j = true
  · rw [hi] at hin
    rw [hi, Bool.true_and]
    have hi' := hi
    simp only [insideB, decide_eq_true_eq] at hi'
    obtain ⟨a1, a2, a3, a4⟩ := hi'
    obtain ⟨I, rfl⟩ := Int.eq_ofNat_of_zero_le a1
    obtain ⟨J, rfl⟩ := Int.eq_ofNat_of_zero_le a3
    have aI : I < Ns.length := by omega
    obtain ⟨A1, c1, hv, hset⟩ := hs.at_ aI
    obtain ⟨g, off, rfl, hg, hcell⟩ := hr (by rw [hs.1]; omega)
    have cv := hcell I _ hv
    have c1' := hB.cell 1
    rw [Int.toNat_natCast, Int.toNat_natCast, List.getD_eq_getElem?_getD, List.getElem?_eq_getElem aI, Option.getD_some]
    clear hB hcell hr hs hv h hi
    go_enter Tryd.func46, Tryd.ntmps46
    go_wp2_with (first | (go_at_call 67; refine hin.out.mono ?_; rintro e w' ⟨rfl, rfl⟩) | (go_at_call 78; refine (has_in _ _ J _ hset (by omega)).mono ?_; rintro e w' ⟨rfl, hb1⟩))
    go_ret
    exact ⟨rfl, hb1⟩
  · have hi' : insideB Ns.length C i j = false := by simpa using hi
    rw [hi'] at hin
    rw [hi', Bool.false_and]
    clear hi hB hr hs h
    go_enter Tryd.func46, Tryd.ntmps46
    go_wp2_with (go_at_call 67; refine hin.out.mono ?_; rintro e w' ⟨rfl, rfl⟩)
    go_ret
    exact ⟨rfl, Below.refl _ _⟩
set_option maxRecDepth 100000 in
set_option maxHeartbeats 400000 in
theorem hasm_nil (i j : Int) (w : World) :
    Calls Tryd.prog 46 #[.pointer none, .int .i64 i, .int .i64 j] w fun e w' => e = .returned (.bool false) ∧ w = w' := by
  have hin := hideC (inside_nil i j w)
  go_enter Tryd.func46, Tryd.ntmps46
  go_wp2_with (go_at_call 67; refine hin.out.mono ?_; rintro e w' ⟨rfl, rfl⟩)
  go_ret
  exact ⟨rfl, rfl⟩
end Go.Proofs.YtjlcnbfkblmoeaaDoor
