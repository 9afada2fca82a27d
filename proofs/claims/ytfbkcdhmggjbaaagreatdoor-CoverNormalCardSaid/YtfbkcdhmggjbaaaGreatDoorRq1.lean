/-
  Proofs of the reference's as the program has them: clones of rows, arbaclaw47.Proof.
-/
import Derived.Test.YtfbkcdhmggjbaaaGreatDoorRr8
import Derived.Test.YtfbkcdhmggjbaaaGreatDoorRnB
namespace Go.Proofs.YtfbkcdhmggjbaaaGreatDoor
open Go.RowKit

theorem info_knode : (Tryz.prog.info? 141).map (fun i => (i.zero, i.size, i.bytes)) = some (some (.agg #[.int .u8 0, .int .i64 0, .int .i64 0, .slice none 0 0, .slice none 0 0]), 5, 72) := by kernel_rfl
theorem run_eql_nil_nil {P : Program} {t e : TypeId} (h : P.underlying t = some (.slice e)) (w : World) : (binOp .eql t (.slice none 0 0) (.slice none 0 0)).run P w = .ok (.bool true) w := by
  simp only [binOp]
  simp [run_equal_slice_nil w t e none 0 0 h]
/-- A row, or nil. -/
def RowN (w : World) (A : Option Addr) (n c : Nat) (xs : List Value) : Prop := Row w A xs ∧ n ≤ c ∧ (A = none → n = 0 ∧ c = 0)
theorem RowN.below {w w' : World} {A : Option Addr} {n c : Nat} {xs : List Value} (h : RowN w A n c xs) (hb : Below w.heap.size w w') : RowN w' A n c xs := ⟨h.1.below hb, h.2⟩
theorem RowN.of_own {w : World} {base n size : Nat} {e : TypeId} {v : Value} {xs : List Value} (h : w.ownsRow base e size v n xs) : ∃ A c, v = .slice A n c ∧ RowN w A n c xs := by
  rcases id h.2 with ⟨hv, hn⟩ | ⟨g, cap, cur, hv, _, hb, hnc, _, _, ht⟩
  · have hx : xs = [] := by have := h.1; rw [hn] at this; exact List.eq_nil_of_length_eq_zero (by omega)
    subst hx
    exact ⟨none, 0, by rw [hv, hn], Row.empty _ _, by omega, fun _ => ⟨hn, rfl⟩⟩
  · refine ⟨_, cap, hv, Row.of_blk hb fun k u hu => ?_, hnc, fun e => by cases e⟩
    rw [← ht, List.getElem?_take] at hu
    split at hu
    · simpa using hu
    · cases hu
set_option maxRecDepth 100000 in
set_option maxHeartbeats 2000000 in
theorem cloneP_any (A : Option Addr) (n c : Nat) (xs : List Value) (w : World) (h : RowN w A n c xs) (hx : xs.length = n * 2) (h1 : ∀ u ∈ xs, u.oneCell' = true) (hn : n ≤ 1000000) :
    Calls Tryz.prog 85 #[.slice A n c] w fun e w' => ∃ v, e = .returned v ∧ w'.ownsRow w.heap.size 146 2 v n xs ∧ Below w.heap.size w w' := by
  obtain ⟨i0, hi0, hz0, hz1, hz2⟩ := info_parts info_pair
  obtain ⟨hr, hnc, hA⟩ := h
  cases A with
  | none =>
    obtain ⟨rfl, rfl⟩ := hA rfl
    obtain rfl : xs = [] := List.eq_nil_of_length_eq_zero (by omega)
    have hnil := fun W => run_eql_nil_nil (P := Tryz.prog) Tryz.underlying65 W
    clear hr hA h1 hx
    go_enter Tryz.func85, Tryz.ntmps85
    go_wp2_with fail
    go_ret
    exact ⟨_, rfl, World.ownsRow_nil _ _ _ _, Below.refl _ _⟩
  | some ad =>
    have hadd : ∀ (j : Nat) u, xs[j]? = some u → (w.alloc (.cells #[] 146)).cell? (ad.add j) = some u := fun j u hu => by
      obtain ⟨g, off, e, hg, hc⟩ := hr (by have := (List.getElem?_eq_some_iff.1 hu).1; omega)
      cases e
      rw [addr_add]
      exact (World.cell?_alloc_lt _ _ _ hg).trans (hc j u hu)
    have HADD := Lib.hid hadd; have HONE := Lib.hid h1; have HLEN := Lib.hid hx
    clear hadd hr hA h1 hx
    have own0 := World.ownsRow_lit (base := w.heap.size) (e := 146) (size := 2) w #[] 0 (Nat.le_refl _) (by decide) rfl
    have hb0 := (Below.refl w.heap.size w).alloc (Nat.le_refl _) (.cells #[] 146)
    have hnil := fun W => run_eql_some_nil (P := Tryz.prog) Tryz.underlying65 ad n c W
    go_enter Tryz.func85, Tryz.ntmps85
    go_wp2_with (at_builtin; refine wpList_append_own _ rfl _ _ 65 rfl w.heap.size 146 i0 (.agg #[.int .i64 0, .int .i64 0]) 2 16 Tryz.underlying65 hi0 hz0 hz1 hz2 rfl (by decide) _ _ _ rfl own0 ad n c xs rfl HLEN.out HADD.out HONE.out (by unfold maxLen; omega) (by omega) (by simp) ?_; intro v3 w3 hown' hgrow _)
    have hbe3 := hb0.grown hgrow (by simp) (fun q hq => (own0.lt q hq).1)
    go_ret
    exact ⟨v3, rfl, by simpa using hown', hbe3⟩
/-- The cells of a node of the reference's, for reading. -/
def RNd (w : World) (vs : List Value) (x : Nd) : Prop := ∃ A1 c1 A2 c2, vs = [.int .i64 x.kind, .int .i64 x.row, .int .i64 x.col, .slice A1 x.ch.length c1, .slice A2 x.cells.length c2] ∧ RowN w A1 x.ch.length c1 (x.ch.map (.int .i64)) ∧ RowN w A2 x.cells.length c2 (cellsP x.cells)
def IsNR (w : World) (A : Option Addr) (P : List Nd) : Prop := ∃ vss : List (List Value), vss.length = P.length ∧ (∀ (k : Nat) x, P[k]? = some x → ∃ vs, vss[k]? = some vs ∧ RNd w vs x) ∧ Row w A vss.flatten
theorem IsNR.below {w w' : World} {A : Option Addr} {P : List Nd} (h : IsNR w A P) (hb : Below w.heap.size w w') : IsNR w' A P := by
  obtain ⟨vss, h1, h2, h3⟩ := h
  refine ⟨vss, h1, fun k x hx => ?_, h3.below hb⟩
  obtain ⟨vs, e, A1, c1, A2, c2, rfl, q1, q2⟩ := h2 k x hx
  exact ⟨_, e, A1, c1, A2, c2, rfl, q1.below hb, q2.below hb⟩
/-- The cells of a node of the program's, whose rows are the call's own. -/
def KNodeAt (w : World) (base : Nat) (vs : List Value) (x : Nd) : Prop := ∃ v3 v4, vs = [.int .u8 x.kind, .int .i64 x.row, .int .i64 x.col, v3, v4] ∧ w.ownsRow base 3 1 v3 x.ch.length (x.ch.map (.int .i64)) ∧ w.ownsRow base 146 2 v4 x.cells.length (cellsP x.cells)
structure KN (w : World) (base : Nat) (v : Value) (P : List Nd) (vss : List (List Value)) : Prop where
  len : vss.length = P.length
  nodes : ∀ (k : Nat) x, P[k]? = some x → ∃ vs, vss[k]? = some vs ∧ KNodeAt w base vs x
  own : w.ownsRow base 141 5 v P.length vss.flatten
section
variable {w w' : World} {base : Nat} {v : Value} {P : List Nd} {vss : List (List Value)} {vs : List Value} {x : Nd}
theorem KNodeAt.below (h : KNodeAt w base vs x) (hb : Below w.heap.size w w') : KNodeAt w' base vs x := by
  obtain ⟨v3, v4, h1, h2, h3⟩ := h; exact ⟨v3, v4, h1, own_below h2 hb, own_below h3 hb⟩
theorem KN.below (h : KN w base v P vss) (hb : Below w.heap.size w w') : KN w' base v P vss :=
  ⟨h.len, fun k x hx => by obtain ⟨vs, h1, h2⟩ := h.nodes k x hx; exact ⟨vs, h1, h2.below hb⟩, own_below h.own hb⟩
theorem KNodeAt.far {p : Addr} {t : TypeId} {cs : Array Value} (h : KNodeAt w base vs x) (hB : Blk w p.block t cs) (h2 : t ≠ 3) (h3 : t ≠ 146) (u : Value) : KNodeAt (w.setCell p u) base vs x := by
  obtain ⟨v3, v4, e, q3, q4⟩ := h
  exact ⟨v3, v4, e, ownsRow_setCell_other q3 (fun e => own_ne q3 hB h2 e.symm) u, ownsRow_setCell_other q4 (fun e => own_ne q4 hB h3 e.symm) u⟩
theorem KN.far {p : Addr} {t : TypeId} {cs : Array Value} (h : KN w base v P vss) (hB : Blk w p.block t cs) (h1 : t ≠ 141) (h2 : t ≠ 3) (h3 : t ≠ 146) (u : Value) : KN (w.setCell p u) base v P vss :=
  ⟨h.len, fun k x hx => by obtain ⟨vs, e, q⟩ := h.nodes k x hx; exact ⟨vs, e, q.far hB h2 h3 u⟩, ownsRow_setCell_other h.own (fun e => own_ne h.own hB h1 e.symm) u⟩
theorem KN.app {v' : Value} {cells : List Value} (h : KN w base v P vss) (hx : KNodeAt w base cells x) (hgrow : w.grownBy w' v.ownBlock) (hown' : w'.ownsRow base 141 5 v' (P.length + 1) (vss.flatten ++ cells)) : KN w' base v' (P ++ [x]) (vss ++ [cells]) := by
  have key : ∀ {ws : List Value} {y : Nd}, KNodeAt w base ws y → KNodeAt w' base ws y := by
    rintro ws y ⟨v3, v4, h1, h2, h3⟩
    refine ⟨v3, v4, h1, own_but h2 (But.grown hgrow) fun g hg => ?_, own_but h3 (But.grown hgrow) fun g hg => ?_⟩
    · obtain ⟨cs, hB⟩ := own_kind h2 g hg
      exact own_ne h.own hB (by decide)
    · obtain ⟨cs, hB⟩ := own_kind h3 g hg
      exact own_ne h.own hB (by decide)
  refine ⟨by simp [h.len], fun k y hy => ?_, by simpa using hown'⟩
  by_cases hk : k < P.length
  · rw [List.getElem?_append_left hk] at hy
    obtain ⟨vs, h1, h2⟩ := h.nodes k y hy
    exact ⟨vs, by rw [List.getElem?_append_left (by rw [h.len]; exact hk)]; exact h1, key h2⟩
  · obtain rfl : k = P.length := by have := (List.getElem?_eq_some_iff.1 hy).1; simp at this; omega
    rw [List.getElem?_append_right (Nat.le_refl _), Nat.sub_self] at hy
    obtain rfl : x = y := by simpa using hy
    exact ⟨cells, by rw [← h.len, List.getElem?_append_right (Nat.le_refl _), Nat.sub_self]; rfl, key hx⟩
end
namespace Mix2
end Mix2
end Go.Proofs.YtfbkcdhmggjbaaaGreatDoor
