/-
  Proofs of the reference's as the program has them: clones of rows, arbaclaw47.Proof.
-/
import Derived.Test.YthnphekhgaefdaaDoorRr8
import Derived.Test.YthnphekhgaefdaaDoorRnB
namespace Go.Proofs.YthnphekhgaefdaaDoor
open Go.RowKit

theorem info_knode : (Tryd.prog.info? 74).map (fun i => (i.zero, i.size, i.bytes)) = some (some (.agg #[.int .u8 0, .int .i64 0, .int .i64 0, .slice none 0 0, .slice none 0 0]), 5, 72) := by kernel_rfl
theorem run_eql_nil_nil {P : Program} {t e : TypeId} (h : P.underlying t = some (.slice e)) (w : World) : (binOp .eql t (.slice none 0 0) (.slice none 0 0)).run P w = .ok (.bool true) w := by
  simp only [binOp]
  simp [run_equal_slice_nil w t e none 0 0 h]
/-- A row, or nil. -/
def RowN (w : World) (A : Option Addr) (n c : Nat) (xs : List Value) : Prop := Row w A xs ∧ n ≤ c ∧ (A = none → n = 0 ∧ c = 0)
theorem RowN.below {w w' : World} {A : Option Addr} {n c : Nat} {xs : List Value} (h : RowN w A n c xs) (hb : Below w.heap.size w w') : RowN w' A n c xs := ⟨h.1.below hb, h.2⟩
theorem RowN.of_own {w : World} {base n size : Nat} {e : TypeId} {v : Value} {xs : List Value} (h : w.ownsRow base e size v n xs) : ∃ A c, v = .slice A n c ∧ RowN w A n c xs := by
  rcases id h.2 with ⟨hv, hn⟩ | ⟨g, cap, cur, hv, _, hb, hnc, _, _, ht⟩
  · have hx : xs = [] := by have := h.1; rw [hn] at this; exact List.eq_nil_of_length_eq_zero (by omega)
    subst hx
    exact ⟨none, 0, by rw [hv, hn], Row.empty _ _, by omega, fun _ => ⟨hn, rfl⟩⟩
  · refine ⟨_, cap, hv, Row.of_blk hb fun k u hu => ?_, hnc, fun e => by cases e⟩
    rw [← ht, List.getElem?_take] at hu
    split at hu
    · simpa using hu
    · cases hu
set_option maxRecDepth 100000 in
set_option maxHeartbeats 2000000 in
theorem cloneI_any (A : Option Addr) (n c : Nat) (xs : List Value) (w : World) (h : RowN w A n c xs) (hx : xs.length = n * 1) (h1 : ∀ u ∈ xs, u.oneCell' = true) (hn : n ≤ 1000000) :
    Calls Tryd.prog 30 #[.slice A n c] w fun e w' => ∃ v, e = .returned v ∧ w'.ownsRow w.heap.size 3 1 v n xs ∧ Below w.heap.size w w' := by
  obtain ⟨i0, hi0, hz0, hz1, hz2⟩ := info_parts info_int
  obtain ⟨hr, hnc, hA⟩ := h
  cases A with
  | none =>
    obtain ⟨rfl, rfl⟩ := hA rfl
    obtain rfl : xs = [] := List.eq_nil_of_length_eq_zero (by omega)
    have hnil := fun W => run_eql_nil_nil (P := Tryd.prog) Tryd.underlying36 W
    clear hr hA h1 hx
    go_enter Tryd.func30, Tryd.ntmps30
    go_wp2_with fail
    go_ret
    exact ⟨_, rfl, World.ownsRow_nil _ _ _ _, Below.refl _ _⟩
  | some ad =>
    have hadd : ∀ (j : Nat) u, xs[j]? = some u → (w.alloc (.cells #[] 3)).cell? (ad.add j) = some u := fun j u hu => by
      obtain ⟨g, off, e, hg, hc⟩ := hr (by have := (List.getElem?_eq_some_iff.1 hu).1; omega)
      cases e
      rw [addr_add]
      exact (World.cell?_alloc_lt _ _ _ hg).trans (hc j u hu)
    have HADD := Lib.hid hadd; have HONE := Lib.hid h1; have HLEN := Lib.hid hx
    clear hadd hr hA h1 hx
    have own0 := World.ownsRow_lit (base := w.heap.size) (e := 3) (size := 1) w #[] 0 (Nat.le_refl _) (by decide) rfl
    have hb0 := (Below.refl w.heap.size w).alloc (Nat.le_refl _) (.cells #[] 3)
    have hnil := fun W => run_eql_some_nil (P := Tryd.prog) Tryd.underlying36 ad n c W
    go_enter Tryd.func30, Tryd.ntmps30
    go_wp2_with (at_builtin; refine wpList_append_own _ rfl _ _ 36 rfl w.heap.size 3 i0 (.int .i64 0) 1 8 Tryd.underlying36 hi0 hz0 hz1 hz2 rfl (by decide) _ _ _ rfl own0 ad n c xs rfl HLEN.out HADD.out HONE.out (by unfold maxLen; omega) (by omega) (by simp) ?_; intro v3 w3 hown' hgrow _)
    have hbe3 := hb0.grown hgrow (by simp) (fun q hq => (own0.lt q hq).1)
    go_ret
    exact ⟨v3, rfl, by simpa using hown', hbe3⟩
set_option maxRecDepth 100000 in
set_option maxHeartbeats 2000000 in
theorem cloneP_any (A : Option Addr) (n c : Nat) (xs : List Value) (w : World) (h : RowN w A n c xs) (hx : xs.length = n * 2) (h1 : ∀ u ∈ xs, u.oneCell' = true) (hn : n ≤ 1000000) :
    Calls Tryd.prog 31 #[.slice A n c] w fun e w' => ∃ v, e = .returned v ∧ w'.ownsRow w.heap.size 40 2 v n xs ∧ Below w.heap.size w w' := by
  obtain ⟨i0, hi0, hz0, hz1, hz2⟩ := info_parts info_pair
  obtain ⟨hr, hnc, hA⟩ := h
  cases A with
  | none =>
    obtain ⟨rfl, rfl⟩ := hA rfl
    obtain rfl : xs = [] := List.eq_nil_of_length_eq_zero (by omega)
    have hnil := fun W => run_eql_nil_nil (P := Tryd.prog) Tryd.underlying37 W
    clear hr hA h1 hx
    go_enter Tryd.func31, Tryd.ntmps31
    go_wp2_with fail
    go_ret
    exact ⟨_, rfl, World.ownsRow_nil _ _ _ _, Below.refl _ _⟩
  | some ad =>
    have hadd : ∀ (j : Nat) u, xs[j]? = some u → (w.alloc (.cells #[] 40)).cell? (ad.add j) = some u := fun j u hu => by
      obtain ⟨g, off, e, hg, hc⟩ := hr (by have := (List.getElem?_eq_some_iff.1 hu).1; omega)
      cases e
      rw [addr_add]
      exact (World.cell?_alloc_lt _ _ _ hg).trans (hc j u hu)
    have HADD := Lib.hid hadd; have HONE := Lib.hid h1; have HLEN := Lib.hid hx
    clear hadd hr hA h1 hx
    have own0 := World.ownsRow_lit (base := w.heap.size) (e := 40) (size := 2) w #[] 0 (Nat.le_refl _) (by decide) rfl
    have hb0 := (Below.refl w.heap.size w).alloc (Nat.le_refl _) (.cells #[] 40)
    have hnil := fun W => run_eql_some_nil (P := Tryd.prog) Tryd.underlying37 ad n c W
    go_enter Tryd.func31, Tryd.ntmps31
    go_wp2_with (at_builtin; refine wpList_append_own _ rfl _ _ 37 rfl w.heap.size 40 i0 (.agg #[.int .i64 0, .int .i64 0]) 2 16 Tryd.underlying37 hi0 hz0 hz1 hz2 rfl (by decide) _ _ _ rfl own0 ad n c xs rfl HLEN.out HADD.out HONE.out (by unfold maxLen; omega) (by omega) (by simp) ?_; intro v3 w3 hown' hgrow _)
    have hbe3 := hb0.grown hgrow (by simp) (fun q hq => (own0.lt q hq).1)
    go_ret
    exact ⟨v3, rfl, by simpa using hown', hbe3⟩
/-- The cells of a node of the reference's, for reading. -/
def RNd (w : World) (vs : List Value) (x : Nd) : Prop := ∃ A1 c1 A2 c2, vs = [.int .i64 x.kind, .int .i64 x.row, .int .i64 x.col, .slice A1 x.ch.length c1, .slice A2 x.cells.length c2] ∧ RowN w A1 x.ch.length c1 (x.ch.map (.int .i64)) ∧ RowN w A2 x.cells.length c2 (cellsP x.cells)
def NdOK (x : Nd) : Prop := x.ch.length ≤ 1000000 ∧ x.cells.length ≤ 1000000 ∧ 0 ≤ x.kind ∧ x.kind ≤ 255
def IsNR (w : World) (A : Option Addr) (P : List Nd) : Prop := ∃ vss : List (List Value), vss.length = P.length ∧ (∀ (k : Nat) x, P[k]? = some x → ∃ vs, vss[k]? = some vs ∧ RNd w vs x) ∧ Row w A vss.flatten
theorem IsNR.below {w w' : World} {A : Option Addr} {P : List Nd} (h : IsNR w A P) (hb : Below w.heap.size w w') : IsNR w' A P := by
  obtain ⟨vss, h1, h2, h3⟩ := h
  refine ⟨vss, h1, fun k x hx => ?_, h3.below hb⟩
  obtain ⟨vs, e, A1, c1, A2, c2, rfl, q1, q2⟩ := h2 k x hx
  exact ⟨_, e, A1, c1, A2, c2, rfl, q1.below hb, q2.below hb⟩
theorem nr_at {w : World} {A : Option Addr} {P : List Nd} (h : IsNR w A P) {k : Nat} {x : Nd} (hk : P[k]? = some x) :
    ∃ (g off : Nat) (A1 : Option Addr) (c1 : Nat) (A2 : Option Addr) (c2 : Nat), A = some ⟨g, off, none⟩ ∧ g < w.heap.size ∧ w.cell? ⟨g, off + k * 5, none⟩ = some (.int .i64 x.kind) ∧ w.cell? ⟨g, off + k * 5 + 1, none⟩ = some (.int .i64 x.row) ∧ w.cell? ⟨g, off + k * 5 + 2, none⟩ = some (.int .i64 x.col) ∧
      w.cell? ⟨g, off + k * 5 + 3, none⟩ = some (.slice A1 x.ch.length c1) ∧ w.cell? ⟨g, off + k * 5 + 4, none⟩ = some (.slice A2 x.cells.length c2) ∧
      RowN w A1 x.ch.length c1 (x.ch.map (.int .i64)) ∧ RowN w A2 x.cells.length c2 (cellsP x.cells) := by
  obtain ⟨vss, h1, h2, h3⟩ := h
  obtain ⟨vs, hv, A1, c1, A2, c2, rfl, r1, r2⟩ := h2 k x hk
  have h5 : ∀ vs ∈ vss, vs.length = 5 := fun vs hvs => by
    obtain ⟨i, hi, e⟩ := List.getElem_of_mem hvs
    obtain ⟨vs', e', _, _, _, _, hn, _⟩ := h2 i _ (List.getElem?_eq_getElem (by omega))
    rw [List.getElem?_eq_getElem hi, Option.some.injEq] at e'
    rw [← e, e', hn]; rfl
  have hne : 0 < vss.flatten.length := by
    have hz : vss.flatten[k * 5 + 0]? = some (.int .i64 x.kind) := flatten5 vss h5 k 0 _ hv (by omega)
    have := (List.getElem?_eq_some_iff.1 hz).1
    omega
  obtain ⟨g, off, rfl, hg, hc⟩ := h3 hne
  have hcell : ∀ r u, r < 5 → ([.int .i64 x.kind, .int .i64 x.row, .int .i64 x.col, .slice A1 x.ch.length c1, .slice A2 x.cells.length c2] : List Value)[r]? = some u → w.cell? ⟨g, off + (k * 5 + r), none⟩ = some u := fun r u hr hu =>
    hc _ _ ((flatten5 vss h5 k r _ hv hr).trans hu)
  exact ⟨g, off, A1, c1, A2, c2, rfl, hg, hcell 0 _ (by omega) rfl, hcell 1 _ (by omega) rfl, hcell 2 _ (by omega) rfl, hcell 3 _ (by omega) rfl, hcell 4 _ (by omega) rfl, r1, r2⟩
theorem OwnN.nr {w : World} {base : Nat} {v : Value} {P : List Nd} (h : OwnN w base v P) : ∃ A c, v = .slice A P.length c ∧ P.length ≤ c ∧ (A = none → P = [] ∧ c = 0) ∧ IsNR w A P := by
  obtain ⟨vss, h1, h2, _, h4⟩ := h
  obtain ⟨A, c, rfl, hr, hc, hn⟩ := RowN.of_own h4
  refine ⟨A, c, rfl, hc, fun e => ⟨List.eq_nil_of_length_eq_zero (hn e).1, (hn e).2⟩, vss, h1, fun k x hx => ?_, hr⟩
  obtain ⟨vs, e, v3, v4, rfl, q3, q4⟩ := h2 k x hx
  obtain ⟨A1, c1, rfl, r1⟩ := RowN.of_own q3
  obtain ⟨A2, c2, rfl, r2⟩ := RowN.of_own q4
  exact ⟨_, e, A1, c1, A2, c2, rfl, r1, r2⟩
/-- The cells of a node of the program's, whose rows are the call's own. -/
def KNodeAt (w : World) (base : Nat) (vs : List Value) (x : Nd) : Prop := ∃ v3 v4, vs = [.int .u8 x.kind, .int .i64 x.row, .int .i64 x.col, v3, v4] ∧ w.ownsRow base 3 1 v3 x.ch.length (x.ch.map (.int .i64)) ∧ w.ownsRow base 40 2 v4 x.cells.length (cellsP x.cells)
structure KN (w : World) (base : Nat) (v : Value) (P : List Nd) (vss : List (List Value)) : Prop where
  len : vss.length = P.length
  nodes : ∀ (k : Nat) x, P[k]? = some x → ∃ vs, vss[k]? = some vs ∧ KNodeAt w base vs x
  own : w.ownsRow base 74 5 v P.length vss.flatten
section
variable {w w' : World} {base : Nat} {v : Value} {P : List Nd} {vss : List (List Value)} {vs : List Value} {x : Nd}
theorem KNodeAt.below (h : KNodeAt w base vs x) (hb : Below w.heap.size w w') : KNodeAt w' base vs x := by
  obtain ⟨v3, v4, h1, h2, h3⟩ := h; exact ⟨v3, v4, h1, own_below h2 hb, own_below h3 hb⟩
theorem KN.below (h : KN w base v P vss) (hb : Below w.heap.size w w') : KN w' base v P vss :=
  ⟨h.len, fun k x hx => by obtain ⟨vs, h1, h2⟩ := h.nodes k x hx; exact ⟨vs, h1, h2.below hb⟩, own_below h.own hb⟩
theorem KNodeAt.far {p : Addr} {t : TypeId} {cs : Array Value} (h : KNodeAt w base vs x) (hB : Blk w p.block t cs) (h2 : t ≠ 3) (h3 : t ≠ 40) (u : Value) : KNodeAt (w.setCell p u) base vs x := by
  obtain ⟨v3, v4, e, q3, q4⟩ := h
  exact ⟨v3, v4, e, ownsRow_setCell_other q3 (fun e => own_ne q3 hB h2 e.symm) u, ownsRow_setCell_other q4 (fun e => own_ne q4 hB h3 e.symm) u⟩
theorem KN.far {p : Addr} {t : TypeId} {cs : Array Value} (h : KN w base v P vss) (hB : Blk w p.block t cs) (h1 : t ≠ 74) (h2 : t ≠ 3) (h3 : t ≠ 40) (u : Value) : KN (w.setCell p u) base v P vss :=
  ⟨h.len, fun k x hx => by obtain ⟨vs, e, q⟩ := h.nodes k x hx; exact ⟨vs, e, q.far hB h2 h3 u⟩, ownsRow_setCell_other h.own (fun e => own_ne h.own hB h1 e.symm) u⟩
theorem KN.app {v' : Value} {cells : List Value} (h : KN w base v P vss) (hx : KNodeAt w base cells x) (hgrow : w.grownBy w' v.ownBlock) (hown' : w'.ownsRow base 74 5 v' (P.length + 1) (vss.flatten ++ cells)) : KN w' base v' (P ++ [x]) (vss ++ [cells]) := by
  have key : ∀ {ws : List Value} {y : Nd}, KNodeAt w base ws y → KNodeAt w' base ws y := by
    rintro ws y ⟨v3, v4, h1, h2, h3⟩
    refine ⟨v3, v4, h1, own_but h2 (But.grown hgrow) fun g hg => ?_, own_but h3 (But.grown hgrow) fun g hg => ?_⟩
    · obtain ⟨cs, hB⟩ := own_kind h2 g hg
      exact own_ne h.own hB (by decide)
    · obtain ⟨cs, hB⟩ := own_kind h3 g hg
      exact own_ne h.own hB (by decide)
  refine ⟨by simp [h.len], fun k y hy => ?_, by simpa using hown'⟩
  by_cases hk : k < P.length
  · rw [List.getElem?_append_left hk] at hy
    obtain ⟨vs, h1, h2⟩ := h.nodes k y hy
    exact ⟨vs, by rw [List.getElem?_append_left (by rw [h.len]; exact hk)]; exact h1, key h2⟩
  · obtain rfl : k = P.length := by have := (List.getElem?_eq_some_iff.1 hy).1; simp at this; omega
    rw [List.getElem?_append_right (Nat.le_refl _), Nat.sub_self] at hy
    obtain rfl : x = y := by simpa using hy
    exact ⟨cells, by rw [← h.len, List.getElem?_append_right (Nat.le_refl _), Nat.sub_self]; rfl, key hx⟩
theorem KN.nodes_is (h : KN w base v P vss) (hok : ∀ x ∈ P, NdOK x) : ∃ A c, v = .slice A P.length c ∧ P.length ≤ c ∧ IsNodes w A P := by
  obtain ⟨A, c, rfl, hr, hc, _⟩ := RowN.of_own h.own
  refine ⟨A, c, rfl, hc, vss, h.len, fun k x hx => ?_, hr⟩
  obtain ⟨vs, e, v3, v4, rfl, q3, q4⟩ := h.nodes k x hx
  obtain ⟨A1, c1, rfl, r1, _, _⟩ := RowN.of_own q3
  obtain ⟨A2, c2, rfl, r2, hc2, _⟩ := RowN.of_own q4
  obtain ⟨o1, o2, o3, o4⟩ := hok x (List.mem_of_getElem? hx)
  exact ⟨_, e, A1, c1, A2, c2, rfl, r1, r2, hc2, o2, o1, o3, o4⟩
end
theorem int_one (l : List Int) : ∀ u ∈ l.map (Value.int .i64), u.oneCell' = true := by
  intro u hu
  obtain ⟨_, _, rfl⟩ := List.mem_map.1 hu
  rfl
theorem pair_one (l : List (Int × Int)) : ∀ u ∈ cellsP l, u.oneCell' = true := by
  intro u hu
  unfold cellsP at hu
  obtain ⟨c, _, hc⟩ := List.mem_flatMap.1 hu
  simp at hc
  rcases hc with rfl | rfl <;> rfl
theorem u8_kind {k : Int} (h0 : 0 ≤ k) (h1 : k ≤ 255) : IntKind.u8.wrap k = k := by
  obtain ⟨n, rfl⟩ := Int.eq_ofNat_of_zero_le h0
  have hn : n ≤ 255 := by omega
  show ((BitVec.ofInt 8 (n : Int)).toNat : Int) = n
  rw [BitVec.toNat_ofInt]
  omega
namespace Mix2
set_option maxRecDepth 100000 in
set_option maxHeartbeats 8000000 in
theorem proof_any (size : Int) (A : Option Addr) (c : Nat) (P : List Nd) (w : World) (hP : IsNR w A P) (hok : ∀ x ∈ P, NdOK x) (hl : P.length ≤ 100000000) :
    Calls Tryd.prog 10 #[proofV size A P.length c] w fun e w' => ∃ A' c', e = .returned (proofV size A' P.length c') ∧ P.length ≤ c' ∧ IsNodes w' A' P ∧ Below w.heap.size w w' := by
  obtain ⟨i0, hi0, hz0, hz1, hz2⟩ := info_parts info_knode
  go_enter Tryd.func10, Tryd.ntmps10
  go_wp2_with fail
  refine abs3 fun w1 h1 h2 h3 hb hz => ?_
  clear hz
  obtain ⟨g1, hg1⟩ : ∃ g, g = w.heap.size := ⟨_, rfl⟩
  have hlo : w.heap.size ≤ g1 := by omega
  rw [← hg1] at h1 h2 h3 ⊢
  clear hg1
  have hw1 : w.heap.size ≤ w1.heap.size := hb.size
  have hg3 : g1 + 1 + 1 < w1.heap.size := h3.lt
  refine wp_loopF (β := Nat × Value) (fun x f => #[f 0, .pointer (some ⟨g1, 0, none⟩), .pointer (some ⟨g1 + 1, 0, none⟩), .pointer (some ⟨g1 + 1 + 1, 0, none⟩), f 4, f 5, f 6, f 7, f 8, f 9, .slice A P.length c, .int .i64 (P.length : Int), .int .i64 (x.1 : Int), f 13, f 14, f 15, f 16, f 17, f 18, f 19, f 20, f 21, f 22, f 23, f 24, f 25, f 26, f 27, f 28, f 29, f 30, f 31, f 32, f 33, f 34, f 35, f 36])
    (fun x ds W => x.1 ≤ P.length ∧ ds = [] ∧ Below w.heap.size w W ∧ Blk W (g1 + 1) 48 #[.int .i64 0, .slice none 0 0] ∧ Blk W (g1 + 1 + 1) 48 #[.int .i64 size, x.2] ∧ w1.heap.size ≤ W.heap.size ∧ ∃ vss, KN W w1.heap.size x.2 (P.take x.1) vss) (fun x => P.length - x.1) (0, .slice none 0 0) rfl
    ⟨Nat.zero_le _, rfl, hb, h2, h3, Nat.le_refl _, [], rfl, fun k x h => by simp at h, World.ownsRow_nil _ _ _ _⟩ ?_
  clear h2 h3
  rintro ⟨k, v⟩ f ds W ⟨hk, rfl, hbW, hY, hZ, hsw, vss, hK⟩
  dsimp only at hk hZ hK ⊢
  by_cases hlt : k < P.length
  · obtain ⟨x, hx⟩ : ∃ x, P[k]? = some x := ⟨_, List.getElem?_eq_getElem hlt⟩
    obtain ⟨ok1, ok2, ok3, ok4⟩ := hok x (List.mem_of_getElem? hx)
    obtain ⟨g, off, A1, c1, A2, c2, rfl, hg, n0, n1, n2, n3, n4, hr1, hr2⟩ := nr_at hP hx
    have m0 := onB hbW n0; have m1 := onB hbW n1; have m2 := onB hbW n2; have m3 := onB hbW n3; have m4 := onB hbW n4
    have htk : P.take (k + 1) = P.take k ++ [x] := by rw [List.take_add_one, hx]; rfl
    have hkl : (P.take k).length = k := by rw [List.length_take]; omega
    have hku := u8_kind ok3 ok4
    have HTK := Lib.hid htk; have HKL := Lib.hid hkl
    have hr1W := hr1.below hbW
    have hr2W := hr2.below hbW
    obtain ⟨Av, cv, rfl, hcv⟩ := own5 hK.own
    rw [hkl] at hZ hK hcv
    clear hx n0 n1 n2 n3 n4 hr1 hr2 htk hkl
    go_wp2_with fail
    refine abs1 fun W1 hN hb1 hz => ?_
    clear hz m0 m1 m2 m3 m4
    have hbW1 := hbW.trans (hb1.mono hbW.size)
    have hY1 := hY.below hb1 hY.lt
    have hZ1 := hZ.below hb1 hZ.lt
    have hK1 := hK.below hb1
    have hr1a := hr1W.below hb1
    have hr2a := hr2W.below hb1
    have hsW := hbW.size
    have hs1 := hb1.size
    have hZlt := hZ.lt
    obtain ⟨gN, hgN⟩ : ∃ g, g = W.heap.size := ⟨_, rfl⟩
    have hgNl : w1.heap.size ≤ gN := by
      rw [hgN]; exact hsw
    rw [← hgN] at hN ⊢
    clear hgN
    have hd : Below W1.heap.size W1 W1.drew := (Below.refl _ _).drew
    have hbu := hbW1.trans (hd.mono hbW1.size)
    have hYu := hY1.below hd hY1.lt
    have hZu := hZ1.below hd hZ1.lt
    have hNu := hN.below hd hN.lt
    have hKu := hK1.below hd
    have hr1u := hr1a.below hd
    have hr2u := hr2a.below hd
    have hsu : w1.heap.size ≤ W1.drew.heap.size := by have := hd.size; omega
    refine wp_mix (fun V => Blk V (g1 + 1 + 1) 48 #[.int .i64 size, .slice Av k cv] ∧ Blk V gN 39 #[.int .i64 x.kind, .int .i64 x.row, .int .i64 x.col, .slice A1 x.ch.length c1, .slice A2 x.cells.length c2]) 20 (by kernel_rfl) (by kernel_rfl) ⟨hZu, hNu⟩ ?_
    obtain ⟨u, hu⟩ : ∃ V, V = W1.drew := ⟨_, rfl⟩
    rw [← hu] at hd hbu hYu hZu hNu hKu hr1u hr2u hsu ⊢
    clear hu hN hY1 hZ1 hK1 hr1a hr2a hK hY hZ hr1W hr2W
    (refine m_q 0 (v := ?_) (by kernel_rfl) rfl rfl (fun W hW => ?_) ?_; rotate_left; (go_simp; first | done | with_reducible rfl); simp only [Act.put, List.setIfInBounds_toArray, List.set_cons_zero, List.set_cons_succ])
    (refine m_q 1 (v := ?_) (by kernel_rfl) rfl rfl (fun W hW => ?_) ?_; rotate_left; (have z0 := hW.1.cell 1; go_simp; first | done | with_reducible rfl); simp only [Act.put, List.setIfInBounds_toArray, List.set_cons_zero, List.set_cons_succ])
    (refine m_q 2 (v := ?_) (by kernel_rfl) rfl rfl (fun W hW => ?_) ?_; rotate_left; (have z0 := hW.2.cell 0; go_simp; first | done | with_reducible rfl); simp only [Act.put, List.setIfInBounds_toArray, List.set_cons_zero, List.set_cons_succ]); (refine m_q 3 (v := ?_) (by kernel_rfl) rfl rfl (fun W hW => ?_) ?_; rotate_left; (have z0 := hW.2.cell 0; go_simp; first | done | with_reducible rfl); simp only [Act.put, List.setIfInBounds_toArray, List.set_cons_zero, List.set_cons_succ])
    (refine m_q 4 (v := ?_) (by kernel_rfl) rfl rfl (fun W hW => ?_) ?_; rotate_left; (go_simp; first | done | with_reducible rfl); simp only [Act.put, List.setIfInBounds_toArray, List.set_cons_zero, List.set_cons_succ])
    (refine m_q 5 (v := ?_) (by kernel_rfl) rfl rfl (fun W hW => ?_) ?_; rotate_left; (have z0 := hW.2.cell 1; go_simp; first | done | with_reducible rfl); simp only [Act.put, List.setIfInBounds_toArray, List.set_cons_zero, List.set_cons_succ]); (refine m_q 6 (v := ?_) (by kernel_rfl) rfl rfl (fun W hW => ?_) ?_; rotate_left; (have z0 := hW.2.cell 1; go_simp; first | done | with_reducible rfl); simp only [Act.put, List.setIfInBounds_toArray, List.set_cons_zero, List.set_cons_succ])
    (refine m_q 7 (v := ?_) (by kernel_rfl) rfl rfl (fun W hW => ?_) ?_; rotate_left; (have z0 := hW.2.cell 2; go_simp; first | done | with_reducible rfl); simp only [Act.put, List.setIfInBounds_toArray, List.set_cons_zero, List.set_cons_succ]); (refine m_q 8 (v := ?_) (by kernel_rfl) rfl rfl (fun W hW => ?_) ?_; rotate_left; (have z0 := hW.2.cell 2; go_simp; first | done | with_reducible rfl); simp only [Act.put, List.setIfInBounds_toArray, List.set_cons_zero, List.set_cons_succ])
    (refine m_q 9 (v := ?_) (by kernel_rfl) rfl rfl (fun W hW => ?_) ?_; rotate_left; (have z0 := hW.2.cell 3; go_simp; first | done | with_reducible rfl); simp only [Act.put, List.setIfInBounds_toArray, List.set_cons_zero, List.set_cons_succ]); (refine m_q 10 (v := ?_) (by kernel_rfl) rfl rfl (fun W hW => ?_) ?_; rotate_left; (have z0 := hW.2.cell 3; go_simp; first | done | with_reducible rfl); simp only [Act.put, List.setIfInBounds_toArray, List.set_cons_zero, List.set_cons_succ])
    (refine m_q 12 (v := ?_) (by kernel_rfl) rfl rfl (fun W hW => ?_) ?_; rotate_left; (have z0 := hW.2.cell 4; go_simp; first | done | with_reducible rfl); simp only [Act.put, List.setIfInBounds_toArray, List.set_cons_zero, List.set_cons_succ]); (refine m_q 13 (v := ?_) (by kernel_rfl) rfl rfl (fun W hW => ?_) ?_; rotate_left; (have z0 := hW.2.cell 4; go_simp; first | done | with_reducible rfl); simp only [Act.put, List.setIfInBounds_toArray, List.set_cons_zero, List.set_cons_succ])
    clear hku
    refine m_s1 11 (by kernel_rfl) rfl ?_
    go_wp2_with fail
    refine (cloneI_any A1 x.ch.length c1 _ u hr1u (by simp) (int_one _) ok1).mono ?_
    rintro e u1 ⟨v11, rfl, ho11, hb⟩
    obtain ⟨A11, c11, rfl, -⟩ := own5 ho11
    replace hbu := hbu.trans (hb.mono hbu.size); replace hYu := hYu.below hb hYu.lt; replace hZu := hZu.below hb hZu.lt; replace hNu := hNu.below hb hNu.lt; replace hKu := hKu.below hb; replace hr2u := hr2u.below hb
    replace ho11 := own_low ho11 hsu
    replace hsu := Nat.le_trans hsu hb.size
    go_wp2_with fail
    refine m_keep ⟨hZu, hNu⟩ ?_
    refine m_s1 14 (by kernel_rfl) rfl ?_
    go_wp2_with fail
    refine (cloneP_any A2 x.cells.length c2 _ u1 hr2u (by rw [cellsP_len]; omega) (pair_one _) ok2).mono ?_
    rintro e u2 ⟨v14, rfl, ho14, hb⟩
    obtain ⟨A14, c14, rfl, -⟩ := own5 ho14
    replace hbu := hbu.trans (hb.mono hbu.size); replace hYu := hYu.below hb hYu.lt; replace hZu := hZu.below hb hZu.lt; replace hNu := hNu.below hb hNu.lt; replace hKu := hKu.below hb; replace ho11 := own_below ho11 hb
    replace ho14 := own_low ho14 hsu
    replace hsu := Nat.le_trans hsu hb.size
    go_wp2_with fail
    refine m_keep ⟨hZu, hNu⟩ ?_
    (refine m_q 15 (v := ?_) (by kernel_rfl) rfl rfl (fun W hW => ?_) ?_; rotate_left; (go_simp; first | done | with_reducible rfl); simp only [Act.put, List.setIfInBounds_toArray, List.set_cons_zero, List.set_cons_succ])
    refine m_s1 16 (by kernel_rfl) rfl ?_
    go_wp2_with fail
    refine absN fun u3 hB hb hz => ?_
    clear hz
    replace hbu := hbu.trans (hb.mono hbu.size); replace hYu := hYu.below hb hYu.lt; replace hZu := hZu.below hb hZu.lt; replace hNu := hNu.below hb hNu.lt; replace hKu := hKu.below hb; replace ho11 := own_below ho11 hb; replace ho14 := own_below ho14 hb
    replace hsu := Nat.le_trans hsu hb.size
    obtain ⟨gB, hgB⟩ : ∃ g, g = u2.heap.size := ⟨_, rfl⟩
    rw [← hgB] at hB ⊢
    clear hgB
    refine m_keep ⟨hZu, hNu⟩ ?_
    have HNW := hideC (World.news_of_block hB)
    have hown := hKu.own
    rw [HKL.out] at hown
    refine m_s1 17 (by kernel_rfl) rfl ?_
    go_wp2_with (at_builtin; refine wpList_append_own _ rfl _ _ 46 rfl w1.heap.size 74 i0 (.agg #[.int .u8 0, .int .i64 0, .int .i64 0, .slice none 0 0, .slice none 0 0]) 5 72 Tryd.underlying46 hi0 hz0 hz1 hz2 rfl (by decide) _ _ _ rfl hown ⟨gB, 0, none⟩ 1 1 [.int .u8 x.kind, .int .i64 x.row, .int .i64 x.col, .slice A11 x.ch.length c11, .slice A14 x.cells.length c14] rfl rfl HNW.out (by simp [Value.oneCell']) (by unfold maxLen; omega) (by omega) (by first | omega | (simp; omega)) ?_; intro v17 u4 hown' hgrow _)
    have hK4 : KN u4 w1.heap.size v17 (P.take k ++ [x]) (vss ++ [[.int .u8 x.kind, .int .i64 x.row, .int .i64 x.col, .slice A11 x.ch.length c11, .slice A14 x.cells.length c14]]) := hKu.app ⟨_, _, rfl, ho11, ho14⟩ hgrow (by rw [HKL.out]; exact hown')
    have hb4 := hbu.grown hgrow hbu.size (fun p hp => Nat.le_trans hw1 (hown.lt p hp).1)
    have hY4 : Blk u4 (g1 + 1) 48 #[.int .i64 0, .slice none 0 0] := (hgrow.block _ hYu.lt (own_ne hown hYu (by decide))).trans hYu
    have hZ4 : Blk u4 (g1 + 1 + 1) 48 #[.int .i64 size, .slice Av k cv] := (hgrow.block _ hZu.lt (own_ne hown hZu (by decide))).trans hZu
    have hN4 : Blk u4 gN 39 #[.int .i64 x.kind, .int .i64 x.row, .int .i64 x.col, .slice A1 x.ch.length c1, .slice A2 x.cells.length c2] := (hgrow.block _ hNu.lt (own_ne hown hNu (by decide))).trans hNu
    have hs4 : w1.heap.size ≤ u4.heap.size := Nat.le_trans hsu hgrow.size
    obtain ⟨A17, c17, rfl, -⟩ := own5 hK4.own
    clear hKu hown hown' hgrow hYu hZu hNu ho11 ho14 HNW hB
    refine m_keep ⟨hZ4, hN4⟩ ?_
    (refine m_q 18 (v := ?_) (by kernel_rfl) rfl rfl (fun W hW => ?_) ?_; rotate_left; (go_simp; first | done | with_reducible rfl); simp only [Act.put, List.setIfInBounds_toArray, List.set_cons_zero, List.set_cons_succ])
    have z0 := hZ4.cell 1
    have f0 := hZ4.frozen 1
    have l0 := hZ4.lt
    refine m_s1 19 (by kernel_rfl) rfl ?_
    go_wp2_with fail
    refine m_clear (by kernel_rfl) ?_
    refine m_end (by kernel_rfl) ?_
    have hK5 := hK4.far (p := ⟨g1 + 1 + 1, 1, none⟩) hZ4 (by decide) (by decide) (by decide) (.slice A17 (P.take k ++ [x]).length c17)
    have hZ5 := hZ4.set_ 1 (.slice A17 (P.take k ++ [x]).length c17)
    have hY5 := hY4.far (p := ⟨g1 + 1 + 1, 1, none⟩) (by show g1 + 1 ≠ g1 + 1 + 1; omega) (.slice A17 (P.take k ++ [x]).length c17)
    have hb5 := hb4.setCell (p := ⟨g1 + 1 + 1, 1, none⟩) (by show w.heap.size ≤ g1 + 1 + 1; omega) (.slice A17 (P.take k ++ [x]).length c17)
    rw [← HTK.out] at hK5 hZ5 hY5 hb5 ⊢
    have hkl1 : (P.take (k + 1)).length = k + 1 := by rw [List.length_take]; omega
    rw [hkl1] at hK5 hZ5 hY5 hb5
    have HKL1 := Lib.hid hkl1
    clear hkl1
    clear z0 f0 l0 hK4 hZ4 hY4 hb4
    go_wp2_with fail
    exact ⟨(k + 1, .slice A17 (k + 1) c17), by first | rfl | (rw [HKL1.out]; rfl), ⟨by show k + 1 ≤ P.length; omega, by first | rfl | trivial, hb5, hY5, hZ5, by simpa using hs4, _, hK5⟩, by show P.length - (k + 1) < P.length - k; omega⟩
  · obtain rfl : k = P.length := by omega
    rw [List.take_length] at hK
    obtain ⟨A9, c9, rfl, hc9, hn9⟩ := hK.nodes_is hok
    have z0 := hZ.cell 0
    have z1 := hZ.cell 1
    have y0 := hY.cell 0
    have y1 := hY.cell 1
    have f0 := hY.frozen 0
    have f1 := hY.frozen 1
    have lY := hY.lt
    go_wp2_with fail
    have hYs := (hY.set_ 0 (.int .i64 size)).set_ 1 (.slice A9 P.length c9)
    have hK2 := (hK.far (p := ⟨g1 + 1, 0, none⟩) hY (by decide) (by decide) (by decide) (.int .i64 size)).far (p := ⟨g1 + 1, 1, none⟩) (hY.set_ 0 (.int .i64 size)) (by decide) (by decide) (by decide) (.slice A9 P.length c9)
    obtain ⟨_, _, e9, _, hn10⟩ := hK2.nodes_is hok
    cases e9
    have c0 := hYs.cell 0
    have c1 := hYs.cell 1
    exact bodyPost_ret (v := .agg #[.int .i64 size, .slice A9 P.length c9]) (by simp [results, Tryd.results10, go_sem, c0, c1]) rfl ⟨A9, c9, rfl, hc9, hn10, (hbW.setCell (p := ⟨g1 + 1, 0, none⟩) (by show w.heap.size ≤ g1 + 1; omega) _).setCell (p := ⟨g1 + 1, 1, none⟩) (by show w.heap.size ≤ g1 + 1; omega) _⟩
end Mix2
end Go.Proofs.YthnphekhgaefdaaDoor
