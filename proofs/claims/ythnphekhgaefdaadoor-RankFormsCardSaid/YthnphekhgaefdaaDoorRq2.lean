/-
  A changed proof: the rows of nodes that are copied and changed.
-/
import Derived.Test.YthnphekhgaefdaaDoorRq1
import Derived.Test.YthnphekhgaefdaaDoorRl0
namespace Go.Proofs.YthnphekhgaefdaaDoor
open Go.RowKit

/-- A proof of the reference's. -/
def PRf (w : World) (v : Value) (size : Int) (P : List Nd) : Prop := ∃ A c, v = .agg #[.int .i64 size, .slice A P.length c] ∧ IsNR w A P ∧ P.length ≤ c ∧ (A = none → P.length = 0 ∧ c = 0)
theorem PRf.below {w w' : World} {v : Value} {size : Int} {P : List Nd} (h : PRf w v size P) (hb : Below w.heap.size w w') : PRf w' v size P := by
  obtain ⟨A, c, h1, h2, h3⟩ := h; exact ⟨A, c, h1, h2.below hb, h3⟩
/-- Small nodes. -/
def NdB (B : Nat) (x : Nd) : Prop := x.ch.length ≤ B ∧ x.cells.length ≤ B ∧ 0 ≤ x.kind ∧ x.kind ≤ 255
theorem NdB.mono {B B' : Nat} {x : Nd} (h : NdB B x) (hb : B ≤ B') : NdB B' x := ⟨Nat.le_trans h.1 hb, Nat.le_trans h.2.1 hb, h.2.2⟩
def ceB (vs : List Value) : Option Nat := (vs.getD 4 undef).ownBlock
def D4 (vss : List (List Value)) : Prop := ∀ (i j : Nat) a b, i ≠ j → vss[i]? = some a → vss[j]? = some b → ∀ g, ceB a = some g → ceB b ≠ some g
theorem dist_app {vss : List (List Value)} {cells : List Value} {f : List Value → Option Nat} (h : ∀ (i j : Nat) a b, i ≠ j → vss[i]? = some a → vss[j]? = some b → ∀ g, f a = some g → f b ≠ some g) (hc : ∀ g, f cells = some g → ∀ (k : Nat) a, vss[k]? = some a → f a ≠ some g) :
    ∀ (i j : Nat) a b, i ≠ j → (vss ++ [cells])[i]? = some a → (vss ++ [cells])[j]? = some b → ∀ g, f a = some g → f b ≠ some g := by
  have key : ∀ (i : Nat) (a : List Value), (vss ++ [cells])[i]? = some a → vss[i]? = some a ∨ (i = vss.length ∧ a = cells) := fun i a ha => by
    by_cases hi : i < vss.length
    · rw [List.getElem?_append_left hi] at ha; exact .inl ha
    · rw [List.getElem?_append_right (by omega)] at ha
      have : i - vss.length = 0 := by have := (List.getElem?_eq_some_iff.1 ha).1; simp at this; omega
      rw [this] at ha
      exact .inr ⟨by omega, by simpa using ha.symm⟩
  intro i j a b hij ha hb g hg hg2
  rcases key i a ha with ha' | ⟨hi, rfl⟩
  · rcases key j b hb with hb' | ⟨hj, rfl⟩
    · exact h i j a b hij ha' hb' g hg hg2
    · exact hc g hg2 i a ha' hg
  · rcases key j b hb with hb' | ⟨hj, rfl⟩
    · exact hc g hg j b hb' hg2
    · omega
/-- A row for reading whose block's type is known. -/
def RowT (w : World) (e : TypeId) (A : Option Addr) (n c : Nat) (xs : List Value) : Prop := RowN w A n c xs ∧ ∀ ad, A = some ad → ∃ cs, Blk w ad.block e cs
theorem RowT.of_own {w : World} {base n size : Nat} {e : TypeId} {v : Value} {xs : List Value} (h : w.ownsRow base e size v n xs) : ∃ A c, v = .slice A n c ∧ RowT w e A n c xs := by
  obtain ⟨A, c, rfl, hr⟩ := RowN.of_own h
  refine ⟨A, c, rfl, hr, fun ad ha => ?_⟩
  subst ha
  exact own_kind h ad.block rfl
theorem Blk.other {w : World} {p : Addr} {g : Nat} {t e : TypeId} {cs cs' : Array Value} (hB : Blk w p.block t cs) (hg : Blk w g e cs') (hne : t ≠ e) : g ≠ p.block := fun h => by
  subst h
  unfold Blk at hB hg
  rw [hB] at hg
  cases hg
  exact hne rfl
theorem Row.far {w : World} {e t : TypeId} {A : Option Addr} {xs : List Value} {p : Addr} {cs : Array Value} (h : Row w A xs) (ht : ∀ ad, A = some ad → ∃ cs, Blk w ad.block e cs) (hB : Blk w p.block t cs) (hne : t ≠ e) (u : Value) : Row (w.setCell p u) A xs := fun hl => by
  obtain ⟨g, off, rfl, hg, hc⟩ := h hl
  obtain ⟨cs', hb⟩ := ht _ rfl
  have hgp : g ≠ p.block := hB.other hb hne
  refine ⟨g, off, rfl, by simpa using hg, fun k u' hu => ?_⟩
  have hb2 := Blk.far (p := p) hb hgp u
  exact (hb2.cell _).trans ((hb.cell _).symm.trans (hc k u' hu))
theorem RowT.far {w : World} {e t : TypeId} {A : Option Addr} {n c : Nat} {xs : List Value} {p : Addr} {cs : Array Value} (h : RowT w e A n c xs) (hB : Blk w p.block t cs) (hne : t ≠ e) (u : Value) : RowT (w.setCell p u) e A n c xs :=
  ⟨⟨h.1.1.far h.2 hB hne u, h.1.2⟩, fun ad ha => by
    obtain ⟨cs', hb⟩ := h.2 ad ha
    exact ⟨cs', Blk.far (p := p) hb (hB.other hb hne) u⟩⟩
def RNdT (w : World) (vs : List Value) (x : Nd) : Prop := ∃ A1 c1 A2 c2, vs = [.int .i64 x.kind, .int .i64 x.row, .int .i64 x.col, .slice A1 x.ch.length c1, .slice A2 x.cells.length c2] ∧ RowT w 3 A1 x.ch.length c1 (x.ch.map (.int .i64)) ∧ RowT w 40 A2 x.cells.length c2 (cellsP x.cells)
def IsNT (w : World) (A : Option Addr) (P : List Nd) : Prop := ∃ vss : List (List Value), vss.length = P.length ∧ (∀ (k : Nat) x, P[k]? = some x → ∃ vs, vss[k]? = some vs ∧ RNdT w vs x) ∧ Row w A vss.flatten ∧ ∀ ad, A = some ad → ∃ cs, Blk w ad.block 39 cs
theorem IsNT.nr {w : World} {A : Option Addr} {P : List Nd} (h : IsNT w A P) : IsNR w A P := by
  obtain ⟨vss, h1, h2, h3, _⟩ := h
  exact ⟨vss, h1, fun k x hx => by
    obtain ⟨vs, e, A1, c1, A2, c2, e2, r1, r2⟩ := h2 k x hx
    exact ⟨vs, e, A1, c1, A2, c2, e2, r1.1, r2.1⟩, h3⟩
theorem IsNT.far {w : World} {A : Option Addr} {P : List Nd} {p : Addr} {t : TypeId} {cs : Array Value} (h : IsNT w A P) (hB : Blk w p.block t cs) (n1 : t ≠ 39) (n2 : t ≠ 3) (n3 : t ≠ 40) (u : Value) : IsNT (w.setCell p u) A P := by
  obtain ⟨vss, h1, h2, h3, h4⟩ := h
  exact ⟨vss, h1, fun k x hx => by
    obtain ⟨vs, e, A1, c1, A2, c2, e2, r1, r2⟩ := h2 k x hx
    exact ⟨vs, e, A1, c1, A2, c2, e2, r1.far hB n2 u, r2.far hB n3 u⟩, h3.far h4 hB n1 u, fun ad ha => by
      obtain ⟨cs', hb⟩ := h4 ad ha
      exact ⟨cs', Blk.far (p := p) hb (hB.other hb n1) u⟩⟩
/-- The first nodes alone. -/
theorem IsNT.take {w : World} {A : Option Addr} {P : List Nd} (h : IsNT w A P) (m : Nat) : IsNT w A (P.take m) := by
  obtain ⟨vss, h1, h2, h3, h4⟩ := h
  refine ⟨vss.take m, by rw [List.length_take, List.length_take, h1], fun k x hx => ?_, fun hl => ?_, h4⟩
  · have hkm : k < m := by have := (List.getElem?_eq_some_iff.1 hx).1; rw [List.length_take] at this; omega
    rw [List.getElem?_take_of_lt hkm] at hx ⊢
    exact h2 k x hx
  · have hsplit : vss.flatten = (vss.take m).flatten ++ (vss.drop m).flatten := by rw [← List.flatten_append, List.take_append_drop]
    rw [hsplit] at h3
    obtain ⟨g, off, e, hg, hc⟩ := h3 (by rw [List.length_append]; omega)
    exact ⟨g, off, e, hg, fun k u hu => hc k u (by rw [List.getElem?_append_left (List.getElem?_eq_some_iff.1 hu).1]; exact hu)⟩
theorem ON.nt {w : World} {base : Nat} {v : Value} {P : List Nd} {vss : List (List Value)} (h : ON w base v P vss) : ∃ A c, v = .slice A P.length c ∧ P.length ≤ c ∧ (A = none → P.length = 0 ∧ c = 0) ∧ IsNT w A P := by
  obtain ⟨A, c, rfl, ⟨hr, hc, hn⟩, ht⟩ := RowT.of_own h.own
  refine ⟨A, c, rfl, hc, hn, vss, h.len, fun k x hx => ?_, hr, ht⟩
  obtain ⟨vs, e, v3, v4, rfl, q3, q4⟩ := h.nodes k x hx
  obtain ⟨A1, c1, rfl, r1⟩ := RowT.of_own q3
  obtain ⟨A2, c2, rfl, r2⟩ := RowT.of_own q4
  exact ⟨_, e, A1, c1, A2, c2, rfl, r1, r2⟩
section
variable {w w' : World} {base : Nat} {v : Value} {P : List Nd} {vss : List (List Value)} {vs : List Value} {x : Nd}
theorem ON.app2 {v' : Value} {cells : List Value} (h : ON w base v P vss) (hx : RNodeAt w base cells x) (hc : ∀ g, chB cells = some g → ∀ (k : Nat) a, vss[k]? = some a → chB a ≠ some g) (hgrow : w.grownBy w' v.ownBlock) (hown' : w'.ownsRow base 39 5 v' (P.length + 1) (vss.flatten ++ cells)) : ON w' base v' (P ++ [x]) (vss ++ [cells]) := by
  refine ⟨by simp [h.len], fun k y hy => ?_, dist_app h.dist hc, by simpa using hown'⟩
  by_cases hk : k < P.length
  · rw [List.getElem?_append_left hk] at hy
    obtain ⟨vs, h1, h2⟩ := h.nodes k y hy
    exact ⟨vs, by rw [List.getElem?_append_left (by rw [h.len]; exact hk)]; exact h1, h2.but_node (But.grown hgrow) h.own⟩
  · obtain rfl : k = P.length := by have := (List.getElem?_eq_some_iff.1 hy).1; simp at this; omega
    rw [List.getElem?_append_right (Nat.le_refl _), Nat.sub_self] at hy
    obtain rfl : x = y := by simpa using hy
    exact ⟨cells, by rw [← h.len, List.getElem?_append_right (Nat.le_refl _), Nat.sub_self]; rfl, hx.but_node (But.grown hgrow) h.own⟩
/-- The rows of the nodes are there. -/
theorem ON.rows_lt (h : ON w base v P vss) : ∀ (k : Nat) a, vss[k]? = some a → ∀ g, (chB a = some g → g < w.heap.size) ∧ (ceB a = some g → g < w.heap.size) := fun k a ha g => by
  have hkl : k < P.length := by rw [← h.len]; exact (List.getElem?_eq_some_iff.1 ha).1
  obtain ⟨vs, e1, u3, u4, rfl, k3, k4⟩ := h.nodes k _ (List.getElem?_eq_getElem hkl)
  rw [e1] at ha
  cases ha
  constructor
  · intro hg
    obtain ⟨cs, hB⟩ := own_kind k3 g hg
    exact hB.lt
  · intro hg
    obtain ⟨cs, hB⟩ := own_kind k4 g hg
    exact hB.lt
theorem ON.far {p : Addr} {t : TypeId} {cs : Array Value} (h : ON w base v P vss) (hB : Blk w p.block t cs) (h1 : t ≠ 39) (h2 : t ≠ 3) (h3 : t ≠ 40) (u : Value) : ON (w.setCell p u) base v P vss := by
  have key : ∀ {b e size v' n xs}, w.ownsRow b e size v' n xs → t ≠ e → (w.setCell p u).ownsRow b e size v' n xs := fun ho hne => ownsRow_setCell_other ho (fun e => own_ne ho hB hne e.symm) u
  refine ⟨h.len, fun k x hx => ?_, h.dist, key h.own h1⟩
  obtain ⟨vs, e, v3, v4, rfl, q3, q4⟩ := h.nodes k x hx
  exact ⟨_, e, v3, v4, rfl, key q3 h2, key q4 h3⟩
/-- A store into another block of nodes: a variable's. -/
theorem ON.var {p : Addr} {cs : Array Value} (h : ON w base v P vss) (hB : Blk w p.block 39 cs) (hne : v.ownBlock ≠ some p.block) (u : Value) : ON (w.setCell p u) base v P vss := by
  refine ⟨h.len, fun k x hx => ?_, h.dist, ownsRow_setCell_other h.own hne u⟩
  obtain ⟨vs, e, v3, v4, rfl, q3, q4⟩ := h.nodes k x hx
  exact ⟨_, e, v3, v4, rfl, ownsRow_setCell_other q3 (fun e => own_ne q3 hB (by decide) e.symm) u, ownsRow_setCell_other q4 (fun e => own_ne q4 hB (by decide) e.symm) u⟩
/-- A number of a node is stored. -/
theorem ON.num {n g cap r : Nat} {u : Value} {x' : Nd} {v3 v4 : Value} (h : ON w base (.slice (some ⟨g, 0, none⟩) P.length cap) P vss) (hn : P[n]? = some x) (h1 : vss[n]? = some [.int .i64 x.kind, .int .i64 x.row, .int .i64 x.col, v3, v4]) (hr : r < 3)
    (hx : ([.int .i64 x.kind, .int .i64 x.row, .int .i64 x.col, v3, v4] : List Value).set r u = [.int .i64 x'.kind, .int .i64 x'.row, .int .i64 x'.col, v3, v4]) (hch : x'.ch = x.ch) (hce : x'.cells = x.cells) :
    ON (w.setCell ⟨g, n * 5 + r, none⟩ u) base (.slice (some ⟨g, 0, none⟩) P.length cap) (P.set n x') (vss.set n [.int .i64 x'.kind, .int .i64 x'.row, .int .i64 x'.col, v3, v4]) := by
  have hnl := (List.getElem?_eq_some_iff.1 hn).1
  have hst := (h.own.stored (n * 5 + r) u).1
  rw [flatten_set5 vss h.len5 n r _ _ h1 (by omega), hx] at hst
  have hfar : ∀ (u' : Value) (e : TypeId) (size m : Nat) (xs : List Value), e ≠ 39 → w.ownsRow base e size u' m xs → (w.setCell ⟨g, n * 5 + r, none⟩ u).ownsRow base e size u' m xs := fun u' e size m xs he hu => ownsRow_setCell_other hu (fun e' => by
    obtain ⟨cs, hB⟩ := own_kind hu g e'
    exact own_ne h.own hB he rfl) u
  refine ⟨by rw [List.length_set, List.length_set]; exact h.len, fun k y hy => ?_, fun i j a b hij ha hb gg hg => ?_, by rw [List.length_set]; exact hst⟩
  · by_cases hk : n = k
    · subst hk
      rw [List.getElem?_set_self hnl] at hy
      cases hy
      obtain ⟨vs, e1, u3, u4, rfl, q3, q4⟩ := h.nodes n x hn
      rw [h1] at e1
      injection e1 with e1
      simp at e1
      obtain ⟨rfl, rfl⟩ := e1
      exact ⟨_, List.getElem?_set_self (by rw [h.len]; exact hnl), v3, v4, rfl, by rw [hch]; exact hfar _ _ _ _ _ (by decide) q3, by rw [hce]; exact hfar _ _ _ _ _ (by decide) q4⟩
    · rw [List.getElem?_set_ne hk] at hy
      obtain ⟨vs, e1, u3, u4, rfl, q3, q4⟩ := h.nodes k y hy
      exact ⟨_, by rw [List.getElem?_set_ne hk]; exact e1, u3, u4, rfl, hfar _ _ _ _ _ (by decide) q3, hfar _ _ _ _ _ (by decide) q4⟩
  · have key : ∀ (i : Nat) (a : List Value), (vss.set n [.int .i64 x'.kind, .int .i64 x'.row, .int .i64 x'.col, v3, v4])[i]? = some a → ∃ a0, vss[i]? = some a0 ∧ chB a0 = chB a := fun i a ha => by
      by_cases hi : n = i
      · subst hi
        rw [List.getElem?_set_self (by rw [h.len]; exact hnl)] at ha
        cases ha
        exact ⟨_, h1, rfl⟩
      · rw [List.getElem?_set_ne hi] at ha
        exact ⟨a, ha, rfl⟩
    obtain ⟨a0, ha0, e1⟩ := key i a ha
    obtain ⟨b0, hb0, e2⟩ := key j b hb
    rw [← e2]
    exact h.dist i j a0 b0 hij ha0 hb0 gg (by rw [e1]; exact hg)
/-- A node's header is stored that reads as a row: what is left, for reading. -/
theorem ON.put {n g cap r : Nat} {u : Value} {x' : Nd} {cells : List Value} (h : ON w base (.slice (some ⟨g, 0, none⟩) P.length cap) P vss) (hn : n < P.length) (h1 : vss[n]? = some vs) (hr : r < 5) (hx : RNdT (w.setCell ⟨g, n * 5 + r, none⟩ u) cells x') (hcl : vs.set r u = cells) :
    IsNT (w.setCell ⟨g, n * 5 + r, none⟩ u) (some ⟨g, 0, none⟩) (P.set n x') := by
  have hst := (h.own.stored (n * 5 + r) u).1
  rw [flatten_set5 vss h.len5 n r _ _ h1 hr, hcl] at hst
  have hfar : ∀ (u' : Value) (e : TypeId) (size m : Nat) (xs : List Value), e ≠ 39 → w.ownsRow base e size u' m xs → (w.setCell ⟨g, n * 5 + r, none⟩ u).ownsRow base e size u' m xs := fun u' e size m xs he hu => ownsRow_setCell_other hu (fun e' => by
    obtain ⟨cs, hB⟩ := own_kind hu g e'
    exact own_ne h.own hB he rfl) u
  obtain ⟨_, _, e9, ⟨hrow, _, _⟩, hty⟩ := RowT.of_own hst
  cases e9
  refine ⟨_, by rw [List.length_set, List.length_set]; exact h.len, fun k y hy => ?_, hrow, hty⟩
  by_cases hk : n = k
  · subst hk
    rw [List.getElem?_set_self hn] at hy
    cases hy
    exact ⟨_, List.getElem?_set_self (by rw [h.len]; exact hn), hx⟩
  · rw [List.getElem?_set_ne hk] at hy
    obtain ⟨vs', e1, u3, u4, rfl, q3, q4⟩ := h.nodes k y hy
    obtain ⟨A1, c1, rfl, r1⟩ := RowT.of_own (hfar _ _ _ _ _ (by decide) q3)
    obtain ⟨A2, c2, rfl, r2⟩ := RowT.of_own (hfar _ _ _ _ _ (by decide) q4)
    exact ⟨_, by rw [List.getElem?_set_ne hk]; exact e1, A1, c1, A2, c2, rfl, r1, r2⟩
/-- A cell more: appended to the node's row, and the row's header stored. -/
theorem ON.cell_more {w2 : World} {n g g2 cap cap2 : Nat} {v3 v4 : Value} {c : Int × Int} (h : ON w base (.slice (some ⟨g, 0, none⟩) P.length cap) P vss) (h4d : D4 vss) (hn : P[n]? = some x) (h1 : vss[n]? = some [.int .i64 x.kind, .int .i64 x.row, .int .i64 x.col, v3, v4])
    (h3 : w.ownsRow base 3 1 v3 x.ch.length (x.ch.map (.int .i64))) (h4 : OwnP w base v4 x.cells)
    (hown' : w2.ownsRow base 40 2 (.slice (some ⟨g2, 0, none⟩) (x.cells.length + 1) cap2) (x.cells.length + 1) (cellsP x.cells ++ [.int .i64 c.1, .int .i64 c.2])) (hgrow : w.grownBy w2 v4.ownBlock) :
    IsNT (w2.setCell ⟨g, n * 5 + 4, none⟩ (.slice (some ⟨g2, 0, none⟩) (x.cells.length + 1) cap2)) (some ⟨g, 0, none⟩) (P.set n { x with cells := x.cells ++ [c] }) := by
  have hnl := (List.getElem?_eq_some_iff.1 hn).1
  have hbut := But.grown hgrow
  have ho2 : w2.ownsRow base 39 5 (.slice (some ⟨g, 0, none⟩) P.length cap) P.length vss.flatten := own_but h.own hbut fun gg hg => by
    obtain ⟨cs, hB⟩ := own_kind h.own gg hg
    exact own_ne h4 hB (by decide)
  have hst := (ho2.stored (n * 5 + 4) (.slice (some ⟨g2, 0, none⟩) (x.cells.length + 1) cap2)).1
  rw [flatten_set5 vss h.len5 n 4 _ _ h1 (by omega)] at hst
  have hfar : ∀ (u' : Value) (e : TypeId) (size m : Nat) (xs : List Value), e ≠ 39 → w2.ownsRow base e size u' m xs → (w2.setCell ⟨g, n * 5 + 4, none⟩ (.slice (some ⟨g2, 0, none⟩) (x.cells.length + 1) cap2)).ownsRow base e size u' m xs := fun u' e size m xs he hu => ownsRow_setCell_other hu (fun e' => by
    obtain ⟨cs, hB⟩ := own_kind hu g e'
    exact own_ne ho2 hB he rfl) _
  obtain ⟨_, _, e9, ⟨hrow, _, _⟩, hty⟩ := RowT.of_own hst
  cases e9
  refine ⟨_, by rw [List.length_set, List.length_set]; exact h.len, fun k y hy => ?_, hrow, hty⟩
  by_cases hk : n = k
  · subst hk
    rw [List.getElem?_set_self hnl] at hy
    cases hy
    have h32 := own_but h3 hbut fun gg hg => by
      obtain ⟨cs, hB⟩ := own_kind h3 gg hg
      exact own_ne h4 hB (by decide)
    obtain ⟨A1, c1, rfl, r1⟩ := RowT.of_own (hfar _ _ _ _ _ (by decide) h32)
    obtain ⟨A2, c2, e2, r2⟩ := RowT.of_own (hfar _ _ _ _ _ (by decide) hown')
    cases e2
    refine ⟨_, List.getElem?_set_self (by rw [h.len]; exact hnl), A1, c1, some ⟨g2, 0, none⟩, cap2, ?_, r1, ?_⟩
    · simp
    · dsimp only
      rw [List.length_append, cellsP_snoc]
      exact r2
  · rw [List.getElem?_set_ne hk] at hy
    obtain ⟨vs', e1, u3, u4, rfl, q3, q4⟩ := h.nodes k y hy
    have q32 := own_but q3 hbut fun gg hg => by
      obtain ⟨cs, hB⟩ := own_kind q3 gg hg
      exact own_ne h4 hB (by decide)
    have q42 : w2.ownsRow base 40 2 u4 y.cells.length (cellsP y.cells) := own_but q4 hbut fun gg hg hgg => h4d n k _ _ hk h1 e1 gg (by show v4.ownBlock = _; exact hgg.symm) (by show u4.ownBlock = _; exact hg)
    obtain ⟨A1, c1, rfl, r1⟩ := RowT.of_own (hfar _ _ _ _ _ (by decide) q32)
    obtain ⟨A2, c2, rfl, r2⟩ := RowT.of_own (hfar _ _ _ _ _ (by decide) q42)
    exact ⟨_, by rw [List.getElem?_set_ne hk]; exact e1, A1, c1, A2, c2, rfl, r1, r2⟩
end
end Go.Proofs.YthnphekhgaefdaaDoor
