/-
  Rows of the reference's nodes that grow: what stays when nodes and children are appended.
-/
import Derived.Test.YthnphekhgaefdaaDoorRr5
import Derived.Test.YthnphekhgaefdaaDoorRn3
namespace Go.Proofs.YthnphekhgaefdaaDoor
open Go.RowKit

theorem info_node : (Tryd.prog.info? 39).map (fun i => (i.zero, i.size, i.bytes)) = some (some (.agg #[.int .i64 0, .int .i64 0, .int .i64 0, .slice none 0 0, .slice none 0 0]), 5, 72) := by kernel_rfl
/-- All blocks stay but those of nodes and of numbers. -/
def KeepT (w w' : World) : Prop := w.heap.size ≤ w'.heap.size ∧ ∀ (g : Nat) t cs, t ≠ 39 → t ≠ 3 → Blk w g t cs → Blk w' g t cs
theorem KeepT.refl (w : World) : KeepT w w := ⟨Nat.le_refl _, fun _ _ _ _ _ h => h⟩
theorem KeepT.trans {w w' w'' : World} (h : KeepT w w') (k : KeepT w' w'') : KeepT w w'' := ⟨Nat.le_trans h.1 k.1, fun g t cs h1 h2 hb => k.2 g t cs h1 h2 (h.2 g t cs h1 h2 hb)⟩
theorem KeepT.of_below {w w' : World} (h : Below w.heap.size w w') : KeepT w w' := ⟨h.size, fun _ _ _ _ _ hb => hb.below h hb.lt⟩
theorem KeepT.grown {w w' : World} {base n size : Nat} {e : TypeId} {v : Value} {xs : List Value} (hg : w.grownBy w' v.ownBlock) (h : w.ownsRow base e size v n xs) (he : e = 39 ∨ e = 3) : KeepT w w' :=
  ⟨hg.size, fun g t cs h1 h2 hb => (hg.block g hb.lt (own_ne h hb (by rcases he with rfl | rfl; exact h1; exact h2))).trans hb⟩
theorem KeepT.setCell {w : World} {p : Addr} {t : TypeId} {cs : Array Value} (hB : Blk w p.block t cs) (ht : t = 39 ∨ t = 3) (u : Value) : KeepT w (w.setCell p u) :=
  ⟨by simp [World.setCell], fun g t' cs' h1 h2 hb => (Below.heap_setCell w p u g fun e => by
    subst e
    unfold Blk at hB hb
    rw [hB] at hb; cases hb
    rcases ht with rfl | rfl
    · exact h1 rfl
    · exact h2 rfl).trans hb⟩
theorem Blk.kt {w w' : World} {g : Nat} {t : TypeId} {cs : Array Value} (hb : Blk w g t cs) (h : KeepT w w') (h1 : t ≠ 39) (h2 : t ≠ 3) : Blk w' g t cs := h.2 g t cs h1 h2 hb
theorem own_kt {w w' : World} {base n size : Nat} {e : TypeId} {v : Value} {xs : List Value} (h : w.ownsRow base e size v n xs) (k : KeepT w w') (h1 : e ≠ 39) (h2 : e ≠ 3) : w'.ownsRow base e size v n xs := by
  refine ⟨h.1, h.2.imp id ?_⟩
  rintro ⟨g, cap, cur, hv, hg, hb, r⟩
  exact ⟨g, cap, cur, hv, hg, k.2 g e cur h1 h2 hb, r⟩
theorem OwnP.kt {w w' : World} {base : Nat} {v : Value} {l : List (Int × Int)} (h : OwnP w base v l) (k : KeepT w w') : OwnP w' base v l := own_kt h k (by decide) (by decide)

/-- The cells of a node of the reference's: its rows are the call's own. -/
def RNodeAt (w : World) (base : Nat) (vs : List Value) (x : Nd) : Prop := ∃ v3 v4, vs = [.int .i64 x.kind, .int .i64 x.row, .int .i64 x.col, v3, v4] ∧ w.ownsRow base 3 1 v3 x.ch.length (x.ch.map (.int .i64)) ∧ OwnP w base v4 x.cells
def chB (vs : List Value) : Option Nat := (vs.getD 3 undef).ownBlock
structure ON (w : World) (base : Nat) (v : Value) (P : List Nd) (vss : List (List Value)) : Prop where
  len : vss.length = P.length
  nodes : ∀ (k : Nat) x, P[k]? = some x → ∃ vs, vss[k]? = some vs ∧ RNodeAt w base vs x
  dist : ∀ (i j : Nat) a b, i ≠ j → vss[i]? = some a → vss[j]? = some b → ∀ g, chB a = some g → chB b ≠ some g
  own : w.ownsRow base 39 5 v P.length vss.flatten
def OwnN (w : World) (base : Nat) (v : Value) (P : List Nd) : Prop := ∃ vss, ON w base v P vss
theorem OwnN.nil (w : World) (base : Nat) : OwnN w base (.slice none 0 0) [] := ⟨[], rfl, fun k x h => by simp at h, fun i j a b _ h => by simp at h, World.ownsRow_nil _ _ _ _⟩
section
variable {w w' : World} {base : Nat} {v : Value} {P : List Nd} {vss : List (List Value)} {vs : List Value} {x : Nd}
theorem RNodeAt.len (h : RNodeAt w base vs x) : vs.length = 5 := by obtain ⟨_, _, rfl, _⟩ := h; rfl
theorem RNodeAt.below (h : RNodeAt w base vs x) (hb : Below w.heap.size w w') : RNodeAt w' base vs x := by
  obtain ⟨v3, v4, h1, h2, h3⟩ := h; exact ⟨v3, v4, h1, own_below h2 hb, h3.below hb⟩
theorem ON.len5 (h : ON w base v P vss) : ∀ vs ∈ vss, vs.length = 5 := fun vs hvs => by
  obtain ⟨i, hi, e⟩ := List.getElem_of_mem hvs
  obtain ⟨vs', e', hn⟩ := h.nodes i _ (List.getElem?_eq_getElem (by rw [← h.len]; exact hi))
  rw [List.getElem?_eq_getElem hi, Option.some.injEq] at e'
  rw [← e, e']; exact hn.len
theorem ON.below (h : ON w base v P vss) (hb : Below w.heap.size w w') : ON w' base v P vss :=
  ⟨h.len, fun k x hx => by obtain ⟨vs, h1, h2⟩ := h.nodes k x hx; exact ⟨vs, h1, h2.below hb⟩, h.dist, own_below h.own hb⟩
theorem OwnN.below (h : OwnN w base v P) (hb : Below w.heap.size w w') : OwnN w' base v P := by obtain ⟨vss, h⟩ := h; exact ⟨vss, h.below hb⟩
/-- A node's rows stay where only a block of nodes is written. -/
theorem RNodeAt.but_node {u : Value} {b0 n size : Nat} {xs : List Value} (h : RNodeAt w base vs x) (hb : But u.ownBlock w w') (hu : w.ownsRow b0 39 size u n xs) : RNodeAt w' base vs x := by
  obtain ⟨v3, v4, h1, h2, h3⟩ := h
  refine ⟨v3, v4, h1, own_but h2 hb fun g hg => ?_, own_but h3 hb fun g hg => ?_⟩
  · obtain ⟨cs, hB⟩ := own_kind h2 g hg
    exact own_ne hu hB (by decide)
  · obtain ⟨cs, hB⟩ := own_kind h3 g hg
    exact own_ne hu hB (by decide)
/-- One node more. -/
theorem ON.app {v' : Value} {cells : List Value} (h : ON w base v P vss) (hx : RNodeAt w base cells x) (hc : chB cells = none) (hgrow : w.grownBy w' v.ownBlock) (hown' : w'.ownsRow base 39 5 v' (P.length + 1) (vss.flatten ++ cells)) : ON w' base v' (P ++ [x]) (vss ++ [cells]) := by
  refine ⟨by simp [h.len], fun k y hy => ?_, fun i j a b hij ha hb g hg => ?_, by simpa using hown'⟩
  · by_cases hk : k < P.length
    · rw [List.getElem?_append_left hk] at hy
      obtain ⟨vs, h1, h2⟩ := h.nodes k y hy
      exact ⟨vs, by rw [List.getElem?_append_left (by rw [h.len]; exact hk)]; exact h1, h2.but_node (But.grown hgrow) h.own⟩
    · obtain rfl : k = P.length := by have := (List.getElem?_eq_some_iff.1 hy).1; simp at this; omega
      rw [List.getElem?_append_right (Nat.le_refl _), Nat.sub_self] at hy
      obtain rfl : x = y := by simpa using hy
      exact ⟨cells, by rw [← h.len, List.getElem?_append_right (Nat.le_refl _), Nat.sub_self]; rfl, hx.but_node (But.grown hgrow) h.own⟩
  · have key : ∀ (i : Nat) (a : List Value), (vss ++ [cells])[i]? = some a → chB a ≠ none → vss[i]? = some a := fun i a ha hn => by
      by_cases hi : i < vss.length
      · rwa [List.getElem?_append_left hi] at ha
      · rw [List.getElem?_append_right (by omega)] at ha
        have : i - vss.length = 0 := by have := (List.getElem?_eq_some_iff.1 ha).1; simp at this; omega
        rw [this] at ha
        obtain rfl : cells = a := by simpa using ha
        exact absurd hc hn
    intro hg2
    have ha' := key i a ha (by rw [hg]; simp)
    have hb' := key j b hb (by rw [hg2]; simp)
    exact h.dist i j a b hij ha' hb' g hg hg2
/-- A node's cells within the row. -/
theorem ON.cells (h : ON w base v P vss) {n : Nat} (hn : P[n]? = some x) : ∃ g cap v3 v4, v = .slice (some ⟨g, 0, none⟩) P.length cap ∧ vss[n]? = some [.int .i64 x.kind, .int .i64 x.row, .int .i64 x.col, v3, v4] ∧ w.ownsRow base 3 1 v3 x.ch.length (x.ch.map (.int .i64)) ∧ OwnP w base v4 x.cells ∧ w.cell? ⟨g, n * 5 + 3, none⟩ = some v3 ∧ (∃ cs, Blk w g 39 cs) ∧ base ≤ g ∧ P.length ≤ cap := by
  obtain ⟨vs, h1, v3, v4, rfl, h3, h4⟩ := h.nodes n x hn
  have hlt := (List.getElem?_eq_some_iff.1 hn).1
  rcases id h.own.2 with ⟨hv, h0⟩ | ⟨g, cap, cur, hv, hg, hB, hnc, -, -, -⟩
  · omega
  · subst hv
    have hc := h.own.cellAt (n * 5 + 3) (by omega)
    rw [flatten5 vss h.len5 n 3 _ h1 (by omega)] at hc
    exact ⟨g, cap, v3, v4, rfl, h1, h3, h4, hc, ⟨cur, hB⟩, hg, hnc⟩
theorem flatten_set5 : ∀ (vss : List (List Value)), (∀ vs ∈ vss, vs.length = 5) → ∀ (k r : Nat) (vs : List Value) (u : Value), vss[k]? = some vs → r < 5 → vss.flatten.set (k * 5 + r) u = (vss.set k (vs.set r u)).flatten
  | [], _, _, _, _, _, h, _ => by simp at h
  | a :: l, h5, 0, r, vs, u, h, hr => by
    obtain rfl : a = vs := by simpa using h
    have := h5 a (by simp)
    rw [List.flatten_cons, Nat.zero_mul, Nat.zero_add, List.set_append_left _ _ (by omega), List.set_cons_zero, List.flatten_cons]
  | a :: l, h5, k + 1, r, vs, u, h, hr => by
    have ha := h5 a (by simp)
    rw [List.flatten_cons, List.set_append_right _ _ (by omega), ha, show (k + 1) * 5 + r - 5 = k * 5 + r by omega, List.set_cons_succ, List.flatten_cons]
    rw [flatten_set5 l (fun x hx => h5 x (by simp [hx])) k r vs u (by simpa using h) hr]
/-- A child more: appended to the node's row, and the row's header stored. -/
theorem ON.kid {w2 : World} {n g g2 cap cap2 : Nat} {v3 v4 : Value} {c : Int} (h : ON w base (.slice (some ⟨g, 0, none⟩) P.length cap) P vss) (hn : P[n]? = some x) (h1 : vss[n]? = some [.int .i64 x.kind, .int .i64 x.row, .int .i64 x.col, v3, v4])
    (h3 : w.ownsRow base 3 1 v3 x.ch.length (x.ch.map (.int .i64))) (h4 : OwnP w base v4 x.cells)
    (hown' : w2.ownsRow base 3 1 (.slice (some ⟨g2, 0, none⟩) (x.ch.length + 1) cap2) (x.ch.length + 1) (x.ch.map (.int .i64) ++ [.int .i64 c])) (hgrow : w.grownBy w2 v3.ownBlock) (hat : v3.ownBlock = some g2 ∨ g2 = w.heap.size) :
    ON (w2.setCell ⟨g, n * 5 + 3, none⟩ (.slice (some ⟨g2, 0, none⟩) (x.ch.length + 1) cap2)) base (.slice (some ⟨g, 0, none⟩) P.length cap) (P.set n { x with ch := x.ch ++ [c] }) (vss.set n [.int .i64 x.kind, .int .i64 x.row, .int .i64 x.col, .slice (some ⟨g2, 0, none⟩) (x.ch.length + 1) cap2, v4]) := by
  have hnl := (List.getElem?_eq_some_iff.1 hn).1
  have hbut := But.grown hgrow
  -- the row of nodes after the append
  have ho2 : w2.ownsRow base 39 5 (.slice (some ⟨g, 0, none⟩) P.length cap) P.length vss.flatten := own_but h.own hbut fun gg hg => by
    obtain ⟨cs, hB⟩ := own_kind h.own gg hg
    exact own_ne h3 hB (by decide)
  have hst := (ho2.stored (n * 5 + 3) (.slice (some ⟨g2, 0, none⟩) (x.ch.length + 1) cap2)).1
  rw [flatten_set5 vss h.len5 n 3 _ _ h1 (by omega)] at hst
  have hb2 : But (some g) w2 (w2.setCell ⟨g, n * 5 + 3, none⟩ (.slice (some ⟨g2, 0, none⟩) (x.ch.length + 1) cap2)) := But.setCell w2 ⟨g, n * 5 + 3, none⟩ _
  have hgne : ∀ (u : Value) (e : TypeId) (size m : Nat) (xs : List Value), e ≠ 39 → w2.ownsRow base e size u m xs → ∀ gg, u.ownBlock = some gg → some gg ≠ some g := fun u e size m xs he hu gg hg => by
    obtain ⟨cs, hB⟩ := own_kind hu gg hg
    exact own_ne ho2 hB he
  refine ⟨by rw [List.length_set, List.length_set]; exact h.len, fun k y hy => ?_, fun i j a b hij ha hb gg hg => ?_, by rw [List.length_set]; exact hst⟩
  · by_cases hk : n = k
    · subst hk
      rw [List.getElem?_set_self (by exact hnl)] at hy
      cases hy
      refine ⟨_, List.getElem?_set_self (by rw [h.len]; exact hnl), _, v4, rfl, ?_, ?_⟩
      · have := own_but hown' hb2 (hgne _ _ _ _ _ (by decide) hown')
        simpa using this
      · have h42 : OwnP w2 base v4 x.cells := own_but h4 hbut fun gg hg => by
          obtain ⟨cs, hB⟩ := own_kind h4 gg hg
          exact own_ne h3 hB (by decide)
        exact own_but h42 hb2 (hgne _ _ _ _ _ (by decide) h42)
    · rw [List.getElem?_set_ne hk] at hy
      obtain ⟨vs, e1, u3, u4, rfl, k3, k4⟩ := h.nodes k y hy
      refine ⟨_, by rw [List.getElem?_set_ne hk]; exact e1, u3, u4, rfl, ?_, ?_⟩
      · have k32 := own_but k3 hbut fun gg hg hgg => h.dist n k _ _ hk h1 e1 gg (by show v3.ownBlock = _; exact hgg.symm) (by show u3.ownBlock = _; exact hg)
        exact own_but k32 hb2 (hgne _ _ _ _ _ (by decide) k32)
      · have k42 : OwnP w2 base u4 y.cells := own_but k4 hbut fun gg hg => by
          obtain ⟨cs, hB⟩ := own_kind k4 gg hg
          exact own_ne h3 hB (by decide)
        exact own_but k42 hb2 (hgne _ _ _ _ _ (by decide) k42)
  · -- the rows stay in different blocks
    have hold : ∀ (k : Nat) (a : List Value), k ≠ n → vss[k]? = some a → ∀ gg, chB a = some gg → gg < w.heap.size := fun k a hk ha gg hg => by
      have hkl : k < P.length := by rw [← h.len]; exact (List.getElem?_eq_some_iff.1 ha).1
      obtain ⟨vs, e1, u3, u4, rfl, k3, _⟩ := h.nodes k _ (List.getElem?_eq_getElem hkl)
      rw [e1] at ha
      cases ha
      obtain ⟨cs, hB⟩ := own_kind k3 gg hg
      exact hB.lt
    have hnew : ∀ (k : Nat) (a : List Value), k ≠ n → vss[k]? = some a → ∀ gg, chB a = some gg → gg ≠ g2 := fun k2 a2 hk2 ha2 gg2 hgg2 e => by
      rcases hat with hat | hat
      · exact h.dist n k2 _ _ (Ne.symm hk2) h1 ha2 gg2 (by rw [e]; exact hat) hgg2
      · have := hold k2 a2 hk2 ha2 gg2 hgg2; omega
    by_cases hi : n = i
    · subst hi
      rw [List.getElem?_set_self (by rw [h.len]; exact hnl)] at ha
      cases ha
      rw [List.getElem?_set_ne hij] at hb
      have hg2 : gg = g2 := by simpa [chB, Value.ownBlock] using hg.symm
      intro hbg
      exact hnew j b (Ne.symm hij) hb gg hbg hg2
    · rw [List.getElem?_set_ne hi] at ha
      by_cases hj : n = j
      · subst hj
        rw [List.getElem?_set_self (by rw [h.len]; exact hnl)] at hb
        cases hb
        intro hbg
        have hg2 : gg = g2 := by simpa [chB, Value.ownBlock] using hbg.symm
        exact hnew i a (Ne.symm hi) ha gg hg hg2
      · rw [List.getElem?_set_ne hj] at hb
        exact h.dist i j a b hij ha hb gg hg
end
theorem kidsL_snoc (g : Nat → Nat → List Nd) : ∀ (l : List Nat) (off s : Nat), kidsL g off (l ++ [s]) = ((kidsL g off l).1 ++ g (off + (kidsL g off l).1.length) s, (kidsL g off l).2 ++ [((off + (kidsL g off l).1.length : Nat) : Int)])
  | [], off, s => by simp [kidsL]
  | t :: l, off, s => by
    rw [List.cons_append, kidsL, kidsL_snoc g l, kidsL]
    dsimp only
    rw [List.length_append, ← Nat.add_assoc, List.append_assoc, List.cons_append]
theorem growL_len (C : Nat) (Ns : List Nat) (last : Bool) (hC : C ≤ 5) : ∀ (b off : Nat) (o : List (Nat × Nat)), (growL C Ns last b off o).length ≤ 33 ^ b
  | 0, off, o => by simp [growL]
  | b + 1, off, o => by
    rw [growL]
    split
    · exact Nat.one_le_pow _ _ (by omega)
    · have hk : ∀ (l : List Nat) (off : Nat), (kidsL (fun off s => growL C Ns last b off (lessL C Ns o s)) off l).1.length ≤ l.length * 33 ^ b := by
        intro l
        induction l with
        | nil => intro off; simp [kidsL]
        | cons s l ih =>
          intro off
          rw [kidsL]
          dsimp only
          have h1 := growL_len C Ns last hC b off (lessL C Ns o s)
          have h2 := ih (off + (growL C Ns last b off (lessL C Ns o s)).length)
          rw [List.length_append, List.length_cons, Nat.add_mul, Nat.one_mul]
          omega
      have h1 := hk (conL C Ns (cellL last o).1 (cellL last o).2) (off + 1)
      have h2 := con_len (C := C) Ns (cellL last o).1 (cellL last o).2
      have h3 : 2 ^ C ≤ 32 := Nat.le_trans (Nat.pow_le_pow_right (by omega) hC) (by decide)
      have h4 : (conL C Ns (cellL last o).1 (cellL last o).2).length * 33 ^ b ≤ 32 * 33 ^ b := Nat.mul_le_mul_right _ (Nat.le_trans h2 h3)
      have h5 : 1 ≤ 33 ^ b := Nat.one_le_pow _ _ (by omega)
      rw [List.length_cons, Nat.pow_succ]
      omega
end Go.Proofs.YthnphekhgaefdaaDoor
