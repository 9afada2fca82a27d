import Derived.Test.YtfbkcdhmggjbaaaGreatDoorCvQ4
import Derived.Test.YtfbkcdhmggjbaaaGreatDoorCvQ3
/-
  Rows of nodes of the program's, typed: each node's own rows in blocks of their own (XRr6 once more, for rank.Node).
-/
namespace Go.Proofs.YtfbkcdhmggjbaaaGreatDoor
open Go.RowKit

/-- The cells of a node of the reference's: its rows are the call's own. -/
def GNodeAt (w : World) (base : Nat) (vs : List Value) (x : Nd) : Prop := ∃ v3 v4, vs = [.int .u8 x.kind, .int .i64 x.row, .int .i64 x.col, v3, v4] ∧ w.ownsRow base 3 1 v3 x.ch.length (x.ch.map (.int .i64)) ∧ OwnP w base v4 x.cells
def chG (vs : List Value) : Option Nat := (vs.getD 3 undef).ownBlock
structure GN (w : World) (base : Nat) (v : Value) (P : List Nd) (vss : List (List Value)) : Prop where
  len : vss.length = P.length
  nodes : ∀ (k : Nat) x, P[k]? = some x → ∃ vs, vss[k]? = some vs ∧ GNodeAt w base vs x
  dist : ∀ (i j : Nat) a b, i ≠ j → vss[i]? = some a → vss[j]? = some b → ∀ g, chG a = some g → chG b ≠ some g
  own : w.ownsRow base 141 5 v P.length vss.flatten
def OwnG (w : World) (base : Nat) (v : Value) (P : List Nd) : Prop := ∃ vss, GN w base v P vss
theorem OwnG.nil (w : World) (base : Nat) : OwnG w base (.slice none 0 0) [] := ⟨[], rfl, fun k x h => by simp at h, fun i j a b _ h => by simp at h, World.ownsRow_nil _ _ _ _⟩
section
variable {w w' : World} {base : Nat} {v : Value} {P : List Nd} {vss : List (List Value)} {vs : List Value} {x : Nd}
theorem GNodeAt.len (h : GNodeAt w base vs x) : vs.length = 5 := by obtain ⟨_, _, rfl, _⟩ := h; rfl
theorem GNodeAt.below (h : GNodeAt w base vs x) (hb : Below w.heap.size w w') : GNodeAt w' base vs x := by
  obtain ⟨v3, v4, h1, h2, h3⟩ := h; exact ⟨v3, v4, h1, own_below h2 hb, h3.below hb⟩
theorem GN.len5 (h : GN w base v P vss) : ∀ vs ∈ vss, vs.length = 5 := fun vs hvs => by
  obtain ⟨i, hi, e⟩ := List.getElem_of_mem hvs
  obtain ⟨vs', e', hn⟩ := h.nodes i _ (List.getElem?_eq_getElem (by rw [← h.len]; exact hi))
  rw [List.getElem?_eq_getElem hi, Option.some.injEq] at e'
  rw [← e, e']; exact hn.len
theorem GN.below (h : GN w base v P vss) (hb : Below w.heap.size w w') : GN w' base v P vss :=
  ⟨h.len, fun k x hx => by obtain ⟨vs, h1, h2⟩ := h.nodes k x hx; exact ⟨vs, h1, h2.below hb⟩, h.dist, own_below h.own hb⟩
theorem OwnG.below (h : OwnG w base v P) (hb : Below w.heap.size w w') : OwnG w' base v P := by obtain ⟨vss, h⟩ := h; exact ⟨vss, h.below hb⟩
/-- A node's rows stay where only a block of nodes is written. -/
theorem GNodeAt.but_node {u : Value} {b0 n size : Nat} {xs : List Value} (h : GNodeAt w base vs x) (hb : But u.ownBlock w w') (hu : w.ownsRow b0 141 size u n xs) : GNodeAt w' base vs x := by
  obtain ⟨v3, v4, h1, h2, h3⟩ := h
  refine ⟨v3, v4, h1, own_but h2 hb fun g hg => ?_, own_but h3 hb fun g hg => ?_⟩
  · obtain ⟨cs, hB⟩ := own_kind h2 g hg
    exact own_ne hu hB (by decide)
  · obtain ⟨cs, hB⟩ := own_kind h3 g hg
    exact own_ne hu hB (by decide)
/-- One node more. -/
theorem GN.app {v' : Value} {cells : List Value} (h : GN w base v P vss) (hx : GNodeAt w base cells x) (hc : chG cells = none) (hgrow : w.grownBy w' v.ownBlock) (hown' : w'.ownsRow base 141 5 v' (P.length + 1) (vss.flatten ++ cells)) : GN w' base v' (P ++ [x]) (vss ++ [cells]) := by
  refine ⟨by simp [h.len], fun k y hy => ?_, fun i j a b hij ha hb g hg => ?_, by simpa using hown'⟩
  · by_cases hk : k < P.length
    · rw [List.getElem?_append_left hk] at hy
      obtain ⟨vs, h1, h2⟩ := h.nodes k y hy
      exact ⟨vs, by rw [List.getElem?_append_left (by rw [h.len]; exact hk)]; exact h1, h2.but_node (But.grown hgrow) h.own⟩
    · obtain rfl : k = P.length := by have := (List.getElem?_eq_some_iff.1 hy).1; simp at this; omega
      rw [List.getElem?_append_right (Nat.le_refl _), Nat.sub_self] at hy
      obtain rfl : x = y := by simpa using hy
      exact ⟨cells, by rw [← h.len, List.getElem?_append_right (Nat.le_refl _), Nat.sub_self]; rfl, hx.but_node (But.grown hgrow) h.own⟩
  · have key : ∀ (i : Nat) (a : List Value), (vss ++ [cells])[i]? = some a → chG a ≠ none → vss[i]? = some a := fun i a ha hn => by
      by_cases hi : i < vss.length
      · rwa [List.getElem?_append_left hi] at ha
      · rw [List.getElem?_append_right (by omega)] at ha
        have : i - vss.length = 0 := by have := (List.getElem?_eq_some_iff.1 ha).1; simp at this; omega
        rw [this] at ha
        obtain rfl : cells = a := by simpa using ha
        exact absurd hc hn
    intro hg2
    have ha' := key i a ha (by rw [hg]; simp)
    have hb' := key j b hb (by rw [hg2]; simp)
    exact h.dist i j a b hij ha' hb' g hg hg2
/-- A node's cells within the row. -/
theorem GN.cells (h : GN w base v P vss) {n : Nat} (hn : P[n]? = some x) : ∃ g cap v3 v4, v = .slice (some ⟨g, 0, none⟩) P.length cap ∧ vss[n]? = some [.int .u8 x.kind, .int .i64 x.row, .int .i64 x.col, v3, v4] ∧ w.ownsRow base 3 1 v3 x.ch.length (x.ch.map (.int .i64)) ∧ OwnP w base v4 x.cells ∧ w.cell? ⟨g, n * 5 + 3, none⟩ = some v3 ∧ (∃ cs, Blk w g 141 cs) ∧ base ≤ g ∧ P.length ≤ cap := by
  obtain ⟨vs, h1, v3, v4, rfl, h3, h4⟩ := h.nodes n x hn
  have hlt := (List.getElem?_eq_some_iff.1 hn).1
  rcases id h.own.2 with ⟨hv, h0⟩ | ⟨g, cap, cur, hv, hg, hB, hnc, -, -, -⟩
  · omega
  · subst hv
    have hc := h.own.cellAt (n * 5 + 3) (by omega)
    rw [flatten5 vss h.len5 n 3 _ h1 (by omega)] at hc
    exact ⟨g, cap, v3, v4, rfl, h1, h3, h4, hc, ⟨cur, hB⟩, hg, hnc⟩
theorem flatten_set5G : ∀ (vss : List (List Value)), (∀ vs ∈ vss, vs.length = 5) → ∀ (k r : Nat) (vs : List Value) (u : Value), vss[k]? = some vs → r < 5 → vss.flatten.set (k * 5 + r) u = (vss.set k (vs.set r u)).flatten
  | [], _, _, _, _, _, h, _ => by simp at h
  | a :: l, h5, 0, r, vs, u, h, hr => by
    obtain rfl : a = vs := by simpa using h
    have := h5 a (by simp)
    rw [List.flatten_cons, Nat.zero_mul, Nat.zero_add, List.set_append_left _ _ (by omega), List.set_cons_zero, List.flatten_cons]
  | a :: l, h5, k + 1, r, vs, u, h, hr => by
    have ha := h5 a (by simp)
    rw [List.flatten_cons, List.set_append_right _ _ (by omega), ha, show (k + 1) * 5 + r - 5 = k * 5 + r by omega, List.set_cons_succ, List.flatten_cons]
    rw [flatten_set5G l (fun x hx => h5 x (by simp [hx])) k r vs u (by simpa using h) hr]
/-- A child more: appended to the node's row, and the row's header stored. -/
theorem GN.kid {w2 : World} {n g g2 cap cap2 : Nat} {v3 v4 : Value} {c : Int} (h : GN w base (.slice (some ⟨g, 0, none⟩) P.length cap) P vss) (hn : P[n]? = some x) (h1 : vss[n]? = some [.int .u8 x.kind, .int .i64 x.row, .int .i64 x.col, v3, v4])
    (h3 : w.ownsRow base 3 1 v3 x.ch.length (x.ch.map (.int .i64))) (h4 : OwnP w base v4 x.cells)
    (hown' : w2.ownsRow base 3 1 (.slice (some ⟨g2, 0, none⟩) (x.ch.length + 1) cap2) (x.ch.length + 1) (x.ch.map (.int .i64) ++ [.int .i64 c])) (hgrow : w.grownBy w2 v3.ownBlock) (hat : v3.ownBlock = some g2 ∨ g2 = w.heap.size) :
    GN (w2.setCell ⟨g, n * 5 + 3, none⟩ (.slice (some ⟨g2, 0, none⟩) (x.ch.length + 1) cap2)) base (.slice (some ⟨g, 0, none⟩) P.length cap) (P.set n { x with ch := x.ch ++ [c] }) (vss.set n [.int .u8 x.kind, .int .i64 x.row, .int .i64 x.col, .slice (some ⟨g2, 0, none⟩) (x.ch.length + 1) cap2, v4]) := by
  have hnl := (List.getElem?_eq_some_iff.1 hn).1
  have hbut := But.grown hgrow
  -- the row of nodes after the append
  have ho2 : w2.ownsRow base 141 5 (.slice (some ⟨g, 0, none⟩) P.length cap) P.length vss.flatten := own_but h.own hbut fun gg hg => by
    obtain ⟨cs, hB⟩ := own_kind h.own gg hg
    exact own_ne h3 hB (by decide)
  have hst := (ho2.stored (n * 5 + 3) (.slice (some ⟨g2, 0, none⟩) (x.ch.length + 1) cap2)).1
  rw [flatten_set5G vss h.len5 n 3 _ _ h1 (by omega)] at hst
  have hb2 : But (some g) w2 (w2.setCell ⟨g, n * 5 + 3, none⟩ (.slice (some ⟨g2, 0, none⟩) (x.ch.length + 1) cap2)) := But.setCell w2 ⟨g, n * 5 + 3, none⟩ _
  have hgne : ∀ (u : Value) (e : TypeId) (size m : Nat) (xs : List Value), e ≠ 141 → w2.ownsRow base e size u m xs → ∀ gg, u.ownBlock = some gg → some gg ≠ some g := fun u e size m xs he hu gg hg => by
    obtain ⟨cs, hB⟩ := own_kind hu gg hg
    exact own_ne ho2 hB he
  refine ⟨by rw [List.length_set, List.length_set]; exact h.len, fun k y hy => ?_, fun i j a b hij ha hb gg hg => ?_, by rw [List.length_set]; exact hst⟩
  · by_cases hk : n = k
    · subst hk
      rw [List.getElem?_set_self (by exact hnl)] at hy
      cases hy
      refine ⟨_, List.getElem?_set_self (by rw [h.len]; exact hnl), _, v4, rfl, ?_, ?_⟩
      · have := own_but hown' hb2 (hgne _ _ _ _ _ (by decide) hown')
        simpa using this
      · have h42 : OwnP w2 base v4 x.cells := own_but h4 hbut fun gg hg => by
          obtain ⟨cs, hB⟩ := own_kind h4 gg hg
          exact own_ne h3 hB (by decide)
        exact own_but h42 hb2 (hgne _ _ _ _ _ (by decide) h42)
    · rw [List.getElem?_set_ne hk] at hy
      obtain ⟨vs, e1, u3, u4, rfl, k3, k4⟩ := h.nodes k y hy
      refine ⟨_, by rw [List.getElem?_set_ne hk]; exact e1, u3, u4, rfl, ?_, ?_⟩
      · have k32 := own_but k3 hbut fun gg hg hgg => h.dist n k _ _ hk h1 e1 gg (by show v3.ownBlock = _; exact hgg.symm) (by show u3.ownBlock = _; exact hg)
        exact own_but k32 hb2 (hgne _ _ _ _ _ (by decide) k32)
      · have k42 : OwnP w2 base u4 y.cells := own_but k4 hbut fun gg hg => by
          obtain ⟨cs, hB⟩ := own_kind k4 gg hg
          exact own_ne h3 hB (by decide)
        exact own_but k42 hb2 (hgne _ _ _ _ _ (by decide) k42)
  · -- the rows stay in different blocks
    have hold : ∀ (k : Nat) (a : List Value), k ≠ n → vss[k]? = some a → ∀ gg, chG a = some gg → gg < w.heap.size := fun k a hk ha gg hg => by
      have hkl : k < P.length := by rw [← h.len]; exact (List.getElem?_eq_some_iff.1 ha).1
      obtain ⟨vs, e1, u3, u4, rfl, k3, _⟩ := h.nodes k _ (List.getElem?_eq_getElem hkl)
      rw [e1] at ha
      cases ha
      obtain ⟨cs, hB⟩ := own_kind k3 gg hg
      exact hB.lt
    have hnew : ∀ (k : Nat) (a : List Value), k ≠ n → vss[k]? = some a → ∀ gg, chG a = some gg → gg ≠ g2 := fun k2 a2 hk2 ha2 gg2 hgg2 e => by
      rcases hat with hat | hat
      · exact h.dist n k2 _ _ (Ne.symm hk2) h1 ha2 gg2 (by rw [e]; exact hat) hgg2
      · have := hold k2 a2 hk2 ha2 gg2 hgg2; omega
    by_cases hi : n = i
    · subst hi
      rw [List.getElem?_set_self (by rw [h.len]; exact hnl)] at ha
      cases ha
      rw [List.getElem?_set_ne hij] at hb
      have hg2 : gg = g2 := by simpa [chG, Value.ownBlock] using hg.symm
      intro hbg
      exact hnew j b (Ne.symm hij) hb gg hbg hg2
    · rw [List.getElem?_set_ne hi] at ha
      by_cases hj : n = j
      · subst hj
        rw [List.getElem?_set_self (by rw [h.len]; exact hnl)] at hb
        cases hb
        intro hbg
        have hg2 : gg = g2 := by simpa [chG, Value.ownBlock] using hbg.symm
        exact hnew i a (Ne.symm hi) ha gg hg hg2
      · rw [List.getElem?_set_ne hj] at hb
        exact h.dist i j a b hij ha hb gg hg
end
end Go.Proofs.YtfbkcdhmggjbaaaGreatDoor

/-
  Plain: what grow appends.
-/
namespace Go.Proofs.YtfbkcdhmggjbaaaGreatDoor
open Go.RowKit

/-- The cells that grow tries. -/
def CellsG (C : Nat) (Ns : List Nat) (b : Nat) (o cells : List (Nat × Nat)) : Prop := if b = 1 ∧ (foolL C Ns o).length < 2 then PairOK C Ns o cells else cells = foolL C Ns o
def KidsQ (R : Nat → Nat → List Nd → Prop) : Nat → List Nat → List Nd → List Int → Prop
  | _, [], K, ch => K = [] ∧ ch = []
  | off, k :: l, K, ch => ∃ Q K' ch', R off k Q ∧ KidsQ R (off + Q.length) l K' ch' ∧ K = Q ++ K' ∧ ch = (off : Int) :: ch'
theorem KidsQ.snoc {R : Nat → Nat → List Nd → Prop} {k : Nat} {Q : List Nd} : ∀ {l : List Nat} {off : Nat} {K : List Nd} {ch : List Int}, KidsQ R off l K ch → R (off + K.length) k Q → KidsQ R off (l ++ [k]) (K ++ Q) (ch ++ [((off + K.length : Nat) : Int)])
  | [], off, K, ch, h, hR => by
    obtain ⟨rfl, rfl⟩ := h
    exact ⟨Q, [], [], hR, ⟨rfl, rfl⟩, by simp, rfl⟩
  | j :: l, off, K, ch, h, hR => by
    obtain ⟨Q1, K1, ch1, h1, h2, rfl, rfl⟩ := h
    rw [List.length_append, ← Nat.add_assoc] at hR
    refine ⟨Q1, K1 ++ Q, ch1 ++ [((off + Q1.length + K1.length : Nat) : Int)], h1, h2.snoc hR, by simp, ?_⟩
    rw [List.length_append, ← Nat.add_assoc]; rfl
/-- The nodes that grow appends for b concepts, from a place on. -/
def GQ (C : Nat) (Ns L : List Nat) : Nat → Nat → List (Nat × Nat) → List Nd → Prop
  | 0, _, o, Q => ∃ cells, CellsG C Ns 0 o cells ∧ 0 < cells.length ∧ Q = [⟨2, 0, 0, [], cz cells⟩]
  | b + 1, off, o, Q => ∃ cells, CellsG C Ns (b + 1) o cells ∧ (b + 1 < cells.length ∧ Q = [⟨2, 0, 0, [], cz cells⟩] ∨ ¬ b + 1 < cells.length ∧ ((b + 1) * gainM C Ns L o < o.length ∧ Q = [⟨3, 0, 0, [], []⟩] ∨
      ¬ (b + 1) * gainM C Ns L o < o.length ∧ ∃ c K ch, pickK (arK C Ns L 0) o none = some c ∧ KidsQ (fun off k Q => GQ C Ns L b off (lessL C Ns o (L.getD k 0)) Q) (off + 1) (arK C Ns L 0 c) K ch ∧ Q = ⟨1, (c.1 : Int), (c.2 : Int), ch, []⟩ :: K))
section
variable {C : Nat} {Ns L : List Nat}
theorem few_len {b : Nat} {o : List (Nat × Nat)} {c : Nat × Nat} (hf : Few C Ns L) (ho : ∀ d ∈ o, d ∈ cellsOf Ns) (hn : ¬ CovK C Ns L 0 (b + 1) o) (hc : pickK (arK C Ns L 0) o none = some c) : (arK C Ns L 0 c).length ≤ 8 := by
  rcases hf 0 o c ho hc with h | h
  · exact h
  · cases hl : arK C Ns L 0 c with
    | nil => decide
    | cons k l =>
      exfalso
      have hk : k ∈ arK C Ns L 0 c := by rw [hl]; exact .head _
      refine hn ⟨[k], by simp, fun k' hk' => ?_, fun d hd => ⟨k, .head _, ?_⟩⟩
      · rw [List.mem_singleton.1 hk']; exact ⟨Nat.zero_le _, (mem_arK.1 hk).1⟩
      · cases hi : inS C Ns (L.getD k 0) d with
        | true => rfl
        | false =>
          have := mem_lessL.2 ⟨hd, hi⟩
          rw [h k hk] at this; cases this
theorem cov_kid {b : Nat} {o : List (Nat × Nat)} {c : Nat × Nat} {k : Nat} (hn : ¬ CovK C Ns L 0 (b + 1) o) (hk : k ∈ arK C Ns L 0 c) : ¬ CovK C Ns L 0 b (lessL C Ns o (L.getD k 0)) := by
  rintro ⟨ks, h1, h2, h3⟩
  refine hn ⟨k :: ks, by simpa using h1, fun k' hk' => ?_, fun d hd => ?_⟩
  · rcases List.mem_cons.1 hk' with rfl | hk'
    · exact ⟨Nat.zero_le _, (mem_arK.1 hk).1⟩
    · exact h2 k' hk'
  · cases hi : inS C Ns (L.getD k 0) d with
    | true => exact ⟨k, .head _, hi⟩
    | false =>
      obtain ⟨k', hk', he⟩ := h3 d (mem_lessL.2 ⟨hd, hi⟩)
      exact ⟨k', .tail _ hk', he⟩
theorem cov_ne {b : Nat} {o : List (Nat × Nat)} (hn : ¬ CovK C Ns L 0 b o) : o ≠ [] := fun e => hn ⟨[], by simp, by simp, by rw [e]; simp⟩
theorem foolS_ne {l : List (Nat × Nat)} {c : Nat × Nat} (h : l ≠ []) : foolS C Ns l c ≠ [] := by
  unfold foolS
  split
  · simp
  · exact h
theorem foolF_ne : ∀ {o l : List (Nat × Nat)}, l ≠ [] → o.foldl (foolS C Ns) l ≠ []
  | [], _, h => h
  | c :: o, l, h => by rw [List.foldl_cons]; exact foolF_ne (foolS_ne h)
theorem fool_one {c : Nat × Nat} (h : c ∈ cellsOf Ns) (hin : rowsIn C Ns) : foolP C Ns (cz [c]) = true := by
  obtain ⟨h1, h2⟩ := mem_cellsOf.1 h
  have hc : c.2 < C := by
    have := hin c.1 h1
    rw [← this, Nat.testBit_and, testBit_lowN, Bool.and_eq_true, decide_eq_true_eq] at h2
    exact h2.2
  have hm : mhas C Ns (c.1 : Int) (c.2 : Int) = true := (mhas_at h1 hc).trans h2
  show (!(([((c.1 : Int), (c.2 : Int))]).any fun c => !mhas C Ns c.1 c.2) && apartB C Ns [((c.1 : Int), (c.2 : Int))]) = true
  simp [hm, apartB]
/-- An uncovered one is a list by itself. -/
theorem fool_pos {o : List (Nat × Nat)} (hin : rowsIn C Ns) (ho : ∀ d ∈ o, d ∈ cellsOf Ns) (hne : o ≠ []) : 0 < (foolL C Ns o).length := by
  match o, hne, ho with
  | c :: o, _, ho =>
    unfold foolL
    rw [List.foldl_cons]
    refine List.length_pos_iff.2 (foolF_ne ?_)
    unfold foolS
    rw [if_pos]
    · simp
    · exact fool_one (ho c (.head _)) hin
theorem cells_small (hR : Ns.length ≤ 5) (hC : C ≤ 5) (hin : rowsIn C Ns) {Os : List Nat} (hU : Under Ns Os) : (cellsOf Os).length ≤ 1000 := by
  have h1 : ∀ k, k ≤ Os.length → (onesC Os k).length ≤ k * 5 := by
    intro k
    induction k with
    | zero => intro _; simp [onesC]
    | succ k ih =>
      intro hk
      have h1 := ih (by omega)
      have h2 : (mems (Os.getD k 0)).length ≤ 5 := by
        rw [mems_len]
        refine Nat.le_trans (card_bits (C := C) fun j hj => ?_) hC
        have hj2 := hU.2 k (by omega) j hj
        have := hin k (by rw [← hU.1]; omega)
        rw [← this, Nat.testBit_and, testBit_lowN, Bool.and_eq_true, decide_eq_true_eq] at hj2
        exact hj2.2
      rw [onesC_succ, List.length_append, List.length_map]
      omega
  have h2 := h1 Os.length (Nat.le_refl _)
  rw [onesC_all] at h2
  have := hU.1
  omega
end
end Go.Proofs.YtfbkcdhmggjbaaaGreatDoor
