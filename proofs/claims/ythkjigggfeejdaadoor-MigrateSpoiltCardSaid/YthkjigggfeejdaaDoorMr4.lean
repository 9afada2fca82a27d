import Derived.Test.YthkjigggfeejdaaDoorMr2
import Derived.Test.YthkjigggfeejdaaDoorMig9
import Derived.Deep.DeepCutAuto
namespace Go.Proofs.YthkjigggfeejdaaDoor
open Go.RowKit

theorem OwnRef.low {W : World} {base base' C : Nat} {v : Value} {gs : List Nat} {f : Nat → Nat → Bool} (h : OwnRef W base C v gs f) (hb : base' ≤ base) : OwnRef W base' C v gs f :=
  ⟨own_low h.1 hb, h.2.1, fun g hg => Nat.le_trans hb (h.2.2.1 g hg), h.2.2.2⟩
theorem OwnRef.mem_lt {W : World} {base C : Nat} {v : Value} {gs : List Nat} {f : Nat → Nat → Bool} (h : OwnRef W base C v gs f) {g : Nat} (hg : g ∈ gs) : g < W.heap.size := by
  obtain ⟨cs, hb⟩ := h.2.mem hg; exact hb.lt
theorem own_disj {W W' : World} {b b' C C' : Nat} {v v' : Value} {gs gs' : List Nat} {f f' : Nat → Nat → Bool} (h : OwnRef W b C v gs f) (h' : OwnRef W' b' C' v' gs' f') (hb : W.heap.size ≤ b') : ∀ g ∈ gs, g ∉ gs' := fun g hg hg' => by
  have h1 := h.mem_lt hg
  have h2 := h'.2.2.1 g hg'
  omega
/-- A store into a block of bools that is none of the rows. -/
theorem OwnRef.aside {W : World} {base C : Nat} {v : Value} {gs : List Nat} {f : Nat → Nat → Bool} (h : OwnRef W base C v gs f) {b : Nat} {cs : Array Value} (hB : Blk W b 4 cs) (hb : b ∉ gs) (j : Nat) (u : Value) : OwnRef (W.setCell ⟨b, j, none⟩ u) base C v gs f := by
  refine ⟨own_but h.1 (But.setCell W ⟨b, j, none⟩ u) (fun g hg e => ?_), h.2.1, h.2.2.1, fun i g hg => ?_⟩
  · obtain ⟨cs', hk⟩ := own_kind h.1 g hg
    cases e
    exact hk.ne_ hB (by decide) rfl
  · exact (h.2.2.2 i g hg).far (p := ⟨b, j, none⟩) (fun e => hb (by have e' : g = b := e; exact e' ▸ List.mem_of_getElem? hg)) u
/-- Users being spread: k roles done, m users of the next. -/
def ovUp (M : List (List Bool)) (l : List Nat) (k m i j : Nat) : Bool := if j = l.getD k 0 ∧ i < m then mget M i k else ovU M l k i j
def ovPp (P : List (List Bool)) (l : List Nat) (k m i j : Nat) : Bool := if i = l.getD k 0 ∧ j < m then mget P k j else ovP P l k i j
theorem ovUp_zero (M : List (List Bool)) (l : List Nat) (k : Nat) : ovUp M l k 0 = ovU M l k := by funext i j; simp [ovUp]
theorem ovPp_zero (P : List (List Bool)) (l : List Nat) (k : Nat) : ovPp P l k 0 = ovP P l k := by funext i j; simp [ovPp]
theorem ovUp_step (M : List (List Bool)) (l : List Nat) (k m : Nat) : (fun x y => if x = m ∧ y = l.getD k 0 then mget M m k else ovUp M l k m x y) = ovUp M l k (m + 1) := by
  funext x y
  unfold ovUp
  by_cases hy : y = l.getD k 0
  · by_cases hx : x = m
    · subst hx; rw [if_pos ⟨rfl, hy⟩, if_pos ⟨hy, by omega⟩]
    · rw [if_neg (fun h => hx h.1)]
      by_cases h2 : x < m
      · rw [if_pos ⟨hy, h2⟩, if_pos ⟨hy, by omega⟩]
      · rw [if_neg (fun h => h2 h.2), if_neg (fun h => by have := h.2; omega)]
  · rw [if_neg (fun h => hy h.2), if_neg (fun h => hy h.1), if_neg (fun h => hy h.1)]
theorem ovPp_step (P : List (List Bool)) (l : List Nat) (k m : Nat) : (fun x y => if x = l.getD k 0 ∧ y = m then mget P k m else ovPp P l k m x y) = ovPp P l k (m + 1) := by
  funext x y
  unfold ovPp
  by_cases hy : x = l.getD k 0
  · by_cases hx : y = m
    · subst hx; rw [if_pos ⟨hy, rfl⟩, if_pos ⟨hy, by omega⟩]
    · rw [if_neg (fun h => hx h.2)]
      by_cases h2 : y < m
      · rw [if_pos ⟨hy, h2⟩, if_pos ⟨hy, by omega⟩]
      · rw [if_neg (fun h => h2 h.2), if_neg (fun h => by have := h.2; omega)]
  · rw [if_neg (fun h => hy h.1), if_neg (fun h => hy h.1), if_neg (fun h => hy h.1)]
theorem nodup_before {l : List Nat} (h : l.Nodup) {k m : Nat} (hk : k < l.length) (hm : m < k) : l.getD m 0 ≠ l.getD k 0 := by
  rw [List.getD_eq_getElem?_getD, List.getD_eq_getElem?_getD, List.getElem?_eq_getElem hk, List.getElem?_eq_getElem (by omega)]
  exact fun e => by have := (List.nodup_iff_pairwise_ne.1 h |> List.pairwise_iff_getElem.1) m k (by omega) hk hm; exact this e
theorem ovUp_done {M : List (List Bool)} {l : List Nat} (h : l.Nodup) {k : Nat} (hk : k < l.length) : ∀ i, i < M.length → ∀ j, ovUp M l k M.length i j = ovU M l (k + 1) i j := fun i hi j => by
  rw [ovU_succ]
  unfold ovUp
  by_cases hj : j = l.getD k 0
  · rw [if_pos ⟨hj, hi⟩]
    have : ovU M l k i j = false := by
      unfold ovU
      rw [List.any_eq_false]
      intro m hm
      have := nodup_before h hk (List.mem_range.1 hm)
      rw [decide_eq_false (fun e => this (e.trans hj)), Bool.false_and]; decide
    rw [this, decide_eq_true hj.symm]; simp
  · rw [if_neg (fun h => hj h.1), decide_eq_false (fun e => hj e.symm)]; simp
theorem ovPp_done {P : List (List Bool)} {l : List Nat} {D : Nat} (h : l.Nodup) {k : Nat} (hk : k < l.length) : ∀ i j, j < D → ovPp P l k D i j = ovP P l (k + 1) i j := fun i j hjD => by
  rw [ovP_succ]
  unfold ovPp
  by_cases hj : i = l.getD k 0
  · rw [if_pos ⟨hj, hjD⟩]
    have : ovP P l k i j = false := by
      unfold ovP
      rw [List.any_eq_false]
      intro m hm
      have := nodup_before h hk (List.mem_range.1 hm)
      rw [decide_eq_false (fun e => this (e.trans hj)), Bool.false_and]; decide
    rw [this, decide_eq_true hj.symm]; simp
  · rw [if_neg (fun h => hj h.1), decide_eq_false (fun e => hj e.symm)]; simp

/-- What holds in spread. -/
structure SpI (w W : World) (cs : Array Value) (G R n D : Nat) (A1 : Option Addr) (c1 : Nat) (gs1 : List Nat) (A2 : Option Addr) (c2 : Nat) (gs2 : List Nat) (fu fp : Nat → Nat → Bool) : Prop where
  cfg : Blk W w.heap.size 31 cs
  res : Blk W (w.heap.size + 1) 31 #[.int .i64 0, .slice none 0 0, .int .i64 0, .slice none 0 0]
  out : Blk W G 31 #[.int .i64 (n : Int), .slice A1 R c1, .int .i64 (D : Int), .slice A2 n c2]
  users : OwnRef W w.heap.size n (.slice A1 R c1) gs1 fu
  perms : OwnRef W w.heap.size D (.slice A2 n c2) gs2 fp
  len1 : gs1.length = R
  len2 : gs2.length = n
  dj : ∀ g ∈ gs1, g ∉ gs2
  below : Below w.heap.size w W
section
variable {w W W' : World} {cs : Array Value} {G R n D : Nat} {A1 A2 : Option Addr} {c1 c2 : Nat} {gs1 gs2 : List Nat} {fu fp fu' fp' : Nat → Nat → Bool}
theorem SpI.next (h : SpI w W cs G R n D A1 c1 gs1 A2 c2 gs2 fu fp) (hb : Below W.heap.size W W') : SpI w W' cs G R n D A1 c1 gs1 A2 c2 gs2 fu fp :=
  ⟨h.cfg.below hb h.cfg.lt, h.res.below hb h.res.lt, h.out.below hb h.out.lt, h.users.below hb, h.perms.below hb, h.len1, h.len2, h.dj, h.below.trans (hb.mono h.below.size)⟩
theorem SpI.congr (h : SpI w W cs G R n D A1 c1 gs1 A2 c2 gs2 fu fp) (h1 : ∀ i, i < R → ∀ j, j < n → fu i j = fu' i j) (h2 : ∀ i, i < n → ∀ j, j < D → fp i j = fp' i j) : SpI w W cs G R n D A1 c1 gs1 A2 c2 gs2 fu' fp' :=
  ⟨h.cfg, h.res, h.out, h.users.congr fun i hi j hj => h1 i (by have := h.len1; omega) j hj, h.perms.congr fun i hi j hj => h2 i (by have := h.len2; omega) j hj, h.len1, h.len2, h.dj, h.below⟩
theorem bool_blk {g : Nat} {gs : List Nat} {base C : Nat} {v : Value} {f : Nat → Nat → Bool} (h : OwnRef W base C v gs f) {i : Nat} (hi : gs[i]? = some g) : ∃ cs, Blk W g 4 cs := ⟨_, h.2.2.2 i g hi⟩
theorem SpI.putU (h : SpI w W cs G R n D A1 c1 gs1 A2 c2 gs2 fu fp) {i j gi : Nat} (hgi : gs1[i]? = some gi) (b : Bool) : SpI w (W.setCell ⟨gi, j, none⟩ (.bool b)) cs G R n D A1 c1 gs1 A2 c2 gs2 (fun x y => if x = i ∧ y = j then b else fu x y) fp := by
  obtain ⟨hi, rfl⟩ := List.getElem?_eq_some_iff.1 hgi
  obtain ⟨ds, hB⟩ := bool_blk h.users (List.getElem?_eq_getElem hi)
  have hlo := h.users.2.2.1 _ (List.getElem_mem hi)
  exact ⟨h.cfg.far (p := ⟨gs1[i], j, none⟩) (h.cfg.ne_ hB (by decide)) _, h.res.far (p := ⟨gs1[i], j, none⟩) (h.res.ne_ hB (by decide)) _, h.out.far (p := ⟨gs1[i], j, none⟩) (h.out.ne_ hB (by decide)) _,
    h.users.put hi b, h.perms.aside hB (h.dj _ (List.getElem_mem hi)) j _, h.len1, h.len2, h.dj, h.below.setCell (p := ⟨gs1[i], j, none⟩) hlo _⟩
theorem SpI.putP (h : SpI w W cs G R n D A1 c1 gs1 A2 c2 gs2 fu fp) {i j gi : Nat} (hgi : gs2[i]? = some gi) (b : Bool) : SpI w (W.setCell ⟨gi, j, none⟩ (.bool b)) cs G R n D A1 c1 gs1 A2 c2 gs2 fu (fun x y => if x = i ∧ y = j then b else fp x y) := by
  obtain ⟨hi, rfl⟩ := List.getElem?_eq_some_iff.1 hgi
  obtain ⟨ds, hB⟩ := bool_blk h.perms (List.getElem?_eq_getElem hi)
  have hlo := h.perms.2.2.1 _ (List.getElem_mem hi)
  exact ⟨h.cfg.far (p := ⟨gs2[i], j, none⟩) (h.cfg.ne_ hB (by decide)) _, h.res.far (p := ⟨gs2[i], j, none⟩) (h.res.ne_ hB (by decide)) _, h.out.far (p := ⟨gs2[i], j, none⟩) (h.out.ne_ hB (by decide)) _,
    h.users.aside hB (fun hm => h.dj _ hm (List.getElem_mem hi)) j _, h.perms.put hi b, h.len1, h.len2, h.dj, h.below.setCell (p := ⟨gs2[i], j, none⟩) hlo _⟩
theorem own_at {base C k : Nat} {A : Option Addr} {c : Nat} {gs : List Nat} {f : Nat → Nat → Bool} (h : OwnRef W base C (.slice A k c) gs f) (hl : gs.length = k) {i j : Nat} (hi : i < k) (hj : j < C) :
    ∃ gi g off, gs[i]? = some gi ∧ A = some ⟨g, off, none⟩ ∧ g < W.heap.size ∧ gi < W.heap.size ∧ W.cell? ⟨g, off + i, none⟩ = some (.slice (some ⟨gi, 0, none⟩) C C) ∧ W.cell? ⟨gi, j, none⟩ = some (.bool (f i j)) ∧ W.frozen? ⟨gi, j, none⟩ = false := by
  subst hl
  obtain ⟨g, off, hA, hg, h1, hB, _⟩ := h.at_ hi
  exact ⟨gs[i], g, off, List.getElem?_eq_getElem hi, hA, hg, hB.lt, h1, (hB.cell j).trans (bools_get hj _), hB.frozen j⟩
/-- The struct is stored. -/
theorem SpI.start {b1 b2 : Nat} (cfg : Blk W w.heap.size 31 cs) (res : Blk W (w.heap.size + 1) 31 #[.int .i64 0, .slice none 0 0, .int .i64 0, .slice none 0 0]) (hG : Blk W G 31 #[.int .i64 0, .slice none 0 0, .int .i64 0, .slice none 0 0])
    (h1 : OwnRef W b1 n (.slice A1 R c1) gs1 fu) (h2 : OwnRef W b2 D (.slice A2 n c2) gs2 fp) (l1 : gs1.length = R) (l2 : gs2.length = n) (dj : ∀ g ∈ gs1, g ∉ gs2) (hb : Below w.heap.size w W) (hg : w.heap.size + 2 ≤ G) (q1 : w.heap.size ≤ b1) (q2 : w.heap.size ≤ b2) :
    SpI w (put4 W G (.int .i64 (n : Int)) (.slice A1 R c1) (.int .i64 (D : Int)) (.slice A2 n c2)) cs G R n D A1 c1 gs1 A2 c2 gs2 fu fp := by
  have e := fun {C : Nat} {v : Value} {gs : List Nat} {f : Nat → Nat → Bool} {b : Nat} (h : OwnRef W b C v gs f) =>
    (((h.far hG (by decide) (by decide) 0 (.int .i64 (n : Int))).far (hG.set_ 0 (.int .i64 (n : Int))) (by decide) (by decide) 1 (.slice A1 R c1)).far ((hG.set_ 0 (.int .i64 (n : Int))).set_ 1 (.slice A1 R c1)) (by decide) (by decide) 2 (.int .i64 (D : Int))).far (((hG.set_ 0 (.int .i64 (n : Int))).set_ 1 (.slice A1 R c1)).set_ 2 (.int .i64 (D : Int))) (by decide) (by decide) 3 (.slice A2 n c2)
  exact ⟨cfg.far4 (by omega) _ _ _ _, res.far4 (by omega) _ _ _ _, hG.putd _ _ _ _, (e h1).low q1, (e h2).low q2, l1, l2, dj, below_put4 hb (by omega) _ _ _ _⟩
end
set_option maxRecDepth 100000 in
set_option maxHeartbeats 8000000 in
theorem rspread_any (C c D d : Nat) (A B : Option Addr) (M P : List (List Bool)) (l : List Nat) (E : Option Addr) (e0 Rl n : Nat) (w : World) (hU : IsRef w C A M) (hP : IsRef w D B P) (hr : Row w E (l.map i64)) (hRl : l.length = Rl) (hlP : Rl = P.length) (hC : C = P.length) (hnd : l.Nodup) (hln : ∀ k ∈ l, k < n) (hn : n ≤ 4096) :
    Calls Tryd.prog 72 #[rcfV C A M.length c D B P.length d, .slice E Rl e0, .int .i64 n] w fun e w' => ∃ A' c' B' d', e = .returned (rcfV n A' M.length c' D B' n d') ∧ RC w' n A' c' D B' d' (jU n l M) (jP n D l P) ∧ Below w.heap.size w w' := by
  have hMl : M.length ≤ 4096 := hU.2.1
  have hPl : P.length ≤ 4096 := hP.2.1
  have hD : D ≤ 4096 := hP.1
  subst hRl
  have HLP := Lib.hid hlP
  have HC := Lib.hid hC
  have HLN := Lib.hid hln
  have HND := Lib.hid hnd
  clear hlP hC hln hnd
  go_enter Tryd.func72, Tryd.ntmps72
  go_wp2_with fail
  refine abs2 fun W0 hK hR b hz => ?_
  clear hz
  have x0 := hK.cell 0
  have x1 := hK.cell 1
  have x2 := hK.cell 2
  have x3 := hK.cell 3
  go_upto_region 2 with fail
  go_cut [7] (fun s7 wx => ∃ G A1 c1 gs1 A2 c2 gs2, s7 = ptr G ∧ SpI w wx #[.int .i64 (C : Int), .slice A M.length c, .int .i64 (D : Int), .slice B P.length d] G M.length n D A1 c1 gs1 A2 c2 gs2 (fun _ _ => false) (fun _ _ => false))
  case first =>
    have hbq : Below W0.heap.size W0 W0.drew := (Below.refl _ _).drew
    replace b := b.trans (hbq.mono b.size)
    replace hK := hK.below hbq hK.lt
    replace hR := hR.below hbq hR.lt
    obtain ⟨Wq, hWq⟩ : ∃ V, V = W0.drew := ⟨_, rfl⟩
    rw [← hWq] at hbq b hK hR
    refine wp_mix (fun V => Below W0.heap.size W0 V) 14 (by kernel_rfl) (by kernel_rfl) (Below.refl _ _).drew ?_
    rw [← hWq]
    clear hWq
    (refine m_q 0 (v := ?_) (by kernel_rfl) rfl rfl (fun W hW => ?_) ?_; rotate_left; (have z0 := onB hW x0; have z1 := onB hW x1; have z2 := onB hW x2; have z3 := onB hW x3; go_simp; first | done | with_reducible rfl); simp only [Act.put, List.setIfInBounds_toArray, List.set_cons_zero, List.set_cons_succ]); (refine m_q 1 (v := ?_) (by kernel_rfl) rfl rfl (fun W hW => ?_) ?_; rotate_left; (have z0 := onB hW x0; have z1 := onB hW x1; have z2 := onB hW x2; have z3 := onB hW x3; go_simp; first | done | with_reducible rfl); simp only [Act.put, List.setIfInBounds_toArray, List.set_cons_zero, List.set_cons_succ]); (refine m_q 2 (v := ?_) (by kernel_rfl) rfl rfl (fun W hW => ?_) ?_; rotate_left; (have z0 := onB hW x0; have z1 := onB hW x1; have z2 := onB hW x2; have z3 := onB hW x3; go_simp; first | done | with_reducible rfl); simp only [Act.put, List.setIfInBounds_toArray, List.set_cons_zero, List.set_cons_succ]); (refine m_q 3 (v := ?_) (by kernel_rfl) rfl rfl (fun W hW => ?_) ?_; rotate_left; (have z0 := onB hW x0; have z1 := onB hW x1; have z2 := onB hW x2; have z3 := onB hW x3; go_simp; first | done | with_reducible rfl); simp only [Act.put, List.setIfInBounds_toArray, List.set_cons_zero, List.set_cons_succ]); (refine m_q 4 (v := ?_) (by kernel_rfl) rfl rfl (fun W hW => ?_) ?_; rotate_left; (have z0 := onB hW x0; have z1 := onB hW x1; have z2 := onB hW x2; have z3 := onB hW x3; go_simp; first | done | with_reducible rfl); simp only [Act.put, List.setIfInBounds_toArray, List.set_cons_zero, List.set_cons_succ]); (refine m_q 6 (v := ?_) (by kernel_rfl) rfl rfl (fun W hW => ?_) ?_; rotate_left; (have z0 := onB hW x0; have z1 := onB hW x1; have z2 := onB hW x2; have z3 := onB hW x3; go_simp; first | done | with_reducible rfl); simp only [Act.put, List.setIfInBounds_toArray, List.set_cons_zero, List.set_cons_succ]); (refine m_q 7 (v := ?_) (by kernel_rfl) rfl rfl (fun W hW => ?_) ?_; rotate_left; (have z0 := onB hW x0; have z1 := onB hW x1; have z2 := onB hW x2; have z3 := onB hW x3; go_simp; first | done | with_reducible rfl); simp only [Act.put, List.setIfInBounds_toArray, List.set_cons_zero, List.set_cons_succ]); (refine m_q 8 (v := ?_) (by kernel_rfl) rfl rfl (fun W hW => ?_) ?_; rotate_left; (have z0 := onB hW x0; have z1 := onB hW x1; have z2 := onB hW x2; have z3 := onB hW x3; go_simp; first | done | with_reducible rfl); simp only [Act.put, List.setIfInBounds_toArray, List.set_cons_zero, List.set_cons_succ]); (refine m_q 9 (v := ?_) (by kernel_rfl) rfl rfl (fun W hW => ?_) ?_; rotate_left; (have z0 := onB hW x0; have z1 := onB hW x1; have z2 := onB hW x2; have z3 := onB hW x3; go_simp; first | done | with_reducible rfl); simp only [Act.put, List.setIfInBounds_toArray, List.set_cons_zero, List.set_cons_succ])
    clear x0 x1 x2 x3
    refine m_s2 5 12 (by kernel_rfl) rfl rfl ?_ ?_
    · go_wp2_with fail
      refine (newr_any M.length n _ hMl hn).mono ?_
      rintro e wk1 ⟨A1, c1, gs1, rfl, hl1, ho1, hb⟩
      have q1 := b.size
      replace b := b.trans (hb.mono b.size); replace hK := hK.below hb hK.lt; replace hR := hR.below hb hR.lt
      go_wp2_with fail
      refine m_next (by first | exact hb | exact hbq.trans (hb.mono hbq.size)) ?_
      clear hb
      refine m_s2 10 12 (by kernel_rfl) rfl rfl ?_ ?_
      · go_wp2_with fail
        refine (newr_any n D _ hn hD).mono ?_
        rintro e wk2 ⟨A2, c2, gs2, rfl, hl2, ho2, hb⟩
        have dj := own_disj ho1 ho2 (Nat.le_refl _)
        have q2 := b.size
        replace b := b.trans (hb.mono b.size); replace hK := hK.below hb hK.lt; replace hR := hR.below hb hR.lt; replace ho1 := ho1.below hb
        go_wp2_with fail
        refine m_next (by first | exact hb | exact hbq.trans (hb.mono hbq.size)) ?_
        clear hb
        refine m_s2 11 12 (by kernel_rfl) rfl rfl ?_ ?_
        · go_wp2_with fail
          refine m_next (Below.refl _ _) ?_
          refine m_s1 12 (by kernel_rfl) rfl ?_
          go_wp2_with fail
          have hg : w.heap.size + 2 ≤ wk2.heap.size := by have := hR.lt; omega
          refine absN fun wk4 hG hb hzq => ?_
          clear hzq
          replace b := b.trans (hb.mono b.size); replace hK := hK.below hb hK.lt; replace hR := hR.below hb hR.lt; replace ho1 := ho1.below hb; replace ho2 := ho2.below hb
          refine m_next (by first | exact hb | exact hbq.trans (hb.mono hbq.size)) ?_
          generalize wk2.heap.size = gG at hG hg ⊢
          clear hb
          have z0 := hG.cell 0; have z1 := hG.cell 1; have z2 := hG.cell 2; have z3 := hG.cell 3; have f0 := hG.frozen 0; have f1 := hG.frozen 1; have f2 := hG.frozen 2; have f3 := hG.frozen 3
          have hS := SpI.start hK hR hG ho1 ho2 hl1 hl2 dj b hg q1 q2
          clear hK hR hG ho1 ho2 b
          refine m_s1 13 (by kernel_rfl) rfl ?_
          go_wp2_with fail
          refine m_clear (by kernel_rfl) ?_
          refine m_end (by kernel_rfl) ?_
          go_wp2_with fail
          go_meet
          exact ⟨_, _, _, _, _, _, _, rfl, hS⟩
        · go_wp2_with fail
          have hg : w.heap.size + 2 ≤ wk2.heap.size := by have := hR.lt; omega
          refine absN fun wk5 hG hb hzq => ?_
          clear hzq
          replace b := b.trans (hb.mono b.size); replace hK := hK.below hb hK.lt; replace hR := hR.below hb hR.lt; replace ho1 := ho1.below hb; replace ho2 := ho2.below hb
          refine m_next (by first | exact hb | exact hbq.trans (hb.mono hbq.size)) ?_
          generalize wk2.heap.size = gG at hG hg ⊢
          clear hb
          refine m_s1 11 (by kernel_rfl) rfl ?_
          go_wp2_with fail
          refine m_next (Below.refl _ _) ?_
          have z0 := hG.cell 0; have z1 := hG.cell 1; have z2 := hG.cell 2; have z3 := hG.cell 3; have f0 := hG.frozen 0; have f1 := hG.frozen 1; have f2 := hG.frozen 2; have f3 := hG.frozen 3
          have hS := SpI.start hK hR hG ho1 ho2 hl1 hl2 dj b hg q1 q2
          clear hK hR hG ho1 ho2 b
          refine m_s1 13 (by kernel_rfl) rfl ?_
          go_wp2_with fail
          refine m_clear (by kernel_rfl) ?_
          refine m_end (by kernel_rfl) ?_
          go_wp2_with fail
          go_meet
          exact ⟨_, _, _, _, _, _, _, rfl, hS⟩
      · go_wp2_with fail
        have hg : w.heap.size + 2 ≤ wk1.heap.size := by have := hR.lt; omega
        refine absN fun wk7 hG hb hzq => ?_
        clear hzq
        replace b := b.trans (hb.mono b.size); replace hK := hK.below hb hK.lt; replace hR := hR.below hb hR.lt; replace ho1 := ho1.below hb
        refine m_next (by first | exact hb | exact hbq.trans (hb.mono hbq.size)) ?_
        generalize wk1.heap.size = gG at hG hg ⊢
        clear hb
        refine m_s1 10 (by kernel_rfl) rfl ?_
        go_wp2_with fail
        refine (newr_any n D _ hn hD).mono ?_
        rintro e wk8 ⟨A2, c2, gs2, rfl, hl2, ho2, hb⟩
        have dj := own_disj ho1 ho2 (Nat.le_refl _)
        have q2 := b.size
        replace b := b.trans (hb.mono b.size); replace hK := hK.below hb hK.lt; replace hR := hR.below hb hR.lt; replace ho1 := ho1.below hb; replace hG := hG.below hb hG.lt
        go_wp2_with fail
        refine m_next (by first | exact hb | exact hbq.trans (hb.mono hbq.size)) ?_
        clear hb
        refine m_s1 11 (by kernel_rfl) rfl ?_
        go_wp2_with fail
        refine m_next (Below.refl _ _) ?_
        have z0 := hG.cell 0; have z1 := hG.cell 1; have z2 := hG.cell 2; have z3 := hG.cell 3; have f0 := hG.frozen 0; have f1 := hG.frozen 1; have f2 := hG.frozen 2; have f3 := hG.frozen 3
        have hS := SpI.start hK hR hG ho1 ho2 hl1 hl2 dj b hg q1 q2
        clear hK hR hG ho1 ho2 b
        refine m_s1 13 (by kernel_rfl) rfl ?_
        go_wp2_with fail
        refine m_clear (by kernel_rfl) ?_
        refine m_end (by kernel_rfl) ?_
        go_wp2_with fail
        go_meet
        exact ⟨_, _, _, _, _, _, _, rfl, hS⟩
    · go_wp2_with fail
      have hg : w.heap.size + 2 ≤ Wq.heap.size := by have := hR.lt; omega
      refine absN fun wk10 hG hb hzq => ?_
      clear hzq
      replace b := b.trans (hb.mono b.size); replace hK := hK.below hb hK.lt; replace hR := hR.below hb hR.lt
      refine m_next (by first | exact hb | exact hbq.trans (hb.mono hbq.size)) ?_
      generalize Wq.heap.size = gG at hG hg ⊢
      clear hb
      refine m_s1 5 (by kernel_rfl) rfl ?_
      go_wp2_with fail
      refine (newr_any M.length n _ hMl hn).mono ?_
      rintro e wk11 ⟨A1, c1, gs1, rfl, hl1, ho1, hb⟩
      have q1 := b.size
      replace b := b.trans (hb.mono b.size); replace hK := hK.below hb hK.lt; replace hR := hR.below hb hR.lt; replace hG := hG.below hb hG.lt
      go_wp2_with fail
      refine m_next (by first | exact hb | exact hbq.trans (hb.mono hbq.size)) ?_
      clear hb
      refine m_s1 10 (by kernel_rfl) rfl ?_
      go_wp2_with fail
      refine (newr_any n D _ hn hD).mono ?_
      rintro e wk12 ⟨A2, c2, gs2, rfl, hl2, ho2, hb⟩
      have dj := own_disj ho1 ho2 (Nat.le_refl _)
      have q2 := b.size
      replace b := b.trans (hb.mono b.size); replace hK := hK.below hb hK.lt; replace hR := hR.below hb hR.lt; replace ho1 := ho1.below hb; replace hG := hG.below hb hG.lt
      go_wp2_with fail
      refine m_next (by first | exact hb | exact hbq.trans (hb.mono hbq.size)) ?_
      clear hb
      refine m_s1 11 (by kernel_rfl) rfl ?_
      go_wp2_with fail
      refine m_next (Below.refl _ _) ?_
      have z0 := hG.cell 0; have z1 := hG.cell 1; have z2 := hG.cell 2; have z3 := hG.cell 3; have f0 := hG.frozen 0; have f1 := hG.frozen 1; have f2 := hG.frozen 2; have f3 := hG.frozen 3
      have hS := SpI.start hK hR hG ho1 ho2 hl1 hl2 dj b hg q1 q2
      clear hK hR hG ho1 ho2 b
      refine m_s1 13 (by kernel_rfl) rfl ?_
      go_wp2_with fail
      refine m_clear (by kernel_rfl) ?_
      refine m_end (by kernel_rfl) ?_
      go_wp2_with fail
      go_meet
      exact ⟨_, _, _, _, _, _, _, rfl, hS⟩
  case rest =>
    obtain ⟨G, A1, c1, gs1, A2, c2, gs2, rfl, hS⟩ := hcut
    clear x0 x1 x2 x3 hK hR b
    have hcfg := hS.cfg
    go_wp2_with fail
    refine wp_loopF (β := Nat) (fun k f => #[f 0, f 1, f 2, .pointer (some ⟨w.heap.size, 0, none⟩), f 4, f 5, .pointer (some ⟨w.heap.size + 1, 0, none⟩), ptr G, f 8, f 9, f 10, f 11, f 12, f 13, f 14, f 15, f 16, f 17, f 18, f 19, f 20, f 21, f 22, f 23, .slice E l.length e0, .int .i64 (l.length : Int), .int .i64 (k : Int), f 27, f 28, f 29, f 30, f 31, f 32, f 33, f 34, f 35, f 36, f 37, f 38, f 39, f 40, f 41, f 42, f 43, f 44, f 45, f 46, f 47, f 48, f 49, f 50, f 51, f 52, f 53, f 54, f 55, f 56, f 57, f 58, f 59, f 60, f 61, f 62, f 63, f 64, f 65, f 66, f 67, f 68, f 69, f 70, f 71, f 72, f 73, f 74, f 75, f 76, f 77, f 78, f 79, f 80, f 81])
      (fun k ds wr => k ≤ l.length ∧ ds = [] ∧ SpI w wr #[.int .i64 (C : Int), .slice A M.length c, .int .i64 (D : Int), .slice B P.length d] G M.length n D A1 c1 gs1 A2 c2 gs2 (ovU M l k) (ovP P l k)) (fun k => l.length - k) 0 rfl ⟨Nat.zero_le _, rfl, hS.congr (fun i _ j _ => by simp [ovU]) (fun i _ j _ => by simp [ovP])⟩ ?_
    rintro k f ds wr ⟨hk, rfl, hW⟩
    dsimp only
    clear hS hcfg
    by_cases hlt : k < l.length
    · obtain ⟨gE, offE, rfl, hgE, hcE⟩ := hr (by rw [List.length_map]; omega)
      have cE := onB hW.below (hcE k (i64 (l.getD k 0)) (by rw [List.getElem?_map, List.getElem?_eq_getElem hlt, List.getD_eq_getElem?_getD, List.getElem?_eq_getElem hlt]; rfl))
      have hlkn : l.getD k 0 < n := by
        rw [List.getD_eq_getElem?_getD, List.getElem?_eq_getElem hlt]; exact HLN.out _ (List.getElem_mem hlt)
      obtain ⟨lk, hlk⟩ : ∃ x, x = l.getD k 0 := ⟨_, rfl⟩
      rw [← hlk] at cE hlkn
      have HLK := Lib.hid hlk
      have hkC : k < C := by rw [HC.out, ← HLP.out]; exact hlt
      have hkP : k < P.length := by rw [← HLP.out]; exact hlt
      have x0 := hW.cfg.cell 0
      have x1 := hW.cfg.cell 1
      clear hlk hcE
      go_wp2_with fail
      refine wp_loopF (β := Nat) (fun m f => #[f 0, f 1, f 2, .pointer (some ⟨w.heap.size, 0, none⟩), f 4, f 5, .pointer (some ⟨w.heap.size + 1, 0, none⟩), ptr G, .int .i64 (k : Int), .int .i64 (lk : Int), f 10, f 11, f 12, f 13, f 14, f 15, f 16, f 17, f 18, f 19, f 20, f 21, f 22, f 23, .slice (some ⟨gE, offE, none⟩) l.length e0, .int .i64 (l.length : Int), .int .i64 (k : Int), f 27, f 28, f 29, f 30, f 31, f 32, f 33, .int .i64 (M.length : Int), .int .i64 (m : Int), f 36, f 37, f 38, f 39, f 40, f 41, f 42, f 43, f 44, f 45, f 46, f 47, f 48, f 49, f 50, f 51, f 52, f 53, f 54, f 55, f 56, f 57, f 58, f 59, f 60, f 61, f 62, f 63, f 64, f 65, f 66, f 67, f 68, f 69, f 70, f 71, f 72, f 73, f 74, f 75, f 76, f 77, f 78, f 79, f 80, f 81])
        (fun m ds wr => m ≤ M.length ∧ ds = [] ∧ SpI w wr #[.int .i64 (C : Int), .slice A M.length c, .int .i64 (D : Int), .slice B P.length d] G M.length n D A1 c1 gs1 A2 c2 gs2 (ovUp M l k m) (ovP P l k)) (fun m => M.length - m) 0 rfl ⟨Nat.zero_le _, rfl, by rw [ovUp_zero]; exact hW⟩ ?_
      rintro m f ds wq ⟨hm, rfl, hQ⟩
      dsimp only
      clear x0 x1 cE
      by_cases hlm : m < M.length
      · obtain ⟨ga, gh, oh, hga, hA1, lgh, lga, p1, p2, p3⟩ := own_at hQ.users hQ.len1 hlm hlkn
        obtain ⟨sg, so, sg2, so2, sd, hAe, lsg, lsg2, s1, s2⟩ := hU.at_ hlm hkC
        have s1 := onB hQ.below s1
        have s2 := onB hQ.below s2
        obtain ⟨bv, hbv⟩ : ∃ b, b = mget M m k := ⟨_, rfl⟩
        rw [← hbv] at s2
        have HBV := Lib.hid hbv
        have x1 := hQ.cfg.cell 1
        have y1 := hQ.out.cell 1
        have hAE := hAe
        rw [show (#[.int .i64 (C : Int), .slice A M.length c, .int .i64 (D : Int), .slice B P.length d] : Array Value)[1]? = some (.slice A M.length c) from rfl, hAe] at x1
        rw [show (#[.int .i64 (n : Int), .slice A1 M.length c1, .int .i64 (D : Int), .slice A2 n c2] : Array Value)[1]? = some (.slice A1 M.length c1) from rfl, hA1] at y1
        clear hbv hAe hAE hA1
        have hbd : Below wq.heap.size wq wq.drew := (Below.refl _ _).drew
        have hQ2 := hQ.next hbd
        have p22 := onB hbd p2
        have p32 := onFrozen hbd p2 p3
        obtain ⟨wz, hwz⟩ : ∃ V, V = wq.drew := ⟨_, rfl⟩
        rw [← hwz] at hbd hQ2 p22 p32
        have lga2 := Nat.lt_of_lt_of_le lga hbd.size
        go_wp2_with fail
        refine wp_spine (fun W => Below wq.heap.size wq W) [0, 1, 2, 3, 4, 5, 6, 7, 8, 9, 10, 11, 12, 13, 14, 15, 16] [17] (by kernel_rfl) (by kernel_rfl) ?_
        iterate 17 (refine wpE_op (v := ?_) rfl rfl (fun W hW => ?_) ?_; rotate_left; (have z1 := onB hW x1; have z2 := onB hW y1; have z3 := onB hW p1; have z4 := onB hW s1; have z5 := onB hW s2; have z6 := onB hW p2; go_simp; first | done | with_reducible rfl); simp only [Act.put, List.setIfInBounds_toArray, List.set_cons_zero, List.set_cons_succ])
        rw [← hwz]
        refine wpE_nil ⟨fun h => (by cases h), wpSp_op rfl hbd ?_⟩
        clear x1 y1 p1 p2 p3 s1 s2 hwz lga
        go_wp2_with fail
        refine nxt_nil ?_
        go_wp2_with fail
        have hQ3 := hQ2.putU hga (j := lk) bv
        rw [HBV.out, HLK.out, ovUp_step, ← HLK.out, ← HBV.out] at hQ3
        exact ⟨m + 1, rfl, ⟨by omega, by first | rfl | trivial, hQ3⟩, by omega⟩
      · obtain rfl : m = M.length := by omega
        have hQ1 := hQ.congr (fu' := ovU M l (k + 1)) (fp' := ovP P l k) (fun i hi j _ => ovUp_done HND.out hlt i hi j) (fun _ _ _ _ => rfl)
        clear hQ
        go_wp2_with fail
        refine wp_loopF (β := Nat) (fun m f => #[f 0, f 1, f 2, .pointer (some ⟨w.heap.size, 0, none⟩), f 4, f 5, .pointer (some ⟨w.heap.size + 1, 0, none⟩), ptr G, .int .i64 (k : Int), .int .i64 (lk : Int), f 10, .int .i64 (m : Int), f 12, f 13, f 14, f 15, f 16, f 17, f 18, f 19, f 20, f 21, f 22, f 23, .slice (some ⟨gE, offE, none⟩) l.length e0, .int .i64 (l.length : Int), .int .i64 (k : Int), f 27, f 28, f 29, f 30, f 31, f 32, f 33, f 34, f 35, f 36, f 37, f 38, f 39, f 40, f 41, f 42, f 43, f 44, f 45, f 46, f 47, f 48, f 49, f 50, f 51, f 52, f 53, f 54, f 55, f 56, f 57, f 58, f 59, f 60, f 61, f 62, f 63, f 64, f 65, f 66, f 67, f 68, f 69, f 70, f 71, f 72, f 73, f 74, f 75, f 76, f 77, f 78, f 79, f 80, f 81])
          (fun m ds wr => m ≤ D ∧ ds = [] ∧ SpI w wr #[.int .i64 (C : Int), .slice A M.length c, .int .i64 (D : Int), .slice B P.length d] G M.length n D A1 c1 gs1 A2 c2 gs2 (ovU M l (k + 1)) (ovPp P l k m)) (fun m => D - m) 0 rfl ⟨Nat.zero_le _, rfl, by rw [ovPp_zero]; exact hQ1⟩ ?_
        rintro m f ds we ⟨hm, rfl, hQ⟩
        dsimp only
        clear hQ1
        have x2 := hQ.cfg.cell 2
        by_cases hlm : m < D
        · obtain ⟨ga, gh, oh, hga, hA1, lgh, lga, p1, p2, p3⟩ := own_at hQ.perms hQ.len2 hlkn hlm
          obtain ⟨sg, so, sg2, so2, sd, hAe, lsg, lsg2, s1, s2⟩ := hP.at_ hkP hlm
          have s1 := onB hQ.below s1
          have s2 := onB hQ.below s2
          obtain ⟨bv, hbv⟩ : ∃ b, b = mget P k m := ⟨_, rfl⟩
          rw [← hbv] at s2
          have HBV := Lib.hid hbv
          have x3 := hQ.cfg.cell 3
          have y3 := hQ.out.cell 3
          rw [show (#[.int .i64 (C : Int), .slice A M.length c, .int .i64 (D : Int), .slice B P.length d] : Array Value)[3]? = some (.slice B P.length d) from rfl, hAe] at x3
          rw [show (#[.int .i64 (n : Int), .slice A1 M.length c1, .int .i64 (D : Int), .slice A2 n c2] : Array Value)[3]? = some (.slice A2 n c2) from rfl, hA1] at y3
          clear hbv hAe hA1
          have hbd : Below we.heap.size we we.drew := (Below.refl _ _).drew
          have hQ2 := hQ.next hbd
          have p22 := onB hbd p2
          have p32 := onFrozen hbd p2 p3
          obtain ⟨wz, hwz⟩ : ∃ V, V = we.drew := ⟨_, rfl⟩
          rw [← hwz] at hbd hQ2 p22 p32
          have lga2 := Nat.lt_of_lt_of_le lga hbd.size
          go_wp2_with fail
          refine wp_spine (fun W => Below we.heap.size we W) [0, 1, 2, 3, 4, 5, 6, 7, 8, 9, 10, 11, 12, 13, 14, 15, 16] [17] (by kernel_rfl) (by kernel_rfl) ?_
          iterate 17 (refine wpE_op (v := ?_) rfl rfl (fun W hW => ?_) ?_; rotate_left; (have z1 := onB hW x3; have z2 := onB hW y3; have z3 := onB hW p1; have z4 := onB hW s1; have z5 := onB hW s2; have z6 := onB hW p2; go_simp; first | done | with_reducible rfl); simp only [Act.put, List.setIfInBounds_toArray, List.set_cons_zero, List.set_cons_succ])
          rw [← hwz]
          refine wpE_nil ⟨fun h => (by cases h), wpSp_op rfl hbd ?_⟩
          clear x2 x3 y3 p1 p2 p3 s1 s2 hwz lga
          go_wp2_with fail
          refine nxt_nil ?_
          go_wp2_with fail
          have hQ3 := hQ2.putP hga (j := m) bv
          rw [HBV.out, HLK.out, ovPp_step, ← HBV.out] at hQ3
          exact ⟨m + 1, rfl, ⟨by omega, by first | rfl | trivial, hQ3⟩, by omega⟩
        · obtain rfl : m = D := by omega
          have hQ1 := hQ.congr (fu' := ovU M l (k + 1)) (fp' := ovP P l (k + 1)) (fun _ _ _ _ => rfl) (fun i _ j hj => ovPp_done HND.out hlt i j hj)
          go_wp2_with fail
          exact ⟨k + 1, rfl, ⟨by omega, by first | rfl | trivial, hQ1⟩, by omega⟩
    · obtain rfl : k = l.length := by omega
      have o0 := hW.out.cell 0
      have o1 := hW.out.cell 1
      have o2 := hW.out.cell 2
      have o3 := hW.out.cell 3
      have r0 := hW.res.cell 0
      have r1 := hW.res.cell 1
      have r2 := hW.res.cell 2
      have r3 := hW.res.cell 3
      have f0 := hW.res.frozen 0
      have f1 := hW.res.frozen 1
      have f2 := hW.res.frozen 2
      have f3 := hW.res.frozen 3
      have rE := hW.res.putd (.int .i64 (n : Int)) (.slice A1 M.length c1) (.int .i64 (D : Int)) (.slice A2 n c2)
      have bE := below_put4 hW.below (g := w.heap.size + 1) (by omega) (.int .i64 (n : Int)) (.slice A1 M.length c1) (.int .i64 (D : Int)) (.slice A2 n c2)
      have tU := (TRef.mk_ hW.users hW.len1 hn hMl).far4 hW.res (by decide) (by decide) (.int .i64 (n : Int)) (.slice A1 M.length c1) (.int .i64 (D : Int)) (.slice A2 n c2)
      have tP := (TRef.mk_ hW.perms hW.len2 hD hn).far4 hW.res (by decide) (by decide) (.int .i64 (n : Int)) (.slice A1 M.length c1) (.int .i64 (D : Int)) (.slice A2 n c2)
      have cX := rE.cell 0
      have cY := rE.cell 1
      have cZ := rE.cell 2
      have cW := rE.cell 3
      unfold put4 at cX cY cZ cW bE
      go_wp2_with fail
      exact bodyPost_ret (v := rcfV n A1 M.length c1 D A2 n c2) (by simp [results, Tryd.results72, go_sem, cX, cY, cZ, cW]) rfl ⟨A1, c1, A2, c2, rfl, ⟨tU, tP⟩, bE⟩
end Go.Proofs.YthkjigggfeejdaaDoor
