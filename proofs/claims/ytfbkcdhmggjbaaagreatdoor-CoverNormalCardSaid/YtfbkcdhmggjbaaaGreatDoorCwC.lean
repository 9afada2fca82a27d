import Derived.Test.YtfbkcdhmggjbaaaGreatDoorCvQ6
/-
  package cover: rows of roles (pairs of sets), and build of any roles.
-/
namespace Go.Proofs.YtfbkcdhmggjbaaaGreatDoor
open Go.RowKit

def flatQ (L : List (Nat × Nat)) : List Nat := L.flatMap fun s => [s.1, s.2]
theorem flatQ_len (L : List (Nat × Nat)) : (flatQ L).length = L.length * 2 := by
  induction L with
  | nil => rfl
  | cons s L ih => unfold flatQ at ih ⊢; rw [List.flatMap_cons, List.length_append, ih, List.length_cons]; simp; omega
theorem flatQ_app (L M : List (Nat × Nat)) : flatQ (L ++ M) = flatQ L ++ flatQ M := by unfold flatQ; rw [List.flatMap_append]
theorem flatQ_snoc (L : List (Nat × Nat)) (s : Nat × Nat) : flatQ (L ++ [s]) = flatQ L ++ [s.1] ++ [s.2] := by rw [flatQ_app, List.append_assoc]; rfl
theorem flatQ_get : ∀ (L : List (Nat × Nat)) (k : Nat) (s : Nat × Nat), L[k]? = some s → (flatQ L)[k * 2]? = some s.1 ∧ (flatQ L)[k * 2 + 1]? = some s.2
  | [], k, s, h => by simp at h
  | t :: L, 0, s, h => by
    cases h
    exact ⟨rfl, rfl⟩
  | t :: L, k + 1, s, h => by
    have := flatQ_get L k s (by simpa using h)
    rw [show (k + 1) * 2 = k * 2 + 1 + 1 by omega]
    exact this
/-- A list of concepts in the world. -/
def IsQ (w : World) (v : Value) (L : List (Nat × Nat)) : Prop := ∃ A c vs, v = .slice A L.length c ∧ Row w A vs ∧ Sets w vs (flatQ L) ∧ L.length ≤ c ∧ L.length ≤ 1000000
/-- A list of concepts of our own. -/
def OwnQ (w : World) (base : Nat) (v : Value) (L : List (Nat × Nat)) : Prop := ∃ vs, w.ownsRow base 84 2 v L.length vs ∧ Sets w vs (flatQ L)
section
variable {w w' : World} {base : Nat} {v : Value} {L : List (Nat × Nat)}
theorem IsQ.below (h : IsQ w v L) (hb : Below w.heap.size w w') : IsQ w' v L := by
  obtain ⟨A, c, vs, e, h1, h2, h3⟩ := h
  exact ⟨A, c, vs, e, h1.below hb, h2.below hb, h3⟩
theorem IsQ.shut {n : Nat} (h : IsQ w v L) (k : Shut n w w') : IsQ w' v L := by
  obtain ⟨A, c, vs, e, h1, h2, h3⟩ := h
  exact ⟨A, c, vs, e, k.row h1, h2.keep k.keep, h3⟩
theorem OwnQ.below (h : OwnQ w base v L) (hb : Below w.heap.size w w') : OwnQ w' base v L := by
  obtain ⟨vs, h1, h2⟩ := h
  exact ⟨vs, own_below h1 hb, h2.below hb⟩
theorem OwnQ.low {b0 : Nat} (h : OwnQ w base v L) (hb : b0 ≤ base) : OwnQ w b0 v L := by
  obtain ⟨vs, h1, h2⟩ := h
  exact ⟨vs, own_low h1 hb, h2⟩
theorem OwnQ.nil (w : World) (base : Nat) : OwnQ w base (.slice none 0 0) [] := ⟨[], World.ownsRow_nil _ _ _ _, Sets.nil _⟩
theorem OwnQ.isQ (h : OwnQ w base v L) (hl : L.length ≤ 1000000) : IsQ w v L := by
  obtain ⟨vs, h1, h2⟩ := h
  obtain ⟨A, c, e, hr⟩ := RowN.of_own h1
  exact ⟨A, c, vs, e, hr.1, h2, hr.2.1, hl⟩
theorem IsQ.nil (w : World) : IsQ w (.slice none 0 0) [] := ⟨none, 0, [], rfl, Row.empty _ _, Sets.nil _, Nat.le_refl _, by simp⟩
/-- Concept k: its two slices. -/
theorem IsQ.at {A : Option Addr} {n c k : Nat} {s : Nat × Nat} (h : IsQ w (.slice A n c) L) (hk : L[k]? = some s) :
    ∃ g off A1 c1 A2 c2, A = some ⟨g, off, none⟩ ∧ g < w.heap.size ∧ w.cell? ⟨g, off + k * 2, none⟩ = some (.slice A1 (nw s.1) c1) ∧ w.cell? ⟨g, off + k * 2 + 1, none⟩ = some (.slice A2 (nw s.2) c2) ∧
      IsSet w (.slice A1 (nw s.1) c1) s.1 ∧ IsSet w (.slice A2 (nw s.2) c2) s.2 := by
  obtain ⟨A', c', vs, e, h1, h2, h3⟩ := h
  cases e
  have hlt := (List.getElem?_eq_some_iff.1 hk).1
  have hvl : vs.length = L.length * 2 := by rw [h2.1, flatQ_len]
  obtain ⟨k1, k2⟩ := flatQ_get L k s hk
  obtain ⟨g, off, rfl, hg, hc⟩ := h1 (by omega)
  obtain ⟨v1, hv1⟩ : ∃ x, vs[k * 2]? = some x := ⟨_, List.getElem?_eq_getElem (by omega)⟩
  obtain ⟨v2, hv2⟩ : ∃ x, vs[k * 2 + 1]? = some x := ⟨_, List.getElem?_eq_getElem (by omega)⟩
  have s1 := h2.2 _ _ _ hv1 k1
  have s2 := h2.2 _ _ _ hv2 k2
  obtain ⟨A1, c1, rfl, _⟩ := id s1
  obtain ⟨A2, c2, rfl, _⟩ := id s2
  have e2 := hc _ _ hv2
  rw [← Nat.add_assoc] at e2
  exact ⟨g, off, A1, c1, A2, c2, rfl, hg, hc _ _ hv1, e2, s1, s2⟩
/-- One concept more. -/
theorem OwnQ.mk_ {n : Nat} {s : Nat × Nat} {vs : List Value} {v1 v2 : Value} (h : w.ownsRow base 84 2 v n (vs ++ [v1, v2])) (hn : n = L.length + 1) (hs : Sets w vs (flatQ L)) (h1 : IsSet w v1 s.1) (h2 : IsSet w v2 s.2) : OwnQ w base v (L ++ [s]) := by
  refine ⟨vs ++ [v1, v2], by rw [List.length_append, List.length_singleton, ← hn]; exact h, ?_⟩
  rw [flatQ_snoc, show vs ++ [v1, v2] = vs ++ [v1] ++ [v2] by simp]
  exact (hs.snoc h1).snoc h2
end
/-- A concept is appended. -/
theorem OwnQ.push {W W' : World} {base n : Nat} {s : Nat × Nat} {v v' v1 v2 : Value} {L : List (Nat × Nat)} {vs : List Value} (hs : Sets W vs (flatQ L)) (hown : W.ownsRow base 84 2 v n vs) (hg : W.grownBy W' v.ownBlock)
    (hown' : W'.ownsRow base 84 2 v' (n + 1) (vs ++ [v1, v2])) (hn : n = L.length) (h1 : IsSet W v1 s.1) (h2 : IsSet W v2 s.2) : OwnQ W' base v' (L ++ [s]) ∧ KeepW W W' := by
  have hk := KeepW.grown hg hown (by decide)
  exact ⟨OwnQ.mk_ hown' (by rw [hn]) (hs.keep hk) (h1.keep hk) (h2.keep hk), hk⟩
/-- It stays where a block of another type is written. -/
theorem OwnQ.put {W : World} {base g : Nat} {v : Value} {L : List (Nat × Nat)} {t : TypeId} {cs : Array Value} (h : OwnQ W base v L) (hB : Blk W g t cs) (ht : t ≠ 84) (ht2 : 158 ≠ t) (i : Nat) (u : Value) : OwnQ (W.setCell ⟨g, i, none⟩ u) base v L := by
  obtain ⟨vs, h1, h2⟩ := h
  exact ⟨vs, ownsRow_setCell_other h1 (a := ⟨g, i, none⟩) (fun e => own_ne h1 hB ht e.symm) u, h2.keep (KeepW.setCell (p := ⟨g, i, none⟩) hB ht2 u)⟩
theorem OwnQ.but {W W' : World} {base g : Nat} {v : Value} {L : List (Nat × Nat)} {t : TypeId} {cs : Array Value} (h : OwnQ W base v L) (hB : Blk W g t cs) (ht : t ≠ 84) (ht2 : 158 ≠ t) (k : But (some g) W W') : OwnQ W' base v L := by
  obtain ⟨vs, h1, h2⟩ := h
  exact ⟨vs, own_butT h1 hB ht k, h2.keep (KeepW.of_but k hB ht2)⟩

theorem OwnQ.val {w : World} {base : Nat} {v : Value} {L : List (Nat × Nat)} (h : OwnQ w base v L) : ∃ A c, v = .slice A L.length c := by
  obtain ⟨vs, h1, _⟩ := h
  obtain ⟨A, c, e, _⟩ := RowN.of_own h1
  exact ⟨A, c, e⟩
set_option maxRecDepth 100000 in
set_option maxHeartbeats 16000000 in
theorem buildQ_any (base : Nat) (v : Value) (R C : Nat) (M : List (Nat × Nat)) (w : World) (hK : OwnQ w base v M) (hM : M.length ≤ 256) (hR : R ≤ 256) (hC : C ≤ 256) (hr1 : rowsIn R (M.map (·.1))) (hr2 : rowsIn C (M.map (·.2))) :
    Calls Tryz.prog 39 #[.int .i64 R, .int .i64 C, v] w fun e w' => ∃ u p, e = .returned (.tuple #[.agg #[ptr u, ptr p], .int .i64 0]) ∧ IsMO w' u M.length (mtrans R (M.map (·.1)) R) ∧ IsMO w' p C (M.map (·.2)) ∧ Below w.heap.size w w' := by
  obtain ⟨i0, hi0, hz0, hz1, hz2⟩ := info_parts info_set
  obtain ⟨A, c, rfl⟩ := hK.val
  have HK := Lib.hid hK
  have HR1 := Lib.hid (hr1)
  have HR2 := Lib.hid (hr2)
  clear hK hr1 hr2
  go_enter Tryz.func39, Tryz.ntmps39
  go_upto_region 2 with fail
  refine abs1 fun W0 h6 hb0 hz => ?_
  clear hz
  obtain ⟨g6, hg6⟩ : ∃ x, x = w.heap.size := ⟨_, rfl⟩
  have hgw : w.heap.size ≤ g6 := by omega
  rw [← hg6] at h6 ⊢
  clear hg6
  go_wp2_with fail
  refine wp_loopF (β := Nat × Value × Value) (fun x f => #[.int .i64 (R : Int), .int .i64 (C : Int), f 2, f 3, f 4, f 5, ptr g6, .int .i64 0, x.2.1, x.2.2, f 10, f 11, f 12, f 13, f 14, .slice A M.length c, .int .i64 (M.length : Int), .int .i64 (x.1 : Int), f 18, f 19, f 20, f 21, f 22, f 23, f 24, f 25, f 26, f 27, f 28, f 29, f 30, f 31, f 32, f 33, f 34, f 35, f 36, f 37, f 38, f 39, f 40, f 41, f 42, f 43, f 44, f 45, f 46, f 47, f 48, f 49, f 50, f 51, f 52, f 53, f 54, f 55])
    (fun x ds W => ds = [] ∧ x.1 ≤ M.length ∧ Below w.heap.size w W ∧ Blk W g6 34 #[.pointer none, .pointer none] ∧ OwnO W w.heap.size x.2.1 ((M.take x.1).map (·.1)) ∧ OwnO W w.heap.size x.2.2 ((M.take x.1).map (·.2)) ∧ ∀ g, x.2.1.ownBlock = some g → x.2.2.ownBlock ≠ some g) (fun x => M.length - x.1) (0, .slice none 0 0, .slice none 0 0) rfl
    ⟨rfl, Nat.zero_le _, hb0, h6, OwnO.nil _ _, OwnO.nil _ _, fun g hg => (by cases hg)⟩ ?_
  rintro ⟨k, v8, v9⟩ f ds W ⟨rfl, hk, hb, k6, hU, hP, hne⟩
  dsimp only at hk hU hP hne ⊢
  by_cases hlt : k < M.length
  · obtain ⟨s, hs⟩ : ∃ s, M[k]? = some s := ⟨_, List.getElem?_eq_getElem hlt⟩
    obtain ⟨gr, off, A1, c1, A2, c2, rfl, hgr, d0, d1, s1, s2⟩ := ((HK.out.below hb).isQ (by omega)).at hs
    obtain ⟨X, Y⟩ := s
    dsimp only at d0 d1 s1 s2
    have htk : M.take (k + 1) = M.take k ++ [(X, Y)] := by rw [List.take_add_one, hs]; rfl
    have htm : (M.take (k + 1)).map (·.1) = (M.take k).map (·.1) ++ [X] := by rw [htk, List.map_append]; rfl
    have htn : (M.take (k + 1)).map (·.2) = (M.take k).map (·.2) ++ [Y] := by rw [htk, List.map_append]; rfl
    have htl : (M.take k).length = k := by rw [List.length_take]; omega
    obtain ⟨vu, hU0, hUs⟩ := hU
    obtain ⟨vp, hP0, hPs⟩ := hP
    rw [List.length_map, htl] at hU0
    rw [List.length_map, htl] at hP0
    have HTK := Lib.hid htn; have HTM := Lib.hid htm; have HTL := Lib.hid htl; have HUS := Lib.hid hUs; have HPS := Lib.hid hPs
    clear htk htm htn htl hUs hPs hs
    go_upto_region 5 with fail
    refine abs1 fun W1 h11 hb1 hz => ?_
    clear hz
    have b1 := hb.trans (hb1.mono hb.size)
    obtain ⟨g11, hg11⟩ : ∃ x, x = W.heap.size := ⟨_, rfl⟩
    rw [← hg11] at h11 ⊢
    clear hg11
    have c0 := h11.cell 0
    have k61 := k6.below hb1 k6.lt
    obtain ⟨A8, c8, rfl, -⟩ := RowN.of_own hU0
    obtain ⟨A9, c9, rfl, -⟩ := RowN.of_own hP0
    have hba : Below W1.heap.size W1 (W1.alloc (.cells #[.slice A1 (nw X) c1] 74)) := (Below.refl _ _).alloc (Nat.le_refl _) _
    have hU1 := own_below (own_below hU0 hb1) hba
    have hP1 := own_below (own_below hP0 hb1) hba
    have hb1a := hb1.trans (hba.mono hb1.size)
    have s1a := s1.below hb1a
    have s2a := s2.below hb1a
    have b2 := b1.trans (hba.mono b1.size)
    have k62 := k61.below hba k61.lt
    have h112 := h11.below hba h11.lt
    have HUS1 := Lib.hid (HUS.out.below hb1a)
    have HPS1 := Lib.hid (HPS.out.below hb1a)
    have hsz := b1.size
    have hgP : ∀ g, (Value.slice A9 k c9).ownBlock = some g → g < W1.heap.size := fun g hg => by
      obtain ⟨cs, hB⟩ := own_kind (own_below hP0 hb1) g hg
      exact hB.lt
    clear hU0 hP0 d0 d1 s1 s2 k6 k61 hb1 hb hb1a
    go_wp2_with (at_builtin; refine wpList_append_lies _ rfl _ _ 71 rfl w.heap.size 74 i0 (.agg #[.slice none 0 0]) 1 24 Tryz.underlying71 hi0 hz0 hz1 hz2 rfl (by decide) _ _ _ rfl hU1 ⟨W1.heap.size, 0, none⟩ 1 1 [.slice A1 (nw X) c1] rfl rfl (World.news_of_block (Blk.new _ _ _)) (by simp [Value.oneCell']) (by omega) (by unfold maxLen; omega) (by omega) (by first | omega | (simp; omega)) _ rfl ?_)
    intro gu cu w5 hU5 hgrow5 hlies5 hlt5
    have hgu : gu < w5.heap.size ∧ (Value.slice A9 k c9).ownBlock ≠ some gu := by
      refine ⟨?_, ?_⟩
      · obtain ⟨cs, hB⟩ := own_kind hU5 gu rfl
        exact hB.lt
      · rcases hlies5 with h | h
        · exact hne gu h
        · intro e
          have h1 := hgP gu e
          have h2 := hba.size
          omega
    have hP5 := own_but hP1 (But.grown hgrow5) (fun g hg e => hne g e.symm hg)
    have hkw5 := KeepW.grown hgrow5 hU1 (by decide)
    have h115 := h112.grown hgrow5 (own_ne hU1 h112 (by decide))
    have k65 := k62.grown hgrow5 (own_ne hU1 k62 (by decide))
    have b5 := b2.grown hgrow5 b2.size (fun q hq => (hU1.lt q hq).1)
    have hgP5 : ∀ g, (Value.slice A9 k c9).ownBlock = some g → g < w5.heap.size := fun g hg => Nat.lt_of_lt_of_le (hgP g hg) (Nat.le_trans hba.size hgrow5.size)
    have s1b := s1a.keep hkw5
    have s2b := s2a.keep hkw5
    have HUS5 := Lib.hid (HUS1.out.keep hkw5)
    have HPS5 := Lib.hid (HPS1.out.keep hkw5)
    have hba2 : Below w5.heap.size w5 (w5.alloc (.cells #[.slice A2 (nw Y) c2] 74)) := (Below.refl _ _).alloc (Nat.le_refl _) _
    have hP6 := own_below hP5 hba2
    have hU6 := own_below hU5 hba2
    have b6 := b5.trans (hba2.mono b5.size)
    have k66 := k65.below hba2 k65.lt
    have HGU := Lib.hid hgu
    have c1' := h115.cell 1
    have n115 := h115.lt
    have hsz5 := b5.size
    clear hgrow5 hlies5 hlt5 hU1 hP1 s1a s2a k62 h112 b2 hgu hkw5 hba hne hgP c0
    go_wp2_with (at_builtin; refine wpList_append_lies _ rfl _ _ 71 rfl w.heap.size 74 i0 (.agg #[.slice none 0 0]) 1 24 Tryz.underlying71 hi0 hz0 hz1 hz2 rfl (by decide) _ _ _ rfl hP6 ⟨w5.heap.size, 0, none⟩ 1 1 [.slice A2 (nw Y) c2] rfl rfl (World.news_of_block (Blk.new _ _ _)) (by simp [Value.oneCell']) (by omega) (by unfold maxLen; omega) (by omega) (by first | omega | (simp; omega)) _ rfl ?_)
    intro gp cp w7 hP7 hgrow7 hlies7 hlt7
    have hgp : gu ≠ gp := fun e => by
      subst e
      rcases hlies7 with h | h
      · exact HGU.out.2 h
      · have := HGU.out.1
        have h2 := hba2.size
        omega
    have hU7 := own_but hU6 (But.grown hgrow7) (fun g hg e => by
      cases hg
      exact HGU.out.2 e.symm)
    have hkw7 := (KeepW.of_below hba2).trans (KeepW.grown hgrow7 hP6 (by decide))
    have k67 := k66.grown hgrow7 (own_ne hP6 k66 (by decide))
    have b7 := b6.grown hgrow7 b6.size (fun q hq => (hP6.lt q hq).1)
    have s1c := s1b.keep hkw7
    have s2c := s2b.keep hkw7
    have hus7 := (HUS5.out.keep hkw7).snoc s1c
    have hps7 := (HPS5.out.keep hkw7).snoc s2c
    rw [← HTM.out] at hus7
    rw [← HTK.out] at hps7
    have hlu : ((M.take (k + 1)).map (·.1)).length = k + 1 := by rw [List.length_map, List.length_take]; omega
    have hlp : ((M.take (k + 1)).map (·.2)).length = k + 1 := by rw [List.length_map, List.length_take]; omega
    go_wp2_with fail
    exact ⟨(k + 1, .slice (some ⟨gu, 0, none⟩) (k + 1) cu, .slice (some ⟨gp, 0, none⟩) (k + 1) cp), rfl, ⟨by first | rfl | trivial, by show k + 1 ≤ M.length; omega, b7, k67, ⟨_, by rw [hlu]; exact hU7, hus7⟩, ⟨_, by rw [hlp]; exact hP7, hps7⟩, fun g hg e => hgp (by
      have h1 : gu = g := Option.some.inj hg
      have h2 : gp = g := Option.some.inj e
      omega)⟩, by show M.length - (k + 1) < M.length - k; omega⟩
  · obtain rfl : k = M.length := by omega
    rw [List.take_length] at hU hP
    obtain ⟨vu, hU0, hUs⟩ := hU
    obtain ⟨vp, hP0, hPs⟩ := hP
    obtain ⟨A8, c8, rfl, hru, -⟩ := RowN.of_own hU0
    obtain ⟨A9, c9, rfl, hrp, -⟩ := RowN.of_own hP0
    rw [List.length_map] at hU0 hP0
    have hof := ofm_own A8 c8 R vu (M.map (·.1)) W hru hUs hR (by rw [List.length_map]; exact hM)
    rw [List.length_map] at hof
    have HOF := hideC hof
    have hml : (List.map (·.1) M).length = M.length := List.length_map ..
    have hml2 : (List.map (·.2) M).length = M.length := List.length_map ..
    rw [hml, hml2]
    clear hof hne hml hml2
    go_wp2_with fail
    with_reducible refine HOF.out.mono ?_
    rintro e W1 (⟨rfl, hno, _⟩ | ⟨q, rfl, -, hq, -, hb1⟩)
    · exact absurd HR1.out hno
    have b1 := hb.trans (hb1.mono hb.size)
    have k61 := k6.below hb1 k6.lt
    have hog := ofm_own A9 c9 C vp (M.map (·.2)) W1 (hrp.below hb1) (hPs.below hb1) hC (by rw [List.length_map]; exact hM)
    rw [List.length_map] at hog
    have HOG := hideC hog
    clear hog
    clear HOF
    go_wp2_with fail
    with_reducible refine HOG.out.mono ?_
    rintro e W2 (⟨rfl, hno, _⟩ | ⟨p, rfl, -, hp, -, hb2⟩)
    · exact absurd HR2.out hno
    have b2 := b1.trans (hb2.mono b1.size)
    have k62 := k61.below hb2 k61.lt
    have HTR := hideC (trans_own q R (M.map (·.1)) W2 (hq.mat.below hb2))
    clear HOG
    go_wp2_with fail
    with_reducible refine HTR.out.mono ?_
    rintro e W3 ⟨u, rfl, hu, hb3⟩
    rw [List.length_map] at hu
    have b3 := b2.trans (hb3.mono b2.size)
    have k63 := k62.below hb3 k62.lt
    have f0 := k63.frozen 0
    have f1 := k63.frozen 1
    have c0 := k63.cell 0
    have c1 := k63.cell 1
    have l6 := k63.lt
    go_wp2_with fail
    have hf := (k63.set_ 0 (ptr u)).set_ 1 (ptr p)
    have cX := hf.cell 0
    have cY := hf.cell 1
    have kk : ∀ (r D : Nat) (Ms : List Nat), IsMO W3 r D Ms → IsMO ((W3.setCell ⟨g6, 0, none⟩ (ptr u)).setCell ⟨g6, 1, none⟩ (ptr p)) r D Ms := fun r D Ms h => (h.put (i := 0) k63 (by decide) (by decide) (by decide) (ptr u)).put (i := 1) (k63.set_ 0 (ptr u)) (by decide) (by decide) (by decide) (ptr p)
    refine bodyPost_ret (v := .tuple #[.agg #[ptr u, ptr p], .int .i64 0]) (by simp [results, Tryz.results39, go_sem, cX, cY]) rfl ⟨u, p, rfl, kk _ _ _ hu, kk _ _ _ (hp.below hb3), (b3.setCell (p := ⟨g6, 0, none⟩) hgw _).setCell (p := ⟨g6, 1, none⟩) hgw _⟩
end Go.Proofs.YtfbkcdhmggjbaaaGreatDoor
