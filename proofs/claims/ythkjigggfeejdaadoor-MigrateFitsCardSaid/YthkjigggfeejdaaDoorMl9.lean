import Derived.Test.YthkjigggfeejdaaDoorMl8
import Derived.Test.YthkjigggfeejdaaDoorMl7
import Derived.Test.YthkjigggfeejdaaDoorJoin
namespace Go.Proofs.YthkjigggfeejdaaDoor
open Go.RowKit

/-! A plan is empty exactly if both configurations are the same. -/
theorem difM_nil {kd C : Nat} {M P : List (List Bool)} : (difM kd C M P P.length).length = 0 ↔ subM C P M := by
  rw [List.length_eq_zero_iff]
  unfold difM
  rw [List.flatMap_eq_nil_iff]
  constructor
  · intro h i hi j hj hp
    have := h i (List.mem_range.2 hi)
    rw [List.map_eq_nil_iff] at this
    unfold dRow at this
    rw [List.filter_eq_nil_iff] at this
    have := this j (List.mem_range.2 hj)
    simpa [hp] using this
  · intro h i hi
    rw [List.map_eq_nil_iff]
    unfold dRow
    rw [List.filter_eq_nil_iff]
    intro j hj
    have hi' := List.mem_range.1 hi
    have := h i hi' j (List.mem_range.1 hj)
    cases hp : mget P i j
    · simp
    · simp [this hp]
theorem planOf_nil {n D : Nat} {U P U' P' : List (List Bool)} (hU : Wide n U) (hP : Wide D P) (hU' : Wide n U') (hP' : Wide D P') (lU : U.length = U'.length) (lP : P.length = P'.length) : (planOf n D U P U' P').length = 0 ↔ U = U' ∧ P = P' := by
  have e1 : (planOf n D U P U' P').length = 0 ↔ (difM 3 D P P' P'.length).length = 0 ∧ (difM 1 n U U' U'.length).length = 0 ∧ (difM 2 n U' U U.length).length = 0 ∧ (difM 4 D P' P P.length).length = 0 := by
    rw [planOf_len]; omega
  rw [e1, difM_nil, difM_nil, difM_nil, difM_nil]
  constructor
  · rintro ⟨h1, h2, h3, h4⟩
    exact ⟨sub_anti hU hU' lU h3 h2, sub_anti hP hP' lP h4 h1⟩
  · rintro ⟨rfl, rfl⟩
    exact ⟨fun _ _ _ _ h => h, fun _ _ _ _ h => h, fun _ _ _ _ h => h, fun _ _ _ _ h => h⟩
theorem verJ_empty (D : Nat) (M P M' P' : List (List Bool)) (hl : M.length = M'.length) : (verJ D M P M' P' []).2 = 0 ∧ ((verJ D M P M' P' []).1 = 1 ↔ (planJ D M P M' P').length = 0) := by
  have w1 : ∀ n l X, Wide n (jU n l X) := fun _ _ _ => mat_wide _ _ _
  have w2 : ∀ n D l X, Wide D (jP n D l X) := fun _ _ _ _ => mat_wide _ _ _
  unfold verJ verOf planJ
  rw [verR, planOf_nil (w1 _ _ _) (w2 _ _ _ _) (w1 _ _ _) (w2 _ _ _ _) (by rw [jU, jU, mat_len, mat_len, hl]) (by rw [jP, jP, mat_len, mat_len])]
  split <;> simp_all
/-- What MigrateFits has. -/
structure FI (w W : World) (X7 X10 u a p : Nat) (A1 : Option Addr) (c1 : Nat) (B1 : Option Addr) (d1 : Nat) (M P : List (List Bool)) (C2 R2 D2 S2 : Nat) (A2 : Option Addr) (c2 : Nat) (B2 : Option Addr) (d2 : Nat) (M' P' : List (List Bool)) (E : Nat) : Prop where
  old : Blk W X7 31 #[.int .i64 (a : Int), .slice A1 u c1, .int .i64 (p : Int), .slice B1 a d1]
  new : Blk W X10 31 #[.int .i64 (C2 : Int), .slice A2 R2 c2, .int .i64 (D2 : Int), .slice B2 S2 d2]
  rc : RC W a A1 c1 p B1 d1 M P
  rc' : RC W C2 A2 c2 D2 B2 d2 M' P'
  lM : M.length = u
  lP : P.length = a
  lM' : M'.length = R2
  lP' : P'.length = S2
  bd : u ≤ 6 ∧ a ≤ 6 ∧ p ≤ 6 ∧ C2 ≤ 6 ∧ R2 ≤ 6 ∧ D2 ≤ 6 ∧ S2 ≤ 6
  err : E = if C2 = S2 ∧ u = R2 ∧ p = D2 then 0 else 1
  tab : Tab W
  below : Below w.heap.size w W
section
variable {w W W' : World} {X7 X10 u a p : Nat} {A1 : Option Addr} {c1 : Nat} {B1 : Option Addr} {d1 : Nat} {M P : List (List Bool)} {C2 R2 D2 S2 : Nat} {A2 : Option Addr} {c2 : Nat} {B2 : Option Addr} {d2 : Nat} {M' P' : List (List Bool)} {E : Nat}
theorem FI.next (h : FI w W X7 X10 u a p A1 c1 B1 d1 M P C2 R2 D2 S2 A2 c2 B2 d2 M' P' E) (hb : Below W.heap.size W W') : FI w W' X7 X10 u a p A1 c1 B1 d1 M P C2 R2 D2 S2 A2 c2 B2 d2 M' P' E :=
  ⟨h.old.below hb h.old.lt, h.new.below hb h.new.lt, h.rc.below hb, h.rc'.below hb, h.lM, h.lP, h.lM', h.lP', h.bd, h.err, h.tab.below hb, h.below.trans (hb.mono h.below.size)⟩
theorem FI.cfg2 (h : FI w W X7 X10 u a p A1 c1 B1 d1 M P C2 R2 D2 S2 A2 c2 B2 d2 M' P' E) (hT : Tab w) {g : Nat} {cs : Array Value} (hB : Blk W g 38 cs) (hg : w.heap.size ≤ g) (x y : Value) : FI w (put2 W g x y) X7 X10 u a p A1 c1 B1 d1 M P C2 R2 D2 S2 A2 c2 B2 d2 M' P' E :=
  ⟨h.old.far2 (h.old.ne_ hB (by decide)) x y, h.new.far2 (h.new.ne_ hB (by decide)) x y, ⟨h.rc.users.far2 hB (by decide) (by decide) x y, h.rc.perms.far2 hB (by decide) (by decide) x y⟩, ⟨h.rc'.users.far2 hB (by decide) (by decide) x y, h.rc'.perms.far2 hB (by decide) (by decide) x y⟩, h.lM, h.lP, h.lM', h.lP', h.bd, h.err, hT.below (below_put2 h.below hg x y), below_put2 h.below hg x y⟩
theorem FI.cfgA (h : FI w W X7 X10 u a p A1 c1 B1 d1 M P C2 R2 D2 S2 A2 c2 B2 d2 M' P' E) :
    Calls Tryd.prog 16 #[rcfV a A1 u c1 p B1 a d1] W fun e w' => ∃ q r, e = .returned (cfgV q r) ∧ IsCfg w' q r a p M P ∧ Below W.heap.size W w' := by
  have hbd := h.bd
  refine (config_pm a u c1 p a d1 A1 B1 M P W h.rc.users h.rc.perms h.lM h.lP (by omega) (by omega) (by omega) (by omega)).mono ?_
  rintro e w' ⟨q, r, h1, h2, h3, h4, h5⟩
  exact ⟨q, r, h1, ⟨h2, h3, h.lP.symm, h4⟩, h5⟩
theorem FI.cfgB (h : FI w W X7 X10 u a p A1 c1 B1 d1 M P C2 R2 D2 S2 A2 c2 B2 d2 M' P' E) :
    Calls Tryd.prog 16 #[rcfV C2 A2 R2 c2 D2 B2 S2 d2] W fun e w' => ∃ q r, e = .returned (cfgV q r) ∧ PM w' q C2 M' ∧ PM w' r D2 P' ∧ q ≠ r ∧ Below W.heap.size W w' := by
  have hbd := h.bd
  exact config_pm C2 R2 c2 D2 S2 d2 A2 B2 M' P' W h.rc'.users h.rc'.perms h.lM' h.lP' (by omega) (by omega) (by omega) (by omega)
theorem FI.no (h : FI w W X7 X10 u a p A1 c1 B1 d1 M P C2 R2 D2 S2 A2 c2 B2 d2 M' P' E) (hf : ¬ (C2 = S2 ∧ u = R2 ∧ p = D2)) : C2 ≠ P'.length ∨ M.length ≠ M'.length ∨ p ≠ D2 := by
  rw [h.lP', h.lM, h.lM']; omega
theorem FI.jn6 (h : FI w W X7 X10 u a p A1 c1 B1 d1 M P C2 R2 D2 S2 A2 c2 B2 d2 M' P' E) : jn P P' ≤ 256 := by
  have := Go.Proofs.YthkjigggfeejdaaDoor.jn_le P P'; have := h.bd; have := h.lP; have := h.lP'; omega
theorem FI.joint (h : FI w W X7 X10 u a p A1 c1 B1 d1 M P C2 R2 D2 S2 A2 c2 B2 d2 M' P' E) {q r q' r' : Nat} {V : World} (hb : Below W.heap.size W V) (hc : IsCfg V q r a p M P) (hu : PM V q' C2 M') (hp : PM V r' D2 P') (hne : q' ≠ r') :
    Calls Tryd.prog 27 #[cfgV q r, cfgV q' r'] V fun e w' => ∃ o1 o2 o3 o4 A n c, e = .returned (.tuple #[.agg #[.pointer o1, .pointer o2], .agg #[.pointer o3, .pointer o4], .slice A n c, .int .i64 E]) ∧ (E ≠ 0 → o1 = none ∧ o3 = none ∧ n = 0) ∧ Below V.heap.size V w' := by
  by_cases hf : C2 = S2 ∧ u = R2 ∧ p = D2
  · have hE : E = 0 := by rw [h.err, if_pos hf]
    obtain ⟨e1, e2, e3⟩ := hf
    subst e3
    refine (joint_any q r q' r' a C2 p M P M' P' V hc ⟨hu, hp, by rw [h.lP']; exact e1, hne⟩ (by rw [h.lM, h.lM']; exact e2) h.jn6 (by have := h.bd; have := h.lM; omega) (by have := h.bd; omega) (h.tab.below hb)).mono ?_
    rintro e w' ⟨a1, a2, b1, b2, A, c, rfl, _, _, _, hb'⟩
    exact ⟨_, _, _, _, A, _, c, by rw [hE]; rfl, fun h => absurd hE h, hb'⟩
  · have hE : E = 1 := by rw [h.err, if_neg hf]
    refine (joint_no q r q' r' a C2 p D2 M P M' P' V hc hu hp hne (h.no hf)).mono ?_
    rintro e w' ⟨rfl, hb'⟩
    exact ⟨none, none, none, none, none, 0, 0, by rw [hE]; rfl, fun _ => ⟨rfl, rfl, rfl⟩, hb'⟩
theorem FI.dist (h : FI w W X7 X10 u a p A1 c1 B1 d1 M P C2 R2 D2 S2 A2 c2 B2 d2 M' P' E) {q r q' r' : Nat} {V : World} (hb : Below W.heap.size W V) (hc : IsCfg V q r a p M P) (hu : PM V q' C2 M') (hp : PM V r' D2 P') (hne : q' ≠ r') :
    Calls Tryd.prog 28 #[cfgV q r, cfgV q' r'] V fun e w' => ∃ n : Nat, e = .returned (.tuple #[.int .i64 n, .int .i64 E]) ∧ (E ≠ 0 → n = 0) ∧ (E = 0 → n = (planJ p M P M' P').length) ∧ Below V.heap.size V w' := by
  by_cases hf : C2 = S2 ∧ u = R2 ∧ p = D2
  · have hE : E = 0 := by rw [h.err, if_pos hf]
    obtain ⟨e1, e2, e3⟩ := hf
    subst e3
    refine (cdist_any q r q' r' a C2 p M P M' P' V hc ⟨hu, hp, by rw [h.lP']; exact e1, hne⟩ (by rw [h.lM, h.lM']; exact e2) h.jn6 (by have := h.bd; have := h.lM; omega) (by have := h.bd; omega) (h.tab.below hb)).mono ?_
    rintro e w' ⟨rfl, hb'⟩
    exact ⟨_, by rw [hE]; rfl, fun h => absurd hE h, fun _ => rfl, hb'⟩
  · have hE : E = 1 := by rw [h.err, if_neg hf]
    refine (cdist_no q r q' r' a C2 p D2 M P M' P' V hc hu hp hne (h.no hf)).mono ?_
    rintro e w' ⟨rfl, hb'⟩
    exact ⟨0, by rw [hE]; rfl, fun _ => rfl, fun h => absurd h (by omega), hb'⟩
theorem FI.plan (h : FI w W X7 X10 u a p A1 c1 B1 d1 M P C2 R2 D2 S2 A2 c2 B2 d2 M' P' E) {q r q' r' : Nat} {V : World} (hb : Below W.heap.size W V) (hc : IsCfg V q r a p M P) (hu : PM V q' C2 M') (hp : PM V r' D2 P') (hne : q' ≠ r') :
    Calls Tryd.prog 29 #[cfgV q r, cfgV q' r'] V fun e w' => ∃ A n c, e = .returned (.tuple #[.slice A n c, .int .i64 E]) ∧ (E ≠ 0 → n = 0) ∧ Below V.heap.size V w' := by
  by_cases hf : C2 = S2 ∧ u = R2 ∧ p = D2
  · have hE : E = 0 := by rw [h.err, if_pos hf]
    obtain ⟨e1, e2, e3⟩ := hf
    subst e3
    refine (plan_any q r q' r' a C2 p M P M' P' V hc ⟨hu, hp, by rw [h.lP']; exact e1, hne⟩ (by rw [h.lM, h.lM']; exact e2) h.jn6 (by have := h.bd; have := h.lM; omega) (by have := h.bd; omega) (h.tab.below hb)).mono ?_
    rintro e w' ⟨v, rfl, ho, hb'⟩
    obtain ⟨A, c, rfl, _⟩ := row_of_own3 ho
    exact ⟨A, _, c, by rw [hE]; rfl, fun h => absurd hE h, hb'⟩
  · have hE : E = 1 := by rw [h.err, if_neg hf]
    refine (plan_no q r q' r' a C2 p D2 M P M' P' V hc hu hp hne (h.no hf)).mono ?_
    rintro e w' ⟨rfl, hb'⟩
    exact ⟨none, 0, 0, by rw [hE]; rfl, fun _ => rfl, hb'⟩
theorem FI.verify (h : FI w W X7 X10 u a p A1 c1 B1 d1 M P C2 R2 D2 S2 A2 c2 B2 d2 M' P' E) {q r q' r' : Nat} {V : World} (hb : Below W.heap.size W V) (hc : IsCfg V q r a p M P) (hu : PM V q' C2 M') (hp : PM V r' D2 P') (hne : q' ≠ r') :
    Calls Tryd.prog 30 #[cfgV q r, cfgV q' r', .slice none 0 0] V fun e w' => ∃ fl k : Nat, e = .returned (.tuple #[.int .u8 fl, .int .i64 k, .int .i64 E]) ∧ (E ≠ 0 → fl = 0 ∧ k = 0) ∧ (E = 0 → k = 0 ∧ (fl = 1 ↔ (planJ p M P M' P').length = 0)) ∧ Below V.heap.size V w' := by
  by_cases hf : C2 = S2 ∧ u = R2 ∧ p = D2
  · have hE : E = 0 := by rw [h.err, if_pos hf]
    obtain ⟨e1, e2, e3⟩ := hf
    subst e3
    have hv := verify_any q r q' r' a C2 p M P M' P' none 0 [] V hc ⟨hu, hp, by rw [h.lP']; exact e1, hne⟩ (by rw [h.lM, h.lM']; exact e2) h.jn6 (by have := h.bd; have := h.lM; omega) (by have := h.bd; omega) (h.tab.below hb) (fun h => by simp [cellsZ] at h) (fun s hs => by cases hs) (by unfold maxLen; simp)
    refine hv.mono ?_
    rintro e w' ⟨rfl, hb'⟩
    have he := verJ_empty p M P M' P' (by rw [h.lM, h.lM']; exact e2)
    exact ⟨_, _, by rw [hE]; rfl, fun h => absurd hE h, fun _ => he, hb'⟩
  · have hE : E = 1 := by rw [h.err, if_neg hf]
    refine (verify_no q r q' r' a C2 p D2 M P M' P' _ V hc hu hp hne (h.no hf)).mono ?_
    rintro e w' ⟨rfl, hb'⟩
    exact ⟨0, 0, by rw [hE]; rfl, fun _ => ⟨rfl, rfl⟩, fun h => absurd h (by omega), hb'⟩
end
set_option maxRecDepth 100000 in
set_option maxHeartbeats 40000000 in
theorem fits_walk (v : Value) (u a b p : Nat) (zs : List Int) (v' : Value) (u' a' b' p' : Nat) (zs' : List Int) (v'' : Value) (R C : Nat) (zs'' : List Int) (w : World) (hT : Tab w) (h : IsRaw49 w v u a b p zs) (h' : IsRaw49 w v' u' a' b' p' zs') (h'' : IsRaw w v'' R C zs'') :
    Calls Tryd.prog 5 #[v, v', v''] w fun e w' => e = .returned (.bool true) ∧ Below w.heap.size w w' := by
  have hbd := h.bd
  have hbd' := h'.bd
  have hbd'' := h''.bd
  obtain ⟨u0, a0, b0, p0, AZ, cZ, hv, _⟩ := id h
  obtain ⟨u0', a0', b0', p0', AZ', cZ', hv', _⟩ := id h'
  obtain ⟨r0, c0, AZ'', cZ'', hv'', _, _, hr0, hc0, _⟩ := id h''
  subst hv; subst hv'; subst hv''
  have HIN := hideC h
  have HIN' := hideC h'
  have HIN'' := hideC h''
  clear h h' h''
  go_enter Tryd.func5, Tryd.ntmps5
  go_wp2_with fail
  refine absC3 fun W0 hX hY hZ hb0 hz => ?_
  clear hz
  refine (awake_any49 W0 (hT.below hb0)).mono ?_
  rintro e w1 ⟨rfl, hb1⟩
  have b1 := hb0.trans (hb1.mono hb0.size)
  have hX1 := hX.below hb1 hX.lt
  have hY1 := hY.below hb1 hY.lt
  have hZ1 := hZ.below hb1 hZ.lt
  have x0 := hX1.cell 0
  have x1 := hX1.cell 1
  have x2 := hX1.cell 2
  have x3 := hX1.cell 3
  have x4 := hX1.cell 4
  clear hX hY hZ hb0 hb1
  have HMK := hideC (rmake_any _ u a b p zs w1 (HIN.out.below b1))
  go_wp2_with fail
  refine HMK.out.mono ?_
  rintro e w2 ⟨M, P, _, _, A1, c1, B1, d1, _, _, _, _, rfl, hc, _, lM, lP, _, _, hb2⟩
  have b2 := b1.trans (hb2.mono b1.size)
  have hY2 := hY1.below hb2 hY1.lt
  have hZ2 := hZ1.below hb2 hZ1.lt
  clear x0 x1 x2 x3 x4 HMK hX1 hY1 hZ1 hb2 b1
  have x0 := hY2.cell 0
  have x1 := hY2.cell 1
  have x2 := hY2.cell 2
  have x3 := hY2.cell 3
  have x4 := hY2.cell 4
  have ly := hY2.lt
  have ly2 : w.heap.size < w2.heap.size := by omega
  go_wp2_with fail
  refine absC2 fun w3 h7 h8 hb3 hz3 => ?_
  have b3 := b2.trans (hb3.mono b2.size)
  have hc3 := hc.below hb3
  have hZ3 := hZ2.below hb3 hZ2.lt
  have HMK := hideC (rmake_any _ u' a' b' p' zs' w3 (HIN'.out.below b3))
  refine HMK.out.mono ?_
  rintro e w4 ⟨_, _, M', P', A0, c0', B0, d0, A2, c2, B4, d4, rfl, _, hc', _, _, lM', lP', hb4⟩
  have b4 := b3.trans (hb4.mono b3.size)
  have hc4 := hc3.below hb4
  have hZ4 := hZ3.below hb4 hZ3.lt
  have h74 := h7.below hb4 h7.lt
  clear x0 x1 x2 x3 x4 HMK hY2 hZ2 hZ3 hb3 b2 b3 hc hc3 h7 h8 hz3 ly ly2 hb4
  obtain ⟨X7, hX7⟩ : ∃ x, x = w2.heap.size := ⟨_, rfl⟩
  rw [← hX7] at h74 ⊢
  clear hX7
  have z0 := hZ4.cell 0
  have z1 := hZ4.cell 1
  have z2 := hZ4.cell 2
  have lz := hZ4.lt
  have lz0 : w.heap.size < w4.heap.size := by omega
  have lz1 : w.heap.size + 1 < w4.heap.size := by omega
  have l7 := h74.lt
  have e8 : ((r0 : Int)).tmod 3 = ((r0 % 3 : Nat) : Int) := by rw [Int.tmod_eq_emod_of_nonneg (by omega)]; omega
  go_upto_if 38 with fail
  refine abs2 fun w5 h9 h10 hb5 hz5 => ?_
  have b5 := b4.trans (hb5.mono b4.size)
  have hc5 := hc4.below hb5
  have hc5' := hc'.below hb5
  have h75 := h74.below hb5 h74.lt
  have hZ5 := hZ4.below hb5 hZ4.lt
  obtain ⟨X10, hX10⟩ : ∃ x, x = w4.heap.size + 1 := ⟨_, rfl⟩
  rw [← hX10] at h10 ⊢
  have hne : X7 ≠ X10 := by omega
  have l10 : w.heap.size + 3 ≤ X10 := by omega
  clear z0 z1 z2 hZ4 h74 hc4 hc' h9 hb5 hz5 b4 lz lz0 lz1 l7 hX10
  go_cut [] (fun wx => ∃ C2 R2 D2 S2 A2 c2 B2 d2 M' P' E, FI w wx X7 X10 u a p A1 c1 B1 d1 M P C2 R2 D2 S2 A2 c2 B2 d2 M' P' E)
  case first =>
    have z0 := hZ5.cell 0
    have z1 := hZ5.cell 1
    have z2 := hZ5.cell 2
    have lz := hZ5.lt
    by_cases h3 : r0 % 3 = 0
    · have e9 : ((r0 : Int)).tmod 3 = 0 := by omega
      have e10 : ((r0 : Int)) % 3 = 0 := by omega
      clear e8 h3
      go_wp2_with fail
      refine (make_own _ R C zs'' w5 (HIN''.out.below b5)).mono ?_
      rintro e w6 ⟨A6, c6, gs6, rfl, hg6, ho6, hb6⟩
      have b6 := b5.trans (hb6.mono b5.size)
      have hc6 := hc5.below hb6
      have hc6' := hc5'.below hb6
      have h76 := h75.below hb6 h75.lt
      have h106 := h10.below hb6 h10.lt
      have hT6 := TRef.mk_ ho6 hg6 (by omega) (by omega)
      have x0 := h106.frozen 2; have y0 := h106.cell 0; have y1 := h106.cell 1; have y2 := h106.cell 2; have y3 := h106.cell 3
      have x1 := h106.frozen 3
      obtain ⟨E, hE⟩ : ∃ E, E = if b' = R ∧ u = u' ∧ p = C then 0 else 1 := ⟨_, rfl⟩
      have J : FI w ((w6.setCell ⟨X10, 2, none⟩ (.int .i64 (C : Int))).setCell ⟨X10, 3, none⟩ (.slice A6 R c6)) X7 X10 u a p A1 c1 B1 d1 M P b' u' C R A2 c2 A6 c6 M' _ E := ⟨(h76.far (p := ⟨X10, 2, none⟩) hne _).far (p := ⟨X10, 3, none⟩) hne _, by simpa using (h106.set_ 2 (.int .i64 (C : Int))).set_ 3 (.slice A6 R c6), ⟨(hc6.users.far h106 (by decide) (by decide) _ _).far (h106.set_ 2 _) (by decide) (by decide) _ _, (hc6.perms.far h106 (by decide) (by decide) _ _).far (h106.set_ 2 _) (by decide) (by decide) _ _⟩, ⟨(hc6'.users.far h106 (by decide) (by decide) _ _).far (h106.set_ 2 _) (by decide) (by decide) _ _, (hT6.far h106 (by decide) (by decide) _ _).far (h106.set_ 2 _) (by decide) (by decide) _ _⟩, lM, lP, lM', mat_len _ _ _, by omega, hE, hT.below ((b6.setCell (p := ⟨X10, 2, none⟩) (by show w.heap.size ≤ X10; omega) _).setCell (p := ⟨X10, 3, none⟩) (by show w.heap.size ≤ X10; omega) _), (b6.setCell (p := ⟨X10, 2, none⟩) (by show w.heap.size ≤ X10; omega) _).setCell (p := ⟨X10, 3, none⟩) (by show w.heap.size ≤ X10; omega) _⟩
      clear z0 z1 z2 e9 e10 hE h76 hc6 hc6' hT6 ho6 hg6 hb6 b6 b5 hc5 hc5'
      go_wp2_with fail
      go_meet
      exact ⟨_, _, _, _, _, _, _, _, _, _, _, J⟩
    · have e9 : (((r0 : Int)) % 3 == 0) = false := by rw [beq_eq_false_iff_ne]; omega
      have e10 : (((r0 : Int)).tmod 3 == 0) = false := by rw [beq_eq_false_iff_ne]; omega
      clear e8 h3
      obtain ⟨E, hE⟩ : ∃ E, E = if b' = b' ∧ u = u' ∧ p = p' then 0 else 1 := ⟨_, rfl⟩
      have J : FI w w5 X7 X10 u a p A1 c1 B1 d1 M P b' u' p' b' A2 c2 B4 d4 M' P' E := ⟨h75, h10, hc5, hc5', lM, lP, lM', lP', by omega, hE, hT.below b5, b5⟩
      clear z0 z1 z2 hE hc5 hc5' b5 h75 h10
      go_wp2_with fail
      go_meet
      exact ⟨_, _, _, _, _, _, _, _, _, _, _, J⟩
  case rest =>
    obtain ⟨C2, R2, D2, S2, A2', c2', B2', d2', M2, P2, E, J⟩ := hcut
    clear e8 h10 hc5 hc5' h75 hZ5 b5 lM' lP'
    obtain ⟨W7, hW7⟩ : ∃ V, V = wc := ⟨_, rfl⟩
    subst hW7
    obtain ⟨A2, hA2⟩ : ∃ x, x = A2' := ⟨_, rfl⟩
    obtain ⟨c2, hc2⟩ : ∃ x, x = c2' := ⟨_, rfl⟩
    obtain ⟨B2, hB2⟩ : ∃ x, x = B2' := ⟨_, rfl⟩
    obtain ⟨d2, hd2⟩ : ∃ x, x = d2' := ⟨_, rfl⟩
    obtain ⟨M', hM2⟩ : ∃ x, x = M2 := ⟨_, rfl⟩
    obtain ⟨P', hP2⟩ : ∃ x, x = P2 := ⟨_, rfl⟩
    subst hA2 hc2 hB2 hd2 hM2 hP2
    have j := J
    clear J
    go_upto_region 8 with fail
    obtain ⟨eb, heb⟩ : ∃ b, b = decide (E ≠ 0) := ⟨_, rfl⟩
    have HEB := Lib.hid heb
    clear heb
    go_cut [50] (fun s wx => s = .bool eb ∧ Below W7.heap.size W7 wx)
    case first =>
      have x0 := j.old.cell 0
      have x1 := j.old.cell 1
      have x2 := j.old.cell 2
      have x3 := j.old.cell 3
      have y0 := j.new.cell 0
      have y1 := j.new.cell 1
      have y2 := j.new.cell 2
      have y3 := j.new.cell 3
      have hE := j.err
      have heb := HEB.out
      have HCK := rcheck_any C2 R2 c2 D2 S2 d2 A2 B2 W7
      by_cases h1 : C2 = S2
      · rw [if_pos h1] at HCK
        have HCKK := hideC HCK
        have H1 := Lib.hid h1
        clear HCK h1
        by_cases h2 : u = R2 ∧ p = D2
        · rw [hE, if_pos ⟨H1.out, h2⟩] at heb
          obtain rfl : eb = false := by rw [heb]; decide
          have HF := hideC (fun W => rfits_any a u c1 p a d1 C2 R2 c2 D2 S2 d2 A1 B1 A2 B2 W)
          rw [decide_eq_true h2] at HF
          clear heb hE h2 HEB
          go_wp2_with fail
          refine HCKK.out.mono ?_
          rintro e w8 ⟨rfl, hb8⟩
          have j8 := j.next hb8
          clear x0 x1 x2 x3 y0 y1 y2 y3
          have x0 := j8.old.cell 0
          have x1 := j8.old.cell 1
          have x2 := j8.old.cell 2
          have x3 := j8.old.cell 3
          have y0 := j8.new.cell 0
          have y1 := j8.new.cell 1
          have y2 := j8.new.cell 2
          have y3 := j8.new.cell 3
          go_wp2_with fail
          refine (HF.out w8).mono ?_
          rintro e w9 ⟨rfl, hb9⟩
          go_wp2_with fail
          go_meet
          exact ⟨rfl, hb8.trans (hb9.mono hb8.size)⟩
        · rw [hE, if_neg (fun h => h2 h.2)] at heb
          obtain rfl : eb = true := by rw [heb]; decide
          have HF := hideC (fun W => rfits_any a u c1 p a d1 C2 R2 c2 D2 S2 d2 A1 B1 A2 B2 W)
          rw [decide_eq_false h2] at HF
          clear heb hE h2 HEB
          go_wp2_with fail
          refine HCKK.out.mono ?_
          rintro e w8 ⟨rfl, hb8⟩
          have j8 := j.next hb8
          clear x0 x1 x2 x3 y0 y1 y2 y3
          have x0 := j8.old.cell 0
          have x1 := j8.old.cell 1
          have x2 := j8.old.cell 2
          have x3 := j8.old.cell 3
          have y0 := j8.new.cell 0
          have y1 := j8.new.cell 1
          have y2 := j8.new.cell 2
          have y3 := j8.new.cell 3
          go_wp2_with fail
          refine (HF.out w8).mono ?_
          rintro e w9 ⟨rfl, hb9⟩
          go_wp2_with fail
          go_meet
          exact ⟨rfl, hb8.trans (hb9.mono hb8.size)⟩
      · rw [hE, if_neg (fun h => h1 h.1)] at heb
        obtain rfl : eb = true := by rw [heb]; decide
        rw [if_neg h1] at HCK
        have HCKK := hideC HCK
        clear heb hE HCK h1 HEB
        go_wp2_with fail
        refine HCKK.out.mono ?_
        rintro e w8 ⟨rfl, hb8⟩
        go_wp2_with fail
        go_meet
        exact ⟨rfl, hb8⟩
    case rest =>
      obtain ⟨rfl, hb⟩ := hcut
      replace j := j.next hb
      clear hb
      go_upto_if 50 with fail
      obtain ⟨W8, hW8⟩ : ∃ V, V = wc := ⟨_, rfl⟩
      subst hW8
      go_cut [11] (fun s wx => s = .int .i64 (E : Int) ∧ W8 = wx)
      case first =>
        have heb := HEB.out
        have hE := j.err
        by_cases h0 : E = 0
        · subst h0
          obtain rfl : eb = false := by rw [heb]; decide
          clear heb hE HEB
          go_wp2_with fail
          go_meet
          exact ⟨rfl, rfl⟩
        · obtain rfl : E = 1 := by split at hE <;> omega
          obtain rfl : eb = true := by rw [heb]; decide
          clear heb hE HEB
          go_wp2_with fail
          go_meet
          exact ⟨rfl, rfl⟩
      case' rest =>
        obtain ⟨rfl, rfl⟩ := hcut
        clear HEB
      go_upto_region 10 with fail
      obtain ⟨wc, hW9⟩ : ∃ V, V = W8 := ⟨_, rfl⟩
      subst hW9
      refine wp_frame (fun g => #[g 0, g 1, g 2, g 3, g 4, g 5, g 6, .pointer (some ⟨X7, 0, none⟩), g 8, g 9, .pointer (some ⟨X10, 0, none⟩), .int .i64 (E : Int), g 12, g 13, g 14, g 15, g 16, g 17, g 18, g 19, g 20, g 21, g 22, g 23, g 24, g 25, g 26, g 27, g 28, g 29, g 30, g 31, g 32, g 33, g 34, g 35, g 36, g 37, g 38, g 39, g 40, g 41, g 42, g 43, g 44, g 45, g 46, g 47, g 48, g 49, g 50, g 51, g 52, g 53, g 54, g 55, g 56, g 57, g 58, g 59, g 60, g 61, g 62, g 63, g 64, g 65, g 66, g 67, g 68, g 69, g 70, g 71, g 72, g 73, g 74, g 75, g 76, g 77, g 78, g 79, g 80, g 81, g 82, g 83, g 84, g 85, g 86, g 87, g 88, g 89, g 90, g 91, g 92, g 93, g 94, g 95, g 96, g 97, g 98, g 99, g 100, g 101, g 102, g 103, g 104, g 105, g 106, g 107, g 108, g 109, g 110, g 111, g 112, g 113, g 114, g 115, g 116, g 117, g 118, g 119, g 120, g 121, g 122, g 123, g 124, g 125, g 126, g 127, g 128, g 129, g 130, g 131, g 132, g 133, g 134, g 135, g 136, g 137, g 138, g 139, g 140, g 141, g 142, g 143, g 144]) rfl fun g => ?_
      dsimp only
      go_cut [12, 13, 14, 15] (fun s12 s13 s14 s15 wx => ∃ g5 g6 o1 o2 o3 o4 AR nR cR, s12 = ptr g5 ∧ s13 = ptr g6 ∧ s14 = .slice AR nR cR ∧ s15 = .int .i64 (E : Int) ∧ Blk wx g5 38 #[.pointer o1, .pointer o2] ∧ Blk wx g6 38 #[.pointer o3, .pointer o4] ∧ (E ≠ 0 → o1 = none ∧ o3 = none ∧ nR = 0) ∧ FI w wx X7 X10 u a p A1 c1 B1 d1 M P C2 R2 D2 S2 A2 c2 B2 d2 M' P' E)
      case first =>
        have hd : Below wc.heap.size wc wc.drew := (Below.refl _ _).drew
        replace j := j.next hd
        refine wp_mix (fun V => Blk V X7 31 #[.int .i64 (a : Int), .slice A1 u c1, .int .i64 (p : Int), .slice B1 a d1] ∧ Blk V X10 31 #[.int .i64 (C2 : Int), .slice A2 R2 c2, .int .i64 (D2 : Int), .slice B2 S2 d2]) 16 (by kernel_rfl) (by kernel_rfl) ⟨j.old, j.new⟩ ?_
        obtain ⟨wq, hwq⟩ : ∃ V, V = wc.drew := ⟨_, rfl⟩
        rw [← hwq] at hd j ⊢
        clear hwq
        (refine m_q 0 (v := ?_) (by kernel_rfl) rfl rfl (fun W hW => ?_) ?_; rotate_left; (have z0 := hW.1.cell 0; have z1 := hW.1.cell 1; have z2 := hW.1.cell 2; have z3 := hW.1.cell 3; have u0 := hW.2.cell 0; have u1 := hW.2.cell 1; have u2 := hW.2.cell 2; have u3 := hW.2.cell 3; go_simp; first | done | with_reducible rfl); simp only [Act.put, List.setIfInBounds_toArray, List.set_cons_zero, List.set_cons_succ]); (refine m_q 2 (v := ?_) (by kernel_rfl) rfl rfl (fun W hW => ?_) ?_; rotate_left; (have z0 := hW.1.cell 0; have z1 := hW.1.cell 1; have z2 := hW.1.cell 2; have z3 := hW.1.cell 3; have u0 := hW.2.cell 0; have u1 := hW.2.cell 1; have u2 := hW.2.cell 2; have u3 := hW.2.cell 3; go_simp; first | done | with_reducible rfl); simp only [Act.put, List.setIfInBounds_toArray, List.set_cons_zero, List.set_cons_succ])
        refine m_join (β := Nat × Nat × Option Addr × Option Addr × Option Addr × Option Addr × Option Addr × Nat × Nat) #[true, true, true, true, true, true, true, true, true, true, true, true, false, false, false, false] 4
          (fun b f => #[g 0, g 1, g 2, g 3, g 4, g 5, g 6, .pointer (some ⟨X7, 0, none⟩), g 8, g 9, .pointer (some ⟨X10, 0, none⟩), .int .i64 (E : Int), .pointer (some ⟨b.1, 0, none⟩), .pointer (some ⟨b.2.1, 0, none⟩), f 14, f 15, g 16, g 17, g 18, g 19, g 20, g 21, g 22, g 23, g 24, g 25, g 26, g 27, g 28, g 29, g 30, g 31, g 32, g 33, g 34, g 35, g 36, g 37, g 38, g 39, g 40, g 41, g 42, g 43, g 44, g 45, g 46, g 47, g 48, g 49, g 50, f 51, f 52, f 53, f 54, f 55, f 56, .agg #[.pointer b.2.2.1, .pointer b.2.2.2.1], .agg #[.pointer b.2.2.2.2.1, .pointer b.2.2.2.2.2.1], .slice b.2.2.2.2.2.2.1 b.2.2.2.2.2.2.2.1 b.2.2.2.2.2.2.2.2, .int .i64 (E : Int), g 61, g 62, g 63, g 64, g 65, g 66, g 67, g 68, g 69, g 70, g 71, g 72, g 73, g 74, g 75, g 76, g 77, g 78, g 79, g 80, g 81, g 82, g 83, g 84, g 85, g 86, g 87, g 88, g 89, g 90, g 91, g 92, g 93, g 94, g 95, g 96, g 97, g 98, g 99, g 100, g 101, g 102, g 103, g 104, g 105, g 106, g 107, g 108, g 109, g 110, g 111, g 112, g 113, g 114, g 115, g 116, g 117, g 118, g 119, g 120, g 121, g 122, g 123, g 124, g 125, g 126, g 127, g 128, g 129, g 130, g 131, g 132, g 133, g 134, g 135, g 136, g 137, g 138, g 139, g 140, g 141, g 142, g 143, g 144])
          (fun b ds W => ds = [] ∧ Blk W b.1 38 #[.pointer none, .pointer none] ∧ Blk W b.2.1 38 #[.pointer none, .pointer none] ∧ b.1 ≠ b.2.1 ∧ w.heap.size ≤ b.1 ∧ w.heap.size ≤ b.2.1 ∧ (E ≠ 0 → b.2.2.1 = none ∧ b.2.2.2.2.1 = none ∧ b.2.2.2.2.2.2.2.1 = 0) ∧ FI w W X7 X10 u a p A1 c1 B1 d1 M P C2 R2 D2 S2 A2 c2 B2 d2 M' P' E) ?_ ?_
        · rintro ⟨g5, g6, o1, o2, o3, o4, AR, nR, cR⟩ f ds W ⟨rfl, hB5, hB6, hne, hB5_lo, hB6_lo, hno, j⟩
          dsimp only at hB5 hB6 hne hB5_lo hB6_lo hno ⊢
          have e0 := hB5.cell 0; have e1 := hB5.cell 1; have f0 := hB5.frozen 0; have f1 := hB5.frozen 1
          have P5 := hB5.putc (.pointer o1) (.pointer o2); have P6 := hB6.far2 (Ne.symm hne) (.pointer o1) (.pointer o2)
          have J := j.cfg2 hT hB5 hB5_lo (.pointer o1) (.pointer o2)
          clear hB5 hB6 j
          refine m_s1 12 (by kernel_rfl) rfl ?_
          go_wp2_with fail
          refine m_keep (W := put2 W g5 (.pointer o1) (.pointer o2)) ⟨J.old, J.new⟩ ?_
          obtain ⟨W7, hW7⟩ : ∃ W7, W7 = put2 W g5 (.pointer o1) (.pointer o2) := ⟨_, rfl⟩
          rw [← hW7] at P5 P6 J ⊢; clear hW7 e0 e1 f0 f1
          have e0 := P6.cell 0; have e1 := P6.cell 1; have f0 := P6.frozen 0; have f1 := P6.frozen 1
          have R6 := P6.putc (.pointer o3) (.pointer o4); have R5 := P5.far2 hne (.pointer o3) (.pointer o4)
          have XJ := J.cfg2 hT P6 hB6_lo (.pointer o3) (.pointer o4)
          clear P5 P6 J
          refine m_s1 13 (by kernel_rfl) rfl ?_
          go_wp2_with fail
          refine m_keep (W := put2 W7 g6 (.pointer o3) (.pointer o4)) ⟨XJ.old, XJ.new⟩ ?_
          (refine m_q 14 (v := ?_) (by kernel_rfl) rfl rfl (fun W hW => ?_) ?_; rotate_left; (go_simp; first | done | with_reducible rfl); simp only [Act.put, List.setIfInBounds_toArray, List.set_cons_zero, List.set_cons_succ]); (refine m_q 15 (v := ?_) (by kernel_rfl) rfl rfl (fun W hW => ?_) ?_; rotate_left; (go_simp; first | done | with_reducible rfl); simp only [Act.put, List.setIfInBounds_toArray, List.set_cons_zero, List.set_cons_succ])
          refine m_end (by kernel_rfl) ?_
          go_wp2_with fail
          go_meet
          exact ⟨_, _, o1, o2, o3, o4, AR, nR, cR, rfl, rfl, rfl, rfl, R5, R6, hno, XJ⟩
        intro HL
        refine m_s3 1 10 11 (by kernel_rfl) rfl rfl rfl ?_ ?_ ?_
        · go_wp2_with fail
          refine j.cfgA.mono ?_
          rintro e wk1 ⟨q1, r1, rfl, hq1, hb⟩
          replace j := j.next hb
          go_wp2_with fail
          refine m_keep ⟨j.old, j.new⟩ ?_
          clear hb
          refine m_s3 3 10 11 (by kernel_rfl) rfl rfl rfl ?_ ?_ ?_
          · go_wp2_with fail
            refine j.cfgB.mono ?_
            rintro e wk2 ⟨q2, r2, rfl, hq2, hr2, hne2, hb⟩
            replace j := j.next hb; replace hq1 := hq1.below hb
            go_wp2_with fail
            refine m_keep ⟨j.old, j.new⟩ ?_
            clear hb
            refine m_s3 4 10 11 (by kernel_rfl) rfl rfl rfl ?_ ?_ ?_
            · go_wp2_with fail
              refine (j.joint (Below.refl _ _) hq1 hq2 hr2 hne2).mono ?_
              rintro e wk3 ⟨o1, o2, o3, o4, AR, nR, cR, rfl, hno, hb⟩
              replace j := j.next hb; replace hq1 := hq1.below hb; replace hq2 := hq2.below hb; replace hr2 := hr2.below hb
              go_wp2_with fail
              refine m_keep ⟨j.old, j.new⟩ ?_
              (refine m_q 5 (v := ?_) (by kernel_rfl) rfl rfl (fun W hW => ?_) ?_; rotate_left; (go_simp; first | done | with_reducible rfl); simp only [Act.put, List.setIfInBounds_toArray, List.set_cons_zero, List.set_cons_succ]); (refine m_q 6 (v := ?_) (by kernel_rfl) rfl rfl (fun W hW => ?_) ?_; rotate_left; (go_simp; first | done | with_reducible rfl); simp only [Act.put, List.setIfInBounds_toArray, List.set_cons_zero, List.set_cons_succ]); (refine m_q 7 (v := ?_) (by kernel_rfl) rfl rfl (fun W hW => ?_) ?_; rotate_left; (go_simp; first | done | with_reducible rfl); simp only [Act.put, List.setIfInBounds_toArray, List.set_cons_zero, List.set_cons_succ]); (refine m_q 8 (v := ?_) (by kernel_rfl) rfl rfl (fun W hW => ?_) ?_; rotate_left; (go_simp; first | done | with_reducible rfl); simp only [Act.put, List.setIfInBounds_toArray, List.set_cons_zero, List.set_cons_succ]); (refine m_q 9 (v := ?_) (by kernel_rfl) rfl rfl (fun W hW => ?_) ?_; rotate_left; (go_simp; first | done | with_reducible rfl); simp only [Act.put, List.setIfInBounds_toArray, List.set_cons_zero, List.set_cons_succ])
              clear hb
              refine m_s2 10 11 (by kernel_rfl) rfl rfl ?_ ?_
              · go_wp2_with fail
                have hB5_lo := j.below.size
                refine absN fun wk4 hB5 hb hzq => ?_
                clear hzq
                replace j := j.next hb; replace hq1 := hq1.below hb; replace hq2 := hq2.below hb; replace hr2 := hr2.below hb
                refine m_keep ⟨j.old, j.new⟩ ?_
                generalize wk3.heap.size = g5 at hB5 hB5_lo ⊢
                clear hb
                refine m_s1 11 (by kernel_rfl) rfl ?_
                go_wp2_with fail
                have hB6_lo := j.below.size
                have hne := Nat.ne_of_lt hB5.lt
                refine absN fun wk5 hB6 hb hzq => ?_
                clear hzq
                replace j := j.next hb; replace hq1 := hq1.below hb; replace hq2 := hq2.below hb; replace hr2 := hr2.below hb; replace hB5 := hB5.below hb hB5.lt
                refine m_keep ⟨j.old, j.new⟩ ?_
                generalize wk4.heap.size = g6 at hB6 hB6_lo hne ⊢
                clear hb
                exact HL ⟨g5, g6, o1, o2, o3, o4, AR, nR, cR⟩ _ _ _ (by kernel_rfl) rfl ⟨by first | rfl | trivial, hB5, hB6, hne, hB5_lo, hB6_lo, hno, j⟩
              · go_wp2_with fail
                have hB6_lo := j.below.size
                refine absN fun wk6 hB6 hb hzq => ?_
                clear hzq
                replace j := j.next hb; replace hq1 := hq1.below hb; replace hq2 := hq2.below hb; replace hr2 := hr2.below hb
                refine m_keep ⟨j.old, j.new⟩ ?_
                generalize wk3.heap.size = g6 at hB6 hB6_lo ⊢
                clear hb
                refine m_s1 10 (by kernel_rfl) rfl ?_
                go_wp2_with fail
                have hB5_lo := j.below.size
                have hne := Nat.ne_of_gt hB6.lt
                refine absN fun wk7 hB5 hb hzq => ?_
                clear hzq
                replace j := j.next hb; replace hq1 := hq1.below hb; replace hq2 := hq2.below hb; replace hr2 := hr2.below hb; replace hB6 := hB6.below hb hB6.lt
                refine m_keep ⟨j.old, j.new⟩ ?_
                generalize wk6.heap.size = g5 at hB5 hB5_lo hne ⊢
                clear hb
                exact HL ⟨g5, g6, o1, o2, o3, o4, AR, nR, cR⟩ _ _ _ (by kernel_rfl) rfl ⟨by first | rfl | trivial, hB5, hB6, hne, hB5_lo, hB6_lo, hno, j⟩
            · go_wp2_with fail
              have hB5_lo := j.below.size
              refine absN fun wk8 hB5 hb hzq => ?_
              clear hzq
              replace j := j.next hb; replace hq1 := hq1.below hb; replace hq2 := hq2.below hb; replace hr2 := hr2.below hb
              refine m_keep ⟨j.old, j.new⟩ ?_
              generalize wk2.heap.size = g5 at hB5 hB5_lo ⊢
              clear hb
              refine m_s2 4 11 (by kernel_rfl) rfl rfl ?_ ?_
              · go_wp2_with fail
                refine (j.joint (Below.refl _ _) hq1 hq2 hr2 hne2).mono ?_
                rintro e wk9 ⟨o1, o2, o3, o4, AR, nR, cR, rfl, hno, hb⟩
                replace j := j.next hb; replace hq1 := hq1.below hb; replace hq2 := hq2.below hb; replace hr2 := hr2.below hb; replace hB5 := hB5.below hb hB5.lt
                go_wp2_with fail
                refine m_keep ⟨j.old, j.new⟩ ?_
                (refine m_q 5 (v := ?_) (by kernel_rfl) rfl rfl (fun W hW => ?_) ?_; rotate_left; (go_simp; first | done | with_reducible rfl); simp only [Act.put, List.setIfInBounds_toArray, List.set_cons_zero, List.set_cons_succ]); (refine m_q 6 (v := ?_) (by kernel_rfl) rfl rfl (fun W hW => ?_) ?_; rotate_left; (go_simp; first | done | with_reducible rfl); simp only [Act.put, List.setIfInBounds_toArray, List.set_cons_zero, List.set_cons_succ]); (refine m_q 7 (v := ?_) (by kernel_rfl) rfl rfl (fun W hW => ?_) ?_; rotate_left; (go_simp; first | done | with_reducible rfl); simp only [Act.put, List.setIfInBounds_toArray, List.set_cons_zero, List.set_cons_succ]); (refine m_q 8 (v := ?_) (by kernel_rfl) rfl rfl (fun W hW => ?_) ?_; rotate_left; (go_simp; first | done | with_reducible rfl); simp only [Act.put, List.setIfInBounds_toArray, List.set_cons_zero, List.set_cons_succ]); (refine m_q 9 (v := ?_) (by kernel_rfl) rfl rfl (fun W hW => ?_) ?_; rotate_left; (go_simp; first | done | with_reducible rfl); simp only [Act.put, List.setIfInBounds_toArray, List.set_cons_zero, List.set_cons_succ])
                clear hb
                refine m_s1 11 (by kernel_rfl) rfl ?_
                go_wp2_with fail
                have hB6_lo := j.below.size
                have hne := Nat.ne_of_lt hB5.lt
                refine absN fun wk10 hB6 hb hzq => ?_
                clear hzq
                replace j := j.next hb; replace hq1 := hq1.below hb; replace hq2 := hq2.below hb; replace hr2 := hr2.below hb; replace hB5 := hB5.below hb hB5.lt
                refine m_keep ⟨j.old, j.new⟩ ?_
                generalize wk9.heap.size = g6 at hB6 hB6_lo hne ⊢
                clear hb
                exact HL ⟨g5, g6, o1, o2, o3, o4, AR, nR, cR⟩ _ _ _ (by kernel_rfl) rfl ⟨by first | rfl | trivial, hB5, hB6, hne, hB5_lo, hB6_lo, hno, j⟩
              · go_wp2_with fail
                have hB6_lo := j.below.size
                have hne := Nat.ne_of_lt hB5.lt
                refine absN fun wk11 hB6 hb hzq => ?_
                clear hzq
                replace j := j.next hb; replace hq1 := hq1.below hb; replace hq2 := hq2.below hb; replace hr2 := hr2.below hb; replace hB5 := hB5.below hb hB5.lt
                refine m_keep ⟨j.old, j.new⟩ ?_
                generalize wk8.heap.size = g6 at hB6 hB6_lo hne ⊢
                clear hb
                refine m_s1 4 (by kernel_rfl) rfl ?_
                go_wp2_with fail
                refine (j.joint (Below.refl _ _) hq1 hq2 hr2 hne2).mono ?_
                rintro e wk12 ⟨o1, o2, o3, o4, AR, nR, cR, rfl, hno, hb⟩
                replace j := j.next hb; replace hq1 := hq1.below hb; replace hq2 := hq2.below hb; replace hr2 := hr2.below hb; replace hB5 := hB5.below hb hB5.lt; replace hB6 := hB6.below hb hB6.lt
                go_wp2_with fail
                refine m_keep ⟨j.old, j.new⟩ ?_
                (refine m_q 5 (v := ?_) (by kernel_rfl) rfl rfl (fun W hW => ?_) ?_; rotate_left; (go_simp; first | done | with_reducible rfl); simp only [Act.put, List.setIfInBounds_toArray, List.set_cons_zero, List.set_cons_succ]); (refine m_q 6 (v := ?_) (by kernel_rfl) rfl rfl (fun W hW => ?_) ?_; rotate_left; (go_simp; first | done | with_reducible rfl); simp only [Act.put, List.setIfInBounds_toArray, List.set_cons_zero, List.set_cons_succ]); (refine m_q 7 (v := ?_) (by kernel_rfl) rfl rfl (fun W hW => ?_) ?_; rotate_left; (go_simp; first | done | with_reducible rfl); simp only [Act.put, List.setIfInBounds_toArray, List.set_cons_zero, List.set_cons_succ]); (refine m_q 8 (v := ?_) (by kernel_rfl) rfl rfl (fun W hW => ?_) ?_; rotate_left; (go_simp; first | done | with_reducible rfl); simp only [Act.put, List.setIfInBounds_toArray, List.set_cons_zero, List.set_cons_succ]); (refine m_q 9 (v := ?_) (by kernel_rfl) rfl rfl (fun W hW => ?_) ?_; rotate_left; (go_simp; first | done | with_reducible rfl); simp only [Act.put, List.setIfInBounds_toArray, List.set_cons_zero, List.set_cons_succ])
                clear hb
                exact HL ⟨g5, g6, o1, o2, o3, o4, AR, nR, cR⟩ _ _ _ (by kernel_rfl) rfl ⟨by first | rfl | trivial, hB5, hB6, hne, hB5_lo, hB6_lo, hno, j⟩
            · go_wp2_with fail
              have hB6_lo := j.below.size
              refine absN fun wk13 hB6 hb hzq => ?_
              clear hzq
              replace j := j.next hb; replace hq1 := hq1.below hb; replace hq2 := hq2.below hb; replace hr2 := hr2.below hb
              refine m_keep ⟨j.old, j.new⟩ ?_
              generalize wk2.heap.size = g6 at hB6 hB6_lo ⊢
              clear hb
              refine m_s2 4 10 (by kernel_rfl) rfl rfl ?_ ?_
              · go_wp2_with fail
                refine (j.joint (Below.refl _ _) hq1 hq2 hr2 hne2).mono ?_
                rintro e wk14 ⟨o1, o2, o3, o4, AR, nR, cR, rfl, hno, hb⟩
                replace j := j.next hb; replace hq1 := hq1.below hb; replace hq2 := hq2.below hb; replace hr2 := hr2.below hb; replace hB6 := hB6.below hb hB6.lt
                go_wp2_with fail
                refine m_keep ⟨j.old, j.new⟩ ?_
                (refine m_q 5 (v := ?_) (by kernel_rfl) rfl rfl (fun W hW => ?_) ?_; rotate_left; (go_simp; first | done | with_reducible rfl); simp only [Act.put, List.setIfInBounds_toArray, List.set_cons_zero, List.set_cons_succ]); (refine m_q 6 (v := ?_) (by kernel_rfl) rfl rfl (fun W hW => ?_) ?_; rotate_left; (go_simp; first | done | with_reducible rfl); simp only [Act.put, List.setIfInBounds_toArray, List.set_cons_zero, List.set_cons_succ]); (refine m_q 7 (v := ?_) (by kernel_rfl) rfl rfl (fun W hW => ?_) ?_; rotate_left; (go_simp; first | done | with_reducible rfl); simp only [Act.put, List.setIfInBounds_toArray, List.set_cons_zero, List.set_cons_succ]); (refine m_q 8 (v := ?_) (by kernel_rfl) rfl rfl (fun W hW => ?_) ?_; rotate_left; (go_simp; first | done | with_reducible rfl); simp only [Act.put, List.setIfInBounds_toArray, List.set_cons_zero, List.set_cons_succ]); (refine m_q 9 (v := ?_) (by kernel_rfl) rfl rfl (fun W hW => ?_) ?_; rotate_left; (go_simp; first | done | with_reducible rfl); simp only [Act.put, List.setIfInBounds_toArray, List.set_cons_zero, List.set_cons_succ])
                clear hb
                refine m_s1 10 (by kernel_rfl) rfl ?_
                go_wp2_with fail
                have hB5_lo := j.below.size
                have hne := Nat.ne_of_gt hB6.lt
                refine absN fun wk15 hB5 hb hzq => ?_
                clear hzq
                replace j := j.next hb; replace hq1 := hq1.below hb; replace hq2 := hq2.below hb; replace hr2 := hr2.below hb; replace hB6 := hB6.below hb hB6.lt
                refine m_keep ⟨j.old, j.new⟩ ?_
                generalize wk14.heap.size = g5 at hB5 hB5_lo hne ⊢
                clear hb
                exact HL ⟨g5, g6, o1, o2, o3, o4, AR, nR, cR⟩ _ _ _ (by kernel_rfl) rfl ⟨by first | rfl | trivial, hB5, hB6, hne, hB5_lo, hB6_lo, hno, j⟩
              · go_wp2_with fail
                have hB5_lo := j.below.size
                have hne := Nat.ne_of_gt hB6.lt
                refine absN fun wk16 hB5 hb hzq => ?_
                clear hzq
                replace j := j.next hb; replace hq1 := hq1.below hb; replace hq2 := hq2.below hb; replace hr2 := hr2.below hb; replace hB6 := hB6.below hb hB6.lt
                refine m_keep ⟨j.old, j.new⟩ ?_
                generalize wk13.heap.size = g5 at hB5 hB5_lo hne ⊢
                clear hb
                refine m_s1 4 (by kernel_rfl) rfl ?_
                go_wp2_with fail
                refine (j.joint (Below.refl _ _) hq1 hq2 hr2 hne2).mono ?_
                rintro e wk17 ⟨o1, o2, o3, o4, AR, nR, cR, rfl, hno, hb⟩
                replace j := j.next hb; replace hq1 := hq1.below hb; replace hq2 := hq2.below hb; replace hr2 := hr2.below hb; replace hB6 := hB6.below hb hB6.lt; replace hB5 := hB5.below hb hB5.lt
                go_wp2_with fail
                refine m_keep ⟨j.old, j.new⟩ ?_
                (refine m_q 5 (v := ?_) (by kernel_rfl) rfl rfl (fun W hW => ?_) ?_; rotate_left; (go_simp; first | done | with_reducible rfl); simp only [Act.put, List.setIfInBounds_toArray, List.set_cons_zero, List.set_cons_succ]); (refine m_q 6 (v := ?_) (by kernel_rfl) rfl rfl (fun W hW => ?_) ?_; rotate_left; (go_simp; first | done | with_reducible rfl); simp only [Act.put, List.setIfInBounds_toArray, List.set_cons_zero, List.set_cons_succ]); (refine m_q 7 (v := ?_) (by kernel_rfl) rfl rfl (fun W hW => ?_) ?_; rotate_left; (go_simp; first | done | with_reducible rfl); simp only [Act.put, List.setIfInBounds_toArray, List.set_cons_zero, List.set_cons_succ]); (refine m_q 8 (v := ?_) (by kernel_rfl) rfl rfl (fun W hW => ?_) ?_; rotate_left; (go_simp; first | done | with_reducible rfl); simp only [Act.put, List.setIfInBounds_toArray, List.set_cons_zero, List.set_cons_succ]); (refine m_q 9 (v := ?_) (by kernel_rfl) rfl rfl (fun W hW => ?_) ?_; rotate_left; (go_simp; first | done | with_reducible rfl); simp only [Act.put, List.setIfInBounds_toArray, List.set_cons_zero, List.set_cons_succ])
                clear hb
                exact HL ⟨g5, g6, o1, o2, o3, o4, AR, nR, cR⟩ _ _ _ (by kernel_rfl) rfl ⟨by first | rfl | trivial, hB5, hB6, hne, hB5_lo, hB6_lo, hno, j⟩
          · go_wp2_with fail
            have hB5_lo := j.below.size
            refine absN fun wk18 hB5 hb hzq => ?_
            clear hzq
            replace j := j.next hb; replace hq1 := hq1.below hb
            refine m_keep ⟨j.old, j.new⟩ ?_
            generalize wk1.heap.size = g5 at hB5 hB5_lo ⊢
            clear hb
            refine m_s2 3 11 (by kernel_rfl) rfl rfl ?_ ?_
            · go_wp2_with fail
              refine j.cfgB.mono ?_
              rintro e wk19 ⟨q2, r2, rfl, hq2, hr2, hne2, hb⟩
              replace j := j.next hb; replace hq1 := hq1.below hb; replace hB5 := hB5.below hb hB5.lt
              go_wp2_with fail
              refine m_keep ⟨j.old, j.new⟩ ?_
              clear hb
              refine m_s2 4 11 (by kernel_rfl) rfl rfl ?_ ?_
              · go_wp2_with fail
                refine (j.joint (Below.refl _ _) hq1 hq2 hr2 hne2).mono ?_
                rintro e wk20 ⟨o1, o2, o3, o4, AR, nR, cR, rfl, hno, hb⟩
                replace j := j.next hb; replace hq1 := hq1.below hb; replace hB5 := hB5.below hb hB5.lt; replace hq2 := hq2.below hb; replace hr2 := hr2.below hb
                go_wp2_with fail
                refine m_keep ⟨j.old, j.new⟩ ?_
                (refine m_q 5 (v := ?_) (by kernel_rfl) rfl rfl (fun W hW => ?_) ?_; rotate_left; (go_simp; first | done | with_reducible rfl); simp only [Act.put, List.setIfInBounds_toArray, List.set_cons_zero, List.set_cons_succ]); (refine m_q 6 (v := ?_) (by kernel_rfl) rfl rfl (fun W hW => ?_) ?_; rotate_left; (go_simp; first | done | with_reducible rfl); simp only [Act.put, List.setIfInBounds_toArray, List.set_cons_zero, List.set_cons_succ]); (refine m_q 7 (v := ?_) (by kernel_rfl) rfl rfl (fun W hW => ?_) ?_; rotate_left; (go_simp; first | done | with_reducible rfl); simp only [Act.put, List.setIfInBounds_toArray, List.set_cons_zero, List.set_cons_succ]); (refine m_q 8 (v := ?_) (by kernel_rfl) rfl rfl (fun W hW => ?_) ?_; rotate_left; (go_simp; first | done | with_reducible rfl); simp only [Act.put, List.setIfInBounds_toArray, List.set_cons_zero, List.set_cons_succ]); (refine m_q 9 (v := ?_) (by kernel_rfl) rfl rfl (fun W hW => ?_) ?_; rotate_left; (go_simp; first | done | with_reducible rfl); simp only [Act.put, List.setIfInBounds_toArray, List.set_cons_zero, List.set_cons_succ])
                clear hb
                refine m_s1 11 (by kernel_rfl) rfl ?_
                go_wp2_with fail
                have hB6_lo := j.below.size
                have hne := Nat.ne_of_lt hB5.lt
                refine absN fun wk21 hB6 hb hzq => ?_
                clear hzq
                replace j := j.next hb; replace hq1 := hq1.below hb; replace hB5 := hB5.below hb hB5.lt; replace hq2 := hq2.below hb; replace hr2 := hr2.below hb
                refine m_keep ⟨j.old, j.new⟩ ?_
                generalize wk20.heap.size = g6 at hB6 hB6_lo hne ⊢
                clear hb
                exact HL ⟨g5, g6, o1, o2, o3, o4, AR, nR, cR⟩ _ _ _ (by kernel_rfl) rfl ⟨by first | rfl | trivial, hB5, hB6, hne, hB5_lo, hB6_lo, hno, j⟩
              · go_wp2_with fail
                have hB6_lo := j.below.size
                have hne := Nat.ne_of_lt hB5.lt
                refine absN fun wk22 hB6 hb hzq => ?_
                clear hzq
                replace j := j.next hb; replace hq1 := hq1.below hb; replace hB5 := hB5.below hb hB5.lt; replace hq2 := hq2.below hb; replace hr2 := hr2.below hb
                refine m_keep ⟨j.old, j.new⟩ ?_
                generalize wk19.heap.size = g6 at hB6 hB6_lo hne ⊢
                clear hb
                refine m_s1 4 (by kernel_rfl) rfl ?_
                go_wp2_with fail
                refine (j.joint (Below.refl _ _) hq1 hq2 hr2 hne2).mono ?_
                rintro e wk23 ⟨o1, o2, o3, o4, AR, nR, cR, rfl, hno, hb⟩
                replace j := j.next hb; replace hq1 := hq1.below hb; replace hB5 := hB5.below hb hB5.lt; replace hq2 := hq2.below hb; replace hr2 := hr2.below hb; replace hB6 := hB6.below hb hB6.lt
                go_wp2_with fail
                refine m_keep ⟨j.old, j.new⟩ ?_
                (refine m_q 5 (v := ?_) (by kernel_rfl) rfl rfl (fun W hW => ?_) ?_; rotate_left; (go_simp; first | done | with_reducible rfl); simp only [Act.put, List.setIfInBounds_toArray, List.set_cons_zero, List.set_cons_succ]); (refine m_q 6 (v := ?_) (by kernel_rfl) rfl rfl (fun W hW => ?_) ?_; rotate_left; (go_simp; first | done | with_reducible rfl); simp only [Act.put, List.setIfInBounds_toArray, List.set_cons_zero, List.set_cons_succ]); (refine m_q 7 (v := ?_) (by kernel_rfl) rfl rfl (fun W hW => ?_) ?_; rotate_left; (go_simp; first | done | with_reducible rfl); simp only [Act.put, List.setIfInBounds_toArray, List.set_cons_zero, List.set_cons_succ]); (refine m_q 8 (v := ?_) (by kernel_rfl) rfl rfl (fun W hW => ?_) ?_; rotate_left; (go_simp; first | done | with_reducible rfl); simp only [Act.put, List.setIfInBounds_toArray, List.set_cons_zero, List.set_cons_succ]); (refine m_q 9 (v := ?_) (by kernel_rfl) rfl rfl (fun W hW => ?_) ?_; rotate_left; (go_simp; first | done | with_reducible rfl); simp only [Act.put, List.setIfInBounds_toArray, List.set_cons_zero, List.set_cons_succ])
                clear hb
                exact HL ⟨g5, g6, o1, o2, o3, o4, AR, nR, cR⟩ _ _ _ (by kernel_rfl) rfl ⟨by first | rfl | trivial, hB5, hB6, hne, hB5_lo, hB6_lo, hno, j⟩
            · go_wp2_with fail
              have hB6_lo := j.below.size
              have hne := Nat.ne_of_lt hB5.lt
              refine absN fun wk24 hB6 hb hzq => ?_
              clear hzq
              replace j := j.next hb; replace hq1 := hq1.below hb; replace hB5 := hB5.below hb hB5.lt
              refine m_keep ⟨j.old, j.new⟩ ?_
              generalize wk18.heap.size = g6 at hB6 hB6_lo hne ⊢
              clear hb
              refine m_s1 3 (by kernel_rfl) rfl ?_
              go_wp2_with fail
              refine j.cfgB.mono ?_
              rintro e wk25 ⟨q2, r2, rfl, hq2, hr2, hne2, hb⟩
              replace j := j.next hb; replace hq1 := hq1.below hb; replace hB5 := hB5.below hb hB5.lt; replace hB6 := hB6.below hb hB6.lt
              go_wp2_with fail
              refine m_keep ⟨j.old, j.new⟩ ?_
              clear hb
              refine m_s1 4 (by kernel_rfl) rfl ?_
              go_wp2_with fail
              refine (j.joint (Below.refl _ _) hq1 hq2 hr2 hne2).mono ?_
              rintro e wk26 ⟨o1, o2, o3, o4, AR, nR, cR, rfl, hno, hb⟩
              replace j := j.next hb; replace hq1 := hq1.below hb; replace hB5 := hB5.below hb hB5.lt; replace hB6 := hB6.below hb hB6.lt; replace hq2 := hq2.below hb; replace hr2 := hr2.below hb
              go_wp2_with fail
              refine m_keep ⟨j.old, j.new⟩ ?_
              (refine m_q 5 (v := ?_) (by kernel_rfl) rfl rfl (fun W hW => ?_) ?_; rotate_left; (go_simp; first | done | with_reducible rfl); simp only [Act.put, List.setIfInBounds_toArray, List.set_cons_zero, List.set_cons_succ]); (refine m_q 6 (v := ?_) (by kernel_rfl) rfl rfl (fun W hW => ?_) ?_; rotate_left; (go_simp; first | done | with_reducible rfl); simp only [Act.put, List.setIfInBounds_toArray, List.set_cons_zero, List.set_cons_succ]); (refine m_q 7 (v := ?_) (by kernel_rfl) rfl rfl (fun W hW => ?_) ?_; rotate_left; (go_simp; first | done | with_reducible rfl); simp only [Act.put, List.setIfInBounds_toArray, List.set_cons_zero, List.set_cons_succ]); (refine m_q 8 (v := ?_) (by kernel_rfl) rfl rfl (fun W hW => ?_) ?_; rotate_left; (go_simp; first | done | with_reducible rfl); simp only [Act.put, List.setIfInBounds_toArray, List.set_cons_zero, List.set_cons_succ]); (refine m_q 9 (v := ?_) (by kernel_rfl) rfl rfl (fun W hW => ?_) ?_; rotate_left; (go_simp; first | done | with_reducible rfl); simp only [Act.put, List.setIfInBounds_toArray, List.set_cons_zero, List.set_cons_succ])
              clear hb
              exact HL ⟨g5, g6, o1, o2, o3, o4, AR, nR, cR⟩ _ _ _ (by kernel_rfl) rfl ⟨by first | rfl | trivial, hB5, hB6, hne, hB5_lo, hB6_lo, hno, j⟩
          · go_wp2_with fail
            have hB6_lo := j.below.size
            refine absN fun wk27 hB6 hb hzq => ?_
            clear hzq
            replace j := j.next hb; replace hq1 := hq1.below hb
            refine m_keep ⟨j.old, j.new⟩ ?_
            generalize wk1.heap.size = g6 at hB6 hB6_lo ⊢
            clear hb
            refine m_s2 3 10 (by kernel_rfl) rfl rfl ?_ ?_
            · go_wp2_with fail
              refine j.cfgB.mono ?_
              rintro e wk28 ⟨q2, r2, rfl, hq2, hr2, hne2, hb⟩
              replace j := j.next hb; replace hq1 := hq1.below hb; replace hB6 := hB6.below hb hB6.lt
              go_wp2_with fail
              refine m_keep ⟨j.old, j.new⟩ ?_
              clear hb
              refine m_s2 4 10 (by kernel_rfl) rfl rfl ?_ ?_
              · go_wp2_with fail
                refine (j.joint (Below.refl _ _) hq1 hq2 hr2 hne2).mono ?_
                rintro e wk29 ⟨o1, o2, o3, o4, AR, nR, cR, rfl, hno, hb⟩
                replace j := j.next hb; replace hq1 := hq1.below hb; replace hB6 := hB6.below hb hB6.lt; replace hq2 := hq2.below hb; replace hr2 := hr2.below hb
                go_wp2_with fail
                refine m_keep ⟨j.old, j.new⟩ ?_
                (refine m_q 5 (v := ?_) (by kernel_rfl) rfl rfl (fun W hW => ?_) ?_; rotate_left; (go_simp; first | done | with_reducible rfl); simp only [Act.put, List.setIfInBounds_toArray, List.set_cons_zero, List.set_cons_succ]); (refine m_q 6 (v := ?_) (by kernel_rfl) rfl rfl (fun W hW => ?_) ?_; rotate_left; (go_simp; first | done | with_reducible rfl); simp only [Act.put, List.setIfInBounds_toArray, List.set_cons_zero, List.set_cons_succ]); (refine m_q 7 (v := ?_) (by kernel_rfl) rfl rfl (fun W hW => ?_) ?_; rotate_left; (go_simp; first | done | with_reducible rfl); simp only [Act.put, List.setIfInBounds_toArray, List.set_cons_zero, List.set_cons_succ]); (refine m_q 8 (v := ?_) (by kernel_rfl) rfl rfl (fun W hW => ?_) ?_; rotate_left; (go_simp; first | done | with_reducible rfl); simp only [Act.put, List.setIfInBounds_toArray, List.set_cons_zero, List.set_cons_succ]); (refine m_q 9 (v := ?_) (by kernel_rfl) rfl rfl (fun W hW => ?_) ?_; rotate_left; (go_simp; first | done | with_reducible rfl); simp only [Act.put, List.setIfInBounds_toArray, List.set_cons_zero, List.set_cons_succ])
                clear hb
                refine m_s1 10 (by kernel_rfl) rfl ?_
                go_wp2_with fail
                have hB5_lo := j.below.size
                have hne := Nat.ne_of_gt hB6.lt
                refine absN fun wk30 hB5 hb hzq => ?_
                clear hzq
                replace j := j.next hb; replace hq1 := hq1.below hb; replace hB6 := hB6.below hb hB6.lt; replace hq2 := hq2.below hb; replace hr2 := hr2.below hb
                refine m_keep ⟨j.old, j.new⟩ ?_
                generalize wk29.heap.size = g5 at hB5 hB5_lo hne ⊢
                clear hb
                exact HL ⟨g5, g6, o1, o2, o3, o4, AR, nR, cR⟩ _ _ _ (by kernel_rfl) rfl ⟨by first | rfl | trivial, hB5, hB6, hne, hB5_lo, hB6_lo, hno, j⟩
              · go_wp2_with fail
                have hB5_lo := j.below.size
                have hne := Nat.ne_of_gt hB6.lt
                refine absN fun wk31 hB5 hb hzq => ?_
                clear hzq
                replace j := j.next hb; replace hq1 := hq1.below hb; replace hB6 := hB6.below hb hB6.lt; replace hq2 := hq2.below hb; replace hr2 := hr2.below hb
                refine m_keep ⟨j.old, j.new⟩ ?_
                generalize wk28.heap.size = g5 at hB5 hB5_lo hne ⊢
                clear hb
                refine m_s1 4 (by kernel_rfl) rfl ?_
                go_wp2_with fail
                refine (j.joint (Below.refl _ _) hq1 hq2 hr2 hne2).mono ?_
                rintro e wk32 ⟨o1, o2, o3, o4, AR, nR, cR, rfl, hno, hb⟩
                replace j := j.next hb; replace hq1 := hq1.below hb; replace hB6 := hB6.below hb hB6.lt; replace hq2 := hq2.below hb; replace hr2 := hr2.below hb; replace hB5 := hB5.below hb hB5.lt
                go_wp2_with fail
                refine m_keep ⟨j.old, j.new⟩ ?_
                (refine m_q 5 (v := ?_) (by kernel_rfl) rfl rfl (fun W hW => ?_) ?_; rotate_left; (go_simp; first | done | with_reducible rfl); simp only [Act.put, List.setIfInBounds_toArray, List.set_cons_zero, List.set_cons_succ]); (refine m_q 6 (v := ?_) (by kernel_rfl) rfl rfl (fun W hW => ?_) ?_; rotate_left; (go_simp; first | done | with_reducible rfl); simp only [Act.put, List.setIfInBounds_toArray, List.set_cons_zero, List.set_cons_succ]); (refine m_q 7 (v := ?_) (by kernel_rfl) rfl rfl (fun W hW => ?_) ?_; rotate_left; (go_simp; first | done | with_reducible rfl); simp only [Act.put, List.setIfInBounds_toArray, List.set_cons_zero, List.set_cons_succ]); (refine m_q 8 (v := ?_) (by kernel_rfl) rfl rfl (fun W hW => ?_) ?_; rotate_left; (go_simp; first | done | with_reducible rfl); simp only [Act.put, List.setIfInBounds_toArray, List.set_cons_zero, List.set_cons_succ]); (refine m_q 9 (v := ?_) (by kernel_rfl) rfl rfl (fun W hW => ?_) ?_; rotate_left; (go_simp; first | done | with_reducible rfl); simp only [Act.put, List.setIfInBounds_toArray, List.set_cons_zero, List.set_cons_succ])
                clear hb
                exact HL ⟨g5, g6, o1, o2, o3, o4, AR, nR, cR⟩ _ _ _ (by kernel_rfl) rfl ⟨by first | rfl | trivial, hB5, hB6, hne, hB5_lo, hB6_lo, hno, j⟩
            · go_wp2_with fail
              have hB5_lo := j.below.size
              have hne := Nat.ne_of_gt hB6.lt
              refine absN fun wk33 hB5 hb hzq => ?_
              clear hzq
              replace j := j.next hb; replace hq1 := hq1.below hb; replace hB6 := hB6.below hb hB6.lt
              refine m_keep ⟨j.old, j.new⟩ ?_
              generalize wk27.heap.size = g5 at hB5 hB5_lo hne ⊢
              clear hb
              refine m_s1 3 (by kernel_rfl) rfl ?_
              go_wp2_with fail
              refine j.cfgB.mono ?_
              rintro e wk34 ⟨q2, r2, rfl, hq2, hr2, hne2, hb⟩
              replace j := j.next hb; replace hq1 := hq1.below hb; replace hB6 := hB6.below hb hB6.lt; replace hB5 := hB5.below hb hB5.lt
              go_wp2_with fail
              refine m_keep ⟨j.old, j.new⟩ ?_
              clear hb
              refine m_s1 4 (by kernel_rfl) rfl ?_
              go_wp2_with fail
              refine (j.joint (Below.refl _ _) hq1 hq2 hr2 hne2).mono ?_
              rintro e wk35 ⟨o1, o2, o3, o4, AR, nR, cR, rfl, hno, hb⟩
              replace j := j.next hb; replace hq1 := hq1.below hb; replace hB6 := hB6.below hb hB6.lt; replace hB5 := hB5.below hb hB5.lt; replace hq2 := hq2.below hb; replace hr2 := hr2.below hb
              go_wp2_with fail
              refine m_keep ⟨j.old, j.new⟩ ?_
              (refine m_q 5 (v := ?_) (by kernel_rfl) rfl rfl (fun W hW => ?_) ?_; rotate_left; (go_simp; first | done | with_reducible rfl); simp only [Act.put, List.setIfInBounds_toArray, List.set_cons_zero, List.set_cons_succ]); (refine m_q 6 (v := ?_) (by kernel_rfl) rfl rfl (fun W hW => ?_) ?_; rotate_left; (go_simp; first | done | with_reducible rfl); simp only [Act.put, List.setIfInBounds_toArray, List.set_cons_zero, List.set_cons_succ]); (refine m_q 7 (v := ?_) (by kernel_rfl) rfl rfl (fun W hW => ?_) ?_; rotate_left; (go_simp; first | done | with_reducible rfl); simp only [Act.put, List.setIfInBounds_toArray, List.set_cons_zero, List.set_cons_succ]); (refine m_q 8 (v := ?_) (by kernel_rfl) rfl rfl (fun W hW => ?_) ?_; rotate_left; (go_simp; first | done | with_reducible rfl); simp only [Act.put, List.setIfInBounds_toArray, List.set_cons_zero, List.set_cons_succ]); (refine m_q 9 (v := ?_) (by kernel_rfl) rfl rfl (fun W hW => ?_) ?_; rotate_left; (go_simp; first | done | with_reducible rfl); simp only [Act.put, List.setIfInBounds_toArray, List.set_cons_zero, List.set_cons_succ])
              clear hb
              exact HL ⟨g5, g6, o1, o2, o3, o4, AR, nR, cR⟩ _ _ _ (by kernel_rfl) rfl ⟨by first | rfl | trivial, hB5, hB6, hne, hB5_lo, hB6_lo, hno, j⟩
        · go_wp2_with fail
          have hB5_lo := j.below.size
          refine absN fun wk36 hB5 hb hzq => ?_
          clear hzq
          replace j := j.next hb
          refine m_keep ⟨j.old, j.new⟩ ?_
          generalize wq.heap.size = g5 at hB5 hB5_lo ⊢
          clear hb
          refine m_s2 1 11 (by kernel_rfl) rfl rfl ?_ ?_
          · go_wp2_with fail
            refine j.cfgA.mono ?_
            rintro e wk37 ⟨q1, r1, rfl, hq1, hb⟩
            replace j := j.next hb; replace hB5 := hB5.below hb hB5.lt
            go_wp2_with fail
            refine m_keep ⟨j.old, j.new⟩ ?_
            clear hb
            refine m_s2 3 11 (by kernel_rfl) rfl rfl ?_ ?_
            · go_wp2_with fail
              refine j.cfgB.mono ?_
              rintro e wk38 ⟨q2, r2, rfl, hq2, hr2, hne2, hb⟩
              replace j := j.next hb; replace hB5 := hB5.below hb hB5.lt; replace hq1 := hq1.below hb
              go_wp2_with fail
              refine m_keep ⟨j.old, j.new⟩ ?_
              clear hb
              refine m_s2 4 11 (by kernel_rfl) rfl rfl ?_ ?_
              · go_wp2_with fail
                refine (j.joint (Below.refl _ _) hq1 hq2 hr2 hne2).mono ?_
                rintro e wk39 ⟨o1, o2, o3, o4, AR, nR, cR, rfl, hno, hb⟩
                replace j := j.next hb; replace hB5 := hB5.below hb hB5.lt; replace hq1 := hq1.below hb; replace hq2 := hq2.below hb; replace hr2 := hr2.below hb
                go_wp2_with fail
                refine m_keep ⟨j.old, j.new⟩ ?_
                (refine m_q 5 (v := ?_) (by kernel_rfl) rfl rfl (fun W hW => ?_) ?_; rotate_left; (go_simp; first | done | with_reducible rfl); simp only [Act.put, List.setIfInBounds_toArray, List.set_cons_zero, List.set_cons_succ]); (refine m_q 6 (v := ?_) (by kernel_rfl) rfl rfl (fun W hW => ?_) ?_; rotate_left; (go_simp; first | done | with_reducible rfl); simp only [Act.put, List.setIfInBounds_toArray, List.set_cons_zero, List.set_cons_succ]); (refine m_q 7 (v := ?_) (by kernel_rfl) rfl rfl (fun W hW => ?_) ?_; rotate_left; (go_simp; first | done | with_reducible rfl); simp only [Act.put, List.setIfInBounds_toArray, List.set_cons_zero, List.set_cons_succ]); (refine m_q 8 (v := ?_) (by kernel_rfl) rfl rfl (fun W hW => ?_) ?_; rotate_left; (go_simp; first | done | with_reducible rfl); simp only [Act.put, List.setIfInBounds_toArray, List.set_cons_zero, List.set_cons_succ]); (refine m_q 9 (v := ?_) (by kernel_rfl) rfl rfl (fun W hW => ?_) ?_; rotate_left; (go_simp; first | done | with_reducible rfl); simp only [Act.put, List.setIfInBounds_toArray, List.set_cons_zero, List.set_cons_succ])
                clear hb
                refine m_s1 11 (by kernel_rfl) rfl ?_
                go_wp2_with fail
                have hB6_lo := j.below.size
                have hne := Nat.ne_of_lt hB5.lt
                refine absN fun wk40 hB6 hb hzq => ?_
                clear hzq
                replace j := j.next hb; replace hB5 := hB5.below hb hB5.lt; replace hq1 := hq1.below hb; replace hq2 := hq2.below hb; replace hr2 := hr2.below hb
                refine m_keep ⟨j.old, j.new⟩ ?_
                generalize wk39.heap.size = g6 at hB6 hB6_lo hne ⊢
                clear hb
                exact HL ⟨g5, g6, o1, o2, o3, o4, AR, nR, cR⟩ _ _ _ (by kernel_rfl) rfl ⟨by first | rfl | trivial, hB5, hB6, hne, hB5_lo, hB6_lo, hno, j⟩
              · go_wp2_with fail
                have hB6_lo := j.below.size
                have hne := Nat.ne_of_lt hB5.lt
                refine absN fun wk41 hB6 hb hzq => ?_
                clear hzq
                replace j := j.next hb; replace hB5 := hB5.below hb hB5.lt; replace hq1 := hq1.below hb; replace hq2 := hq2.below hb; replace hr2 := hr2.below hb
                refine m_keep ⟨j.old, j.new⟩ ?_
                generalize wk38.heap.size = g6 at hB6 hB6_lo hne ⊢
                clear hb
                refine m_s1 4 (by kernel_rfl) rfl ?_
                go_wp2_with fail
                refine (j.joint (Below.refl _ _) hq1 hq2 hr2 hne2).mono ?_
                rintro e wk42 ⟨o1, o2, o3, o4, AR, nR, cR, rfl, hno, hb⟩
                replace j := j.next hb; replace hB5 := hB5.below hb hB5.lt; replace hq1 := hq1.below hb; replace hq2 := hq2.below hb; replace hr2 := hr2.below hb; replace hB6 := hB6.below hb hB6.lt
                go_wp2_with fail
                refine m_keep ⟨j.old, j.new⟩ ?_
                (refine m_q 5 (v := ?_) (by kernel_rfl) rfl rfl (fun W hW => ?_) ?_; rotate_left; (go_simp; first | done | with_reducible rfl); simp only [Act.put, List.setIfInBounds_toArray, List.set_cons_zero, List.set_cons_succ]); (refine m_q 6 (v := ?_) (by kernel_rfl) rfl rfl (fun W hW => ?_) ?_; rotate_left; (go_simp; first | done | with_reducible rfl); simp only [Act.put, List.setIfInBounds_toArray, List.set_cons_zero, List.set_cons_succ]); (refine m_q 7 (v := ?_) (by kernel_rfl) rfl rfl (fun W hW => ?_) ?_; rotate_left; (go_simp; first | done | with_reducible rfl); simp only [Act.put, List.setIfInBounds_toArray, List.set_cons_zero, List.set_cons_succ]); (refine m_q 8 (v := ?_) (by kernel_rfl) rfl rfl (fun W hW => ?_) ?_; rotate_left; (go_simp; first | done | with_reducible rfl); simp only [Act.put, List.setIfInBounds_toArray, List.set_cons_zero, List.set_cons_succ]); (refine m_q 9 (v := ?_) (by kernel_rfl) rfl rfl (fun W hW => ?_) ?_; rotate_left; (go_simp; first | done | with_reducible rfl); simp only [Act.put, List.setIfInBounds_toArray, List.set_cons_zero, List.set_cons_succ])
                clear hb
                exact HL ⟨g5, g6, o1, o2, o3, o4, AR, nR, cR⟩ _ _ _ (by kernel_rfl) rfl ⟨by first | rfl | trivial, hB5, hB6, hne, hB5_lo, hB6_lo, hno, j⟩
            · go_wp2_with fail
              have hB6_lo := j.below.size
              have hne := Nat.ne_of_lt hB5.lt
              refine absN fun wk43 hB6 hb hzq => ?_
              clear hzq
              replace j := j.next hb; replace hB5 := hB5.below hb hB5.lt; replace hq1 := hq1.below hb
              refine m_keep ⟨j.old, j.new⟩ ?_
              generalize wk37.heap.size = g6 at hB6 hB6_lo hne ⊢
              clear hb
              refine m_s1 3 (by kernel_rfl) rfl ?_
              go_wp2_with fail
              refine j.cfgB.mono ?_
              rintro e wk44 ⟨q2, r2, rfl, hq2, hr2, hne2, hb⟩
              replace j := j.next hb; replace hB5 := hB5.below hb hB5.lt; replace hq1 := hq1.below hb; replace hB6 := hB6.below hb hB6.lt
              go_wp2_with fail
              refine m_keep ⟨j.old, j.new⟩ ?_
              clear hb
              refine m_s1 4 (by kernel_rfl) rfl ?_
              go_wp2_with fail
              refine (j.joint (Below.refl _ _) hq1 hq2 hr2 hne2).mono ?_
              rintro e wk45 ⟨o1, o2, o3, o4, AR, nR, cR, rfl, hno, hb⟩
              replace j := j.next hb; replace hB5 := hB5.below hb hB5.lt; replace hq1 := hq1.below hb; replace hB6 := hB6.below hb hB6.lt; replace hq2 := hq2.below hb; replace hr2 := hr2.below hb
              go_wp2_with fail
              refine m_keep ⟨j.old, j.new⟩ ?_
              (refine m_q 5 (v := ?_) (by kernel_rfl) rfl rfl (fun W hW => ?_) ?_; rotate_left; (go_simp; first | done | with_reducible rfl); simp only [Act.put, List.setIfInBounds_toArray, List.set_cons_zero, List.set_cons_succ]); (refine m_q 6 (v := ?_) (by kernel_rfl) rfl rfl (fun W hW => ?_) ?_; rotate_left; (go_simp; first | done | with_reducible rfl); simp only [Act.put, List.setIfInBounds_toArray, List.set_cons_zero, List.set_cons_succ]); (refine m_q 7 (v := ?_) (by kernel_rfl) rfl rfl (fun W hW => ?_) ?_; rotate_left; (go_simp; first | done | with_reducible rfl); simp only [Act.put, List.setIfInBounds_toArray, List.set_cons_zero, List.set_cons_succ]); (refine m_q 8 (v := ?_) (by kernel_rfl) rfl rfl (fun W hW => ?_) ?_; rotate_left; (go_simp; first | done | with_reducible rfl); simp only [Act.put, List.setIfInBounds_toArray, List.set_cons_zero, List.set_cons_succ]); (refine m_q 9 (v := ?_) (by kernel_rfl) rfl rfl (fun W hW => ?_) ?_; rotate_left; (go_simp; first | done | with_reducible rfl); simp only [Act.put, List.setIfInBounds_toArray, List.set_cons_zero, List.set_cons_succ])
              clear hb
              exact HL ⟨g5, g6, o1, o2, o3, o4, AR, nR, cR⟩ _ _ _ (by kernel_rfl) rfl ⟨by first | rfl | trivial, hB5, hB6, hne, hB5_lo, hB6_lo, hno, j⟩
          · go_wp2_with fail
            have hB6_lo := j.below.size
            have hne := Nat.ne_of_lt hB5.lt
            refine absN fun wk46 hB6 hb hzq => ?_
            clear hzq
            replace j := j.next hb; replace hB5 := hB5.below hb hB5.lt
            refine m_keep ⟨j.old, j.new⟩ ?_
            generalize wk36.heap.size = g6 at hB6 hB6_lo hne ⊢
            clear hb
            refine m_s1 1 (by kernel_rfl) rfl ?_
            go_wp2_with fail
            refine j.cfgA.mono ?_
            rintro e wk47 ⟨q1, r1, rfl, hq1, hb⟩
            replace j := j.next hb; replace hB5 := hB5.below hb hB5.lt; replace hB6 := hB6.below hb hB6.lt
            go_wp2_with fail
            refine m_keep ⟨j.old, j.new⟩ ?_
            clear hb
            refine m_s1 3 (by kernel_rfl) rfl ?_
            go_wp2_with fail
            refine j.cfgB.mono ?_
            rintro e wk48 ⟨q2, r2, rfl, hq2, hr2, hne2, hb⟩
            replace j := j.next hb; replace hB5 := hB5.below hb hB5.lt; replace hB6 := hB6.below hb hB6.lt; replace hq1 := hq1.below hb
            go_wp2_with fail
            refine m_keep ⟨j.old, j.new⟩ ?_
            clear hb
            refine m_s1 4 (by kernel_rfl) rfl ?_
            go_wp2_with fail
            refine (j.joint (Below.refl _ _) hq1 hq2 hr2 hne2).mono ?_
            rintro e wk49 ⟨o1, o2, o3, o4, AR, nR, cR, rfl, hno, hb⟩
            replace j := j.next hb; replace hB5 := hB5.below hb hB5.lt; replace hB6 := hB6.below hb hB6.lt; replace hq1 := hq1.below hb; replace hq2 := hq2.below hb; replace hr2 := hr2.below hb
            go_wp2_with fail
            refine m_keep ⟨j.old, j.new⟩ ?_
            (refine m_q 5 (v := ?_) (by kernel_rfl) rfl rfl (fun W hW => ?_) ?_; rotate_left; (go_simp; first | done | with_reducible rfl); simp only [Act.put, List.setIfInBounds_toArray, List.set_cons_zero, List.set_cons_succ]); (refine m_q 6 (v := ?_) (by kernel_rfl) rfl rfl (fun W hW => ?_) ?_; rotate_left; (go_simp; first | done | with_reducible rfl); simp only [Act.put, List.setIfInBounds_toArray, List.set_cons_zero, List.set_cons_succ]); (refine m_q 7 (v := ?_) (by kernel_rfl) rfl rfl (fun W hW => ?_) ?_; rotate_left; (go_simp; first | done | with_reducible rfl); simp only [Act.put, List.setIfInBounds_toArray, List.set_cons_zero, List.set_cons_succ]); (refine m_q 8 (v := ?_) (by kernel_rfl) rfl rfl (fun W hW => ?_) ?_; rotate_left; (go_simp; first | done | with_reducible rfl); simp only [Act.put, List.setIfInBounds_toArray, List.set_cons_zero, List.set_cons_succ]); (refine m_q 9 (v := ?_) (by kernel_rfl) rfl rfl (fun W hW => ?_) ?_; rotate_left; (go_simp; first | done | with_reducible rfl); simp only [Act.put, List.setIfInBounds_toArray, List.set_cons_zero, List.set_cons_succ])
            clear hb
            exact HL ⟨g5, g6, o1, o2, o3, o4, AR, nR, cR⟩ _ _ _ (by kernel_rfl) rfl ⟨by first | rfl | trivial, hB5, hB6, hne, hB5_lo, hB6_lo, hno, j⟩
        · go_wp2_with fail
          have hB6_lo := j.below.size
          refine absN fun wk50 hB6 hb hzq => ?_
          clear hzq
          replace j := j.next hb
          refine m_keep ⟨j.old, j.new⟩ ?_
          generalize wq.heap.size = g6 at hB6 hB6_lo ⊢
          clear hb
          refine m_s2 1 10 (by kernel_rfl) rfl rfl ?_ ?_
          · go_wp2_with fail
            refine j.cfgA.mono ?_
            rintro e wk51 ⟨q1, r1, rfl, hq1, hb⟩
            replace j := j.next hb; replace hB6 := hB6.below hb hB6.lt
            go_wp2_with fail
            refine m_keep ⟨j.old, j.new⟩ ?_
            clear hb
            refine m_s2 3 10 (by kernel_rfl) rfl rfl ?_ ?_
            · go_wp2_with fail
              refine j.cfgB.mono ?_
              rintro e wk52 ⟨q2, r2, rfl, hq2, hr2, hne2, hb⟩
              replace j := j.next hb; replace hB6 := hB6.below hb hB6.lt; replace hq1 := hq1.below hb
              go_wp2_with fail
              refine m_keep ⟨j.old, j.new⟩ ?_
              clear hb
              refine m_s2 4 10 (by kernel_rfl) rfl rfl ?_ ?_
              · go_wp2_with fail
                refine (j.joint (Below.refl _ _) hq1 hq2 hr2 hne2).mono ?_
                rintro e wk53 ⟨o1, o2, o3, o4, AR, nR, cR, rfl, hno, hb⟩
                replace j := j.next hb; replace hB6 := hB6.below hb hB6.lt; replace hq1 := hq1.below hb; replace hq2 := hq2.below hb; replace hr2 := hr2.below hb
                go_wp2_with fail
                refine m_keep ⟨j.old, j.new⟩ ?_
                (refine m_q 5 (v := ?_) (by kernel_rfl) rfl rfl (fun W hW => ?_) ?_; rotate_left; (go_simp; first | done | with_reducible rfl); simp only [Act.put, List.setIfInBounds_toArray, List.set_cons_zero, List.set_cons_succ]); (refine m_q 6 (v := ?_) (by kernel_rfl) rfl rfl (fun W hW => ?_) ?_; rotate_left; (go_simp; first | done | with_reducible rfl); simp only [Act.put, List.setIfInBounds_toArray, List.set_cons_zero, List.set_cons_succ]); (refine m_q 7 (v := ?_) (by kernel_rfl) rfl rfl (fun W hW => ?_) ?_; rotate_left; (go_simp; first | done | with_reducible rfl); simp only [Act.put, List.setIfInBounds_toArray, List.set_cons_zero, List.set_cons_succ]); (refine m_q 8 (v := ?_) (by kernel_rfl) rfl rfl (fun W hW => ?_) ?_; rotate_left; (go_simp; first | done | with_reducible rfl); simp only [Act.put, List.setIfInBounds_toArray, List.set_cons_zero, List.set_cons_succ]); (refine m_q 9 (v := ?_) (by kernel_rfl) rfl rfl (fun W hW => ?_) ?_; rotate_left; (go_simp; first | done | with_reducible rfl); simp only [Act.put, List.setIfInBounds_toArray, List.set_cons_zero, List.set_cons_succ])
                clear hb
                refine m_s1 10 (by kernel_rfl) rfl ?_
                go_wp2_with fail
                have hB5_lo := j.below.size
                have hne := Nat.ne_of_gt hB6.lt
                refine absN fun wk54 hB5 hb hzq => ?_
                clear hzq
                replace j := j.next hb; replace hB6 := hB6.below hb hB6.lt; replace hq1 := hq1.below hb; replace hq2 := hq2.below hb; replace hr2 := hr2.below hb
                refine m_keep ⟨j.old, j.new⟩ ?_
                generalize wk53.heap.size = g5 at hB5 hB5_lo hne ⊢
                clear hb
                exact HL ⟨g5, g6, o1, o2, o3, o4, AR, nR, cR⟩ _ _ _ (by kernel_rfl) rfl ⟨by first | rfl | trivial, hB5, hB6, hne, hB5_lo, hB6_lo, hno, j⟩
              · go_wp2_with fail
                have hB5_lo := j.below.size
                have hne := Nat.ne_of_gt hB6.lt
                refine absN fun wk55 hB5 hb hzq => ?_
                clear hzq
                replace j := j.next hb; replace hB6 := hB6.below hb hB6.lt; replace hq1 := hq1.below hb; replace hq2 := hq2.below hb; replace hr2 := hr2.below hb
                refine m_keep ⟨j.old, j.new⟩ ?_
                generalize wk52.heap.size = g5 at hB5 hB5_lo hne ⊢
                clear hb
                refine m_s1 4 (by kernel_rfl) rfl ?_
                go_wp2_with fail
                refine (j.joint (Below.refl _ _) hq1 hq2 hr2 hne2).mono ?_
                rintro e wk56 ⟨o1, o2, o3, o4, AR, nR, cR, rfl, hno, hb⟩
                replace j := j.next hb; replace hB6 := hB6.below hb hB6.lt; replace hq1 := hq1.below hb; replace hq2 := hq2.below hb; replace hr2 := hr2.below hb; replace hB5 := hB5.below hb hB5.lt
                go_wp2_with fail
                refine m_keep ⟨j.old, j.new⟩ ?_
                (refine m_q 5 (v := ?_) (by kernel_rfl) rfl rfl (fun W hW => ?_) ?_; rotate_left; (go_simp; first | done | with_reducible rfl); simp only [Act.put, List.setIfInBounds_toArray, List.set_cons_zero, List.set_cons_succ]); (refine m_q 6 (v := ?_) (by kernel_rfl) rfl rfl (fun W hW => ?_) ?_; rotate_left; (go_simp; first | done | with_reducible rfl); simp only [Act.put, List.setIfInBounds_toArray, List.set_cons_zero, List.set_cons_succ]); (refine m_q 7 (v := ?_) (by kernel_rfl) rfl rfl (fun W hW => ?_) ?_; rotate_left; (go_simp; first | done | with_reducible rfl); simp only [Act.put, List.setIfInBounds_toArray, List.set_cons_zero, List.set_cons_succ]); (refine m_q 8 (v := ?_) (by kernel_rfl) rfl rfl (fun W hW => ?_) ?_; rotate_left; (go_simp; first | done | with_reducible rfl); simp only [Act.put, List.setIfInBounds_toArray, List.set_cons_zero, List.set_cons_succ]); (refine m_q 9 (v := ?_) (by kernel_rfl) rfl rfl (fun W hW => ?_) ?_; rotate_left; (go_simp; first | done | with_reducible rfl); simp only [Act.put, List.setIfInBounds_toArray, List.set_cons_zero, List.set_cons_succ])
                clear hb
                exact HL ⟨g5, g6, o1, o2, o3, o4, AR, nR, cR⟩ _ _ _ (by kernel_rfl) rfl ⟨by first | rfl | trivial, hB5, hB6, hne, hB5_lo, hB6_lo, hno, j⟩
            · go_wp2_with fail
              have hB5_lo := j.below.size
              have hne := Nat.ne_of_gt hB6.lt
              refine absN fun wk57 hB5 hb hzq => ?_
              clear hzq
              replace j := j.next hb; replace hB6 := hB6.below hb hB6.lt; replace hq1 := hq1.below hb
              refine m_keep ⟨j.old, j.new⟩ ?_
              generalize wk51.heap.size = g5 at hB5 hB5_lo hne ⊢
              clear hb
              refine m_s1 3 (by kernel_rfl) rfl ?_
              go_wp2_with fail
              refine j.cfgB.mono ?_
              rintro e wk58 ⟨q2, r2, rfl, hq2, hr2, hne2, hb⟩
              replace j := j.next hb; replace hB6 := hB6.below hb hB6.lt; replace hq1 := hq1.below hb; replace hB5 := hB5.below hb hB5.lt
              go_wp2_with fail
              refine m_keep ⟨j.old, j.new⟩ ?_
              clear hb
              refine m_s1 4 (by kernel_rfl) rfl ?_
              go_wp2_with fail
              refine (j.joint (Below.refl _ _) hq1 hq2 hr2 hne2).mono ?_
              rintro e wk59 ⟨o1, o2, o3, o4, AR, nR, cR, rfl, hno, hb⟩
              replace j := j.next hb; replace hB6 := hB6.below hb hB6.lt; replace hq1 := hq1.below hb; replace hB5 := hB5.below hb hB5.lt; replace hq2 := hq2.below hb; replace hr2 := hr2.below hb
              go_wp2_with fail
              refine m_keep ⟨j.old, j.new⟩ ?_
              (refine m_q 5 (v := ?_) (by kernel_rfl) rfl rfl (fun W hW => ?_) ?_; rotate_left; (go_simp; first | done | with_reducible rfl); simp only [Act.put, List.setIfInBounds_toArray, List.set_cons_zero, List.set_cons_succ]); (refine m_q 6 (v := ?_) (by kernel_rfl) rfl rfl (fun W hW => ?_) ?_; rotate_left; (go_simp; first | done | with_reducible rfl); simp only [Act.put, List.setIfInBounds_toArray, List.set_cons_zero, List.set_cons_succ]); (refine m_q 7 (v := ?_) (by kernel_rfl) rfl rfl (fun W hW => ?_) ?_; rotate_left; (go_simp; first | done | with_reducible rfl); simp only [Act.put, List.setIfInBounds_toArray, List.set_cons_zero, List.set_cons_succ]); (refine m_q 8 (v := ?_) (by kernel_rfl) rfl rfl (fun W hW => ?_) ?_; rotate_left; (go_simp; first | done | with_reducible rfl); simp only [Act.put, List.setIfInBounds_toArray, List.set_cons_zero, List.set_cons_succ]); (refine m_q 9 (v := ?_) (by kernel_rfl) rfl rfl (fun W hW => ?_) ?_; rotate_left; (go_simp; first | done | with_reducible rfl); simp only [Act.put, List.setIfInBounds_toArray, List.set_cons_zero, List.set_cons_succ])
              clear hb
              exact HL ⟨g5, g6, o1, o2, o3, o4, AR, nR, cR⟩ _ _ _ (by kernel_rfl) rfl ⟨by first | rfl | trivial, hB5, hB6, hne, hB5_lo, hB6_lo, hno, j⟩
          · go_wp2_with fail
            have hB5_lo := j.below.size
            have hne := Nat.ne_of_gt hB6.lt
            refine absN fun wk60 hB5 hb hzq => ?_
            clear hzq
            replace j := j.next hb; replace hB6 := hB6.below hb hB6.lt
            refine m_keep ⟨j.old, j.new⟩ ?_
            generalize wk50.heap.size = g5 at hB5 hB5_lo hne ⊢
            clear hb
            refine m_s1 1 (by kernel_rfl) rfl ?_
            go_wp2_with fail
            refine j.cfgA.mono ?_
            rintro e wk61 ⟨q1, r1, rfl, hq1, hb⟩
            replace j := j.next hb; replace hB6 := hB6.below hb hB6.lt; replace hB5 := hB5.below hb hB5.lt
            go_wp2_with fail
            refine m_keep ⟨j.old, j.new⟩ ?_
            clear hb
            refine m_s1 3 (by kernel_rfl) rfl ?_
            go_wp2_with fail
            refine j.cfgB.mono ?_
            rintro e wk62 ⟨q2, r2, rfl, hq2, hr2, hne2, hb⟩
            replace j := j.next hb; replace hB6 := hB6.below hb hB6.lt; replace hB5 := hB5.below hb hB5.lt; replace hq1 := hq1.below hb
            go_wp2_with fail
            refine m_keep ⟨j.old, j.new⟩ ?_
            clear hb
            refine m_s1 4 (by kernel_rfl) rfl ?_
            go_wp2_with fail
            refine (j.joint (Below.refl _ _) hq1 hq2 hr2 hne2).mono ?_
            rintro e wk63 ⟨o1, o2, o3, o4, AR, nR, cR, rfl, hno, hb⟩
            replace j := j.next hb; replace hB6 := hB6.below hb hB6.lt; replace hB5 := hB5.below hb hB5.lt; replace hq1 := hq1.below hb; replace hq2 := hq2.below hb; replace hr2 := hr2.below hb
            go_wp2_with fail
            refine m_keep ⟨j.old, j.new⟩ ?_
            (refine m_q 5 (v := ?_) (by kernel_rfl) rfl rfl (fun W hW => ?_) ?_; rotate_left; (go_simp; first | done | with_reducible rfl); simp only [Act.put, List.setIfInBounds_toArray, List.set_cons_zero, List.set_cons_succ]); (refine m_q 6 (v := ?_) (by kernel_rfl) rfl rfl (fun W hW => ?_) ?_; rotate_left; (go_simp; first | done | with_reducible rfl); simp only [Act.put, List.setIfInBounds_toArray, List.set_cons_zero, List.set_cons_succ]); (refine m_q 7 (v := ?_) (by kernel_rfl) rfl rfl (fun W hW => ?_) ?_; rotate_left; (go_simp; first | done | with_reducible rfl); simp only [Act.put, List.setIfInBounds_toArray, List.set_cons_zero, List.set_cons_succ]); (refine m_q 8 (v := ?_) (by kernel_rfl) rfl rfl (fun W hW => ?_) ?_; rotate_left; (go_simp; first | done | with_reducible rfl); simp only [Act.put, List.setIfInBounds_toArray, List.set_cons_zero, List.set_cons_succ]); (refine m_q 9 (v := ?_) (by kernel_rfl) rfl rfl (fun W hW => ?_) ?_; rotate_left; (go_simp; first | done | with_reducible rfl); simp only [Act.put, List.setIfInBounds_toArray, List.set_cons_zero, List.set_cons_succ])
            clear hb
            exact HL ⟨g5, g6, o1, o2, o3, o4, AR, nR, cR⟩ _ _ _ (by kernel_rfl) rfl ⟨by first | rfl | trivial, hB5, hB6, hne, hB5_lo, hB6_lo, hno, j⟩
      case rest =>
        obtain ⟨g5, g6, o1, o2, o3, o4, AR, nR, cR, rfl, rfl, rfl, rfl, h51, h61, hno, J1⟩ := hcut
        obtain ⟨v1, hv1⟩ : ∃ V, V = wc := ⟨_, rfl⟩
        subst hv1
        clear j
        have hd1 : Below v1.heap.size v1 v1.drew := (Below.refl _ _).drew
        have J1q := J1.next hd1
        go_wp2_with fail
        refine wp_mix (fun V => Blk V X7 31 #[.int .i64 (a : Int), .slice A1 u c1, .int .i64 (p : Int), .slice B1 a d1] ∧ Blk V X10 31 #[.int .i64 (C2 : Int), .slice A2 R2 c2, .int .i64 (D2 : Int), .slice B2 S2 d2]) 10 (by kernel_rfl) (by kernel_rfl) ⟨J1q.old, J1q.new⟩ ?_
        obtain ⟨wq1, hwq⟩ : ∃ V, V = v1.drew := ⟨_, rfl⟩
        rw [← hwq] at hd1 J1q ⊢
        clear hwq
        (refine m_q 0 (v := ?_) (by kernel_rfl) rfl rfl (fun W hW => ?_) ?_; rotate_left; (have z0 := hW.1.cell 0; have z1 := hW.1.cell 1; have z2 := hW.1.cell 2; have z3 := hW.1.cell 3; have u0 := hW.2.cell 0; have u1 := hW.2.cell 1; have u2 := hW.2.cell 2; have u3 := hW.2.cell 3; go_simp; first | done | with_reducible rfl); simp only [Act.put, List.setIfInBounds_toArray, List.set_cons_zero, List.set_cons_succ]); (refine m_q 2 (v := ?_) (by kernel_rfl) rfl rfl (fun W hW => ?_) ?_; rotate_left; (have z0 := hW.1.cell 0; have z1 := hW.1.cell 1; have z2 := hW.1.cell 2; have z3 := hW.1.cell 3; have u0 := hW.2.cell 0; have u1 := hW.2.cell 1; have u2 := hW.2.cell 2; have u3 := hW.2.cell 3; go_simp; first | done | with_reducible rfl); simp only [Act.put, List.setIfInBounds_toArray, List.set_cons_zero, List.set_cons_succ])
        refine m_s1 1 (by kernel_rfl) rfl ?_
        go_wp2_with fail
        refine J1q.cfgA.mono ?_
        rintro e va1 ⟨q1, r1, rfl, hq1, hba⟩
        have Ja1 := J1q.next hba
        go_wp2_with fail
        refine m_keep ⟨Ja1.old, Ja1.new⟩ ?_
        refine m_s1 3 (by kernel_rfl) rfl ?_
        go_wp2_with fail
        refine Ja1.cfgB.mono ?_
        rintro e vb1 ⟨q2, r2, rfl, hq2, hr2, hne2, hbb⟩
        have Jb1 := Ja1.next hbb
        go_wp2_with fail
        refine m_keep ⟨Jb1.old, Jb1.new⟩ ?_
        refine m_s1 4 (by kernel_rfl) rfl ?_
        go_wp2_with fail
        refine (Jb1.dist (Below.refl _ _) (hq1.below hbb) hq2 hr2 hne2).mono ?_
        rintro e v2 ⟨nD, rfl, hD1, hD2, hbc⟩
        have J2 := Jb1.next hbc
        have kk1 := hd1.trans ((hba.trans ((hbb.trans (hbc.mono hbb.size)).mono hba.size)).mono hd1.size)
        have h52 := h51.below kk1 h51.lt
        have h62 := h61.below kk1 h61.lt
        go_wp2_with fail
        refine m_keep ⟨J2.old, J2.new⟩ ?_
        (refine m_q 5 (v := ?_) (by kernel_rfl) rfl rfl (fun W hW => ?_) ?_; rotate_left; (go_simp; first | done | with_reducible rfl); simp only [Act.put, List.setIfInBounds_toArray, List.set_cons_zero, List.set_cons_succ]); (refine m_q 6 (v := ?_) (by kernel_rfl) rfl rfl (fun W hW => ?_) ?_; rotate_left; (go_simp; first | done | with_reducible rfl); simp only [Act.put, List.setIfInBounds_toArray, List.set_cons_zero, List.set_cons_succ]); (refine m_q 7 (v := ?_) (by kernel_rfl) rfl rfl (fun W hW => ?_) ?_; rotate_left; (go_simp; first | done | with_reducible rfl); simp only [Act.put, List.setIfInBounds_toArray, List.set_cons_zero, List.set_cons_succ]); (refine m_q 8 (v := ?_) (by kernel_rfl) rfl rfl (fun W hW => ?_) ?_; rotate_left; (go_simp; first | done | with_reducible rfl); simp only [Act.put, List.setIfInBounds_toArray, List.set_cons_zero, List.set_cons_succ]); (refine m_q 9 (v := ?_) (by kernel_rfl) rfl rfl (fun W hW => ?_) ?_; rotate_left; (go_simp; first | done | with_reducible rfl); simp only [Act.put, List.setIfInBounds_toArray, List.set_cons_zero, List.set_cons_succ])
        refine m_end (by kernel_rfl) ?_
        clear J1 J1q Ja1 Jb1 hq1 hq2 hr2 hba hbb hbc hd1 kk1 h51 h61
        have hd2 : Below v2.heap.size v2 v2.drew := (Below.refl _ _).drew
        have J2q := J2.next hd2
        go_wp2_with fail
        refine wp_mix (fun V => Blk V X7 31 #[.int .i64 (a : Int), .slice A1 u c1, .int .i64 (p : Int), .slice B1 a d1] ∧ Blk V X10 31 #[.int .i64 (C2 : Int), .slice A2 R2 c2, .int .i64 (D2 : Int), .slice B2 S2 d2]) 10 (by kernel_rfl) (by kernel_rfl) ⟨J2q.old, J2q.new⟩ ?_
        obtain ⟨wq2, hwq⟩ : ∃ V, V = v2.drew := ⟨_, rfl⟩
        rw [← hwq] at hd2 J2q ⊢
        clear hwq
        (refine m_q 0 (v := ?_) (by kernel_rfl) rfl rfl (fun W hW => ?_) ?_; rotate_left; (have z0 := hW.1.cell 0; have z1 := hW.1.cell 1; have z2 := hW.1.cell 2; have z3 := hW.1.cell 3; have u0 := hW.2.cell 0; have u1 := hW.2.cell 1; have u2 := hW.2.cell 2; have u3 := hW.2.cell 3; go_simp; first | done | with_reducible rfl); simp only [Act.put, List.setIfInBounds_toArray, List.set_cons_zero, List.set_cons_succ]); (refine m_q 2 (v := ?_) (by kernel_rfl) rfl rfl (fun W hW => ?_) ?_; rotate_left; (have z0 := hW.1.cell 0; have z1 := hW.1.cell 1; have z2 := hW.1.cell 2; have z3 := hW.1.cell 3; have u0 := hW.2.cell 0; have u1 := hW.2.cell 1; have u2 := hW.2.cell 2; have u3 := hW.2.cell 3; go_simp; first | done | with_reducible rfl); simp only [Act.put, List.setIfInBounds_toArray, List.set_cons_zero, List.set_cons_succ])
        refine m_s1 1 (by kernel_rfl) rfl ?_
        go_wp2_with fail
        refine J2q.cfgA.mono ?_
        rintro e va2 ⟨q1, r1, rfl, hq1, hba⟩
        have Ja2 := J2q.next hba
        go_wp2_with fail
        refine m_keep ⟨Ja2.old, Ja2.new⟩ ?_
        refine m_s1 3 (by kernel_rfl) rfl ?_
        go_wp2_with fail
        refine Ja2.cfgB.mono ?_
        rintro e vb2 ⟨q2, r2, rfl, hq2, hr2, hne2, hbb⟩
        have Jb2 := Ja2.next hbb
        go_wp2_with fail
        refine m_keep ⟨Jb2.old, Jb2.new⟩ ?_
        refine m_s1 4 (by kernel_rfl) rfl ?_
        go_wp2_with fail
        refine (Jb2.plan (Below.refl _ _) (hq1.below hbb) hq2 hr2 hne2).mono ?_
        rintro e v3 ⟨AL, nL, cL, rfl, hL1, hbc⟩
        have J3 := Jb2.next hbc
        have kk2 := hd2.trans ((hba.trans ((hbb.trans (hbc.mono hbb.size)).mono hba.size)).mono hd2.size)
        have h53 := h52.below kk2 h52.lt
        have h63 := h62.below kk2 h62.lt
        go_wp2_with fail
        refine m_keep ⟨J3.old, J3.new⟩ ?_
        (refine m_q 5 (v := ?_) (by kernel_rfl) rfl rfl (fun W hW => ?_) ?_; rotate_left; (go_simp; first | done | with_reducible rfl); simp only [Act.put, List.setIfInBounds_toArray, List.set_cons_zero, List.set_cons_succ]); (refine m_q 6 (v := ?_) (by kernel_rfl) rfl rfl (fun W hW => ?_) ?_; rotate_left; (go_simp; first | done | with_reducible rfl); simp only [Act.put, List.setIfInBounds_toArray, List.set_cons_zero, List.set_cons_succ]); (refine m_q 7 (v := ?_) (by kernel_rfl) rfl rfl (fun W hW => ?_) ?_; rotate_left; (go_simp; first | done | with_reducible rfl); simp only [Act.put, List.setIfInBounds_toArray, List.set_cons_zero, List.set_cons_succ]); (refine m_q 8 (v := ?_) (by kernel_rfl) rfl rfl (fun W hW => ?_) ?_; rotate_left; (go_simp; first | done | with_reducible rfl); simp only [Act.put, List.setIfInBounds_toArray, List.set_cons_zero, List.set_cons_succ]); (refine m_q 9 (v := ?_) (by kernel_rfl) rfl rfl (fun W hW => ?_) ?_; rotate_left; (go_simp; first | done | with_reducible rfl); simp only [Act.put, List.setIfInBounds_toArray, List.set_cons_zero, List.set_cons_succ])
        refine m_end (by kernel_rfl) ?_
        clear J2 J2q Ja2 Jb2 hq1 hq2 hr2 hba hbb hbc hd2 kk2 h52 h62
        have hd3 : Below v3.heap.size v3 v3.drew := (Below.refl _ _).drew
        have J3q := J3.next hd3
        go_wp2_with fail
        refine wp_mix (fun V => Blk V X7 31 #[.int .i64 (a : Int), .slice A1 u c1, .int .i64 (p : Int), .slice B1 a d1] ∧ Blk V X10 31 #[.int .i64 (C2 : Int), .slice A2 R2 c2, .int .i64 (D2 : Int), .slice B2 S2 d2]) 12 (by kernel_rfl) (by kernel_rfl) ⟨J3q.old, J3q.new⟩ ?_
        obtain ⟨wq3, hwq⟩ : ∃ V, V = v3.drew := ⟨_, rfl⟩
        rw [← hwq] at hd3 J3q ⊢
        clear hwq
        (refine m_q 0 (v := ?_) (by kernel_rfl) rfl rfl (fun W hW => ?_) ?_; rotate_left; (have z0 := hW.1.cell 0; have z1 := hW.1.cell 1; have z2 := hW.1.cell 2; have z3 := hW.1.cell 3; have u0 := hW.2.cell 0; have u1 := hW.2.cell 1; have u2 := hW.2.cell 2; have u3 := hW.2.cell 3; go_simp; first | done | with_reducible rfl); simp only [Act.put, List.setIfInBounds_toArray, List.set_cons_zero, List.set_cons_succ]); (refine m_q 2 (v := ?_) (by kernel_rfl) rfl rfl (fun W hW => ?_) ?_; rotate_left; (have z0 := hW.1.cell 0; have z1 := hW.1.cell 1; have z2 := hW.1.cell 2; have z3 := hW.1.cell 3; have u0 := hW.2.cell 0; have u1 := hW.2.cell 1; have u2 := hW.2.cell 2; have u3 := hW.2.cell 3; go_simp; first | done | with_reducible rfl); simp only [Act.put, List.setIfInBounds_toArray, List.set_cons_zero, List.set_cons_succ])
        refine m_s1 1 (by kernel_rfl) rfl ?_
        go_wp2_with fail
        refine J3q.cfgA.mono ?_
        rintro e va3 ⟨q1, r1, rfl, hq1, hba⟩
        have Ja3 := J3q.next hba
        go_wp2_with fail
        refine m_keep ⟨Ja3.old, Ja3.new⟩ ?_
        refine m_s1 3 (by kernel_rfl) rfl ?_
        go_wp2_with fail
        refine Ja3.cfgB.mono ?_
        rintro e vb3 ⟨q2, r2, rfl, hq2, hr2, hne2, hbb⟩
        have Jb3 := Ja3.next hbb
        go_wp2_with fail
        refine m_keep ⟨Jb3.old, Jb3.new⟩ ?_
        refine m_s1 4 (by kernel_rfl) rfl ?_
        go_wp2_with fail
        refine (Jb3.verify (Below.refl _ _) (hq1.below hbb) hq2 hr2 hne2).mono ?_
        rintro e v4 ⟨fl, kv, rfl, hV1, hV2, hbc⟩
        have J4 := Jb3.next hbc
        have kk3 := hd3.trans ((hba.trans ((hbb.trans (hbc.mono hbb.size)).mono hba.size)).mono hd3.size)
        have h54 := h53.below kk3 h53.lt
        have h64 := h63.below kk3 h63.lt
        go_wp2_with fail
        refine m_keep ⟨J4.old, J4.new⟩ ?_
        (refine m_q 5 (v := ?_) (by kernel_rfl) rfl rfl (fun W hW => ?_) ?_; rotate_left; (go_simp; first | done | with_reducible rfl); simp only [Act.put, List.setIfInBounds_toArray, List.set_cons_zero, List.set_cons_succ]); (refine m_q 6 (v := ?_) (by kernel_rfl) rfl rfl (fun W hW => ?_) ?_; rotate_left; (go_simp; first | done | with_reducible rfl); simp only [Act.put, List.setIfInBounds_toArray, List.set_cons_zero, List.set_cons_succ]); (refine m_q 7 (v := ?_) (by kernel_rfl) rfl rfl (fun W hW => ?_) ?_; rotate_left; (go_simp; first | done | with_reducible rfl); simp only [Act.put, List.setIfInBounds_toArray, List.set_cons_zero, List.set_cons_succ]); (refine m_q 8 (v := ?_) (by kernel_rfl) rfl rfl (fun W hW => ?_) ?_; rotate_left; (go_simp; first | done | with_reducible rfl); simp only [Act.put, List.setIfInBounds_toArray, List.set_cons_zero, List.set_cons_succ]); (refine m_q 9 (v := ?_) (by kernel_rfl) rfl rfl (fun W hW => ?_) ?_; rotate_left; (go_simp; first | done | with_reducible rfl); simp only [Act.put, List.setIfInBounds_toArray, List.set_cons_zero, List.set_cons_succ]); (refine m_q 10 (v := ?_) (by kernel_rfl) rfl rfl (fun W hW => ?_) ?_; rotate_left; (go_simp; first | done | with_reducible rfl); simp only [Act.put, List.setIfInBounds_toArray, List.set_cons_zero, List.set_cons_succ]); (refine m_q 11 (v := ?_) (by kernel_rfl) rfl rfl (fun W hW => ?_) ?_; rotate_left; (go_simp; first | done | with_reducible rfl); simp only [Act.put, List.setIfInBounds_toArray, List.set_cons_zero, List.set_cons_succ])
        refine m_end (by kernel_rfl) ?_
        clear J3 J3q Ja3 Jb3 hq1 hq2 hr2 hba hbb hbc hd3 kk3 h53 h63
        have hE2 : E ≤ 1 := by have := J4.err; split at this <;> omega
        have l5 := h54.cell 0
        have l6 := h64.cell 0
        by_cases hE0 : E = 0
        · subst hE0
          obtain rfl := hD2 rfl
          obtain ⟨rfl, hV3⟩ := hV2 rfl
          have hb := J4.below
          have e3 : (((fl : Int) == 1) == (((planJ p M P M' P').length : Int) == 0)) = true := by
            by_cases h0 : (planJ p M P M' P').length = 0
            · rw [h0, hV3.2 h0]; rfl
            · have h1 : fl ≠ 1 := fun e => h0 (hV3.1 e)
              have a1 : ((fl : Int) == 1) = false := by rw [beq_eq_false_iff_ne]; omega
              have a2 : (((planJ p M P M' P').length : Int) == 0) = false := by rw [beq_eq_false_iff_ne]; omega
              rw [a1, a2]; rfl
          generalize (planJ p M P M' P').length = nP at e3 ⊢
          clear hV1 hV3 hD1 hL1 hno J4 h54 h64 hE2
          go_wp2_with fail
          go_ret
          exact ⟨rfl, hb⟩
        · obtain rfl : E = 1 := by omega
          obtain ⟨rfl, rfl, rfl⟩ := hno hE0
          obtain rfl := hD1 hE0
          obtain rfl := hL1 hE0
          obtain ⟨rfl, rfl⟩ := hV1 hE0
          have hb := J4.below
          clear hV1 hV2 hD1 hD2 hL1 hno J4 h54 h64 hE2 hE0
          go_wp2_with fail
          go_ret
          exact ⟨rfl, hb⟩
end Go.Proofs.YthkjigggfeejdaaDoor
