import Derived.Test.YthkjigggfeejdaaDoorMig8
import Derived.Laws.AppendOwnNone
namespace Go.Proofs.YthkjigggfeejdaaDoor
open Go.RowKit
attribute [local go_sem] Oper.semAt_some

/-- append(x, y...): both rows are the call's own. -/
theorem wpList_append_two {P : Program} {w : World} {ops : Array Oper} {rest : List Oper} {o : Oper} {a : Act} {Q : Exit → Act → World → Prop} (hgd : o.guard = none) (s x : Operand) (t : TypeId)
    (ho : o.op = .call { callee := .builtin .append, args := #[s, x], argTypes := #[t, t] })
    (base : Nat) (e : TypeId) (i : TypeInfo) (z : Value) (size bytes : Nat) (ht : P.underlying t = some (.slice e)) (hi : P.info? e = some i) (hz : i.zero = some z)
    (hsize : i.size = size) (hby : i.bytes = bytes) (hzs : z.cells.size = size) (hsz : 0 < size)
    (v : Value) (n : Nat) (xs : List Value) (hs : a.eval s = v) (hown : w.ownsRow base e size v n xs)
    (base2 : Nat) (u : Value) (m : Nat) (news : List Value) (hx : a.eval x = u) (hown2 : w.ownsRow base2 e size u m news) (h1 : ∀ u ∈ news, u.oneCell' = true)
    (h63 : n + m ≤ maxLen) (hbytes : (n + m) * bytes ≤ 140737488355328) (hbase : base ≤ w.heap.size)
    (h : ∀ v' w', w'.ownsRow base e size v' (n + m) (xs ++ news) → w.grownBy w' v.ownBlock → wpList P ops Q rest (a.put o.dst v') w') : wpList P ops Q (o :: rest) a w := by
  rcases id hown2.2 with ⟨hv, hm⟩ | ⟨g, cap, cur, hv, _⟩
  · subst hm
    have hn : news = [] := List.eq_nil_of_length_eq_zero (by simpa using hown2.1)
    subst hn
    refine wpList_append_own_none hgd s x t ho base e i size ht hi v n xs hs hown (hx.trans hv) ?_
    exact h v w (by simpa using hown) (World.grownBy.refl w _)
  · exact wpList_append_own w hgd s x t ho base e i z size bytes ht hi hz hsize hby hzs hsz v n xs hs hown ⟨g, 0, none⟩ m cap news (hx.trans hv) hown2.1 (hown2.cells (by rw [hv]; rfl)) h1 h63 hbytes hbase fun v' w' h2 h3 _ => h v' w' h2 h3
theorem cellsS_one (l : List (Nat × Nat × Nat)) : ∀ u ∈ cellsS l, u.oneCell' = true := by
  intro u hu
  unfold cellsS at hu
  obtain ⟨s, _, hs⟩ := List.mem_flatMap.1 hu
  simp at hs
  rcases hs with rfl | rfl | rfl <;> rfl
/-- The plan from one configuration over joint roles to another. -/
def planOf (n D : Nat) (U P U' P' : List (List Bool)) : List (Nat × Nat × Nat) := difM 3 D P P' P'.length ++ difM 1 n U U' U'.length ++ difM 2 n U' U U.length ++ difM 4 D P' P P.length
/-- The plan between two configurations. -/
def planJ (D : Nat) (M P M' P' : List (List Bool)) : List (Nat × Nat × Nat) :=
  planOf (jn P P') D (jU (jn P P') (List.range P.length) M) (jP (jn P P') D (List.range P.length) P) (jU (jn P P') (jl P P') M') (jP (jn P P') D (jl P P') P')
theorem planOf_cells (n D : Nat) (U P U' P' : List (List Bool)) : cellsS (planOf n D U P U' P') = cellsS (difM 3 D P P' P'.length) ++ cellsS (difM 1 n U U' U'.length) ++ cellsS (difM 2 n U' U U.length) ++ cellsS (difM 4 D P' P P.length) := by
  unfold planOf; rw [cellsS_app, cellsS_app, cellsS_app]
theorem planOf_len (n D : Nat) (U P U' P' : List (List Bool)) : (planOf n D U P U' P').length = (difM 3 D P P' P'.length).length + (difM 1 n U U' U'.length).length + (difM 2 n U' U U.length).length + (difM 4 D P' P P.length).length := by
  unfold planOf; rw [List.length_append, List.length_append, List.length_append]
theorem own_low {w : World} {base b0 : Nat} {e : TypeId} {size : Nat} {v : Value} {n : Nat} {xs : List Value} (h : w.ownsRow base e size v n xs) (hb : b0 ≤ base) : w.ownsRow b0 e size v n xs :=
  ⟨h.1, h.2.imp id fun ⟨g, cap, cur, hv, hg, r⟩ => ⟨g, cap, cur, hv, Nat.le_trans hb hg, r⟩⟩
set_option maxRecDepth 100000 in
set_option maxHeartbeats 4000000 in
theorem plan_any (u p u' p' C C' D : Nat) (M P M' P' : List (List Bool)) (w : World) (h : IsCfg w u p C D M P) (h' : IsCfg w u' p' C' D M' P') (hl : M.length = M'.length) (hn : jn P P' ≤ 256) (hM : M.length ≤ 256) (hD : D ≤ 256) (hT : Tab w) :
    Calls Tryd.prog 29 #[cfgV u p, cfgV u' p'] w fun e w' => ∃ v, e = .returned (.tuple #[v, .int .i64 0]) ∧ w'.ownsRow w.heap.size 55 3 v (planJ D M P M' P').length (cellsS (planJ D M P M' P')) ∧ Below w.heap.size w w' := by
  obtain ⟨i0, hi0, hz0, hz1, hz2⟩ := info_parts info_step
  have HJ : ∀ W, Below w.heap.size w W → _ := fun W hW => joint_any u p u' p' C C' D M P M' P' W (h.below hW) (h'.below hW) hl hn hM hD (hT.below hW)
  have hUl : (jU (jn P P') (List.range P.length) M).length = M.length := by rw [jU, mat_len]
  have hUl' : (jU (jn P P') (jl P P') M').length = M.length := by rw [jU, mat_len, hl]
  have hPl : (jP (jn P P') D (List.range P.length) P).length = jn P P' := by rw [jP, mat_len]
  have hPl' : (jP (jn P P') D (jl P P') P').length = jn P P' := by rw [jP, mat_len]
  unfold planJ
  obtain ⟨n, hnn⟩ : ∃ n, n = jn P P' := ⟨_, rfl⟩
  rw [← hnn] at HJ hUl hUl' hPl hPl' hn ⊢
  obtain ⟨Ua, hUa⟩ : ∃ X, X = jU n (List.range P.length) M := ⟨_, rfl⟩
  obtain ⟨Pa, hPa⟩ : ∃ X, X = jP n D (List.range P.length) P := ⟨_, rfl⟩
  obtain ⟨Ub, hUb⟩ : ∃ X, X = jU n (jl P P') M' := ⟨_, rfl⟩
  obtain ⟨Pb, hPb⟩ : ∃ X, X = jP n D (jl P P') P' := ⟨_, rfl⟩
  rw [← hUa] at HJ hUl ⊢
  rw [← hPa] at HJ hPl ⊢
  rw [← hUb] at HJ hUl' ⊢
  rw [← hPb] at HJ hPl' ⊢
  have HJ := hideC HJ
  have d3 := difM_len 3 D Pa Pb Pb.length
  have d1 := difM_len 1 n Ua Ub Ub.length
  have d2 := difM_len 2 n Ub Ua Ua.length
  have d4 := difM_len 4 D Pb Pa Pa.length
  have m1 : D * Pb.length ≤ 256 * 256 := Nat.mul_le_mul hD (by omega)
  have m2 : n * Ub.length ≤ 256 * 256 := Nat.mul_le_mul hn (by omega)
  have m3 : n * Ua.length ≤ 256 * 256 := Nat.mul_le_mul hn (by omega)
  have m4 : D * Pa.length ≤ 256 * 256 := Nat.mul_le_mul hD (by omega)
  rw [planOf_cells, planOf_len]
  obtain ⟨L3, hL3⟩ : ∃ X, X = difM 3 D Pa Pb Pb.length := ⟨_, rfl⟩
  obtain ⟨L1, hL1⟩ : ∃ X, X = difM 1 n Ua Ub Ub.length := ⟨_, rfl⟩
  obtain ⟨L2, hL2⟩ : ∃ X, X = difM 2 n Ub Ua Ua.length := ⟨_, rfl⟩
  obtain ⟨L4, hL4⟩ : ∃ X, X = difM 4 D Pb Pa Pa.length := ⟨_, rfl⟩
  have H3 := hideC (fun qa qb W ha hb hT => differ_any 3 qa qb D Pa Pb W ha hb (hPl.trans hPl'.symm) hT)
  have H1 := hideC (fun qa qb W ha hb hT => differ_any 1 qa qb n Ua Ub W ha hb (hUl.trans hUl'.symm) hT)
  have H2 := hideC (fun qa qb W ha hb hT => differ_any 2 qa qb n Ub Ua W ha hb (hUl'.trans hUl.symm) hT)
  have H4 := hideC (fun qa qb W ha hb hT => differ_any 4 qa qb D Pb Pa W ha hb (hPl'.trans hPl.symm) hT)
  rw [← hL3] at H3 d3 ⊢
  rw [← hL1] at H1 d1 ⊢
  rw [← hL2] at H2 d2 ⊢
  rw [← hL4] at H4 d4 ⊢
  have b3 : L3.length ≤ 65536 := by omega
  have b1 : L1.length ≤ 65536 := by omega
  have b2 : L2.length ≤ 65536 := by omega
  have b4 : L4.length ≤ 65536 := by omega
  clear hL1 hL2 hL3 hL4 d1 d2 d3 d4 m1 m2 m3 m4 hUa hPa hUb hPb hUl hUl' hPl hPl' hnn hl
  go_enter Tryd.func29, Tryd.ntmps29
  go_wp2_with fail
  refine absC2 fun W0 hA hB hbel0 hz => ?_
  refine (HJ.out W0 hbel0).mono ?_
  rintro e w1 ⟨a1, a2, b1, b2, A, c, rfl, hca, hcb, _, hb1⟩
  have bel1 := hbel0.trans (hb1.mono hbel0.size)
  clear hA hB hz hb1 hbel0
  go_wp2_with fail
  refine absC2 fun W2 hX hY hb2 hz => ?_
  have bel2 := bel1.trans (hb2.mono bel1.size)
  have hca2 := hca.below hb2
  have hcb2 := hcb.below hb2
  clear hz hca hcb hb2
  refine (H3.out a2 b2 W2 hca2.perms hcb2.perms (hT.below bel2)).mono ?_
  rintro e w3 ⟨v3, rfl, ho3, hb3⟩
  have hX3 := hX.below hb3 hX.lt
  have hY3 := hY.below hb3 hY.lt
  have x0 := hX3.cell 0
  have x1 := hX3.cell 1
  have y0 := hY3.cell 0
  have y1 := hY3.cell 1
  go_wp2_with fail
  refine (H1.out a1 b1 w3 (hca2.users.below hb3) (hcb2.users.below hb3) (hT.below (bel2.trans (hb3.mono bel2.size)))).mono ?_
  rintro e w4 ⟨v4, rfl, ho4, hc4⟩
  have hb4 := hb3.trans (hc4.mono hb3.size)
  have hp4 := own_below ho3 hc4
  have hs4 := hb4.size
  have hX4 := hX.below hb4 hX.lt
  have hY4 := hY.below hb4 hY.lt
  clear x0 x1 y0 y1
  have x0 := hX4.cell 0
  have x1 := hX4.cell 1
  have y0 := hY4.cell 0
  have y1 := hY4.cell 1
  go_wp2_with (at_builtin; refine wpList_append_two rfl _ _ 67 rfl W2.heap.size 55 i0 (.agg #[.int .u8 0, .int .i64 0, .int .i64 0]) 3 24 Tryd.underlying67 hi0 hz0 hz1 hz2 rfl (by decide) _ _ _ rfl hp4 _ _ _ _ rfl ho4 (cellsS_one _) (by unfold maxLen; omega) (by omega) hs4 ?_; intro v5 w5 ho5 hg5; have hb5 := hb4.grown hg5 hb4.size (fun q hq => (hp4.lt q hq).1); have hX5 := hX.below hb5 hX.lt; have hY5 := hY.below hb5 hY.lt; clear x0 x1 y0 y1; have x0 := hX5.cell 0; have x1 := hX5.cell 1; have y0 := hY5.cell 0; have y1 := hY5.cell 1)
  refine (H2.out b1 a1 w5 (hcb2.users.below hb5) (hca2.users.below hb5) (hT.below (bel2.trans (hb5.mono bel2.size)))).mono ?_
  rintro e w6 ⟨v6, rfl, ho6, hc6⟩
  have hb6 := hb5.trans (hc6.mono hb5.size)
  have hp6 := own_below ho5 hc6
  have hs6 := hb6.size
  have hX6 := hX.below hb6 hX.lt
  have hY6 := hY.below hb6 hY.lt
  clear x0 x1 y0 y1
  have x0 := hX6.cell 0
  have x1 := hX6.cell 1
  have y0 := hY6.cell 0
  have y1 := hY6.cell 1
  go_wp2_with (at_builtin; refine wpList_append_two rfl _ _ 67 rfl W2.heap.size 55 i0 (.agg #[.int .u8 0, .int .i64 0, .int .i64 0]) 3 24 Tryd.underlying67 hi0 hz0 hz1 hz2 rfl (by decide) _ _ _ rfl hp6 _ _ _ _ rfl ho6 (cellsS_one _) (by unfold maxLen; omega) (by omega) hs6 ?_; intro v7 w7 ho7 hg7; have hb7 := hb6.grown hg7 hb6.size (fun q hq => (hp6.lt q hq).1); have hX7 := hX.below hb7 hX.lt; have hY7 := hY.below hb7 hY.lt; clear x0 x1 y0 y1; have x0 := hX7.cell 0; have x1 := hX7.cell 1; have y0 := hY7.cell 0; have y1 := hY7.cell 1)
  refine (H4.out b2 a2 w7 (hcb2.perms.below hb7) (hca2.perms.below hb7) (hT.below (bel2.trans (hb7.mono bel2.size)))).mono ?_
  rintro e w8 ⟨v8, rfl, ho8, hc8⟩
  have hb8 := hb7.trans (hc8.mono hb7.size)
  have hp8 := own_below ho7 hc8
  have hs8 := hb8.size
  have hX8 := hX.below hb8 hX.lt
  have hY8 := hY.below hb8 hY.lt
  clear x0 x1 y0 y1
  have x0 := hX8.cell 0
  have x1 := hX8.cell 1
  have y0 := hY8.cell 0
  have y1 := hY8.cell 1
  go_wp2_with (at_builtin; refine wpList_append_two rfl _ _ 67 rfl W2.heap.size 55 i0 (.agg #[.int .u8 0, .int .i64 0, .int .i64 0]) 3 24 Tryd.underlying67 hi0 hz0 hz1 hz2 rfl (by decide) _ _ _ rfl hp8 _ _ _ _ rfl ho8 (cellsS_one _) (by unfold maxLen; omega) (by omega) hs8 ?_; intro v9 w9 ho9 hg9; have hb9 := hb8.grown hg9 hb8.size (fun q hq => (hp8.lt q hq).1); have hX9 := hX.below hb9 hX.lt; have hY9 := hY.below hb9 hY.lt; clear x0 x1 y0 y1; have x0 := hX9.cell 0; have x1 := hX9.cell 1; have y0 := hY9.cell 0; have y1 := hY9.cell 1)
  go_ret2
  refine ⟨v9, rfl, ?_, bel2.trans (hb9.mono bel2.size)⟩
  exact own_low ho9 bel2.size
theorem own_slice {w : World} {base : Nat} {e : TypeId} {size : Nat} {v : Value} {n : Nat} {xs : List Value} (h : w.ownsRow base e size v n xs) : ∃ A c, v = .slice A n c := by
  rcases h.2 with ⟨rfl, rfl⟩ | ⟨g, cap, cur, hv, _⟩
  · exact ⟨none, 0, rfl⟩
  · exact ⟨_, cap, hv⟩
set_option maxRecDepth 100000 in
set_option maxHeartbeats 4000000 in
theorem plan_no (u p u' p' C C' D D' : Nat) (M P M' P' : List (List Bool)) (w : World) (h : IsCfg w u p C D M P) (hu' : PM w u' C' M') (hp' : PM w p' D' P') (hne : u' ≠ p') (hno : C' ≠ P'.length ∨ M.length ≠ M'.length ∨ D ≠ D') :
    Calls Tryd.prog 29 #[cfgV u p, cfgV u' p'] w fun e w' => e = .returned (.tuple #[.slice none 0 0, .int .i64 1]) ∧ Below w.heap.size w w' := by
  have HJ := hideC (fun W hW => joint_no u p u' p' C C' D D' M P M' P' W (h.below (w' := W) hW) (hu'.below hW) (hp'.below hW) hne hno)
  clear hno
  go_enter Tryd.func29, Tryd.ntmps29
  go_wp2_with fail
  refine absC2 fun W0 hA hB hbel0 hz => ?_
  refine (HJ.out W0 hbel0).mono ?_
  rintro e w1 ⟨rfl, hb1⟩
  have bel1 := hbel0.trans (hb1.mono hbel0.size)
  clear hA hB hz hb1 hbel0
  go_wp2_with fail
  go_ret2
  exact ⟨rfl, (bel1.alloc bel1.size _).alloc (by have := bel1.size; simp; omega) _⟩
set_option maxRecDepth 100000 in
set_option maxHeartbeats 4000000 in
theorem cdist_any (u p u' p' C C' D : Nat) (M P M' P' : List (List Bool)) (w : World) (h : IsCfg w u p C D M P) (h' : IsCfg w u' p' C' D M' P') (hl : M.length = M'.length) (hn : jn P P' ≤ 256) (hM : M.length ≤ 256) (hD : D ≤ 256) (hT : Tab w) :
    Calls Tryd.prog 28 #[cfgV u p, cfgV u' p'] w fun e w' => e = .returned (.tuple #[.int .i64 (planJ D M P M' P').length, .int .i64 0]) ∧ Below w.heap.size w w' := by
  have HP := hideC (fun W hW => plan_any u p u' p' C C' D M P M' P' W (h.below (w' := W) hW) (h'.below hW) hl hn hM hD (hT.below hW))
  clear hl
  obtain ⟨L, hL⟩ : ∃ L, L = planJ D M P M' P' := ⟨_, rfl⟩
  rw [← hL] at HP ⊢
  clear hL
  go_enter Tryd.func28, Tryd.ntmps28
  go_wp2_with fail
  refine absC2 fun W0 hA hB hbel0 hz => ?_
  refine (HP.out W0 hbel0).mono ?_
  rintro e w1 ⟨v, rfl, ho, hb1⟩
  obtain ⟨A, c, rfl⟩ := own_slice ho
  have bel1 := hbel0.trans (hb1.mono hbel0.size)
  clear hA hB hz hb1 hbel0
  go_wp2_with fail
  go_ret2
  exact ⟨rfl, bel1⟩
set_option maxRecDepth 100000 in
set_option maxHeartbeats 4000000 in
theorem cdist_no (u p u' p' C C' D D' : Nat) (M P M' P' : List (List Bool)) (w : World) (h : IsCfg w u p C D M P) (hu' : PM w u' C' M') (hp' : PM w p' D' P') (hne : u' ≠ p') (hno : C' ≠ P'.length ∨ M.length ≠ M'.length ∨ D ≠ D') :
    Calls Tryd.prog 28 #[cfgV u p, cfgV u' p'] w fun e w' => e = .returned (.tuple #[.int .i64 0, .int .i64 1]) ∧ Below w.heap.size w w' := by
  have HP := hideC (fun W hW => plan_no u p u' p' C C' D D' M P M' P' W (h.below (w' := W) hW) (hu'.below hW) (hp'.below hW) hne hno)
  clear hno
  go_enter Tryd.func28, Tryd.ntmps28
  go_wp2_with fail
  refine absC2 fun W0 hA hB hbel0 hz => ?_
  refine (HP.out W0 hbel0).mono ?_
  rintro e w1 ⟨rfl, hb1⟩
  have bel1 := hbel0.trans (hb1.mono hbel0.size)
  clear hA hB hz hb1 hbel0
  go_wp2_with fail
  go_ret2
  exact ⟨rfl, bel1⟩
end Go.Proofs.YthkjigggfeejdaaDoor
