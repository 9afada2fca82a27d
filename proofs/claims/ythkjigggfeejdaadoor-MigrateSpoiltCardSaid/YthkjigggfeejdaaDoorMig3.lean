import Derived.Test.YthkjigggfeejdaaDoorMig2
import Derived.Test.YthkjigggfeejdaaDoorMinus
namespace Go.Proofs.YthkjigggfeejdaaDoor
open Go.RowKit
attribute [local go_sem] Oper.semAt_some

theorem info_step : (Tryd.prog.info? 55).map (fun i => (i.zero, i.size, i.bytes)) = some (some (.agg #[.int .u8 0, .int .i64 0, .int .i64 0]), 3, 24) := by kernel_rfl
theorem cells_new3 (W : World) (t : TypeId) (a b c : Value) : ∀ (j : Nat) u, [a, b, c][j]? = some u → (W.alloc (.cells #[a, b, c] t)).cell? ((⟨W.heap.size, 0, none⟩ : Addr).add j) = some u := by
  intro j u hu
  have e : (⟨W.heap.size, 0, none⟩ : Addr).add j = ⟨W.heap.size, j, none⟩ := by unfold Addr.add; split <;> simp_all
  rw [e, (Blk.new W t #[a, b, c]).cell j]
  simpa using hu
theorem own_succ3 {W : World} {base : Nat} {e : TypeId} {size n : Nat} {v : Value} {xs : List Value} (h : W.ownsRow base e size v (n + 1) xs) : ∃ g cap, v = .slice (some ⟨g, 0, none⟩) (n + 1) cap := by
  rcases h.2 with ⟨_, e⟩ | ⟨g, cap, cur, hv, _⟩
  · omega
  · exact ⟨g, cap, hv⟩
/-- The columns that row i of P has and row i of M has not. -/
def dRow (C : Nat) (M P : List (List Bool)) (i : Nat) : List Nat := (List.range C).filter fun j => mget P i j && !mget M i j
/-- The steps of a kind for the elements that are one in P and not in M, the first n rows. -/
def difM (kd C : Nat) (M P : List (List Bool)) (n : Nat) : List (Nat × Nat × Nat) := (List.range n).flatMap fun i => (dRow C M P i).map fun j => (kd, i, j)
theorem difM_succ (kd C : Nat) (M P : List (List Bool)) (n : Nat) : difM kd C M P (n + 1) = difM kd C M P n ++ (dRow C M P n).map fun j => (kd, n, j) := by
  unfold difM; rw [List.range_succ, List.flatMap_append]; simp
/-- Steps as cells. -/
def cellsS (l : List (Nat × Nat × Nat)) : List Value := l.flatMap fun s => [.int .u8 (s.1 : Int), .int .i64 (s.2.1 : Int), .int .i64 (s.2.2 : Int)]
theorem cellsS_app (l m : List (Nat × Nat × Nat)) : cellsS (l ++ m) = cellsS l ++ cellsS m := by unfold cellsS; rw [List.flatMap_append]
theorem cellsS_len (l : List (Nat × Nat × Nat)) : (cellsS l).length = l.length * 3 := by
  induction l with
  | nil => rfl
  | cons s l ih => have : cellsS (s :: l) = [.int .u8 (s.1 : Int), .int .i64 (s.2.1 : Int), .int .i64 (s.2.2 : Int)] ++ cellsS l := rfl
                   rw [this, List.length_append, ih]; simp; omega
theorem filter_range' {p : Nat → Bool} : ∀ (d a : Nat), (∀ j, p j = true → j < a) → (List.range (a + d)).filter p = (List.range a).filter p
  | 0, _, _ => rfl
  | d + 1, a, h => by
    rw [show a + (d + 1) = (a + d) + 1 from rfl, List.range_succ, List.filter_append, filter_range' d a h]
    have : p (a + d) = false := by
      cases hp : p (a + d) with
      | false => rfl
      | true => have := h _ hp; omega
    simp [this]
theorem filter_ranges' {p : Nat → Bool} {a b : Nat} (ha : ∀ j, p j = true → j < a) (hb : ∀ j, p j = true → j < b) : (List.range a).filter p = (List.range b).filter p := by
  rcases Nat.le_total a b with h | h
  · obtain ⟨d, rfl⟩ := Nat.exists_eq_add_of_le h; exact (filter_range' d a ha).symm
  · obtain ⟨d, rfl⟩ := Nat.exists_eq_add_of_le h; exact filter_range' d b hb
theorem mems_is {N C : Nat} {p : Nat → Bool} (h : ∀ j, N.testBit j = p j) (hp : ∀ j, p j = true → j < C) : mems N = (List.range C).filter p := by
  have e : p = N.testBit := funext fun j => (h j).symm
  subst e
  unfold mems
  rw [mTo_map]
  refine filter_ranges' (fun j hj => ?_) hp
  rcases Nat.lt_or_ge j (64 * nw N) with h2 | h2
  · exact h2
  · rw [testBit_ge (Nat.le_refl _) h2] at hj; cases hj
theorem mems_dRow {C : Nat} {M P : List (List Bool)} (hC : C ≤ 4096) {i : Nat} (hi : i < P.length) (hl : M.length = P.length) : mems (minusN (mrow (nsOf C P) i) (mrow (nsOf C M) i)) = dRow C M P i := by
  unfold dRow
  have e1 : mrow (nsOf C P) i = (nsOf C P).getD i 0 := by unfold mrow; rw [if_pos (by omega), Int.toNat_natCast]
  have e2 : mrow (nsOf C M) i = (nsOf C M).getD i 0 := by unfold mrow; rw [if_pos (by omega), Int.toNat_natCast]
  have h1 : mems (minusN (mrow (nsOf C P) i) (mrow (nsOf C M) i)) = (List.range C).filter fun j => decide (j < C) && (mget P i j && !mget M i j) := by
    refine mems_is (fun j => ?_) (fun j hj => by simp at hj; exact hj.1)
    rw [e1, e2, testBit_minusN, testBit_ns hC hi, testBit_ns hC (by omega)]
    by_cases hj : j < C <;> simp [hj]
  rw [h1]
  refine List.filter_congr fun j hj => ?_
  rw [decide_eq_true (List.mem_range.1 hj), Bool.true_and]
theorem dRow_len (C : Nat) (M P : List (List Bool)) (i : Nat) : (dRow C M P i).length ≤ C := by unfold dRow; exact Nat.le_trans (List.length_filter_le _ _) (by simp)
theorem difM_len (kd C : Nat) (M P : List (List Bool)) : ∀ n, (difM kd C M P n).length ≤ C * n
  | 0 => by simp [difM]
  | n + 1 => by
    have h1 := dRow_len C M P n
    have h2 := difM_len kd C M P n
    rw [difM_succ, List.length_append, List.length_map, Nat.mul_succ]; omega
set_option maxRecDepth 100000 in
set_option maxHeartbeats 4000000 in
theorem differ_any (kd qa qb C : Nat) (M P : List (List Bool)) (w : World) (ha : PM w qa C M) (hb : PM w qb C P) (hl : M.length = P.length) (hT : Tab w) :
    Calls Tryd.prog 61 #[.int .u8 kd, ptr qa, ptr qb] w fun e w' => ∃ v, e = .returned v ∧ w'.ownsRow w.heap.size 55 3 v (difM kd C M P P.length).length (cellsS (difM kd C M P P.length)) ∧ Below w.heap.size w w' := by
  obtain ⟨i0, hi0, hz0, hz1, hz2⟩ := info_parts info_step
  have hbd := hb.bd
  have haI := hideC ha.1
  have hbI := hideC hb.1
  refine (callsIn_wide (n := 9)).1 (callsIn_of_wp_marks Tryd.func61 rfl trivial (wpIn_wide.2 ?_) rfl)
  simp only [Tryd.ntmps61, List.size_toArray, List.length_cons, List.length_nil, Nat.reduceAdd, Nat.reduceSub, Array.replicate_succ, Array.replicate_zero, List.push_toArray, List.append_toArray, List.nil_append, List.cons_append]
  go_wp2_with fail
  refine absC2 fun W0 hK0 hO0 hbel0 hz => ?_
  have HZ := Lib.hid hz; clear hz
  (with_reducible refine (pm_rows qb C P W0 (hb.below hbel0)).mono ?_); rintro e w1 ⟨rfl, rfl⟩
  go_wp2_with fail
  refine wp_loop (fun a' wr => ∃ (u8 u9 u13 u14 u15 u16 u17 u18 u19 u20 u21 u22 u23 u24 u25 u26 u27 u28 u29 u30 u31 : Value) (ds : List Deferred) (k : Nat), (k ≤ P.length ∧ (∃ u, Boxed wr (w.heap.size + 1) 67 u ∧ wr.ownsRow w.heap.size 55 3 u (difM kd C M P k).length (cellsS (difM kd C M P k))) ∧ Below w.heap.size w wr ∧ Blk wr w.heap.size 53 #[.int .u8 kd] ∧ Marks (w.heap.size + 1) wr ds) ∧
      a' = { tmps := #[.int .u8 kd, ptr qa, ptr qb, .pointer (some ⟨w.heap.size, 0, none⟩), undef, undef, .slice none 0 0, .pointer (some ⟨w.heap.size + 1, 0, none⟩), u8, u9, ptr qb, .int .i64 (P.length : Int), .int .i64 (k : Int), u13, u14, u15, u16, u17, u18, u19, u20, u21, u22, u23, u24, u25, u26, u27, u28, u29, u30, u31, undef], defers := ds })
    (fun a' _ => P.length - (intOf (a'.tmps.getD 12 undef)).toNat) ?_ ?_
  · refine ⟨_, _, _, _, _, _, _, _, _, _, _, _, _, _, _, _, _, _, _, _, _, [], 0, ⟨Nat.zero_le _, ⟨_, hO0, World.ownsRow_nil _ _ _ _⟩, hbel0, hK0, trivial⟩, rfl⟩
  rintro _ wr ⟨u8, u9, u13, u14, u15, u16, u17, u18, u19, u20, u21, u22, u23, u24, u25, u26, u27, u28, u29, u30, u31, ds, k, ⟨hk, ⟨u, hO, hrow⟩, hbel, hK, hM⟩, rfl⟩
  dsimp only
  by_cases hlt : k < P.length
  · go_wp2_with fail
    have hmm := mems_dRow hbd.1 hlt hl
    obtain ⟨N1, hN1⟩ : ∃ N, N = mrow (nsOf C P) k := ⟨_, rfl⟩
    obtain ⟨N2, hN2⟩ : ∃ N, N = mrow (nsOf C M) k := ⟨_, rfl⟩
    have HR1 := hideC (fun W hW => row_any qb C (nsOf C P) k W (hbI.out.below (w' := W) hW))
    have HR2 := hideC (fun W hW => row_any qa C (nsOf C M) k W (haI.out.below (w' := W) hW))
    rw [← hN1] at HR1 hmm
    rw [← hN2] at HR2 hmm
    have HM0 := Lib.hid hmm
    have HL := Lib.hid hl
    clear hmm hN1 hN2 hl
    refine abs1 fun W1 hI hbx1 hz1 => ?_
    have HZ1 := Lib.hid hz1; clear hz1
    have cI := hI.cell 0
    have hbw1 := hbel.trans (hbx1.mono hbel.size)
    refine wp_spine (fun W => Below W1.heap.size W1 W) [0, 1, 3, 4] [2, 5, 6, 7] (by kernel_rfl) (by kernel_rfl) ?_
    iterate 4 (refine wpE_op (v := ?_) rfl rfl (fun W hW => ?_) ?_; rotate_left; (have x1 := onB hW cI; go_simp; first | done | with_reducible rfl); simp only [Act.put, List.setIfInBounds_toArray, List.set_cons_zero, List.set_cons_succ])
    refine wpE_nil ⟨fun h => (by cases h), wpSp_op rfl (Below.refl _ _).drew ?_⟩
    have k0 : Below W1.heap.size W1 W1.drew := (Below.refl _ _).drew
    have b0 := hbw1.trans (k0.mono hbw1.size)
    go_wp2_with fail
    (with_reducible refine (HR1.out W1.drew b0).mono ?_); rintro e w2 ⟨r1, rfl, hs1, hb2⟩
    obtain ⟨A1, c1, rfl, _⟩ := id hs1
    have k2 := k0.trans (hb2.mono k0.size)
    have b2 := hbw1.trans (k2.mono hbw1.size)
    go_wp2_with fail
    refine nxt_op rfl k2 ?_
    go_wp2_with fail
    (with_reducible refine (HR2.out w2 b2).mono ?_); rintro e w3 ⟨r2, rfl, hs2, hb3⟩
    obtain ⟨A2, c2, rfl, _⟩ := id hs2
    have k3 := k2.trans (hb3.mono k2.size)
    go_wp2_with fail
    refine nxt_op rfl k3 ?_
    go_wp2_with fail
    (with_reducible refine (minus_any _ _ _ _ w3 (hs1.below hb3) hs2).mono ?_); rintro e w4 ⟨r3, rfl, hs3, hb4⟩
    have k4 := k3.trans (hb4.mono k3.size)
    have b4 := hbw1.trans (k4.mono hbw1.size)
    have hmm := HM0.out
    obtain ⟨N, hN⟩ : ∃ N, N = minusN N1 N2 := ⟨_, rfl⟩
    rw [← hN] at hs3 hmm
    have HM := Lib.hid hmm
    clear hmm hN hs1 hs2
    obtain ⟨A4, c4, rfl, _⟩ := id hs3
    go_wp2_with fail
    refine nxt_op rfl k4 ?_
    go_wp2_with fail
    (with_reducible refine (all_any A4 (nw N) c4 w4).mono ?_); rintro e w5 ⟨rfl, hw5⟩
    have hX := hw5 ▸ Blk.new w4 101 #[.slice A4 (nw N) c4]
    have hb5 : Below w4.heap.size w4 w5 := by rw [hw5]; exact (Below.refl _ _).alloc (Nat.le_refl _) _
    have hz5 : w5.heap.size = w4.heap.size + 1 := by rw [hw5]; simp
    have HZ5 := Lib.hid hz5
    clear hw5 hz5
    have k5 := k4.trans (hb5.mono k4.size)
    have kr5 := hbx1.trans (k5.mono hbx1.size)
    have b5 := hbel.trans (kr5.mono hbel.size)
    have hO5 : Boxed w5 (w.heap.size + 1) 67 u := Blk.below hO kr5 (Blk.lt hO)
    have hrow5 := own_below hrow kr5
    have hK5 := hK.below kr5 hK.lt
    have hI5 := hI.below k5 hI.lt
    have hs5 := hs3.below hb5
    have hT5 := hT.below b5
    have lK := hK.lt
    have lO := Blk.lt hO
    clear hb2 hb3 hb4 hb5 k2 k3 k0 b0 b2 b4 hI cI hs3
    go_wp2_with fail
    refine nxt_nil ?_
    go_wp2_with fail
    refine wp_rangeAll (v := .slice A4 (nw N) c4) (N := N) (Bx := w4.heap.size) rfl (hX.cell 0) hs5 hT5 rfl
      (fun pre W => (∃ u', Boxed W (w.heap.size + 1) 67 u' ∧ W.ownsRow w.heap.size 55 3 u' (difM kd C M P k ++ pre.map fun j => (kd, k, j)).length (cellsS (difM kd C M P k ++ pre.map fun j => (kd, k, j)))) ∧ Below w.heap.size w W ∧ Blk W w.heap.size 53 #[.int .u8 kd] ∧ Blk W wr.heap.size 3 #[.int .i64 (k : Int)] ∧ w5.heap.size ≤ W.heap.size ∧ ∀ g : Nat, w5.heap[g]? = some (.deferred (some [])) → W.heap[g]? = some (.deferred (some []))) (fun _ _ _ => False)
      ?hI (fun _ _ _ _ _ hs _ _ => hs) ?h0 ?a1 ?assign ?body ?done (fun _ _ _ _ _ h _ => h.elim)
    case assign =>
      intro l x W K hKa
      gi_wp2
      exact hKa
    case hI =>
      rintro s W W' row ⟨⟨u', h1, h2⟩, hbl, hKK, hII, hsz, hmk⟩ hg hrw
      have hcells : ∀ (g : Nat) cs t fz, W.heap[g]? = some (Obj.cells cs t fz) → W'.heap[g]? = some (Obj.cells cs t fz) := fun g cs t fz hb => (hg.block g (Array.getElem?_eq_some_iff.1 hb).1 fun e => by
        obtain ⟨_, o, ho, hc⟩ := hrw g e.symm
        rw [ho] at hb; cases hb; cases hc).trans hb
      refine ⟨⟨u', hcells _ _ _ _ h1, ?_⟩, hbl.grown hg hbl.size fun k' e => ?_, hcells _ _ _ _ hKK, hcells _ _ _ _ hII, Nat.le_trans hsz hg.size, fun g hgd => (hg.block g (Array.getElem?_eq_some_iff.1 (hmk g hgd)).1 fun e => by have := (hrw g e.symm).1; have := (Array.getElem?_eq_some_iff.1 hgd).1; omega).trans (hmk g hgd)⟩
      · obtain ⟨hl', h⟩ := h2
        exact ⟨hl', h.imp id fun ⟨g, cap, cur, hv, hg', hh, r⟩ => ⟨g, cap, cur, hv, hg', hcells _ _ _ _ hh, r⟩⟩
      · have := (hrw k' e).1; have := b5.size; omega
    case h0 => exact ⟨⟨_, hO5, by simpa using hrow5⟩, b5, hK5, hI5, Nat.le_refl _, fun _ h => h⟩
    case body =>
      rintro l pre x W hx ⟨⟨u', hv, hrw⟩, hbl, hKK, hII, hsz, hmk⟩ hlen hkp
      have hc := hv.cell
      have cK := hKK.cell 0
      have cI := hII.cell 0
      have hpl : pre.length ≤ 4096 := by have := dRow_len C M P k; have h2 := HM.out; rw [← h2] at this; omega
      have hdl := difM_len kd C M P k
      have hmul : C * k ≤ 4096 * 4096 := Nat.mul_le_mul hbd.1 (by omega)
      have hll : (difM kd C M P k ++ pre.map fun j => (kd, k, j)).length ≤ 16781312 := by rw [List.length_append, List.length_map]; omega
      obtain ⟨L, hL⟩ : ∃ L, L = difM kd C M P k ++ pre.map fun j => (kd, k, j) := ⟨_, rfl⟩
      rw [← hL] at hrw hll
      have HLL := Lib.hid hL
      clear hL hmul hdl
      have hrw1 := hrw.alloc (.cells #[.int .u8 (kd : Int), .int .i64 (k : Int), .int .i64 (x : Int)] 55)
      gi_wp2_with (gi_at_builtin; refine wpListIn_append_own _ rfl _ _ 67 rfl w.heap.size 55 i0 (.agg #[.int .u8 0, .int .i64 0, .int .i64 0]) 3 24 Tryd.underlying67 hi0 hz0 hz1 hz2 rfl (by decide) _ _ _ rfl hrw1 ⟨W.heap.size, 0, none⟩ 1 1 [.int .u8 (kd : Int), .int .i64 (k : Int), .int .i64 (x : Int)] rfl rfl (cells_new3 _ _ _ _ _) (by intro u hu; simp at hu; rcases hu with rfl | rfl | rfl <;> rfl) (by unfold maxLen; omega) (by omega) (by have := hbl.size; simp; omega) ?_; intro v' w6 hown' hgrow _; obtain ⟨g', cap', rfl⟩ := own_succ3 hown'; have hkw := (KeepW.alloc W _).trans (KeepW.grown hgrow hrw1 (by decide)); obtain ⟨hv1, hv2, hr2, hk2, hb2⟩ := hv.appended (by decide) hrw hbl.size (by omega) hown' hgrow; have hc1 := hv1.cell; have hf1 := hv1.frozen)
      have hK6 := (((Blk.alloc hKK _).grown hgrow (own_ne hrw1 (Blk.alloc hKK _) (by decide))).far (p := ⟨w.heap.size + 1, 0, none⟩) (by simp) (.slice (some ⟨g', 0, none⟩) (L.length + 1) cap'))
      have hI6 := (((Blk.alloc hII _).grown hgrow (own_ne hrw1 (Blk.alloc hII _) (by decide))).far (p := ⟨w.heap.size + 1, 0, none⟩) (by simp; omega) (.slice (some ⟨g', 0, none⟩) (L.length + 1) cap'))
      have hLL2 : (difM kd C M P k ++ (pre ++ [x]).map fun j => (kd, k, j)) = L ++ [(kd, k, x)] := by rw [HLL.out]; simp
      have hr3 : (w6.setCell ⟨w.heap.size + 1, 0, none⟩ (.slice (some ⟨g', 0, none⟩) (L.length + 1) cap')).ownsRow w.heap.size 55 3 (.slice (some ⟨g', 0, none⟩) (L.length + 1) cap') (L ++ [(kd, k, x)]).length (cellsS (L ++ [(kd, k, x)])) := by
        rw [cellsS_app, List.length_append]; exact hr2
      rw [← hLL2] at hr3
      exact ⟨hk2.from _, KpA.mk_ (hkw.trans (KeepW.setCell (p := ⟨w.heap.size + 1, 0, none⟩) (t := 67) (cs := #[u']) hv1 (by decide) _)) hb2 hT.pos, ⟨_, hv2, hr3⟩, hbl.trans hb2, hK6, hI6, Nat.le_trans hsz hb2.size, fun g hgd => hk2.same g _ (hmk g hgd) rfl⟩
    case done =>
      rintro Dk W hDk ⟨⟨u', hv, hrw⟩, hbl, hKK, hII, hsz, hmk⟩ hKd
      have hMW : Marks (w.heap.size + 1) W ds := (hM.keep fun g _ hg => (kr5.block g (Array.getElem?_eq_some_iff.1 hg).1).trans hg).keep fun g _ hg => hmk g hg
      have hlt' : ∀ e ∈ ds, ∀ D', e.target = .collected D' → D' < Dk := fun e he D' hD' => by have := hM.lt e he D' hD'; have := kr5.size; omega
      rw [HM.out, ← difM_succ] at hrw
      dsimp only
      go_wp2_with fail
      refine ⟨⟨_, _, _, _, _, _, _, _, _, _, _, _, _, _, _, _, _, _, _, _, _, { target := .collected Dk, args := #[] } :: ds, k + 1, ⟨by omega, ⟨u', hv, hrw⟩, hbl, hKK, ⟨⟨Dk, rfl, by have := kr5.size; omega, hKd, hlt'⟩, hMW⟩⟩, rfl⟩, ?_⟩
      simp [intOf]; omega
  · obtain rfl : k = P.length := by omega
    have hc := hO.cell
    go_wp2_with fail
    refine leave_marks ds wr hM fun W' hW' => ?_
    refine ⟨_, results_tmp rfl _ _ _, u, rfl, ?_, hbel.trans (hW'.1.mono (by omega))⟩
    obtain ⟨hl', h⟩ := hrow
    exact ⟨hl', h.imp id fun ⟨g, cap, cur, hv, hg', hh, r⟩ => ⟨g, cap, cur, hv, hg', hW'.2 _ _ _ _ hh, r⟩⟩
end Go.Proofs.YthkjigggfeejdaaDoor
