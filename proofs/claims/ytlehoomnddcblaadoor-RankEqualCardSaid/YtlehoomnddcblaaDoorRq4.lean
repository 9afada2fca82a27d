/-
  A proof that is laid and changed: arbaclaw47.Raw.fit.
-/
import Derived.Test.YtlehoomnddcblaaDoorRq3
import Derived.Test.YtlehoomnddcblaaDoorRk9
namespace Go.Proofs.YtlehoomnddcblaaDoor
open Go.RowKit
theorem abs5f {P : Program} {c : Code} {Q : Exit → Act → World → Prop} {a : Act} {w : World} {c1 c2 c3 c4 c5 : Array Value} {t1 t2 t3 t4 t5 : TypeId} (h : ∀ W, Blk W w.heap.size t1 c1 → Blk W (w.heap.size + 1) t2 c2 → Blk W (w.heap.size + 2) t3 c3 → Blk W (w.heap.size + 3) t4 c4 → Blk W (w.heap.size + 4) t5 c5 → Below w.heap.size w W → W.heap.size = w.heap.size + 5 → c.wp P Q a W) :
    c.wp P Q a (((((w.alloc (.cells c1 t1)).alloc (.cells c2 t2)).alloc (.cells c3 t3)).alloc (.cells c4 t4)).alloc (.cells c5 t5)) :=
  h _ (((((Blk.new _ _ _).alloc _).alloc _).alloc _).alloc _) ((((Blk.new_ (by simp) _ _).alloc _).alloc _).alloc _) (((Blk.new_ (by simp) _ _).alloc _).alloc _) ((Blk.new_ (by simp) _ _).alloc _) (Blk.new_ (by simp) _ _) ((((((Below.refl _ _).alloc (Nat.le_refl _) _).alloc (by simp) _).alloc (by simp; omega) _).alloc (by simp; omega) _).alloc (by simp; omega) _) (by simp)
theorem size_facts (b less : Nat) (h1 : 1 ≤ b) (h5 : b ≤ 5) : ∃ s : Nat, 1 ≤ s ∧ s ≤ b ∧ wrap64 (1 + wrap64 ((wrap64 (((b : Int) - 1) * (3 - (less : Int) % 3))).tdiv 3)) = (s : Int) := by
  have key : ∀ b : Fin 6, ∀ r : Fin 3, 1 ≤ b.1 → 1 ≤ 1 + (b.1 - 1) * (3 - r.1) / 3 ∧ 1 + (b.1 - 1) * (3 - r.1) / 3 ≤ b.1 ∧ wrap64 (1 + wrap64 ((wrap64 ((((b.1 : Nat) : Int) - 1) * (3 - ((r.1 : Nat) : Int)))).tdiv 3)) = ((1 + (b.1 - 1) * (3 - r.1) / 3 : Nat) : Int) := by decide +kernel
  have e : (less : Int) % 3 = ((less % 3 : Nat) : Int) := rfl
  rw [e]
  exact ⟨_, key ⟨b, by omega⟩ ⟨less % 3, Nat.mod_lt _ (by omega)⟩ h1⟩
namespace Mix2
set_option maxRecDepth 100000 in
set_option maxHeartbeats 8000000 in
theorem fit_t (less : Nat) (last : Bool) (l : List Odd4) (C : Nat) (A : Option Addr) (c : Nat) (M : List (List Bool)) (v : Value) (w : World) (hX : IsRaw47 w v less last l) (hC : C ≤ 5) (hR : M.length ≤ 5) (hI : IsRef w C A M) :
    Calls Tryd.prog 15 #[v, refV C A M.length c] w fun e w' => ∃ v' size P, e = .returned v' ∧ PRt w' v' size P ∧ (∀ y ∈ P, NdB 40 y) ∧ P.length ≤ 50000000 ∧ -20 ≤ size ∧ size ≤ 20 ∧ Below w.heap.size w w' := by
  obtain ⟨vo, rfl, hle, Ao, co, rfl, hO, hoc, hom, hok⟩ := hX
  unfold refV
  go_enter Tryd.func15, Tryd.ntmps15
  go_upto_region 2 with fail
  refine abs5f fun w1 h0 h1 h2 h3 h4 hb hz => ?_
  clear hz
  obtain ⟨g1, hg1⟩ : ∃ g, g = w.heap.size := ⟨_, rfl⟩
  have hlo : w.heap.size ≤ g1 := by omega
  rw [← hg1] at h0 h1 h2 h3 h4 ⊢
  clear hg1
  have hI1 := hI.below hb
  have z0 := h1.cell 0
  have z1 := h1.cell 1
  have hL := leastr_any C A c M w1 (by omega) (by omega) hI1
  unfold refV at hL
  have HL := hideC hL
  clear hL
  go_wp2_with fail
  refine HL.out.mono ?_
  rintro e w2 ⟨b, rfl, hcov, hmin, hbC, hb2⟩
  replace h0 := h0.below hb2 h0.lt
  replace h1 := h1.below hb2 h1.lt
  replace h2 := h2.below hb2 h2.lt
  replace h3 := h3.below hb2 h3.lt
  replace h4 := h4.below hb2 h4.lt
  have hbw := hb.trans (hb2.mono hb.size)
  have hI2 := hI1.below hb2
  have hs2 := hbw.size
  clear hb hb2 HL z0 z1
  have z0 := h1.cell 0
  have z1 := h1.cell 1
  have y0 := h0.cell 0
  have y1 := h0.cell 1
  have y2 := h0.cell 2
  by_cases hb0 : b = 0
  · subst hb0
    have hP0 : PRt w2 (.agg #[.int .i64 0, .slice (some ⟨g1 + 1 + 1 + 1, 0, none⟩) 1 1]) 0 [⟨3, 0, 0, [], []⟩] :=
      ⟨_, _, rfl, ⟨[[.int .i64 3, .int .i64 0, .int .i64 0, .slice none 0 0, .slice none 0 0]], rfl, fun k x hx => by
        obtain ⟨rfl, rfl⟩ : k = 0 ∧ x = ⟨3, 0, 0, [], []⟩ := by
          cases k with
          | zero => exact ⟨rfl, by simpa using hx.symm⟩
          | succ k => simp at hx
        exact ⟨_, rfl, none, 0, none, 0, rfl, ⟨⟨Row.empty _ _, Nat.le_refl _, fun _ => ⟨rfl, rfl⟩⟩, fun ad e => by cases e⟩, ⟨⟨Row.empty _ _, Nat.le_refl _, fun _ => ⟨rfl, rfl⟩⟩, fun ad e => by cases e⟩⟩, Row.of_blk h3 fun k u hu => by simpa using hu, fun ad e => by cases e; exact ⟨_, h3⟩⟩, Nat.le_refl _, fun e => by cases e⟩
    go_wp2_with fail
    obtain ⟨W, hW⟩ : ∃ V, V = w2 := ⟨_, rfl⟩
    subst hW
    obtain ⟨s0, hs0⟩ : ∃ s : Int, s = 0 := ⟨_, rfl⟩
    obtain ⟨P0, hP0e⟩ : ∃ P : List Nd, P = [⟨3, 0, 0, [], []⟩] := ⟨_, rfl⟩
    obtain ⟨v0, hv0⟩ : ∃ v : Value, v = .slice (some ⟨g1 + 1 + 1 + 1, 0, none⟩) 1 1 := ⟨_, rfl⟩
    have hnd : ∀ y ∈ P0, NdB 35 y := fun y hy => by
      rw [hP0e, List.mem_singleton] at hy
      subst hy
      exact ⟨Nat.zero_le _, Nat.zero_le _, by show (0 : Int) ≤ 3; decide, by show (3 : Int) ≤ 255; decide⟩
    have hln : P0.length ≤ 40000000 := by rw [hP0e]; decide
    have hs1 : -6 ≤ s0 := by omega
    have hs2 : s0 ≤ 6 := by omega
    have hP : PRt W (.agg #[.int .i64 s0, v0]) s0 P0 := by rw [hs0, hP0e, hv0]; exact hP0
    have hZ : Blk W (g1 + 1 + 1 + 1 + 1) 33 #[.int .i64 s0, v0] := by rw [hs0, hv0]; exact h4
    have hbW := hbw
    have hOW := hO.below hbW
    clear hP0 hs0 hP0e hv0 h3 h4 h1 hcov hmin z0 z1 hI1 hI2 hI hbw
    obtain ⟨K, hK4, hKl, hKe⟩ : ∃ K : Nat, K ≤ 4 ∧ K ≤ l.length ∧ min (l.length : Int) 4 = (K : Int) := ⟨min l.length 4, Nat.min_le_right _ _, Nat.min_le_left _ _, by omega⟩
    try go_wp2_with fail
    try rw [hKe]
    try rw [Int.toNat_natCast]
    try rw [show max (K : Int) 0 = (K : Int) by omega]
    refine wp_loopF (β := Nat × Int × List Nd × Value) (fun x f => #[f 0, f 1, .pointer (some ⟨g1, 0, none⟩), f 3, .pointer (some ⟨g1 + 1 + 1, 0, none⟩), .pointer (some ⟨g1 + 1 + 1 + 1 + 1, 0, none⟩), f 6, f 7, f 8, f 9, f 10, f 11, f 12, f 13, f 14, f 15, f 16, f 17, f 18, f 19, f 20, f 21, f 22, f 23, f 24, f 25, f 26, f 27, f 28, f 29, f 30, f 31, f 32, f 33, f 34, f 35, .slice Ao K co, .int .i64 (K : Int), .int .i64 (x.1 : Int), f 39, f 40, f 41, f 42, f 43, f 44, f 45, f 46])
      (fun x ds V => x.1 ≤ K ∧ ds = [] ∧ Below w.heap.size w V ∧ Blk V (g1 + 1 + 1) 33 #[.int .i64 0, .slice none 0 0] ∧ Blk V (g1 + 1 + 1 + 1 + 1) 33 #[.int .i64 x.2.1, x.2.2.2] ∧ PRt V (.agg #[.int .i64 x.2.1, x.2.2.2]) x.2.1 x.2.2.1 ∧ (∀ y ∈ x.2.2.1, NdB (35 + x.1) y) ∧ x.2.2.1.length ≤ 40000000 + x.1 ∧ -(6 + 2 * (x.1 : Int)) ≤ x.2.1 ∧ x.2.1 ≤ 6 + 2 * (x.1 : Int)) (fun x => K - x.1) (0, s0, P0, v0) rfl
      ⟨Nat.zero_le _, rfl, hbW, h2, hZ, hP, hnd, hln, by dsimp only; omega, by dsimp only; omega⟩ ?_
    clear h2 hZ hP hnd hln hs1 hs2 hKe
    rintro ⟨k, s, P, v⟩ f ds V ⟨hk, rfl, hbV, hY, hZ, hP, hnd, hln, hs1, hs2⟩
    dsimp only at hk hZ hP hnd hln hs1 hs2 ⊢
    by_cases hlt : k < K
    · obtain ⟨x, hx⟩ : ∃ x, l[k]? = some x := ⟨_, List.getElem?_eq_getElem (by omega)⟩
      obtain ⟨g, off, rfl, hg, hc⟩ := (hO.below hbV) (by omega)
      obtain ⟨m0, m1, m2, m3⟩ := hc k x hx
      have hokx := hok x (List.mem_of_getElem? hx)
      have z0 := hZ.cell 0
      have z1 := hZ.cell 1
      clear hc hx
      go_upto_region 8 with fail
      refine abs1 fun V1 hN hb hz => ?_
      clear hz z0 z1 m0 m1 m2 m3
      have z0 := (hZ.below hb hZ.lt).cell 0
      have z1 := (hZ.below hb hZ.lt).cell 1
      have m0 := hN.cell 0
      have m1 := hN.cell 1
      have m2 := hN.cell 2
      have m3 := hN.cell 3
      go_wp2_with fail
      clear hN
      have hAP := apply_any x hokx s (6 + 2 * (k : Int)) P (35 + k) (.agg #[.int .i64 s, v]) V1 (hP.prf.below hb) hnd (by omega) (by omega) ⟨hs1, hs2⟩ (by omega)
      unfold oddV at hAP
      refine hAP.mono ?_
      rintro e V2 ⟨v', s', P', rfl, hP', hnd', hln', hs1', hs2', hb2⟩
      obtain ⟨A', c', rfl, hR', hc', hn'⟩ := hP'
      replace hbV := (hbV.trans (hb.mono hbV.size)).trans (hb2.mono (by have := hbV.size; have := hb.size; omega))
      have hY2 := (hY.below hb hY.lt).below hb2 (by have := hY.lt; have := hb.size; omega)
      have hZ2 := (hZ.below hb hZ.lt).below hb2 (by have := hZ.lt; have := hb.size; omega)
      clear z0 z1 m0 m1 m2 m3 hAP hP hY hZ hb hb2 hnd hs1 hs2
      have z0 := hZ2.cell 0
      have z1 := hZ2.cell 1
      have f0 := hZ2.frozen 0
      have f1 := hZ2.frozen 1
      have lZ := hZ2.lt
      go_wp2_with fail
      have hP3 : PRt V2 (.agg #[.int .i64 s', .slice A' P'.length c']) s' P' := ⟨A', c', rfl, hR', hc', hn'⟩
      have hP4 := (hP3.far (p := ⟨g1 + 1 + 1 + 1 + 1, 0, none⟩) hZ2 (by decide) (by decide) (by decide) (.int .i64 s')).far (p := ⟨g1 + 1 + 1 + 1 + 1, 1, none⟩) (hZ2.set_ 0 (.int .i64 s')) (by decide) (by decide) (by decide) (.slice A' P'.length c')
      have hZ4 := (hZ2.set_ 0 (.int .i64 s')).set_ 1 (.slice A' P'.length c')
      have hY4 := (hY2.far (p := ⟨g1 + 1 + 1 + 1 + 1, 0, none⟩) (by show g1 + 1 + 1 ≠ g1 + 1 + 1 + 1 + 1; omega) (.int .i64 s')).far (p := ⟨g1 + 1 + 1 + 1 + 1, 1, none⟩) (by show g1 + 1 + 1 ≠ g1 + 1 + 1 + 1 + 1; omega) (.slice A' P'.length c')
      have hb4 := (hbV.setCell (p := ⟨g1 + 1 + 1 + 1 + 1, 0, none⟩) (by show w.heap.size ≤ g1 + 1 + 1 + 1 + 1; omega) (.int .i64 s')).setCell (p := ⟨g1 + 1 + 1 + 1 + 1, 1, none⟩) (by show w.heap.size ≤ g1 + 1 + 1 + 1 + 1; omega) (.slice A' P'.length c')
      exact ⟨(k + 1, s', P', .slice A' P'.length c'), by first | rfl | trivial, ⟨by show k + 1 ≤ K; omega, by first | rfl | trivial, hb4, hY4, hZ4, hP4, hnd', by show P'.length ≤ 40000000 + (k + 1); omega, by show -(6 + 2 * ((k + 1 : Nat) : Int)) ≤ s'; omega, by show s' ≤ 6 + 2 * ((k + 1 : Nat) : Int); omega⟩, by show K - (k + 1) < K - k; omega⟩
    · obtain rfl : k = K := by omega
      obtain ⟨A', c', hve, hR', hc', hn'⟩ := hP
      obtain rfl : v = .slice A' P.length c' := by injection hve with hve; injection hve with hve; injection hve with _ hve; injection hve
      have z0e := hZ.cell 0
      have z1e := hZ.cell 1
      have y0e := hY.cell 0
      have y1e := hY.cell 1
      have f0e := hY.frozen 0
      have f1e := hY.frozen 1
      have lYe := hY.lt
      go_wp2_with fail
      have hYs := (hY.set_ 0 (.int .i64 s)).set_ 1 (.slice A' P.length c')
      have c0e := hYs.cell 0
      have c1e := hYs.cell 1
      refine bodyPost_ret (v := .agg #[.int .i64 s, .slice A' P.length c']) (by simp [results, Tryd.results15, go_sem, c0e, c1e]) rfl ?_
      have hfin := (nt_PRf (u0 := .int .i64 s) (u1 := .slice A' P.length c') (size := s) (n := P.length) (c := c') hR' hY rfl hc' hn')
      have hbf := (hbV.setCell (p := ⟨g1 + 1 + 1, 0, none⟩) (by show w.heap.size ≤ g1 + 1 + 1; omega) (.int .i64 s)).setCell (p := ⟨g1 + 1 + 1, 1, none⟩) (by show w.heap.size ≤ g1 + 1 + 1; omega) (.slice A' P.length c')
      have hnf : ∀ y ∈ P, NdB 40 y := fun y hy => (hnd y hy).mono (by omega)
      first | exact ⟨_, rfl, s, P, hfin, hnf, by omega, by omega, by omega, hbf⟩ | exact ⟨_, s, P, rfl, hfin, hnf, by omega, by omega, by omega, hbf⟩
  · have hbp : ((b : Int) > 0) := by omega
    obtain ⟨s, hs1, hs2, hse⟩ := size_facts b less (by omega) (by omega)
    have hncov : ¬ Cov C (nsOf C M) (s - 1) (cellsOf (nsOf C M)) := fun h => by
      have h9 := hmin (s - 1) (by omega)
      rw [(covF_iff _ _ _ _).2 h] at h9
      cases h9
    have hPV := prove_any C A c M last s w2 hC hR hI2 (by omega) (by omega) hncov
    unfold refV at hPV
    have HPV := hideC hPV
    clear hPV hncov hmin hcov
    go_wp2_with fail
    try rw [hse]
    refine HPV.out.mono ?_
    rintro e w3 ⟨v', rfl, ⟨vss, hON⟩, hb3⟩
    obtain ⟨A', c', rfl, hc', hn', hNT⟩ := hON.nt
    have hbW3 := hbw.trans (hb3.mono hbw.size)
    replace h0 := h0.below hb3 h0.lt
    replace h2 := h2.below hb3 h2.lt
    replace h4 := h4.below hb3 h4.lt
    clear z0 z1 y0 y1 y2 hON HPV hI2 hI1 hI hb3 hbw
    obtain ⟨P0, hP0e⟩ : ∃ P, P = growL C (nsOf C M) last (s - 1) 0 (cellsOf (nsOf C M)) := ⟨_, rfl⟩
    have hgl := growL_len C (nsOf C M) last hC (s - 1) 0 (cellsOf (nsOf C M))
    have hgn := grow_nodes C (nsOf C M) last (s - 1) 0 (cellsOf (nsOf C M))
    rw [← hP0e] at hNT hc' hn' hgl hgn ⊢
    have hln : P0.length ≤ 40000000 := Nat.le_trans hgl (Nat.le_trans (Nat.pow_le_pow_right (by omega) (show s - 1 ≤ 5 by omega)) (by decide))
    have h2C : 2 ^ C ≤ 2 ^ 5 := Nat.pow_le_pow_right (by omega) hC
    have hnd : ∀ y ∈ P0, NdB 35 y := fun y hy => by
      obtain ⟨k1, k2, k3, k4⟩ := hgn y hy
      exact ⟨by omega, by omega, by omega, by omega⟩
    clear hgl hgn hP0e h2C
    have z0 := h4.cell 0
    have z1 := h4.cell 1
    have f0 := h4.frozen 0
    have f1 := h4.frozen 1
    have lZ := h4.lt
    obtain ⟨s0, hs0⟩ : ∃ t : Int, t = (s : Int) := ⟨_, rfl⟩
    rw [← hs0]
    have hs1' : -6 ≤ s0 := by omega
    have hs2' : s0 ≤ 6 := by omega
    clear hs0 hse
    go_upto_region 5 with fail
    have hP3 : PRt w3 (.agg #[.int .i64 s0, .slice A' P0.length c']) s0 P0 := ⟨A', c', rfl, hNT, hc', hn'⟩
    have hP := (hP3.far (p := ⟨g1 + 1 + 1 + 1 + 1, 0, none⟩) h4 (by decide) (by decide) (by decide) (.int .i64 s0)).far (p := ⟨g1 + 1 + 1 + 1 + 1, 1, none⟩) (h4.set_ 0 (.int .i64 s0)) (by decide) (by decide) (by decide) (.slice A' P0.length c')
    have hZ := (h4.set_ 0 (.int .i64 s0)).set_ 1 (.slice A' P0.length c')
    have h0' := (h0.far (p := ⟨g1 + 1 + 1 + 1 + 1, 0, none⟩) (by show g1 ≠ g1 + 1 + 1 + 1 + 1; omega) (.int .i64 s0)).far (p := ⟨g1 + 1 + 1 + 1 + 1, 1, none⟩) (by show g1 ≠ g1 + 1 + 1 + 1 + 1; omega) (.slice A' P0.length c')
    have h2' := (h2.far (p := ⟨g1 + 1 + 1 + 1 + 1, 0, none⟩) (by show g1 + 1 + 1 ≠ g1 + 1 + 1 + 1 + 1; omega) (.int .i64 s0)).far (p := ⟨g1 + 1 + 1 + 1 + 1, 1, none⟩) (by show g1 + 1 + 1 ≠ g1 + 1 + 1 + 1 + 1; omega) (.slice A' P0.length c')
    have hbW := (hbW3.setCell (p := ⟨g1 + 1 + 1 + 1 + 1, 0, none⟩) (by show w.heap.size ≤ g1 + 1 + 1 + 1 + 1; omega) (.int .i64 s0)).setCell (p := ⟨g1 + 1 + 1 + 1 + 1, 1, none⟩) (by show w.heap.size ≤ g1 + 1 + 1 + 1 + 1; omega) (.slice A' P0.length c')
    obtain ⟨W, hW⟩ : ∃ V, V = (w3.setCell ⟨g1 + 1 + 1 + 1 + 1, 0, none⟩ (.int .i64 s0)).setCell ⟨g1 + 1 + 1 + 1 + 1, 1, none⟩ (.slice A' P0.length c') := ⟨_, rfl⟩
    rw [← hW] at hP hZ h0' h2' hbW ⊢
    clear hW z0 z1 f0 f1 lZ h0 h2 h3 h4 h1 hP3 hNT hbW3
    have hOW := hO.below hbW
    have y2 := h0'.cell 2
    have h2 : Blk W (g1 + 1 + 1) 33 #[.int .i64 0, .slice none 0 0] := h2'
    replace hZ : Blk W (g1 + 1 + 1 + 1 + 1) 33 #[.int .i64 s0, .slice A' P0.length c'] := hZ
    obtain ⟨v0, hv0⟩ : ∃ v : Value, v = .slice A' P0.length c' := ⟨_, rfl⟩
    rw [← hv0] at hP hZ
    clear hv0
    clear hs1 hs2
    have hs1 := hs1'
    have hs2 := hs2'
    obtain ⟨K, hK4, hKl, hKe⟩ : ∃ K : Nat, K ≤ 4 ∧ K ≤ l.length ∧ min (l.length : Int) 4 = (K : Int) := ⟨min l.length 4, Nat.min_le_right _ _, Nat.min_le_left _ _, by omega⟩
    try go_wp2_with fail
    try rw [hKe]
    try rw [Int.toNat_natCast]
    try rw [show max (K : Int) 0 = (K : Int) by omega]
    refine wp_loopF (β := Nat × Int × List Nd × Value) (fun x f => #[f 0, f 1, .pointer (some ⟨g1, 0, none⟩), f 3, .pointer (some ⟨g1 + 1 + 1, 0, none⟩), .pointer (some ⟨g1 + 1 + 1 + 1 + 1, 0, none⟩), f 6, f 7, f 8, f 9, f 10, f 11, f 12, f 13, f 14, f 15, f 16, f 17, f 18, f 19, f 20, f 21, f 22, f 23, f 24, f 25, f 26, f 27, f 28, f 29, f 30, f 31, f 32, f 33, f 34, f 35, .slice Ao K co, .int .i64 (K : Int), .int .i64 (x.1 : Int), f 39, f 40, f 41, f 42, f 43, f 44, f 45, f 46])
      (fun x ds V => x.1 ≤ K ∧ ds = [] ∧ Below w.heap.size w V ∧ Blk V (g1 + 1 + 1) 33 #[.int .i64 0, .slice none 0 0] ∧ Blk V (g1 + 1 + 1 + 1 + 1) 33 #[.int .i64 x.2.1, x.2.2.2] ∧ PRt V (.agg #[.int .i64 x.2.1, x.2.2.2]) x.2.1 x.2.2.1 ∧ (∀ y ∈ x.2.2.1, NdB (35 + x.1) y) ∧ x.2.2.1.length ≤ 40000000 + x.1 ∧ -(6 + 2 * (x.1 : Int)) ≤ x.2.1 ∧ x.2.1 ≤ 6 + 2 * (x.1 : Int)) (fun x => K - x.1) (0, s0, P0, v0) rfl
      ⟨Nat.zero_le _, rfl, hbW, h2, hZ, hP, hnd, hln, by dsimp only; omega, by dsimp only; omega⟩ ?_
    clear h2 hZ hP hnd hln hs1 hs2 hKe
    rintro ⟨k, s, P, v⟩ f ds V ⟨hk, rfl, hbV, hY, hZ, hP, hnd, hln, hs1, hs2⟩
    dsimp only at hk hZ hP hnd hln hs1 hs2 ⊢
    by_cases hlt : k < K
    · obtain ⟨x, hx⟩ : ∃ x, l[k]? = some x := ⟨_, List.getElem?_eq_getElem (by omega)⟩
      obtain ⟨g, off, rfl, hg, hc⟩ := (hO.below hbV) (by omega)
      obtain ⟨m0, m1, m2, m3⟩ := hc k x hx
      have hokx := hok x (List.mem_of_getElem? hx)
      have z0 := hZ.cell 0
      have z1 := hZ.cell 1
      clear hc hx
      go_upto_region 8 with fail
      refine abs1 fun V1 hN hb hz => ?_
      clear hz z0 z1 m0 m1 m2 m3
      have z0 := (hZ.below hb hZ.lt).cell 0
      have z1 := (hZ.below hb hZ.lt).cell 1
      have m0 := hN.cell 0
      have m1 := hN.cell 1
      have m2 := hN.cell 2
      have m3 := hN.cell 3
      go_wp2_with fail
      clear hN
      have hAP := apply_any x hokx s (6 + 2 * (k : Int)) P (35 + k) (.agg #[.int .i64 s, v]) V1 (hP.prf.below hb) hnd (by omega) (by omega) ⟨hs1, hs2⟩ (by omega)
      unfold oddV at hAP
      refine hAP.mono ?_
      rintro e V2 ⟨v', s', P', rfl, hP', hnd', hln', hs1', hs2', hb2⟩
      obtain ⟨A', c', rfl, hR', hc', hn'⟩ := hP'
      replace hbV := (hbV.trans (hb.mono hbV.size)).trans (hb2.mono (by have := hbV.size; have := hb.size; omega))
      have hY2 := (hY.below hb hY.lt).below hb2 (by have := hY.lt; have := hb.size; omega)
      have hZ2 := (hZ.below hb hZ.lt).below hb2 (by have := hZ.lt; have := hb.size; omega)
      clear z0 z1 m0 m1 m2 m3 hAP hP hY hZ hb hb2 hnd hs1 hs2
      have z0 := hZ2.cell 0
      have z1 := hZ2.cell 1
      have f0 := hZ2.frozen 0
      have f1 := hZ2.frozen 1
      have lZ := hZ2.lt
      go_wp2_with fail
      have hP3 : PRt V2 (.agg #[.int .i64 s', .slice A' P'.length c']) s' P' := ⟨A', c', rfl, hR', hc', hn'⟩
      have hP4 := (hP3.far (p := ⟨g1 + 1 + 1 + 1 + 1, 0, none⟩) hZ2 (by decide) (by decide) (by decide) (.int .i64 s')).far (p := ⟨g1 + 1 + 1 + 1 + 1, 1, none⟩) (hZ2.set_ 0 (.int .i64 s')) (by decide) (by decide) (by decide) (.slice A' P'.length c')
      have hZ4 := (hZ2.set_ 0 (.int .i64 s')).set_ 1 (.slice A' P'.length c')
      have hY4 := (hY2.far (p := ⟨g1 + 1 + 1 + 1 + 1, 0, none⟩) (by show g1 + 1 + 1 ≠ g1 + 1 + 1 + 1 + 1; omega) (.int .i64 s')).far (p := ⟨g1 + 1 + 1 + 1 + 1, 1, none⟩) (by show g1 + 1 + 1 ≠ g1 + 1 + 1 + 1 + 1; omega) (.slice A' P'.length c')
      have hb4 := (hbV.setCell (p := ⟨g1 + 1 + 1 + 1 + 1, 0, none⟩) (by show w.heap.size ≤ g1 + 1 + 1 + 1 + 1; omega) (.int .i64 s')).setCell (p := ⟨g1 + 1 + 1 + 1 + 1, 1, none⟩) (by show w.heap.size ≤ g1 + 1 + 1 + 1 + 1; omega) (.slice A' P'.length c')
      exact ⟨(k + 1, s', P', .slice A' P'.length c'), by first | rfl | trivial, ⟨by show k + 1 ≤ K; omega, by first | rfl | trivial, hb4, hY4, hZ4, hP4, hnd', by show P'.length ≤ 40000000 + (k + 1); omega, by show -(6 + 2 * ((k + 1 : Nat) : Int)) ≤ s'; omega, by show s' ≤ 6 + 2 * ((k + 1 : Nat) : Int); omega⟩, by show K - (k + 1) < K - k; omega⟩
    · obtain rfl : k = K := by omega
      obtain ⟨A', c', hve, hR', hc', hn'⟩ := hP
      obtain rfl : v = .slice A' P.length c' := by injection hve with hve; injection hve with hve; injection hve with _ hve; injection hve
      have z0e := hZ.cell 0
      have z1e := hZ.cell 1
      have y0e := hY.cell 0
      have y1e := hY.cell 1
      have f0e := hY.frozen 0
      have f1e := hY.frozen 1
      have lYe := hY.lt
      go_wp2_with fail
      have hYs := (hY.set_ 0 (.int .i64 s)).set_ 1 (.slice A' P.length c')
      have c0e := hYs.cell 0
      have c1e := hYs.cell 1
      refine bodyPost_ret (v := .agg #[.int .i64 s, .slice A' P.length c']) (by simp [results, Tryd.results15, go_sem, c0e, c1e]) rfl ?_
      have hfin := (nt_PRf (u0 := .int .i64 s) (u1 := .slice A' P.length c') (size := s) (n := P.length) (c := c') hR' hY rfl hc' hn')
      have hbf := (hbV.setCell (p := ⟨g1 + 1 + 1, 0, none⟩) (by show w.heap.size ≤ g1 + 1 + 1; omega) (.int .i64 s)).setCell (p := ⟨g1 + 1 + 1, 1, none⟩) (by show w.heap.size ≤ g1 + 1 + 1; omega) (.slice A' P.length c')
      have hnf : ∀ y ∈ P, NdB 40 y := fun y hy => (hnd y hy).mono (by omega)
      first | exact ⟨_, rfl, s, P, hfin, hnf, by omega, by omega, by omega, hbf⟩ | exact ⟨_, s, P, rfl, hfin, hnf, by omega, by omega, by omega, hbf⟩
theorem fit_any (less : Nat) (last : Bool) (l : List Odd4) (C : Nat) (A : Option Addr) (c : Nat) (M : List (List Bool)) (v : Value) (w : World) (hX : IsRaw47 w v less last l) (hC : C ≤ 5) (hR : M.length ≤ 5) (hI : IsRef w C A M) :
    Calls Tryd.prog 15 #[v, refV C A M.length c] w fun e w' => ∃ v' size P, e = .returned v' ∧ PRf w' v' size P ∧ (∀ y ∈ P, NdB 40 y) ∧ P.length ≤ 50000000 ∧ -20 ≤ size ∧ size ≤ 20 ∧ Below w.heap.size w w' := by
  refine (fit_t less last l C A c M v w hX hC hR hI).mono ?_
  rintro e w' ⟨v', size, P, h1, h2, h3⟩
  exact ⟨v', size, P, h1, h2.prf, h3⟩
end Mix2
end Go.Proofs.YtlehoomnddcblaaDoor
