/-
  rank.Best.
-/
import Derived.Test.YtfbkcdhmggjbaaaGreatDoorRb1
import Derived.Laws.EntriesVeiled
namespace Go.Proofs.YtfbkcdhmggjbaaaGreatDoor
open Go.RowKit
attribute [local go_sem] Oper.semAt_some

/-- What rank.Best answers. -/
def bestP (C : Nat) (Ns : List Nat) : List (Int × Int) := if 30 < (cellsOf Ns).length then [] else searchP C Ns (cz (cellsOf Ns)).length (cz (cellsOf Ns)) [] []
theorem onesTo_cells (Ns : List Nat) : onesTo Ns Ns.length = (cellsOf Ns).length := by
  rw [← sumO_all]
  unfold onesTo sumO
  rw [foldl_sum, Nat.zero_add]
theorem own_kc {w w' : World} {base n size : Nat} {e : TypeId} {v : Value} {xs : List Value} (h : w.ownsRow base e size v n xs) (k : KeepC w w') : w'.ownsRow base e size v n xs :=
  ⟨h.1, h.2.imp id fun ⟨g, cap, cur, hv, hg, hb, r⟩ => ⟨g, cap, cur, hv, hg, k.2 _ _ _ _ hb, r⟩⟩
theorem PN.shut {n : Nat} {w w' : World} {v : Value} {l : List (Int × Int)} (h : PN w v l) (k : Shut n w w') : PN w' v l := by
  obtain ⟨A, c, e, hr, hl⟩ := h
  exact ⟨A, c, e, ⟨k.row hr.1, hr.2⟩, hl⟩
theorem cells_new2 (W : World) (t : TypeId) (a b : Value) : ∀ (j : Nat) u, [a, b][j]? = some u → (W.alloc (.cells #[a, b] t)).cell? ((⟨W.heap.size, 0, none⟩ : Addr).add j) = some u := by
  intro j u hu
  rw [addr_add, (Blk.new W t #[a, b]).cell _]
  simpa using hu
theorem own_succP {W : World} {base : Nat} {e : TypeId} {size n : Nat} {v : Value} {xs : List Value} (h : W.ownsRow base e size v (n + 1) xs) : ∃ g cap, v = .slice (some ⟨g, 0, none⟩) (n + 1) cap := by
  rcases h.2 with ⟨_, e⟩ | ⟨g, cap, cur, hv, _⟩
  · omega
  · exact ⟨g, cap, hv⟩
theorem cz_app (a b : List (Nat × Nat)) : cz (a ++ b) = cz a ++ cz b := by simp [cz]
theorem cz_len' (o : List (Nat × Nat)) : (cz o).length = o.length := by simp [cz]
/-- Marks stay where a block of cells is written. -/
theorem KeepD.but {W0 W W' : World} {g6 : Nat} {t : TypeId} {cs : Array Value} (h : KeepD W0 W) (hB : Blk W g6 t cs) (k : But (some g6) W W') : KeepD W0 W' := by
  refine ⟨Nat.le_trans h.1 k.1, fun g hg => ?_⟩
  have h1 := h.2 g hg
  refine (k.2 g (Array.getElem?_eq_some_iff.1 h1).1 fun e => ?_).trans h1
  obtain rfl : g = g6 := by simpa using e
  unfold Blk at hB
  rw [h1] at hB; cases hB
theorem onesC_le (Ns : List Nat) : ∀ (d k : Nat), (onesC Ns k).length ≤ (onesC Ns (k + d)).length
  | 0, _ => Nat.le_refl _
  | d + 1, k => by
    refine Nat.le_trans (onesC_le Ns d k) ?_
    rw [show k + (d + 1) = k + d + 1 by omega, onesC_succ, List.length_append]
    omega
namespace Mix2
set_option maxRecDepth 100000 in
set_option maxHeartbeats 8000000 in
theorem best_any (q C : Nat) (Ns : List Nat) (w : World) (h : IsMat w q C Ns) (hT : Tab w) :
    Calls Tryz.prog 29 #[ptr q] w fun e w' => ∃ v, e = .returned v ∧ PN w' v (bestP C Ns) ∧ Below w.heap.size w w' := by
  obtain ⟨i0, hi0, hz0, hz1, hz2⟩ := info_parts info_pair
  have hlN : Ns.length ≤ 4096 := h.2.1
  obtain ⟨r, hr⟩ : ∃ r, r = bestP C Ns := ⟨_, rfl⟩
  rw [← hr]
  have HR := Lib.hid hr
  clear hr
  refine (callsIn_wide (n := 9)).1 (callsIn_of_wp_marks Tryz.func29 rfl trivial (wpIn_wide.2 ?_) rfl)
  simp only [Tryz.ntmps29, List.size_toArray, List.length_cons, List.length_nil, Nat.reduceAdd, Nat.reduceSub, Array.replicate_succ, Array.replicate_zero, List.push_toArray, List.append_toArray, List.nil_append, List.cons_append]
  have HO := fun W (hb : Below w.heap.size w W) => onesm_any q C Ns W (h.below hb) (hT.below hb)
  rw [onesTo_cells] at HO
  obtain ⟨L, hL⟩ : ∃ L, L = (cellsOf Ns).length := ⟨_, rfl⟩
  rw [← hL] at HO
  have HO2 := Lib.hid HO
  clear HO
  go_wp2_with fail
  refine absC1 fun W0 h1 hb0 hz => ?_
  clear hz
  obtain ⟨g1, hg1⟩ : ∃ g, g = w.heap.size := ⟨_, rfl⟩
  have hg1w : w.heap.size ≤ g1 := by omega
  rw [← hg1] at h1 ⊢
  clear hg1
  refine (HO2.out W0 hb0).mono ?_
  rintro e W1 ⟨rfl, hb1⟩
  have b1 := hb0.trans (hb1.mono hb0.size)
  have h11 := h1.below hb1 h1.lt
  clear h1 hb1 hb0
  have c1 := h11.cell 0
  by_cases h30 : 30 < L
  · have hr : r = [] := by rw [HR.out]; unfold bestP; rw [if_pos (by rw [← hL]; exact h30)]
    have HR2 := Lib.hid hr
    clear hr HR hL
    go_wp2_with fail
    refine leave_marks (n₀ := w.heap.size) _ _ trivial fun W' hW' => ?_
    exact ⟨.slice none 0 0, by simp [results, Tryz.results29], _, rfl, by rw [HR2.out]; exact PN.nil _, b1.trans hW'.1⟩
  · have hr : r = searchP C Ns (cz (cellsOf Ns)).length (cz (cellsOf Ns)) [] [] := by rw [HR.out]; unfold bestP; rw [if_neg (by rw [← hL]; exact h30)]
    have HR2 := Lib.hid hr
    have HL := Lib.hid hL
    clear hr HR hL
    have hL30 : L ≤ 30 := by omega
    go_upto_region 4 with fail
    refine abs1 fun W2 h3 hb hz => ?_
    clear hz
    obtain ⟨g3, hg3⟩ : ∃ g, g = W1.heap.size := ⟨_, rfl⟩
    have hg3w : w.heap.size ≤ g3 := by rw [hg3]; exact b1.size
    have h13 : g1 < g3 := by rw [hg3]; exact h11.lt
    rw [← hg3] at h3 ⊢
    have b2 := b1.trans (hb.mono b1.size)
    have h12 := h11.below hb h11.lt
    have lg3 : g3 < W2.heap.size := h3.lt
    clear hg3 hb b1 h11 c1
    have c1 := h12.cell 0
    have HRW := hideC (rows_any q C Ns W2 (h.below b2))
    go_wp2_with fail
    refine HRW.out.mono ?_
    rintro e w' ⟨rfl, rfl⟩
    clear HRW c1
    go_wp2_with fail
    refine wp_loopF (β := Nat × Value) (fun x f => #[ptr q, ptr g1, .slice none 0 0, ptr g3, f 4, f 5, f 6, f 7, f 8, f 9, f 10, f 11, f 12, f 13, f 14, f 15, .int .i64 (Ns.length : Int), .int .i64 (x.1 : Int), f 18, f 19, f 20, f 21, f 22, f 23, f 24, f 25, f 26, f 27, f 28, f 29, f 30, f 31, f 32, f 33, f 34, f 35, f 36])
      (fun x ds W => x.1 ≤ Ns.length ∧ Marks w.heap.size W ds ∧ Below w.heap.size w W ∧ Blk W g1 31 #[ptr q] ∧ Blk W g3 65 #[x.2] ∧ OwnP W w.heap.size x.2 (cz (onesC Ns x.1))) (fun x => Ns.length - x.1) (0, .slice none 0 0) rfl
      ⟨Nat.zero_le _, trivial, b2, h12, h3, OwnP.nil _ _⟩ ?_
    rintro ⟨k, v3⟩ f ds W ⟨hk, hM, hb, k1, k3, hown⟩
    dsimp only at hk k3 hown ⊢
    by_cases hlt : k < Ns.length
    · have hrow := fun W (hW : Below w.heap.size w W) => row_any q C Ns k W (h.below hW)
      rw [mrow, if_pos (by omega), Int.toNat_natCast] at hrow
      have hsucc := onesC_succ Ns k
      obtain ⟨N, hN⟩ : ∃ N, N = Ns.getD k 0 := ⟨_, rfl⟩
      rw [← hN] at hrow hsucc
      have HROW := Lib.hid hrow
      have HSU := Lib.hid hsucc
      clear hrow hsucc hN
      go_upto_region 7 with fail
      refine abs1 fun U1 h4 hbu hz => ?_
      clear hz
      obtain ⟨g4, hg4⟩ : ∃ g, g = W.heap.size := ⟨_, rfl⟩
      have h14 : g1 < g4 := by rw [hg4]; exact k1.lt
      have h34 : g3 < g4 := by rw [hg4]; exact k3.lt
      have h4w : w.heap.size ≤ g4 := by rw [hg4]; exact hb.size
      rw [← hg4] at h4 ⊢
      clear hg4
      have b3 := hb.trans (hbu.mono hb.size)
      have k11 := k1.below hbu k1.lt
      have k31 := k3.below hbu k3.lt
      have hM1 := hM.kd (KeepD.of_below hbu)
      have hown1 := hown.below hbu
      have c1 := k11.cell 0
      have c4 := h4.cell 0
      have HRO := hideC (res3 rfl (HROW.out U1 b3))
      clear k1 k3 hM hown hbu
      go_wp2_with fail
      refine HRO.out.mono ?_
      rintro e U2 ⟨Ar, nr, cr, rfl, sr, hbu⟩
      have b4 := b3.trans (hbu.mono b3.size)
      have k12 := k11.below hbu k11.lt
      have k32 := k31.below hbu k31.lt
      have h42 := h4.below hbu h4.lt
      have hM2 := hM1.kd (KeepD.of_below hbu)
      have hown2 := hown1.below hbu
      clear k11 k31 h4 hM1 hown1 hbu c1 c4 HRO
      obtain ⟨A', n', e, _⟩ := id sr
      cases e
      go_wp2_with fail
      refine (all_any Ar (nw N) cr U2).mono ?_
      rintro e U3 ⟨rfl, hw5⟩
      have hY := hw5 ▸ Blk.new U2 74 #[.slice Ar (nw N) cr]
      have hbu : Below U2.heap.size U2 U3 := by rw [hw5]; exact (Below.refl _ _).alloc (Nat.le_refl _) _
      clear hw5
      have b5 := b4.trans (hbu.mono b4.size)
      have k13 := k12.below hbu k12.lt
      have k33 := k32.below hbu k32.lt
      have h43 := h42.below hbu h42.lt
      have hM3 := hM2.kd (KeepD.of_below hbu)
      have hown3 := hown2.below hbu
      have sr3 := sr.below hbu
      have hT3 := hT.below b5
      obtain ⟨gy, hgy⟩ : ∃ g, g = U2.heap.size := ⟨_, rfl⟩
      rw [← hgy] at hY ⊢
      clear hgy hbu k12 k32 h42 hM2 hown2 sr b3 b4
      go_wp2_with fail
      refine wp_rangeAll (v := .slice Ar (nw N) cr) (N := N) (Bx := gy) rfl (hY.cell 0) sr3 hT3 rfl
        (fun pre W => (∃ u, Boxed W g3 65 u ∧ OwnP W w.heap.size u (cz (onesC Ns k ++ pre.map fun j => (k, j)))) ∧ Below w.heap.size w W ∧ Blk W g1 31 #[ptr q] ∧ Blk W g4 3 #[.int .i64 (k : Int)] ∧ KeepD U3 W) (fun _ _ _ => False)
        ?hI (fun _ _ _ _ _ hs _ _ => hs) ?h0 ?a1 ?assign ?body ?done (fun _ _ _ _ _ h _ => h.elim)
      case assign =>
        intro l x W K hKa
        gi_wp2
        exact hKa
      case hI =>
        rintro s W W' row ⟨⟨u, h1, h2⟩, h3, h4, h5, h6⟩ hg hrw
        have hkc := KeepC.of_grown hg hrw
        exact ⟨⟨u, hkc.2 _ _ _ _ h1, own_kc h2 hkc⟩, h3.grown hg h3.size fun k' e => Nat.le_trans b5.size (hrw k' e).1, h4.kc hkc, h5.kc hkc, h6.grown hg hrw⟩
      case h0 => exact ⟨⟨_, k33, by simpa using hown3⟩, b5, k13, h43, KeepD.refl _⟩
      case body =>
        rintro l pre x W hx ⟨⟨u, hv, hrw⟩, hbl, hQ, hI4, hkd⟩ hlen hkp
        have hc := hv.cell
        have cI := hI4.cell 0
        have hll : (cz (onesC Ns k ++ pre.map fun j => (k, j))).length ≤ 5000 := by
          rw [cz_len', List.length_append, List.length_map]
          have h1 := onesC_le Ns (Ns.length - k) k
          rw [show k + (Ns.length - k) = Ns.length by omega] at h1
          have h2 : (onesC Ns Ns.length).length = L := HL.out.symm
          omega
        have hLL2 : cz (onesC Ns k ++ (pre ++ [x]).map fun j => (k, j)) = cz (onesC Ns k ++ pre.map fun j => (k, j)) ++ [((k : Int), (x : Int))] := by rw [List.map_append, ← List.append_assoc, cz_app]; rfl
        generalize cz (onesC Ns k ++ pre.map fun j => (k, j)) = Q at hrw hll hLL2
        have HLL := Lib.hid hLL2
        clear hLL2
        have hrw0 : W.ownsRow w.heap.size 146 2 u Q.length (cellsP Q) := hrw
        have hrw1 := hrw0.alloc (.cells #[.int .i64 (k : Int), .int .i64 (x : Int)] 146)
        gi_wp2_with (gi_at_builtin; refine wpListIn_append_own _ rfl _ _ 65 rfl w.heap.size 146 i0 (.agg #[.int .i64 0, .int .i64 0]) 2 16 Tryz.underlying65 hi0 hz0 hz1 hz2 rfl (by decide) _ _ _ rfl hrw1 ⟨W.heap.size, 0, none⟩ 1 1 [.int .i64 (k : Int), .int .i64 (x : Int)] rfl rfl (cells_new2 _ _ _ _) (by intro u hu; simp at hu; rcases hu with rfl | rfl <;> rfl) (by unfold maxLen; omega) (by omega) (by have := hbl.size; simp; omega) ?_; intro v' w6 hown' hgrow _; obtain ⟨g', cap', rfl⟩ := own_succP hown'; have hkw := (KeepW.alloc W _).trans (KeepW.grown hgrow hrw1 (by decide)); obtain ⟨hv1, hv2, hr2, hk2, hb2⟩ := hv.appended (by decide) hrw0 hbl.size (by omega) hown' hgrow; have hc1 := hv1.cell; have hf1 := hv1.frozen)
        have hQ6 := (((Blk.alloc hQ _).grown hgrow (own_ne hrw1 (Blk.alloc hQ _) (by decide))).far (p := ⟨g3, 0, none⟩) (by simp; omega) (.slice (some ⟨g', 0, none⟩) (Q.length + 1) cap'))
        have hI6 := (((Blk.alloc hI4 _).grown hgrow (own_ne hrw1 (Blk.alloc hI4 _) (by decide))).far (p := ⟨g3, 0, none⟩) (by simp; omega) (.slice (some ⟨g', 0, none⟩) (Q.length + 1) cap'))
        exact ⟨hk2.from _, KpA.mk_ (hkw.trans (KeepW.setCell (p := ⟨g3, 0, none⟩) (t := 65) (cs := #[u]) hv1 (by decide) _)) hb2 hT.pos, ⟨_, hv2, by rw [HLL.out]; exact OwnP.mk_ hr2 (cellsP_snoc Q (k, x)).symm⟩, hbl.trans hb2, hQ6, hI6, hkd.others hk2⟩
      case done =>
        rintro Dk W9 hDk ⟨⟨u, hv, hrw⟩, hbl, hQ, hI4, hkd⟩ hKd
        have hM4 := hM3.cons hkd (by have := b5.size; omega) hDk hKd
        rw [← HSU.out] at hrw
        go_wp2_with fail
        exact ⟨(k + 1, u), rfl, ⟨by show k + 1 ≤ Ns.length; omega, hM4, hbl, hQ, hv, hrw⟩, by show Ns.length - (k + 1) < Ns.length - k; omega⟩
    · obtain rfl : k = Ns.length := by omega
      have hce : onesC Ns Ns.length = cellsOf Ns := rfl
      rw [hce] at hown
      have hlen : (cz (cellsOf Ns)).length = L := by rw [cz_len']; exact HL.out.symm
      have hqd := h.below hb
      obtain ⟨K, hK⟩ : ∃ K, K = cz (cellsOf Ns) := ⟨_, rfl⟩
      have hr2 := HR2.out
      rw [← hK] at hown hlen hr2
      have HR3 := Lib.hid hr2
      clear hK hce hr2 HR2
      have hpr := hown.pairs (by omega)
      have c3 := k3.cell 0
      have hsz := hb.size
      go_upto_region 12 with fail
      refine abs1 fun W2 h6 hbu hz => ?_
      obtain ⟨g6, hg6⟩ : ∃ g, g = W.heap.size := ⟨_, rfl⟩
      have l16 : g1 < g6 := by rw [hg6]; exact k1.lt
      have l36 : g3 < g6 := by rw [hg6]; exact k3.lt
      have lw6 : W.heap.size ≤ g6 := by omega
      have lw7 : w.heap.size ≤ g6 := by omega
      have n6 : W2.heap.size = g6 + 1 := by omega
      rw [← hg6] at h6 ⊢
      clear hz
      have q1 := k1.below hbu k1.lt
      have q3 := k3.below hbu k3.lt
      have qM := hM.kd (KeepD.of_below hbu)
      have qp := hpr.below hbu
      have l3 : g3 < W2.heap.size := q3.lt
      clear c3 hg6
      go_upto_region 13 with fail
      refine abs1 fun W3 h7 hbv hz => ?_
      clear hz
      have hbw := hbu.trans (hbv.mono hbu.size)
      rw [n6] at h7
      have p6 := h6.below hbv h6.lt
      have p1 := q1.below hbv q1.lt
      have p3 := q3.below hbv q3.lt
      have pM := qM.kd (KeepD.of_below hbv)
      have pp := qp.below hbv
      have l7 : g6 + 1 < W3.heap.size := h7.lt
      have f7 := h7.frozen 0
      have c7 := h7.cell 0
      clear n6 h6 q1 q3 qM qp hbv hbu hpr hown k1 k3 hM
      have hmf : ∀ (fn : Fn) (first cap : Array Value) (W : World), (Instr.makeFunc fn first cap).run Tryz.prog W = .ok (.func fn first cap) W := fun _ _ _ _ => rfl
      have n37 : g3 ≠ g6 + 1 := by omega
      go_upto_region 14 with fail
      obtain ⟨W4, hW4⟩ : ∃ V, V = W3.setCell ⟨g6 + 1, 0, none⟩ (.func (.func 84) #[] #[ptr g6, ptr g1, ptr (g6 + 1)]) := ⟨_, rfl⟩
      have o7 : Blk W4 (g6 + 1) 147 #[.func (.func 84) #[] #[ptr g6, ptr g1, ptr (g6 + 1)]] := by rw [hW4]; exact h7.set_ 0 _
      have o6 : Blk W4 g6 65 #[.slice none 0 0] := by rw [hW4]; exact p6.far (p := ⟨g6 + 1, 0, none⟩) (by simp) _
      have o1 : Blk W4 g1 31 #[ptr q] := by rw [hW4]; exact p1.far (p := ⟨g6 + 1, 0, none⟩) (by simp; omega) _
      have o3 : Blk W4 g3 65 #[v3] := by rw [hW4]; exact p3.far (p := ⟨g6 + 1, 0, none⟩) (by simp; omega) _
      have hb4 : Below W.heap.size W W4 := by rw [hW4]; exact hbw.setCell (p := ⟨g6 + 1, 0, none⟩) (by show W.heap.size ≤ g6 + 1; omega) _
      have hM4 : Marks w.heap.size W4 ds := by rw [hW4]; exact pM.kd ((KeepD.refl W3).others (KeepsOthers.setCell _ _ _))
      have hp4 : IsPairs W4 v3 K := by
        obtain ⟨A, c, e, hr, h1, h2⟩ := pp
        rw [hW4]
        refine ⟨A, c, e, fun hp => ?_, h1, h2⟩
        obtain ⟨g, off, hA, hg, hc⟩ := hr hp
        have hne : g ≠ g6 + 1 := by
          rintro rfl
          obtain ⟨c, hc0⟩ : ∃ c, K[0]? = some c := ⟨_, List.getElem?_eq_getElem (by rw [cellsP_len] at hp; omega)⟩
          have h0 := hc _ _ (cellsP_get K hc0).1
          rw [h7.cell] at h0
          rcases off with _ | off <;> simp at h0
        exact ⟨g, off, hA, by simpa [World.setCell] using hg, fun j u hu => (World.cell?_of_block (a := ⟨g, off + j, none⟩) (Below.heap_setCell W3 ⟨g6 + 1, 0, none⟩ (.func (.func 84) #[] #[ptr g6, ptr g1, ptr (g6 + 1)]) g hne)).trans (hc j u hu)⟩
      rw [← hW4]
      have hHC := best1_any q C Ns g6 g1 (g6 + 1) W hqd lw6 (by omega) (by omega) _ _ K.length [] K [] (.slice none 0 0) v3 (.slice none 0 0) W4 (Nat.le_refl _) (by rw [List.length_nil]; omega) hb4 (PN.nil _) hp4 (PN.nil _) o6 o1 o7
      have HC := hideC hHC
      have x3 := o3.cell 0
      have x7 := o7.cell 0
      clear hHC hmf pp p6 p1 p3 pM c7 f7 h7 hbw hW4 hp4
      go_wp2_with fail
      refine HC.out.mono ?_
      rintro e W5 ⟨rfl, vb, hvb, o65, hbut, hb5⟩
      have hM5 := hM4.kd ((KeepD.refl W4).but o6 hbut)
      have x6 := o65.cell 0
      go_wp2_with fail
      refine leave_marks (n₀ := w.heap.size) _ _ hM5 fun W' hW' => ?_
      exact ⟨vb, by simp [results, Tryz.results29], vb, rfl, by rw [HR3.out]; exact hvb.shut hW', (hb.trans (hb5.mono hb.size)).trans hW'.1⟩
end Mix2
end Go.Proofs.YtfbkcdhmggjbaaaGreatDoor
