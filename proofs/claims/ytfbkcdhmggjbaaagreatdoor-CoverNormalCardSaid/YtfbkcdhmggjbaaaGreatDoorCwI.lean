import Derived.Test.YtfbkcdhmggjbaaaGreatDoorCwG
import Derived.Test.YtfbkcdhmggjbaaaGreatDoorCvT
import Derived.Deep.DeepCutAuto
import Derived.Deep.CutBlock
/-
  cover.Simplify: its closure 'good'.
-/
namespace Go.Proofs.YtfbkcdhmggjbaaaGreatDoor
open Go.RowKit
/-- Roles as pairs of sets give the matrix. -/
def validQ (C : Nat) (Ns : List Nat) (L : List (Nat × Nat)) : Bool := validN C Ns L.length (mtrans Ns.length (L.map (·.1)) Ns.length) C (L.map (·.2))
def Bo2 (w W : World) (g : Nat) : Prop := Blk W g 34 #[.pointer none, .pointer none] ∧ w.heap.size ≤ g
theorem Bo2.mk' {w W : World} {g : Nat} (h : Blk W g 34 #[.pointer none, .pointer none]) (hl : w.heap.size ≤ g) : Bo2 w W g := ⟨h, hl⟩
theorem Bo2.lt {w W : World} {g : Nat} (h : Bo2 w W g) : g < W.heap.size := h.1.lt
theorem Bo2.below {w W W' : World} {g : Nat} (h : Bo2 w W g) (hb : Below W.heap.size W W') : Bo2 w W' g := ⟨h.1.below hb h.1.lt, h.2⟩
theorem users_rowsQ {R : Nat} {L : List (Nat × Nat)} (hM : L.length ≤ 4096) : rowsIn L.length (mtrans R (L.map (·.1)) R) := by
  have := rows_trans (C := R) (Ns := L.map (·.1)) (by rw [List.length_map]; exact hM)
  rwa [List.length_map] at this
namespace Mix2
set_option maxRecDepth 100000 in
set_option maxHeartbeats 16000000 in
theorem good_any (g2 q base C : Nat) (Ns : List Nat) (L : List (Nat × Nat)) (v : Value) (tb : TypeId) (w : World) (h2 : Blk w g2 tb #[ptr q]) (hm : IsMat w q C Ns) (hL : OwnQ w base v L) (hLl : L.length ≤ 256) (hC : C ≤ 256) (hR : Ns.length ≤ 256) (hr1 : rowsIn Ns.length (L.map (·.1))) (hr2 : rowsIn C (L.map (·.2))) (hT : Tab w) :
    Calls Tryz.prog 38 #[v, ptr g2] w fun e w' => e = .returned (.bool (validQ C Ns L)) ∧ Below w.heap.size w w' := by
  obtain ⟨A, c, rfl⟩ := hL.val
  have i0 := h2.cell 0
  have HBU := Lib.hid (fun W (hb : Below w.heap.size w W) => buildQ_any base (.slice A L.length c) Ns.length C L W (hL.below hb) hLl hR hC hr1 hr2)
  have HRW := Lib.hid (fun W (hb : Below w.heap.size w W) => rows_any q C Ns W (hm.below hb))
  have HCW := Lib.hid (fun W (hb : Below w.heap.size w W) => cols_any q C Ns W (hm.below hb))
  go_enter Tryz.func38, Tryz.ntmps38
  go_upto_region 1 with fail
  go_cut [4, 5] (fun s4 s5 wx => ∃ (g u p : Nat), s4 = ptr g ∧ s5 = .int .i64 0 ∧ Blk wx g 34 #[ptr u, ptr p] ∧ IsMO wx u L.length (mtrans Ns.length (L.map (·.1)) Ns.length) ∧ IsMO wx p C (L.map (·.2)) ∧ Below w.heap.size w wx)
  case first =>
    refine wp_mix (fun V => Below w.heap.size w V) 12 (by kernel_rfl) (by kernel_rfl) (Below.refl _ _).drew ?_
    have b := (Below.refl w.heap.size w).drew
    obtain ⟨W, hWW⟩ : ∃ V, V = w.drew := ⟨_, rfl⟩
    rw [← hWW] at b ⊢
    clear hWW
    (refine m_q 0 (v := ?_) (by kernel_rfl) rfl rfl (fun W hW => ?_) ?_; rotate_left; (have z0 := onB hW i0; go_simp; first | done | with_reducible rfl); simp only [Act.put, List.setIfInBounds_toArray, List.set_cons_zero, List.set_cons_succ]); (refine m_q 2 (v := ?_) (by kernel_rfl) rfl rfl (fun W hW => ?_) ?_; rotate_left; (have z0 := onB hW i0; go_simp; first | done | with_reducible rfl); simp only [Act.put, List.setIfInBounds_toArray, List.set_cons_zero, List.set_cons_succ]); (refine m_q 4 (v := ?_) (by kernel_rfl) rfl rfl (fun W hW => ?_) ?_; rotate_left; (have z0 := onB hW i0; go_simp; first | done | with_reducible rfl); simp only [Act.put, List.setIfInBounds_toArray, List.set_cons_zero, List.set_cons_succ])
    clear i0
    refine m_join (β := Nat × Nat × Nat) #[true, true, true, true, true, true, true, true, true, true, false, false] 2 (fun b f => #[Value.slice A L.length c, ptr g2, undef, Value.bool false, ptr b.2.2, f 5, .tuple #[.agg #[ptr b.1, ptr b.2.1], .int .i64 0], ptr q, .int .i64 (Ns.length : Int), ptr q, .int .i64 (C : Int), Value.slice A L.length c, .tuple #[.agg #[ptr b.1, ptr b.2.1], .int .i64 0], .agg #[ptr b.1, ptr b.2.1], .int .i64 0, undef, undef, undef, undef, undef, undef, undef]) (fun b ds W => ds = [] ∧ Below w.heap.size w W ∧ IsMO W b.1 L.length (mtrans Ns.length (L.map (·.1)) Ns.length) ∧ IsMO W b.2.1 C (L.map (·.2)) ∧ Bo2 w W b.2.2) ?_ ?_
    · rintro ⟨u, p, g⟩ f ds W ⟨rfl, b, T1, T2, X4⟩
      try dsimp only at b T1 T2 X4 ⊢
      have e0 := X4.1.cell 0; have e1 := X4.1.cell 1; have f0 := X4.1.frozen 0; have f1 := X4.1.frozen 1; have lg := X4.lt
      have t1 := (T1.put (i := 0) X4.1 (by decide) (by decide) (by decide) (ptr u)).put (i := 1) (X4.1.set_ 0 (ptr u)) (by decide) (by decide) (by decide) (ptr p)
      have t2 := (T2.put (i := 0) X4.1 (by decide) (by decide) (by decide) (ptr u)).put (i := 1) (X4.1.set_ 0 (ptr u)) (by decide) (by decide) (by decide) (ptr p)
      have bb := (b.setCell (p := ⟨g, 0, none⟩) X4.2 (ptr u)).setCell (p := ⟨g, 1, none⟩) X4.2 (ptr p)
      have xx := (X4.1.set_ 0 (ptr u)).set_ 1 (ptr p)
      have TT1 := Lib.hid t1; have TT2 := Lib.hid t2; have BB := Lib.hid bb; have XX := Lib.hid xx
      clear t1 t2 bb xx T1 T2 b X4
      refine m_s1 10 (by kernel_rfl) rfl ?_
      go_wp2_with fail
      refine m_keep BB.out ?_
      (refine m_q 11 (v := ?_) (by kernel_rfl) rfl rfl (fun W hW => ?_) ?_; rotate_left; (go_simp; first | done | with_reducible rfl); simp only [Act.put, List.setIfInBounds_toArray, List.set_cons_zero, List.set_cons_succ])
      refine m_end (by kernel_rfl) ?_
      go_wp2_with fail
      go_meet
      exact ⟨g, u, p, rfl, rfl, XX.out, TT1.out, TT2.out, BB.out⟩
    intro H3_9
    refine m_join (β := Nat × Nat × Nat) #[true, true, true, true, true, true, true, true, true, false, false, false] 3 (fun b f => #[Value.slice A L.length c, ptr g2, undef, Value.bool false, f 4, f 5, .tuple #[.agg #[ptr b.1, ptr b.2.1], .int .i64 0], ptr q, .int .i64 (Ns.length : Int), ptr q, .int .i64 (C : Int), Value.slice A L.length c, .tuple #[.agg #[ptr b.1, ptr b.2.1], .int .i64 0], .agg #[ptr b.1, ptr b.2.1], .int .i64 0, undef, undef, undef, undef, undef, undef, undef]) (fun b ds W => ds = [] ∧ Below w.heap.size w W ∧ IsMO W b.1 L.length (mtrans Ns.length (L.map (·.1)) Ns.length) ∧ IsMO W b.2.1 C (L.map (·.2))) ?_ ?_
    · rintro ⟨u, p, g⟩ f ds W ⟨rfl, b, T1, T2⟩
      try dsimp only at b T1 T2 ⊢
      refine m_s1 9 (by kernel_rfl) rfl ?_
      go_wp2_with fail
      refine absN fun wn hB hb _ => ?_
      refine m_keep (b.trans (hb.mono b.size)) ?_
      exact H3_9 ⟨u, p, _⟩ _ _ _ (by kernel_rfl) rfl ⟨rfl, b.trans (hb.mono b.size), T1.below hb, T2.below hb, .mk' hB b.size⟩
    intro H3_
    refine m_join (β := Nat × Nat × Nat) #[true, true, true, true, true, false, false, false, false, true, false, false] 6 (fun b f => #[Value.slice A L.length c, ptr g2, undef, Value.bool false, ptr b.2.2, f 5, f 6, ptr q, .int .i64 (Ns.length : Int), ptr q, .int .i64 (C : Int), Value.slice A L.length c, f 12, f 13, f 14, undef, undef, undef, undef, undef, undef, undef]) (fun b ds W => ds = [] ∧ Below w.heap.size w W ∧ Bo2 w W b.2.2) ?_ ?_
    · rintro ⟨u, p, g⟩ f ds W ⟨rfl, b, X4⟩
      try dsimp only at b X4 ⊢
      refine m_s1 5 (by kernel_rfl) rfl ?_
      go_wp2_with fail
      refine (HBU.out _ b).mono ?_
      rintro e wn ⟨u, p, rfl, T1, T2, hb⟩
      have b := b.trans (hb.mono b.size)
      go_wp2_with fail
      refine m_keep b ?_
      (refine m_q 6 (v := ?_) (by kernel_rfl) rfl rfl (fun W hW => ?_) ?_; rotate_left; (go_simp; first | done | with_reducible rfl); simp only [Act.put, List.setIfInBounds_toArray, List.set_cons_zero, List.set_cons_succ]); (refine m_q 7 (v := ?_) (by kernel_rfl) rfl rfl (fun W hW => ?_) ?_; rotate_left; (go_simp; first | done | with_reducible rfl); simp only [Act.put, List.setIfInBounds_toArray, List.set_cons_zero, List.set_cons_succ]); (refine m_q 8 (v := ?_) (by kernel_rfl) rfl rfl (fun W hW => ?_) ?_; rotate_left; (go_simp; first | done | with_reducible rfl); simp only [Act.put, List.setIfInBounds_toArray, List.set_cons_zero, List.set_cons_succ])
      exact H3_9 ⟨u, p, g⟩ _ _ _ (by kernel_rfl) rfl ⟨rfl, b, T1, T2, X4.below hb⟩
    intro H2_9
    refine m_join (β := Nat × Nat × Nat) #[true, true, true, true, true, false, false, false, false, false, false, false] 7 (fun b f => #[Value.slice A L.length c, ptr g2, undef, Value.bool false, f 4, f 5, f 6, ptr q, .int .i64 (Ns.length : Int), ptr q, .int .i64 (C : Int), Value.slice A L.length c, f 12, f 13, f 14, undef, undef, undef, undef, undef, undef, undef]) (fun b ds W => ds = [] ∧ Below w.heap.size w W) ?_ ?_
    · rintro ⟨u, p, g⟩ f ds W ⟨rfl, b⟩
      try dsimp only at b ⊢
      refine m_s2 5 9 (by kernel_rfl) rfl rfl ?_ ?_
      · go_wp2_with fail
        refine (HBU.out _ b).mono ?_
        rintro e wn ⟨u, p, rfl, T1, T2, hb⟩
        have b := b.trans (hb.mono b.size)
        go_wp2_with fail
        refine m_keep b ?_
        (refine m_q 6 (v := ?_) (by kernel_rfl) rfl rfl (fun W hW => ?_) ?_; rotate_left; (go_simp; first | done | with_reducible rfl); simp only [Act.put, List.setIfInBounds_toArray, List.set_cons_zero, List.set_cons_succ]); (refine m_q 7 (v := ?_) (by kernel_rfl) rfl rfl (fun W hW => ?_) ?_; rotate_left; (go_simp; first | done | with_reducible rfl); simp only [Act.put, List.setIfInBounds_toArray, List.set_cons_zero, List.set_cons_succ]); (refine m_q 8 (v := ?_) (by kernel_rfl) rfl rfl (fun W hW => ?_) ?_; rotate_left; (go_simp; first | done | with_reducible rfl); simp only [Act.put, List.setIfInBounds_toArray, List.set_cons_zero, List.set_cons_succ])
        exact H3_ ⟨u, p, 0⟩ _ _ _ (by kernel_rfl) rfl ⟨rfl, b, T1, T2⟩
      · go_wp2_with fail
        refine absN fun wn hB hb _ => ?_
        refine m_keep (b.trans (hb.mono b.size)) ?_
        exact H2_9 ⟨0, 0, _⟩ _ _ _ (by kernel_rfl) rfl ⟨rfl, b.trans (hb.mono b.size), .mk' hB b.size⟩
    intro H2_
    refine m_join (β := Nat × Nat × Nat) #[true, true, true, false, true, false, false, false, false, true, false, false] 7 (fun b f => #[Value.slice A L.length c, ptr g2, undef, Value.bool false, ptr b.2.2, f 5, f 6, ptr q, .int .i64 (Ns.length : Int), ptr q, f 10, Value.slice A L.length c, f 12, f 13, f 14, undef, undef, undef, undef, undef, undef, undef]) (fun b ds W => ds = [] ∧ Below w.heap.size w W ∧ Bo2 w W b.2.2) ?_ ?_
    · rintro ⟨u, p, g⟩ f ds W ⟨rfl, b, X4⟩
      try dsimp only at b X4 ⊢
      refine m_s1 3 (by kernel_rfl) rfl ?_
      go_wp2_with fail
      refine (HCW.out _ b).mono ?_
      rintro e w' ⟨rfl, rfl⟩
      have hb := Below.refl W.heap.size W
      have b := b.trans (hb.mono b.size)
      go_wp2_with fail
      refine m_keep b ?_
      exact H2_9 ⟨0, 0, g⟩ _ _ _ (by kernel_rfl) rfl ⟨rfl, b, X4.below hb⟩
    intro H1_9
    refine m_join (β := Nat × Nat × Nat) #[true, true, true, false, true, false, false, false, false, false, false, false] 8 (fun b f => #[Value.slice A L.length c, ptr g2, undef, Value.bool false, f 4, f 5, f 6, ptr q, .int .i64 (Ns.length : Int), ptr q, f 10, Value.slice A L.length c, f 12, f 13, f 14, undef, undef, undef, undef, undef, undef, undef]) (fun b ds W => ds = [] ∧ Below w.heap.size w W) ?_ ?_
    · rintro ⟨u, p, g⟩ f ds W ⟨rfl, b⟩
      try dsimp only at b ⊢
      refine m_s2 3 9 (by kernel_rfl) rfl rfl ?_ ?_
      · go_wp2_with fail
        refine (HCW.out _ b).mono ?_
        rintro e w' ⟨rfl, rfl⟩
        have hb := Below.refl W.heap.size W
        have b := b.trans (hb.mono b.size)
        go_wp2_with fail
        refine m_keep b ?_
        exact H2_ ⟨0, 0, 0⟩ _ _ _ (by kernel_rfl) rfl ⟨rfl, b⟩
      · go_wp2_with fail
        refine absN fun wn hB hb _ => ?_
        refine m_keep (b.trans (hb.mono b.size)) ?_
        exact H1_9 ⟨0, 0, _⟩ _ _ _ (by kernel_rfl) rfl ⟨rfl, b.trans (hb.mono b.size), .mk' hB b.size⟩
    intro H1_
    refine m_join (β := Nat × Nat × Nat) #[true, false, true, false, true, false, false, false, false, true, false, false] 8 (fun b f => #[Value.slice A L.length c, ptr g2, undef, Value.bool false, ptr b.2.2, f 5, f 6, ptr q, f 8, ptr q, f 10, Value.slice A L.length c, f 12, f 13, f 14, undef, undef, undef, undef, undef, undef, undef]) (fun b ds W => ds = [] ∧ Below w.heap.size w W ∧ Bo2 w W b.2.2) ?_ ?_
    · rintro ⟨u, p, g⟩ f ds W ⟨rfl, b, X4⟩
      try dsimp only at b X4 ⊢
      refine m_s1 1 (by kernel_rfl) rfl ?_
      go_wp2_with fail
      refine (HRW.out _ b).mono ?_
      rintro e w' ⟨rfl, rfl⟩
      have hb := Below.refl W.heap.size W
      have b := b.trans (hb.mono b.size)
      go_wp2_with fail
      refine m_keep b ?_
      exact H1_9 ⟨0, 0, g⟩ _ _ _ (by kernel_rfl) rfl ⟨rfl, b, X4.below hb⟩
    intro H0_9
    refine m_s2 1 9 (by kernel_rfl) rfl rfl ?_ ?_
    · go_wp2_with fail
      refine (HRW.out _ b).mono ?_
      rintro e w' ⟨rfl, rfl⟩
      have hb := Below.refl W.heap.size W
      have b := b.trans (hb.mono b.size)
      go_wp2_with fail
      refine m_keep b ?_
      exact H1_ ⟨0, 0, 0⟩ _ _ _ (by kernel_rfl) rfl ⟨rfl, b⟩
    · go_wp2_with fail
      refine absN fun wn hB hb _ => ?_
      refine m_keep (b.trans (hb.mono b.size)) ?_
      exact H0_9 ⟨0, 0, _⟩ _ _ _ (by kernel_rfl) rfl ⟨rfl, b.trans (hb.mono b.size), .mk' hB b.size⟩
  case rest =>
    obtain ⟨g, u, p, hs4, hs5, hg, hu, hp, hb⟩ := hcut
    subst hs4; subst hs5
    have k2 := h2.below hb h2.lt
    have i0 := k2.cell 0
    have e0 := hg.cell 0
    have e1 := hg.cell 1
    have hva := valid_any q u p C L.length C Ns _ _ wc (hm.below hb) hu.mat hp.mat (users_rowsQ (by omega)) (hT.below hb)
    have HVA := hideC hva
    clear hva
    go_wp2_with fail
    with_reducible refine HVA.out.mono ?_
    rintro e w2 ⟨rfl, hb2⟩
    go_wp2_with fail
    go_ret
    exact ⟨rfl, hb.trans (hb2.mono hb.size)⟩
end Mix2
end Go.Proofs.YtfbkcdhmggjbaaaGreatDoor
