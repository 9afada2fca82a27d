import Derived.Test.YtfbkcdhmggjbaaaGreatDoorCxS4
import Derived.Deep.DeepCutAuto
import Derived.Deep.CutBlock
/-
  The law CoverSimplify.
-/
namespace Go.Proofs.YtfbkcdhmggjbaaaGreatDoor
open Go.RowKit
namespace Mix2
set_option maxRecDepth 100000 in
set_option maxHeartbeats 40000000 in
theorem simplify_walk (v v' : Value) (R C R' C' : Nat) (zs zs' : List Int) (w : World) (hT : Tab w) (h : IsRaw w v R C zs) (h' : IsRaw w v' R' C' zs') :
    Calls Tryz.prog 3 #[v, v'] w fun e w' => e = .returned (.bool true) ∧ Below w.heap.size w w' := by
  have hbd := h.bd
  have hbd' := h'.bd
  obtain ⟨r, c, A0, d0, hv, _⟩ := id h
  obtain ⟨r', c', A0', d0', hv', _⟩ := id h'
  subst hv; subst hv'
  have HIN := hideC h; clear h
  have HIN' := hideC h'; clear h'
  go_enter Tryz.func3, Tryz.ntmps3
  go_wp2_with fail
  refine absC2 fun W0 hX hX' hbel0 hz => ?_
  clear hz
  refine (awake_any48 W0 (hT.below hbel0)).mono ?_
  rintro e w1 ⟨rfl, hb1⟩
  have b1 := hbel0.trans (hb1.mono hbel0.size)
  replace hX := hX.below hb1 hX.lt
  replace hX' := hX'.below hb1 hX'.lt
  have x0 := hX.cell 0
  have x1 := hX.cell 1
  have x2 := hX.cell 2
  have y0 := hX'.cell 0
  have y1 := hX'.cell 1
  have y2 := hX'.cell 2
  have HP := hideC (product48_any _ _ R C R' C' zs zs' w1 (HIN.out.below b1) (HIN'.out.below b1))
  go_wp2_with fail
  with_reducible refine HP.out.mono ?_
  rintro e w2 ⟨A1, c1, A2, c2, A3, c3, rfl, hy1, hy2, hy3, hb2⟩
  have b2 := b1.trans (hb2.mono b1.size)
  clear HP HIN HIN' hX hX' x0 x1 x2 y0 y1 y2 hbel0 hb1 hb2 b1
  obtain ⟨MA, hMA⟩ : ∃ M, M = rawM R C zs := ⟨_, rfl⟩
  obtain ⟨MB, hMB⟩ : ∃ M, M = rawM C C' zs' := ⟨_, rfl⟩
  rw [← hMA, ← hMB] at hy3
  rw [← hMA] at hy1
  rw [← hMB] at hy2
  have hAl : MA.length = R := by rw [hMA]; exact mat_len ..
  have hBl : MB.length = C := by rw [hMB]; exact mat_len ..
  have hAr : ∀ (i : Nat) r, MA[i]? = some r → r.length = C := fun i r hr => mat_rows (hMA ▸ hr)
  have hBr : ∀ (i : Nat) r, MB[i]? = some r → r.length = C' := fun i r hr => mat_rows (hMB ▸ hr)
  obtain ⟨MW, hMW⟩ : ∃ M, M = mat R C' (prodF MA MB C) := ⟨_, rfl⟩
  rw [← hMW] at hy3
  have hWl : MW.length = R := by rw [hMW]; exact mat_len ..
  have HMW := Lib.hid hMW; have HAL := Lib.hid hAl; have HBL := Lib.hid hBl; have HWL := Lib.hid hWl; have HAR := Lib.hid hAr; have HBR := Lib.hid hBr
  clear hMA hMB hMW hAr hBr
  go_upto_region 4 with fail
  refine abs3 fun w3 h5 h6 h7 hb3 hz => ?_
  clear hz
  obtain ⟨g5, hg5⟩ : ∃ x, x = w2.heap.size := ⟨_, rfl⟩
  rw [← hg5] at h5 h6 h7 ⊢
  clear hg5
  have b3 := b2.trans (hb3.mono b2.size)
  replace hy1 := hy1.below hb3
  replace hy2 := hy2.below hb3
  replace hy3 := hy3.below hb3
  clear hb3 b2
  have hml1 := fun W (hb : Below w3.heap.size w3 W) => matrixl_any C A1 c1 MA W (hy1.below hb).ref (by omega) (by omega)
  have hml2 := fun W (hb : Below w3.heap.size w3 W) => matrixl_any C' A2 c2 MB W (hy2.below hb).ref (by omega) (by omega)
  have hml3 := fun W (hb : Below w3.heap.size w3 W) => matrixl_any C' A3 c3 MW W (hy3.below hb).ref (by omega) (by omega)
  rw [hAl] at hml1
  rw [hBl] at hml2
  rw [hWl] at hml3
  have HM1 := Lib.hid hml1; have HM2 := Lib.hid hml2; have HM3 := Lib.hid hml3
  clear hml1 hml2 hml3 hAl hBl hWl
  go_upto_region 5 with fail
  go_cut [8, 9] (fun sm sr wx => ∃ (q1 q2 q3 gR : Nat), sm = ptr q1 ∧ sr = ptr gR ∧ Blk wx gR 34 #[ptr q2, ptr q3] ∧ IsMat wx q1 C' (nsOf C' MW) ∧ IsMat wx q2 C (nsOf C MA) ∧ IsMat wx q3 C' (nsOf C' MB) ∧ Below w3.heap.size w3 wx)
  case first =>
    have x0 := h5.cell 0
    have x1 := h5.cell 1
    have y0 := h6.cell 0
    have y1 := h6.cell 1
    have z0 := h7.cell 0
    have z1 := h7.cell 1
    refine wp_mix (fun V => Below w3.heap.size w3 V) 10 (by kernel_rfl) (by kernel_rfl) (Below.refl _ _).drew ?_
    have b := (Below.refl w3.heap.size w3).drew
    obtain ⟨W, hWW⟩ : ∃ V, V = w3.drew := ⟨_, rfl⟩
    rw [← hWW] at b ⊢
    clear hWW
    (refine m_q 0 (v := ?_) (by kernel_rfl) rfl rfl (fun W hW => ?_) ?_; rotate_left; (have a0 := onB hW x0; have a1 := onB hW x1; have a2 := onB hW y0; have a3 := onB hW y1; have a4 := onB hW z0; have a5 := onB hW z1; go_simp; first | done | with_reducible rfl); simp only [Act.put, List.setIfInBounds_toArray, List.set_cons_zero, List.set_cons_succ]); (refine m_q 2 (v := ?_) (by kernel_rfl) rfl rfl (fun W hW => ?_) ?_; rotate_left; (have a0 := onB hW x0; have a1 := onB hW x1; have a2 := onB hW y0; have a3 := onB hW y1; have a4 := onB hW z0; have a5 := onB hW z1; go_simp; first | done | with_reducible rfl); simp only [Act.put, List.setIfInBounds_toArray, List.set_cons_zero, List.set_cons_succ]); (refine m_q 4 (v := ?_) (by kernel_rfl) rfl rfl (fun W hW => ?_) ?_; rotate_left; (have a0 := onB hW x0; have a1 := onB hW x1; have a2 := onB hW y0; have a3 := onB hW y1; have a4 := onB hW z0; have a5 := onB hW z1; go_simp; first | done | with_reducible rfl); simp only [Act.put, List.setIfInBounds_toArray, List.set_cons_zero, List.set_cons_succ])
    clear x0 x1 y0 y1 z0 z1
    refine m_join (β := Nat × Nat × Nat × Nat) #[true, true, true, true, true, true, true, true, false, false] 2 (fun b f => #[Value.agg #[Value.int IntKind.u8 (r : Int), Value.int IntKind.u8 (c : Int), Value.slice A0 zs.length d0], Value.agg #[Value.int IntKind.u8 (r' : Int), Value.int IntKind.u8 (c' : Int), Value.slice A0' zs'.length d0'], Value.pointer (some { block := w.heap.size, off := 0 }), Value.pointer (some { block := w.heap.size + 1, off := 0 }), Value.bool false, Value.pointer (some { block := g5, off := 0 }), Value.pointer (some { block := g5 + 1, off := 0 }), Value.pointer (some { block := g5 + 1 + 1, off := 0 }), f 8, ptr b.2.2.2, undef, undef, undef, undef, Value.bool true, Value.bool false, Value.tuple #[refV C A1 R c1, refV C' A2 C c2, refV C' A3 R c3], Value.agg #[Value.int IntKind.u8 (r : Int), Value.int IntKind.u8 (c : Int), Value.slice A0 zs.length d0], Value.agg #[Value.int IntKind.u8 (r' : Int), Value.int IntKind.u8 (c' : Int), Value.slice A0' zs'.length d0'], Value.tuple #[refV C A1 R c1, refV C' A2 C c2, refV C' A3 R c3], refV C A1 R c1, refV C' A2 C c2, refV C' A3 R c3, Value.agg #[Value.int IntKind.i64 (C' : Int), Value.slice A3 R c3], ptr b.1, Value.agg #[Value.int IntKind.i64 (C : Int), Value.slice A1 R c1], ptr b.2.1, Value.agg #[Value.int IntKind.i64 (C' : Int), Value.slice A2 C c2], ptr b.2.2.1, .agg #[ptr b.2.1, ptr b.2.2.1], undef, undef, undef, undef, undef, undef, undef, undef, undef, undef, undef, undef, undef, undef, undef, undef, undef, undef, undef, undef, undef, undef, undef, undef, undef, undef, undef, undef, undef, undef]) (fun b ds W => ds = [] ∧ Below w3.heap.size w3 W ∧ IsMat W b.1 C' (nsOf C' MW) ∧ IsMat W b.2.1 C (nsOf C MA) ∧ IsMat W b.2.2.1 C' (nsOf C' MB) ∧ Bo2 w3 W b.2.2.2) ?_ ?_
    · rintro ⟨q1, q2, q3, gR⟩ f ds W ⟨rfl, b, T1, T2, T3, X9⟩
      try dsimp only at b T1 T2 T3 X9 ⊢
      have e0 := X9.1.cell 0; have e1 := X9.1.cell 1; have f0 := X9.1.frozen 0; have f1 := X9.1.frozen 1; have lg := X9.lt
      have t1 := IsMat.boxQ2 (p1 := q2) (p2 := q3) T1 X9.1 (by decide) (by decide)
      have t2 := IsMat.boxQ2 (p1 := q2) (p2 := q3) T2 X9.1 (by decide) (by decide)
      have t3 := IsMat.boxQ2 (p1 := q2) (p2 := q3) T3 X9.1 (by decide) (by decide)
      have bb := (b.setCell (p := ⟨gR, 0, none⟩) X9.2 (ptr q2)).setCell (p := ⟨gR, 1, none⟩) X9.2 (ptr q3)
      have xx := (X9.1.set_ 0 (ptr q2)).set_ 1 (ptr q3)
      have TT1 := Lib.hid t1; have TT2 := Lib.hid t2; have TT3 := Lib.hid t3; have BB := Lib.hid bb; have XX := Lib.hid xx
      refine m_s1 8 (by kernel_rfl) rfl ?_
      go_wp2_with fail
      refine m_keep b ?_
      clear t1 t2 t3 bb xx T1 T2 T3 b X9
      refine m_s1 9 (by kernel_rfl) rfl ?_
      go_wp2_with fail
      refine m_keep BB.out ?_
      refine m_end (by kernel_rfl) ?_
      go_wp2_with fail
      go_meet
      exact ⟨q1, q2, q3, gR, rfl, rfl, XX.out, TT1.out, TT2.out, TT3.out, BB.out⟩
    intro H3_7
    refine m_join (β := Nat × Nat × Nat × Nat) #[true, true, true, true, true, true, true, false, false, false] 3 (fun b f => #[Value.agg #[Value.int IntKind.u8 (r : Int), Value.int IntKind.u8 (c : Int), Value.slice A0 zs.length d0], Value.agg #[Value.int IntKind.u8 (r' : Int), Value.int IntKind.u8 (c' : Int), Value.slice A0' zs'.length d0'], Value.pointer (some { block := w.heap.size, off := 0 }), Value.pointer (some { block := w.heap.size + 1, off := 0 }), Value.bool false, Value.pointer (some { block := g5, off := 0 }), Value.pointer (some { block := g5 + 1, off := 0 }), Value.pointer (some { block := g5 + 1 + 1, off := 0 }), f 8, f 9, undef, undef, undef, undef, Value.bool true, Value.bool false, Value.tuple #[refV C A1 R c1, refV C' A2 C c2, refV C' A3 R c3], Value.agg #[Value.int IntKind.u8 (r : Int), Value.int IntKind.u8 (c : Int), Value.slice A0 zs.length d0], Value.agg #[Value.int IntKind.u8 (r' : Int), Value.int IntKind.u8 (c' : Int), Value.slice A0' zs'.length d0'], Value.tuple #[refV C A1 R c1, refV C' A2 C c2, refV C' A3 R c3], refV C A1 R c1, refV C' A2 C c2, refV C' A3 R c3, Value.agg #[Value.int IntKind.i64 (C' : Int), Value.slice A3 R c3], ptr b.1, Value.agg #[Value.int IntKind.i64 (C : Int), Value.slice A1 R c1], ptr b.2.1, Value.agg #[Value.int IntKind.i64 (C' : Int), Value.slice A2 C c2], ptr b.2.2.1, .agg #[ptr b.2.1, ptr b.2.2.1], undef, undef, undef, undef, undef, undef, undef, undef, undef, undef, undef, undef, undef, undef, undef, undef, undef, undef, undef, undef, undef, undef, undef, undef, undef, undef, undef, undef, undef, undef]) (fun b ds W => ds = [] ∧ Below w3.heap.size w3 W ∧ IsMat W b.1 C' (nsOf C' MW) ∧ IsMat W b.2.1 C (nsOf C MA) ∧ IsMat W b.2.2.1 C' (nsOf C' MB)) ?_ ?_
    · rintro ⟨q1, q2, q3, gR⟩ f ds W ⟨rfl, b, T1, T2, T3⟩
      try dsimp only at b T1 T2 T3 ⊢
      refine m_s1 7 (by kernel_rfl) rfl ?_
      go_wp2_with fail
      refine absN fun wn hB hb _ => ?_
      refine m_keep (b.trans (hb.mono b.size)) ?_
      exact H3_7 ⟨q1, q2, q3, _⟩ _ _ _ (by kernel_rfl) rfl ⟨rfl, b.trans (hb.mono b.size), T1.below hb, T2.below hb, T3.below hb, .mk' hB b.size⟩
    intro H3_
    refine m_join (β := Nat × Nat × Nat × Nat) #[true, true, true, true, true, false, false, true, false, false] 4 (fun b f => #[Value.agg #[Value.int IntKind.u8 (r : Int), Value.int IntKind.u8 (c : Int), Value.slice A0 zs.length d0], Value.agg #[Value.int IntKind.u8 (r' : Int), Value.int IntKind.u8 (c' : Int), Value.slice A0' zs'.length d0'], Value.pointer (some { block := w.heap.size, off := 0 }), Value.pointer (some { block := w.heap.size + 1, off := 0 }), Value.bool false, Value.pointer (some { block := g5, off := 0 }), Value.pointer (some { block := g5 + 1, off := 0 }), Value.pointer (some { block := g5 + 1 + 1, off := 0 }), f 8, ptr b.2.2.2, undef, undef, undef, undef, Value.bool true, Value.bool false, Value.tuple #[refV C A1 R c1, refV C' A2 C c2, refV C' A3 R c3], Value.agg #[Value.int IntKind.u8 (r : Int), Value.int IntKind.u8 (c : Int), Value.slice A0 zs.length d0], Value.agg #[Value.int IntKind.u8 (r' : Int), Value.int IntKind.u8 (c' : Int), Value.slice A0' zs'.length d0'], Value.tuple #[refV C A1 R c1, refV C' A2 C c2, refV C' A3 R c3], refV C A1 R c1, refV C' A2 C c2, refV C' A3 R c3, Value.agg #[Value.int IntKind.i64 (C' : Int), Value.slice A3 R c3], ptr b.1, Value.agg #[Value.int IntKind.i64 (C : Int), Value.slice A1 R c1], ptr b.2.1, Value.agg #[Value.int IntKind.i64 (C' : Int), Value.slice A2 C c2], f 28, f 29, undef, undef, undef, undef, undef, undef, undef, undef, undef, undef, undef, undef, undef, undef, undef, undef, undef, undef, undef, undef, undef, undef, undef, undef, undef, undef, undef, undef, undef, undef]) (fun b ds W => ds = [] ∧ Below w3.heap.size w3 W ∧ IsMat W b.1 C' (nsOf C' MW) ∧ IsMat W b.2.1 C (nsOf C MA) ∧ Bo2 w3 W b.2.2.2) ?_ ?_
    · rintro ⟨q1, q2, q3, gR⟩ f ds W ⟨rfl, b, T1, T2, X9⟩
      try dsimp only at b T1 T2 X9 ⊢
      refine m_s1 5 (by kernel_rfl) rfl ?_
      go_wp2_with fail
      refine (HM2.out _ b).mono ?_
      rintro e wn ⟨q3, rfl, T3, -, hb⟩
      have b := b.trans (hb.mono b.size)
      go_wp2_with fail
      refine m_keep b ?_
      (refine m_q 6 (v := ?_) (by kernel_rfl) rfl rfl (fun W hW => ?_) ?_; rotate_left; (go_simp; first | done | with_reducible rfl); simp only [Act.put, List.setIfInBounds_toArray, List.set_cons_zero, List.set_cons_succ])
      exact H3_7 ⟨q1, q2, q3, gR⟩ _ _ _ (by kernel_rfl) rfl ⟨rfl, b, T1.below hb, T2.below hb, T3, X9.below hb⟩
    intro H2_7
    refine m_join (β := Nat × Nat × Nat × Nat) #[true, true, true, true, true, false, false, false, false, false] 5 (fun b f => #[Value.agg #[Value.int IntKind.u8 (r : Int), Value.int IntKind.u8 (c : Int), Value.slice A0 zs.length d0], Value.agg #[Value.int IntKind.u8 (r' : Int), Value.int IntKind.u8 (c' : Int), Value.slice A0' zs'.length d0'], Value.pointer (some { block := w.heap.size, off := 0 }), Value.pointer (some { block := w.heap.size + 1, off := 0 }), Value.bool false, Value.pointer (some { block := g5, off := 0 }), Value.pointer (some { block := g5 + 1, off := 0 }), Value.pointer (some { block := g5 + 1 + 1, off := 0 }), f 8, f 9, undef, undef, undef, undef, Value.bool true, Value.bool false, Value.tuple #[refV C A1 R c1, refV C' A2 C c2, refV C' A3 R c3], Value.agg #[Value.int IntKind.u8 (r : Int), Value.int IntKind.u8 (c : Int), Value.slice A0 zs.length d0], Value.agg #[Value.int IntKind.u8 (r' : Int), Value.int IntKind.u8 (c' : Int), Value.slice A0' zs'.length d0'], Value.tuple #[refV C A1 R c1, refV C' A2 C c2, refV C' A3 R c3], refV C A1 R c1, refV C' A2 C c2, refV C' A3 R c3, Value.agg #[Value.int IntKind.i64 (C' : Int), Value.slice A3 R c3], ptr b.1, Value.agg #[Value.int IntKind.i64 (C : Int), Value.slice A1 R c1], ptr b.2.1, Value.agg #[Value.int IntKind.i64 (C' : Int), Value.slice A2 C c2], f 28, f 29, undef, undef, undef, undef, undef, undef, undef, undef, undef, undef, undef, undef, undef, undef, undef, undef, undef, undef, undef, undef, undef, undef, undef, undef, undef, undef, undef, undef, undef, undef]) (fun b ds W => ds = [] ∧ Below w3.heap.size w3 W ∧ IsMat W b.1 C' (nsOf C' MW) ∧ IsMat W b.2.1 C (nsOf C MA)) ?_ ?_
    · rintro ⟨q1, q2, q3, gR⟩ f ds W ⟨rfl, b, T1, T2⟩
      try dsimp only at b T1 T2 ⊢
      refine m_s2 5 7 (by kernel_rfl) rfl rfl ?_ ?_
      · go_wp2_with fail
        refine (HM2.out _ b).mono ?_
        rintro e wn ⟨q3, rfl, T3, -, hb⟩
        have b := b.trans (hb.mono b.size)
        go_wp2_with fail
        refine m_keep b ?_
        (refine m_q 6 (v := ?_) (by kernel_rfl) rfl rfl (fun W hW => ?_) ?_; rotate_left; (go_simp; first | done | with_reducible rfl); simp only [Act.put, List.setIfInBounds_toArray, List.set_cons_zero, List.set_cons_succ])
        exact H3_ ⟨q1, q2, q3, 0⟩ _ _ _ (by kernel_rfl) rfl ⟨rfl, b, T1.below hb, T2.below hb, T3⟩
      · go_wp2_with fail
        refine absN fun wn hB hb _ => ?_
        refine m_keep (b.trans (hb.mono b.size)) ?_
        exact H2_7 ⟨q1, q2, 0, _⟩ _ _ _ (by kernel_rfl) rfl ⟨rfl, b.trans (hb.mono b.size), T1.below hb, T2.below hb, .mk' hB b.size⟩
    intro H2_
    refine m_join (β := Nat × Nat × Nat × Nat) #[true, true, true, false, true, false, false, true, false, false] 5 (fun b f => #[Value.agg #[Value.int IntKind.u8 (r : Int), Value.int IntKind.u8 (c : Int), Value.slice A0 zs.length d0], Value.agg #[Value.int IntKind.u8 (r' : Int), Value.int IntKind.u8 (c' : Int), Value.slice A0' zs'.length d0'], Value.pointer (some { block := w.heap.size, off := 0 }), Value.pointer (some { block := w.heap.size + 1, off := 0 }), Value.bool false, Value.pointer (some { block := g5, off := 0 }), Value.pointer (some { block := g5 + 1, off := 0 }), Value.pointer (some { block := g5 + 1 + 1, off := 0 }), f 8, ptr b.2.2.2, undef, undef, undef, undef, Value.bool true, Value.bool false, Value.tuple #[refV C A1 R c1, refV C' A2 C c2, refV C' A3 R c3], Value.agg #[Value.int IntKind.u8 (r : Int), Value.int IntKind.u8 (c : Int), Value.slice A0 zs.length d0], Value.agg #[Value.int IntKind.u8 (r' : Int), Value.int IntKind.u8 (c' : Int), Value.slice A0' zs'.length d0'], Value.tuple #[refV C A1 R c1, refV C' A2 C c2, refV C' A3 R c3], refV C A1 R c1, refV C' A2 C c2, refV C' A3 R c3, Value.agg #[Value.int IntKind.i64 (C' : Int), Value.slice A3 R c3], ptr b.1, Value.agg #[Value.int IntKind.i64 (C : Int), Value.slice A1 R c1], f 26, Value.agg #[Value.int IntKind.i64 (C' : Int), Value.slice A2 C c2], f 28, f 29, undef, undef, undef, undef, undef, undef, undef, undef, undef, undef, undef, undef, undef, undef, undef, undef, undef, undef, undef, undef, undef, undef, undef, undef, undef, undef, undef, undef, undef, undef]) (fun b ds W => ds = [] ∧ Below w3.heap.size w3 W ∧ IsMat W b.1 C' (nsOf C' MW) ∧ Bo2 w3 W b.2.2.2) ?_ ?_
    · rintro ⟨q1, q2, q3, gR⟩ f ds W ⟨rfl, b, T1, X9⟩
      try dsimp only at b T1 X9 ⊢
      refine m_s1 3 (by kernel_rfl) rfl ?_
      go_wp2_with fail
      refine (HM1.out _ b).mono ?_
      rintro e wn ⟨q2, rfl, T2, -, hb⟩
      have b := b.trans (hb.mono b.size)
      go_wp2_with fail
      refine m_keep b ?_
      exact H2_7 ⟨q1, q2, 0, gR⟩ _ _ _ (by kernel_rfl) rfl ⟨rfl, b, T1.below hb, T2, X9.below hb⟩
    intro H1_7
    refine m_join (β := Nat × Nat × Nat × Nat) #[true, true, true, false, true, false, false, false, false, false] 6 (fun b f => #[Value.agg #[Value.int IntKind.u8 (r : Int), Value.int IntKind.u8 (c : Int), Value.slice A0 zs.length d0], Value.agg #[Value.int IntKind.u8 (r' : Int), Value.int IntKind.u8 (c' : Int), Value.slice A0' zs'.length d0'], Value.pointer (some { block := w.heap.size, off := 0 }), Value.pointer (some { block := w.heap.size + 1, off := 0 }), Value.bool false, Value.pointer (some { block := g5, off := 0 }), Value.pointer (some { block := g5 + 1, off := 0 }), Value.pointer (some { block := g5 + 1 + 1, off := 0 }), f 8, f 9, undef, undef, undef, undef, Value.bool true, Value.bool false, Value.tuple #[refV C A1 R c1, refV C' A2 C c2, refV C' A3 R c3], Value.agg #[Value.int IntKind.u8 (r : Int), Value.int IntKind.u8 (c : Int), Value.slice A0 zs.length d0], Value.agg #[Value.int IntKind.u8 (r' : Int), Value.int IntKind.u8 (c' : Int), Value.slice A0' zs'.length d0'], Value.tuple #[refV C A1 R c1, refV C' A2 C c2, refV C' A3 R c3], refV C A1 R c1, refV C' A2 C c2, refV C' A3 R c3, Value.agg #[Value.int IntKind.i64 (C' : Int), Value.slice A3 R c3], ptr b.1, Value.agg #[Value.int IntKind.i64 (C : Int), Value.slice A1 R c1], f 26, Value.agg #[Value.int IntKind.i64 (C' : Int), Value.slice A2 C c2], f 28, f 29, undef, undef, undef, undef, undef, undef, undef, undef, undef, undef, undef, undef, undef, undef, undef, undef, undef, undef, undef, undef, undef, undef, undef, undef, undef, undef, undef, undef, undef, undef]) (fun b ds W => ds = [] ∧ Below w3.heap.size w3 W ∧ IsMat W b.1 C' (nsOf C' MW)) ?_ ?_
    · rintro ⟨q1, q2, q3, gR⟩ f ds W ⟨rfl, b, T1⟩
      try dsimp only at b T1 ⊢
      refine m_s2 3 7 (by kernel_rfl) rfl rfl ?_ ?_
      · go_wp2_with fail
        refine (HM1.out _ b).mono ?_
        rintro e wn ⟨q2, rfl, T2, -, hb⟩
        have b := b.trans (hb.mono b.size)
        go_wp2_with fail
        refine m_keep b ?_
        exact H2_ ⟨q1, q2, 0, 0⟩ _ _ _ (by kernel_rfl) rfl ⟨rfl, b, T1.below hb, T2⟩
      · go_wp2_with fail
        refine absN fun wn hB hb _ => ?_
        refine m_keep (b.trans (hb.mono b.size)) ?_
        exact H1_7 ⟨q1, 0, 0, _⟩ _ _ _ (by kernel_rfl) rfl ⟨rfl, b.trans (hb.mono b.size), T1.below hb, .mk' hB b.size⟩
    intro H1_
    refine m_join (β := Nat × Nat × Nat × Nat) #[true, false, true, false, true, false, false, true, false, false] 6 (fun b f => #[Value.agg #[Value.int IntKind.u8 (r : Int), Value.int IntKind.u8 (c : Int), Value.slice A0 zs.length d0], Value.agg #[Value.int IntKind.u8 (r' : Int), Value.int IntKind.u8 (c' : Int), Value.slice A0' zs'.length d0'], Value.pointer (some { block := w.heap.size, off := 0 }), Value.pointer (some { block := w.heap.size + 1, off := 0 }), Value.bool false, Value.pointer (some { block := g5, off := 0 }), Value.pointer (some { block := g5 + 1, off := 0 }), Value.pointer (some { block := g5 + 1 + 1, off := 0 }), f 8, ptr b.2.2.2, undef, undef, undef, undef, Value.bool true, Value.bool false, Value.tuple #[refV C A1 R c1, refV C' A2 C c2, refV C' A3 R c3], Value.agg #[Value.int IntKind.u8 (r : Int), Value.int IntKind.u8 (c : Int), Value.slice A0 zs.length d0], Value.agg #[Value.int IntKind.u8 (r' : Int), Value.int IntKind.u8 (c' : Int), Value.slice A0' zs'.length d0'], Value.tuple #[refV C A1 R c1, refV C' A2 C c2, refV C' A3 R c3], refV C A1 R c1, refV C' A2 C c2, refV C' A3 R c3, Value.agg #[Value.int IntKind.i64 (C' : Int), Value.slice A3 R c3], f 24, Value.agg #[Value.int IntKind.i64 (C : Int), Value.slice A1 R c1], f 26, Value.agg #[Value.int IntKind.i64 (C' : Int), Value.slice A2 C c2], f 28, f 29, undef, undef, undef, undef, undef, undef, undef, undef, undef, undef, undef, undef, undef, undef, undef, undef, undef, undef, undef, undef, undef, undef, undef, undef, undef, undef, undef, undef, undef, undef]) (fun b ds W => ds = [] ∧ Below w3.heap.size w3 W ∧ Bo2 w3 W b.2.2.2) ?_ ?_
    · rintro ⟨q1, q2, q3, gR⟩ f ds W ⟨rfl, b, X9⟩
      try dsimp only at b X9 ⊢
      refine m_s1 1 (by kernel_rfl) rfl ?_
      go_wp2_with fail
      refine (HM3.out _ b).mono ?_
      rintro e wn ⟨q1, rfl, T1, -, hb⟩
      have b := b.trans (hb.mono b.size)
      go_wp2_with fail
      refine m_keep b ?_
      exact H1_7 ⟨q1, 0, 0, gR⟩ _ _ _ (by kernel_rfl) rfl ⟨rfl, b, T1, X9.below hb⟩
    intro H0_7
    refine m_s2 1 7 (by kernel_rfl) rfl rfl ?_ ?_
    · go_wp2_with fail
      refine (HM3.out _ b).mono ?_
      rintro e wn ⟨q1, rfl, T1, -, hb⟩
      have b := b.trans (hb.mono b.size)
      go_wp2_with fail
      refine m_keep b ?_
      exact H1_ ⟨q1, 0, 0, 0⟩ _ _ _ (by kernel_rfl) rfl ⟨rfl, b, T1⟩
    · go_wp2_with fail
      refine absN fun wn hB hb _ => ?_
      refine m_keep (b.trans (hb.mono b.size)) ?_
      exact H0_7 ⟨0, 0, 0, _⟩ _ _ _ (by kernel_rfl) rfl ⟨rfl, b.trans (hb.mono b.size), .mk' hB b.size⟩
  case rest =>
    obtain ⟨q1, q2, q3, gR, hsm, hsr, hBR, hm1, hm2, hm3, hb⟩ := hcut
    subst hsm; subst hsr
    have b4 := b3.trans (hb.mono b3.size)
    have hT4 := hT.below b4
    have k5 := h5.below hb h5.lt
    have k6 := h6.below hb h6.lt
    have k7 := h7.below hb h7.lt
    replace hy1 := hy1.below hb
    replace hy2 := hy2.below hb
    replace hy3 := hy3.below hb
    clear h5 h6 h7 hb b3 HM1 HM2 HM3
    have hR5 : R ≤ 5 := by omega
    have hC5 : C ≤ 5 := by omega
    have hC5' : C' ≤ 5 := by omega
    have hvp := valid_prod (C := C) (C' := C') (R := R) (MA := MA) (MB := MB) (MW := MW) (by omega) (by omega) HBL.out HAL.out HMW.out
    have hin2 := rowsIn_nsOf C MA (by omega)
    have hin3 := rowsIn_nsOf C' MB (by omega)
    obtain ⟨hrl1, hrl2⟩ := role_matU (K := C) (C := C') (R := R) (A := MA) (B := MB) (by omega) (by omega) HAL.out (by omega) HBL.out HAR.out HBR.out
    have hlA : (nsOf C MA).length = R := by rw [show (nsOf C MA).length = MA.length from nsTo_len ..]; exact HAL.out
    have hlB : (nsOf C' MB).length = C := by rw [show (nsOf C' MB).length = MB.length from nsTo_len ..]; exact HBL.out
    have hlW : (nsOf C' MW).length = R := by rw [show (nsOf C' MW).length = MW.length from nsTo_len ..]; exact HWL.out
    obtain ⟨NA, hNA⟩ : ∃ N, N = nsOf C MA := ⟨_, rfl⟩
    obtain ⟨NB, hNB⟩ : ∃ N, N = nsOf C' MB := ⟨_, rfl⟩
    obtain ⟨NW, hNW⟩ : ∃ N, N = nsOf C' MW := ⟨_, rfl⟩
    rw [← hNA] at hvp hin2 hrl1 hrl2 hlA hm2
    rw [← hNB] at hvp hin3 hrl1 hrl2 hlB hm3
    rw [← hNW] at hvp hlW hm1
    have hwf := roleQ_wf (R := R) (C := C') (D := C) (Us := NA) (Ps := NB) hlA (by omega) hin3
    have hvr := valid_role (C := C') (Ns := NW) (D := C) (Us := NA) (Ps := NB) (by omega) hin2 hvp (by omega)
    rw [hlB] at hwf hvr
    have hLl := roleQ_len C NA NB C
    obtain ⟨L0, hL0⟩ : ∃ L, L = roleQ C NA NB C := ⟨_, rfl⟩
    rw [← hL0] at hrl1 hrl2 hwf hvr hLl
    obtain ⟨K, hK⟩ : ∃ K, K = simQ (validQ C' NW) L0 := ⟨_, rfl⟩
    have hKl : K.length ≤ 5 := by rw [hK]; exact Nat.le_trans (simQ_len _) (by omega)
    have hKv : validQ C' NW K = true := by rw [hK]; exact ok_simQ _ hvr
    have hsi := simplify_any q1 q2 q3 C' C NW NA NB K wc hm1 hm2 hm3 hin2 hin3 hT4 (by omega) (by omega) (by omega) (by omega) hvp (by rw [hlB, ← hL0]; exact hK)
    rw [hlW] at hsi
    have HS := hideC hsi
    have HKV := Lib.hid hKv; have HK := Lib.hid hK; have HLL := Lib.hid hLl; have HNW := Lib.hid hNW; have HLW := Lib.hid hlW
    have HSR := Lib.hid (fun V (e1 : YRef V C' A3 c3 MW) (e2 : YRef V C A1 c1 MA) (e3 : YRef V C' A2 c2 MB) => by
      have q := simplify48_any C' A3 A1 A2 c3 c1 c2 MW L0 K V e1.ref (by rw [HLL.out, HWL.out, hrl1]; exact e2) (by rw [hrl2]; exact e3) (by rw [HWL.out]; exact hwf) (by rw [← HNW.out]; exact HK.out)
      rwa [HLL.out, HWL.out] at q)
    clear hsi hKv hK hLl hNA hNB hNW hrl1 hrl2 hwf hvr hvp hin2 hin3 hlA hlB hlW hm2 hm3 hL0
    have r0 := hBR.cell 0
    have r1 := hBR.cell 1
    go_wp2_with fail
    with_reducible refine HS.out.mono ?_
    rintro e w5 ⟨u5, p5, rfl, hu5, hp5, hb5⟩
    have b5 := b4.trans (hb5.mono b4.size)
    clear HS r0 r1 hBR
    go_upto_region 6 with fail
    refine abs1 fun w6 h10 hb6 hz => ?_
    clear hz
    obtain ⟨g10, hg10⟩ : ∃ x, x = w5.heap.size := ⟨_, rfl⟩
    rw [← hg10] at h10 ⊢
    clear hg10
    have hb56 := hb5.trans (hb6.mono hb5.size)
    have b6 := b5.trans (hb6.mono b5.size)
    replace k5 := k5.below hb56 k5.lt
    replace k6 := k6.below hb56 k6.lt
    replace k7 := k7.below hb56 k7.lt
    have HR := hideC (HSR.out w6 (hy3.below hb56) (hy1.below hb56) (hy2.below hb56))
    replace hm1 := hm1.below hb56
    replace hu5 := hu5.below hb6
    replace hp5 := hp5.below hb6
    have x0 := k5.cell 0
    have x1 := k5.cell 1
    have y0 := k6.cell 0
    have y1 := k6.cell 1
    have z0 := k7.cell 0
    have z1 := k7.cell 1
    clear hb5 hb6 hb56 b4 b5 HSR hy1 hy2 hy3
    go_wp2_with fail
    with_reducible refine HR.out.mono ?_
    rintro e w7 ⟨B1, d1, B2, d2, rfl, hz1, hz2, hb7⟩
    have b7 := b6.trans (hb7.mono b6.size)
    clear HR x0 x1 y0 y1 z0 z1 k5 k6 k7
    go_upto_region 7 with fail
    refine abs2 fun w8 h12 h13 hb8 hz => ?_
    clear hz
    obtain ⟨g12, hg12⟩ : ∃ x, x = w7.heap.size := ⟨_, rfl⟩
    rw [← hg12] at h12 h13 ⊢
    clear hg12
    have hb78 := hb7.trans (hb8.mono hb7.size)
    have b8 := b7.trans (hb8.mono b7.size)
    have h108 := h10.below hb78 h10.lt
    replace hm1 := hm1.below hb78
    replace hu5 := hu5.below hb78
    replace hp5 := hp5.below hb78
    have hy1 := hz1.below hb8
    have hy2 := hz2.below hb8
    have s1 := users_sameQ (R := R) (L := K) (by omega)
    have s2 := perms_sameQ (C := C') (L := K)
    have l1 := matU_len R K
    have l2 := matP_len C' K
    have l3 : (mtrans R (K.map (·.1)) R).length ≤ 256 := by rw [mtrans_len]; omega
    have l4 : (K.map (·.2)).length ≤ 256 := by rw [List.length_map]; omega
    obtain ⟨Us, hUs⟩ : ∃ U, U = mtrans R (K.map (·.1)) R := ⟨_, rfl⟩
    obtain ⟨Ps, hPs⟩ : ∃ U, U = K.map (·.2) := ⟨_, rfl⟩
    obtain ⟨M1, hM1⟩ : ∃ U, U = matU R K := ⟨_, rfl⟩
    obtain ⟨M2, hM2⟩ : ∃ U, U = matP C' K := ⟨_, rfl⟩
    rw [← hUs] at s1 l3 hu5
    rw [← hPs] at s2 l4 hp5
    rw [← hM1] at s1 l1 hy1
    rw [← hM2] at s2 l2 hy2
    have HI := hideC (is48q u5 p5 K.length C' R K.length Us Ps B1 B2 d1 d2 M1 M2 w8 hu5.mat hp5.mat hy1.ref hy2.ref l1 l2 (by omega) (by omega) l3 l4 s1 s2)
    have hin5 : rowsIn K.length Us := by rw [hUs]; exact users_rowsQ (by omega)
    have HUS := Lib.hid hUs; have HPS := Lib.hid hPs
    clear hUs hPs hM1 hM2 s1 s2 l1 l2 l3 l4
    have a0 := h108.cell 0
    have a1 := h108.cell 1
    have e0 := h12.cell 0
    have e1 := h12.cell 1
    have f0 := h13.cell 0
    have f1 := h13.cell 1
    clear hb7 hb8 hb78 b6 b7 h10 hz1 hz2 hy1 hy2
    go_wp2_with fail
    with_reducible refine HI.out.mono ?_
    rintro e w9 ⟨rfl, hb9⟩
    have b9 := b8.trans (hb9.mono b8.size)
    have h109 := h108.below hb9 h108.lt
    have hva := valid_any q1 u5 p5 C' K.length C' NW Us Ps w9 (hm1.below hb9) (hu5.below hb9).mat (hp5.below hb9).mat hin5 (hT.below b9)
    have hq := HKV.out
    unfold validQ at hq
    rw [HLW.out, ← HUS.out, ← HPS.out] at hq
    rw [hq] at hva
    have HVA := hideC hva
    have a0 := h109.cell 0
    have a1 := h109.cell 1
    clear hva hq HI h108
    go_wp2_with fail
    with_reducible refine HVA.out.mono ?_
    rintro e w10 ⟨rfl, hb10⟩
    go_wp2_with fail
    go_ret
    exact ⟨rfl, b9.trans (hb10.mono b9.size)⟩
end Mix2
end Go.Proofs.YtfbkcdhmggjbaaaGreatDoor
