import Derived.Test.YtfbkcdhmggjbaaaGreatDoorCxE
import Derived.Deep.DeepCutAuto
import Derived.Deep.CutBlock
/-
  The law CoverNeeds.
-/
namespace Go.Proofs.YtfbkcdhmggjbaaaGreatDoor
open Go.RowKit
namespace Mix2
set_option maxRecDepth 100000 in
set_option maxHeartbeats 40000000 in
theorem needs_walk (v v' : Value) (bg : Bool) (R C R' C' : Nat) (zs zs' : List Int) (w : World) (hT : Tab w) (h : IsRaw w v R C zs) (h' : IsRaw w v' R' C' zs') :
    Calls Tryz.prog 4 #[v, v', .bool bg] w fun e w' => e = .returned (.bool true) ∧ Below w.heap.size w w' := by
  have hbd := h.bd
  have hbd' := h'.bd
  obtain ⟨r, c, A0, d0, hv, _⟩ := id h
  obtain ⟨r', c', A0', d0', hv', _⟩ := id h'
  subst hv; subst hv'
  have HIN := hideC h; clear h
  have HIN' := hideC h'; clear h'
  go_enter Tryz.func4, Tryz.ntmps4
  go_wp2_with fail
  refine absC2 fun W0 hX hX' hbel0 hz => ?_
  clear hz
  refine (awake_any48 W0 (hT.below hbel0)).mono ?_
  rintro e w1 ⟨rfl, hb1⟩
  have b1 := hbel0.trans (hb1.mono hbel0.size)
  replace hX := hX.below hb1 hX.lt
  replace hX' := hX'.below hb1 hX'.lt
  have x0 := hX.cell 0
  have x1 := hX.cell 1
  have x2 := hX.cell 2
  have y0 := hX'.cell 0
  have y1 := hX'.cell 1
  have y2 := hX'.cell 2
  have HP := hideC (product48_any _ _ R C R' C' zs zs' w1 (HIN.out.below b1) (HIN'.out.below b1))
  go_wp2_with fail
  with_reducible refine HP.out.mono ?_
  rintro e w2 ⟨A1, c1, A2, c2, A3, c3, rfl, hy1, hy2, hy3, hb2⟩
  have b2 := b1.trans (hb2.mono b1.size)
  clear HP HIN HIN' hX hX' x0 x1 x2 y0 y1 y2 hbel0 hb1 hb2 b1
  obtain ⟨MA, hMA⟩ : ∃ M, M = rawM R C zs := ⟨_, rfl⟩
  obtain ⟨MB, hMB⟩ : ∃ M, M = rawM C C' zs' := ⟨_, rfl⟩
  rw [← hMA, ← hMB] at hy3
  rw [← hMA] at hy1
  rw [← hMB] at hy2
  have hAl : MA.length = R := by rw [hMA]; exact mat_len ..
  have hBl : MB.length = C := by rw [hMB]; exact mat_len ..
  have hAr : ∀ (i : Nat) r, MA[i]? = some r → r.length = C := fun i r hr => mat_rows (hMA ▸ hr)
  have hBr : ∀ (i : Nat) r, MB[i]? = some r → r.length = C' := fun i r hr => mat_rows (hMB ▸ hr)
  obtain ⟨MW, hMW⟩ : ∃ M, M = mat R C' (prodF MA MB C) := ⟨_, rfl⟩
  rw [← hMW] at hy3
  have hWl : MW.length = R := by rw [hMW]; exact mat_len ..
  have HMW := Lib.hid hMW; have HAL := Lib.hid hAl; have HBL := Lib.hid hBl; have HWL := Lib.hid hWl; have HAR := Lib.hid hAr; have HBR := Lib.hid hBr
  clear hMA hMB hMW hAr hBr
  go_upto_region 4 with fail
  refine abs3 fun w3 h5 h6 h7 hb3 hz => ?_
  clear hz
  obtain ⟨g5, hg5⟩ : ∃ x, x = w2.heap.size := ⟨_, rfl⟩
  rw [← hg5] at h5 h6 h7 ⊢
  clear hg5
  have b3 := b2.trans (hb3.mono b2.size)
  replace hy1 := hy1.below hb3
  replace hy2 := hy2.below hb3
  replace hy3 := hy3.below hb3
  clear hb3 b2
  have hml1 := fun W (hb : Below w3.heap.size w3 W) => matrixl_any C A1 c1 MA W (hy1.below hb).ref (by omega) (by omega)
  have hml2 := fun W (hb : Below w3.heap.size w3 W) => matrixl_any C' A2 c2 MB W (hy2.below hb).ref (by omega) (by omega)
  have hml3 := fun W (hb : Below w3.heap.size w3 W) => matrixl_any C' A3 c3 MW W (hy3.below hb).ref (by omega) (by omega)
  rw [hAl] at hml1
  rw [hBl] at hml2
  rw [hWl] at hml3
  have HM1 := Lib.hid hml1; have HM2 := Lib.hid hml2; have HM3 := Lib.hid hml3
  clear hml1 hml2 hml3 hAl hBl hWl
  go_upto_region 5 with fail
  go_cut [10, 11] (fun sm sr wx => ∃ (q1 q2 q3 gR : Nat), sm = ptr q1 ∧ sr = ptr gR ∧ Blk wx gR 34 #[ptr q2, ptr q3] ∧ IsMat wx q1 C' (nsOf C' MW) ∧ IsMat wx q2 C (nsOf C MA) ∧ IsMat wx q3 C' (nsOf C' MB) ∧ Below w3.heap.size w3 wx ∧ w3.heap.size ≤ gR)
  case first =>
    have x0 := h5.cell 0
    have x1 := h5.cell 1
    have y0 := h6.cell 0
    have y1 := h6.cell 1
    have z0 := h7.cell 0
    have z1 := h7.cell 1
    refine wp_mix (fun V => Below w3.heap.size w3 V) 10 (by kernel_rfl) (by kernel_rfl) (Below.refl _ _).drew ?_
    have b := (Below.refl w3.heap.size w3).drew
    obtain ⟨W, hWW⟩ : ∃ V, V = w3.drew := ⟨_, rfl⟩
    rw [← hWW] at b ⊢
    clear hWW
    (refine m_q 0 (v := ?_) (by kernel_rfl) rfl rfl (fun W hW => ?_) ?_; rotate_left; (have a0 := onB hW x0; have a1 := onB hW x1; have a2 := onB hW y0; have a3 := onB hW y1; have a4 := onB hW z0; have a5 := onB hW z1; go_simp; first | done | with_reducible rfl); simp only [Act.put, List.setIfInBounds_toArray, List.set_cons_zero, List.set_cons_succ]); (refine m_q 2 (v := ?_) (by kernel_rfl) rfl rfl (fun W hW => ?_) ?_; rotate_left; (have a0 := onB hW x0; have a1 := onB hW x1; have a2 := onB hW y0; have a3 := onB hW y1; have a4 := onB hW z0; have a5 := onB hW z1; go_simp; first | done | with_reducible rfl); simp only [Act.put, List.setIfInBounds_toArray, List.set_cons_zero, List.set_cons_succ]); (refine m_q 4 (v := ?_) (by kernel_rfl) rfl rfl (fun W hW => ?_) ?_; rotate_left; (have a0 := onB hW x0; have a1 := onB hW x1; have a2 := onB hW y0; have a3 := onB hW y1; have a4 := onB hW z0; have a5 := onB hW z1; go_simp; first | done | with_reducible rfl); simp only [Act.put, List.setIfInBounds_toArray, List.set_cons_zero, List.set_cons_succ])
    clear x0 x1 y0 y1 z0 z1
    refine m_join (β := Nat × Nat × Nat × Nat) #[true, true, true, true, true, true, true, true, false, false] 2 (fun b f => #[Value.agg #[Value.int IntKind.u8 (r : Int), Value.int IntKind.u8 (c : Int), Value.slice A0 zs.length d0], Value.agg #[Value.int IntKind.u8 (r' : Int), Value.int IntKind.u8 (c' : Int), Value.slice A0' zs'.length d0'], Value.bool bg, Value.pointer (some { block := w.heap.size, off := 0 }), Value.pointer (some { block := w.heap.size + 1, off := 0 }), undef, Value.bool false, Value.pointer (some { block := g5, off := 0 }), Value.pointer (some { block := g5 + 1, off := 0 }), Value.pointer (some { block := g5 + 1 + 1, off := 0 }), f 10, ptr b.2.2.2, undef, undef, undef, undef, undef, undef, undef, undef, undef, Value.bool true, Value.bool false, Value.tuple #[refV C A1 R c1, refV C' A2 C c2, refV C' A3 R c3], Value.agg #[Value.int IntKind.u8 (r : Int), Value.int IntKind.u8 (c : Int), Value.slice A0 zs.length d0], Value.agg #[Value.int IntKind.u8 (r' : Int), Value.int IntKind.u8 (c' : Int), Value.slice A0' zs'.length d0'], Value.tuple #[refV C A1 R c1, refV C' A2 C c2, refV C' A3 R c3], refV C A1 R c1, refV C' A2 C c2, refV C' A3 R c3, Value.agg #[Value.int IntKind.i64 (C' : Int), Value.slice A3 R c3], ptr b.1, Value.agg #[Value.int IntKind.i64 (C : Int), Value.slice A1 R c1], ptr b.2.1, Value.agg #[Value.int IntKind.i64 (C' : Int), Value.slice A2 C c2], ptr b.2.2.1, .agg #[ptr b.2.1, ptr b.2.2.1], undef, undef, undef, undef, undef, undef, undef, undef, undef, undef, undef, undef, undef, undef, undef, undef, undef, undef, undef, undef, undef, undef, undef, undef, undef, undef, undef, undef, undef, undef, undef, undef, undef, undef, undef, undef, undef, undef, undef, undef, undef, undef, undef, undef, undef, undef, undef, undef, undef, undef, undef, undef, undef, undef, undef, undef, undef, undef, undef, undef, undef, undef, undef, undef, undef, undef, undef, undef, undef, undef, undef, undef, undef, undef, undef, undef, undef, undef, undef, undef, undef, undef, undef, undef, undef]) (fun b ds W => ds = [] ∧ Below w3.heap.size w3 W ∧ IsMat W b.1 C' (nsOf C' MW) ∧ IsMat W b.2.1 C (nsOf C MA) ∧ IsMat W b.2.2.1 C' (nsOf C' MB) ∧ Bo2 w3 W b.2.2.2) ?_ ?_
    · rintro ⟨q1, q2, q3, gR⟩ f ds W ⟨rfl, b, T1, T2, T3, X9⟩
      try dsimp only at b T1 T2 T3 X9 ⊢
      have e0 := X9.1.cell 0; have e1 := X9.1.cell 1; have f0 := X9.1.frozen 0; have f1 := X9.1.frozen 1; have lg := X9.lt
      have t1 := IsMat.boxQ2 (p1 := q2) (p2 := q3) T1 X9.1 (by decide) (by decide)
      have t2 := IsMat.boxQ2 (p1 := q2) (p2 := q3) T2 X9.1 (by decide) (by decide)
      have t3 := IsMat.boxQ2 (p1 := q2) (p2 := q3) T3 X9.1 (by decide) (by decide)
      have bb := (b.setCell (p := ⟨gR, 0, none⟩) X9.2 (ptr q2)).setCell (p := ⟨gR, 1, none⟩) X9.2 (ptr q3)
      have xx := (X9.1.set_ 0 (ptr q2)).set_ 1 (ptr q3)
      have TT1 := Lib.hid t1; have TT2 := Lib.hid t2; have TT3 := Lib.hid t3; have BB := Lib.hid bb; have XX := Lib.hid xx
      have HLO := Lib.hid X9.2
      refine m_s1 8 (by kernel_rfl) rfl ?_
      go_wp2_with fail
      refine m_keep b ?_
      clear t1 t2 t3 bb xx T1 T2 T3 b X9
      refine m_s1 9 (by kernel_rfl) rfl ?_
      go_wp2_with fail
      refine m_keep BB.out ?_
      refine m_end (by kernel_rfl) ?_
      go_wp2_with fail
      go_meet
      exact ⟨q1, q2, q3, gR, rfl, rfl, XX.out, TT1.out, TT2.out, TT3.out, BB.out, HLO.out⟩
    intro H3_7
    refine m_join (β := Nat × Nat × Nat × Nat) #[true, true, true, true, true, true, true, false, false, false] 3 (fun b f => #[Value.agg #[Value.int IntKind.u8 (r : Int), Value.int IntKind.u8 (c : Int), Value.slice A0 zs.length d0], Value.agg #[Value.int IntKind.u8 (r' : Int), Value.int IntKind.u8 (c' : Int), Value.slice A0' zs'.length d0'], Value.bool bg, Value.pointer (some { block := w.heap.size, off := 0 }), Value.pointer (some { block := w.heap.size + 1, off := 0 }), undef, Value.bool false, Value.pointer (some { block := g5, off := 0 }), Value.pointer (some { block := g5 + 1, off := 0 }), Value.pointer (some { block := g5 + 1 + 1, off := 0 }), f 10, f 11, undef, undef, undef, undef, undef, undef, undef, undef, undef, Value.bool true, Value.bool false, Value.tuple #[refV C A1 R c1, refV C' A2 C c2, refV C' A3 R c3], Value.agg #[Value.int IntKind.u8 (r : Int), Value.int IntKind.u8 (c : Int), Value.slice A0 zs.length d0], Value.agg #[Value.int IntKind.u8 (r' : Int), Value.int IntKind.u8 (c' : Int), Value.slice A0' zs'.length d0'], Value.tuple #[refV C A1 R c1, refV C' A2 C c2, refV C' A3 R c3], refV C A1 R c1, refV C' A2 C c2, refV C' A3 R c3, Value.agg #[Value.int IntKind.i64 (C' : Int), Value.slice A3 R c3], ptr b.1, Value.agg #[Value.int IntKind.i64 (C : Int), Value.slice A1 R c1], ptr b.2.1, Value.agg #[Value.int IntKind.i64 (C' : Int), Value.slice A2 C c2], ptr b.2.2.1, .agg #[ptr b.2.1, ptr b.2.2.1], undef, undef, undef, undef, undef, undef, undef, undef, undef, undef, undef, undef, undef, undef, undef, undef, undef, undef, undef, undef, undef, undef, undef, undef, undef, undef, undef, undef, undef, undef, undef, undef, undef, undef, undef, undef, undef, undef, undef, undef, undef, undef, undef, undef, undef, undef, undef, undef, undef, undef, undef, undef, undef, undef, undef, undef, undef, undef, undef, undef, undef, undef, undef, undef, undef, undef, undef, undef, undef, undef, undef, undef, undef, undef, undef, undef, undef, undef, undef, undef, undef, undef, undef, undef, undef]) (fun b ds W => ds = [] ∧ Below w3.heap.size w3 W ∧ IsMat W b.1 C' (nsOf C' MW) ∧ IsMat W b.2.1 C (nsOf C MA) ∧ IsMat W b.2.2.1 C' (nsOf C' MB)) ?_ ?_
    · rintro ⟨q1, q2, q3, gR⟩ f ds W ⟨rfl, b, T1, T2, T3⟩
      try dsimp only at b T1 T2 T3 ⊢
      refine m_s1 7 (by kernel_rfl) rfl ?_
      go_wp2_with fail
      refine absN fun wn hB hb _ => ?_
      refine m_keep (b.trans (hb.mono b.size)) ?_
      exact H3_7 ⟨q1, q2, q3, _⟩ _ _ _ (by kernel_rfl) rfl ⟨rfl, b.trans (hb.mono b.size), T1.below hb, T2.below hb, T3.below hb, .mk' hB b.size⟩
    intro H3_
    refine m_join (β := Nat × Nat × Nat × Nat) #[true, true, true, true, true, false, false, true, false, false] 4 (fun b f => #[Value.agg #[Value.int IntKind.u8 (r : Int), Value.int IntKind.u8 (c : Int), Value.slice A0 zs.length d0], Value.agg #[Value.int IntKind.u8 (r' : Int), Value.int IntKind.u8 (c' : Int), Value.slice A0' zs'.length d0'], Value.bool bg, Value.pointer (some { block := w.heap.size, off := 0 }), Value.pointer (some { block := w.heap.size + 1, off := 0 }), undef, Value.bool false, Value.pointer (some { block := g5, off := 0 }), Value.pointer (some { block := g5 + 1, off := 0 }), Value.pointer (some { block := g5 + 1 + 1, off := 0 }), f 10, ptr b.2.2.2, undef, undef, undef, undef, undef, undef, undef, undef, undef, Value.bool true, Value.bool false, Value.tuple #[refV C A1 R c1, refV C' A2 C c2, refV C' A3 R c3], Value.agg #[Value.int IntKind.u8 (r : Int), Value.int IntKind.u8 (c : Int), Value.slice A0 zs.length d0], Value.agg #[Value.int IntKind.u8 (r' : Int), Value.int IntKind.u8 (c' : Int), Value.slice A0' zs'.length d0'], Value.tuple #[refV C A1 R c1, refV C' A2 C c2, refV C' A3 R c3], refV C A1 R c1, refV C' A2 C c2, refV C' A3 R c3, Value.agg #[Value.int IntKind.i64 (C' : Int), Value.slice A3 R c3], ptr b.1, Value.agg #[Value.int IntKind.i64 (C : Int), Value.slice A1 R c1], ptr b.2.1, Value.agg #[Value.int IntKind.i64 (C' : Int), Value.slice A2 C c2], f 35, f 36, undef, undef, undef, undef, undef, undef, undef, undef, undef, undef, undef, undef, undef, undef, undef, undef, undef, undef, undef, undef, undef, undef, undef, undef, undef, undef, undef, undef, undef, undef, undef, undef, undef, undef, undef, undef, undef, undef, undef, undef, undef, undef, undef, undef, undef, undef, undef, undef, undef, undef, undef, undef, undef, undef, undef, undef, undef, undef, undef, undef, undef, undef, undef, undef, undef, undef, undef, undef, undef, undef, undef, undef, undef, undef, undef, undef, undef, undef, undef, undef, undef, undef, undef, undef, undef]) (fun b ds W => ds = [] ∧ Below w3.heap.size w3 W ∧ IsMat W b.1 C' (nsOf C' MW) ∧ IsMat W b.2.1 C (nsOf C MA) ∧ Bo2 w3 W b.2.2.2) ?_ ?_
    · rintro ⟨q1, q2, q3, gR⟩ f ds W ⟨rfl, b, T1, T2, X9⟩
      try dsimp only at b T1 T2 X9 ⊢
      refine m_s1 5 (by kernel_rfl) rfl ?_
      go_wp2_with fail
      refine (HM2.out _ b).mono ?_
      rintro e wn ⟨q3, rfl, T3, -, hb⟩
      have b := b.trans (hb.mono b.size)
      go_wp2_with fail
      refine m_keep b ?_
      (refine m_q 6 (v := ?_) (by kernel_rfl) rfl rfl (fun W hW => ?_) ?_; rotate_left; (go_simp; first | done | with_reducible rfl); simp only [Act.put, List.setIfInBounds_toArray, List.set_cons_zero, List.set_cons_succ])
      exact H3_7 ⟨q1, q2, q3, gR⟩ _ _ _ (by kernel_rfl) rfl ⟨rfl, b, T1.below hb, T2.below hb, T3, X9.below hb⟩
    intro H2_7
    refine m_join (β := Nat × Nat × Nat × Nat) #[true, true, true, true, true, false, false, false, false, false] 5 (fun b f => #[Value.agg #[Value.int IntKind.u8 (r : Int), Value.int IntKind.u8 (c : Int), Value.slice A0 zs.length d0], Value.agg #[Value.int IntKind.u8 (r' : Int), Value.int IntKind.u8 (c' : Int), Value.slice A0' zs'.length d0'], Value.bool bg, Value.pointer (some { block := w.heap.size, off := 0 }), Value.pointer (some { block := w.heap.size + 1, off := 0 }), undef, Value.bool false, Value.pointer (some { block := g5, off := 0 }), Value.pointer (some { block := g5 + 1, off := 0 }), Value.pointer (some { block := g5 + 1 + 1, off := 0 }), f 10, f 11, undef, undef, undef, undef, undef, undef, undef, undef, undef, Value.bool true, Value.bool false, Value.tuple #[refV C A1 R c1, refV C' A2 C c2, refV C' A3 R c3], Value.agg #[Value.int IntKind.u8 (r : Int), Value.int IntKind.u8 (c : Int), Value.slice A0 zs.length d0], Value.agg #[Value.int IntKind.u8 (r' : Int), Value.int IntKind.u8 (c' : Int), Value.slice A0' zs'.length d0'], Value.tuple #[refV C A1 R c1, refV C' A2 C c2, refV C' A3 R c3], refV C A1 R c1, refV C' A2 C c2, refV C' A3 R c3, Value.agg #[Value.int IntKind.i64 (C' : Int), Value.slice A3 R c3], ptr b.1, Value.agg #[Value.int IntKind.i64 (C : Int), Value.slice A1 R c1], ptr b.2.1, Value.agg #[Value.int IntKind.i64 (C' : Int), Value.slice A2 C c2], f 35, f 36, undef, undef, undef, undef, undef, undef, undef, undef, undef, undef, undef, undef, undef, undef, undef, undef, undef, undef, undef, undef, undef, undef, undef, undef, undef, undef, undef, undef, undef, undef, undef, undef, undef, undef, undef, undef, undef, undef, undef, undef, undef, undef, undef, undef, undef, undef, undef, undef, undef, undef, undef, undef, undef, undef, undef, undef, undef, undef, undef, undef, undef, undef, undef, undef, undef, undef, undef, undef, undef, undef, undef, undef, undef, undef, undef, undef, undef, undef, undef, undef, undef, undef, undef, undef, undef]) (fun b ds W => ds = [] ∧ Below w3.heap.size w3 W ∧ IsMat W b.1 C' (nsOf C' MW) ∧ IsMat W b.2.1 C (nsOf C MA)) ?_ ?_
    · rintro ⟨q1, q2, q3, gR⟩ f ds W ⟨rfl, b, T1, T2⟩
      try dsimp only at b T1 T2 ⊢
      refine m_s2 5 7 (by kernel_rfl) rfl rfl ?_ ?_
      · go_wp2_with fail
        refine (HM2.out _ b).mono ?_
        rintro e wn ⟨q3, rfl, T3, -, hb⟩
        have b := b.trans (hb.mono b.size)
        go_wp2_with fail
        refine m_keep b ?_
        (refine m_q 6 (v := ?_) (by kernel_rfl) rfl rfl (fun W hW => ?_) ?_; rotate_left; (go_simp; first | done | with_reducible rfl); simp only [Act.put, List.setIfInBounds_toArray, List.set_cons_zero, List.set_cons_succ])
        exact H3_ ⟨q1, q2, q3, 0⟩ _ _ _ (by kernel_rfl) rfl ⟨rfl, b, T1.below hb, T2.below hb, T3⟩
      · go_wp2_with fail
        refine absN fun wn hB hb _ => ?_
        refine m_keep (b.trans (hb.mono b.size)) ?_
        exact H2_7 ⟨q1, q2, 0, _⟩ _ _ _ (by kernel_rfl) rfl ⟨rfl, b.trans (hb.mono b.size), T1.below hb, T2.below hb, .mk' hB b.size⟩
    intro H2_
    refine m_join (β := Nat × Nat × Nat × Nat) #[true, true, true, false, true, false, false, true, false, false] 5 (fun b f => #[Value.agg #[Value.int IntKind.u8 (r : Int), Value.int IntKind.u8 (c : Int), Value.slice A0 zs.length d0], Value.agg #[Value.int IntKind.u8 (r' : Int), Value.int IntKind.u8 (c' : Int), Value.slice A0' zs'.length d0'], Value.bool bg, Value.pointer (some { block := w.heap.size, off := 0 }), Value.pointer (some { block := w.heap.size + 1, off := 0 }), undef, Value.bool false, Value.pointer (some { block := g5, off := 0 }), Value.pointer (some { block := g5 + 1, off := 0 }), Value.pointer (some { block := g5 + 1 + 1, off := 0 }), f 10, ptr b.2.2.2, undef, undef, undef, undef, undef, undef, undef, undef, undef, Value.bool true, Value.bool false, Value.tuple #[refV C A1 R c1, refV C' A2 C c2, refV C' A3 R c3], Value.agg #[Value.int IntKind.u8 (r : Int), Value.int IntKind.u8 (c : Int), Value.slice A0 zs.length d0], Value.agg #[Value.int IntKind.u8 (r' : Int), Value.int IntKind.u8 (c' : Int), Value.slice A0' zs'.length d0'], Value.tuple #[refV C A1 R c1, refV C' A2 C c2, refV C' A3 R c3], refV C A1 R c1, refV C' A2 C c2, refV C' A3 R c3, Value.agg #[Value.int IntKind.i64 (C' : Int), Value.slice A3 R c3], ptr b.1, Value.agg #[Value.int IntKind.i64 (C : Int), Value.slice A1 R c1], f 33, Value.agg #[Value.int IntKind.i64 (C' : Int), Value.slice A2 C c2], f 35, f 36, undef, undef, undef, undef, undef, undef, undef, undef, undef, undef, undef, undef, undef, undef, undef, undef, undef, undef, undef, undef, undef, undef, undef, undef, undef, undef, undef, undef, undef, undef, undef, undef, undef, undef, undef, undef, undef, undef, undef, undef, undef, undef, undef, undef, undef, undef, undef, undef, undef, undef, undef, undef, undef, undef, undef, undef, undef, undef, undef, undef, undef, undef, undef, undef, undef, undef, undef, undef, undef, undef, undef, undef, undef, undef, undef, undef, undef, undef, undef, undef, undef, undef, undef, undef, undef]) (fun b ds W => ds = [] ∧ Below w3.heap.size w3 W ∧ IsMat W b.1 C' (nsOf C' MW) ∧ Bo2 w3 W b.2.2.2) ?_ ?_
    · rintro ⟨q1, q2, q3, gR⟩ f ds W ⟨rfl, b, T1, X9⟩
      try dsimp only at b T1 X9 ⊢
      refine m_s1 3 (by kernel_rfl) rfl ?_
      go_wp2_with fail
      refine (HM1.out _ b).mono ?_
      rintro e wn ⟨q2, rfl, T2, -, hb⟩
      have b := b.trans (hb.mono b.size)
      go_wp2_with fail
      refine m_keep b ?_
      exact H2_7 ⟨q1, q2, 0, gR⟩ _ _ _ (by kernel_rfl) rfl ⟨rfl, b, T1.below hb, T2, X9.below hb⟩
    intro H1_7
    refine m_join (β := Nat × Nat × Nat × Nat) #[true, true, true, false, true, false, false, false, false, false] 6 (fun b f => #[Value.agg #[Value.int IntKind.u8 (r : Int), Value.int IntKind.u8 (c : Int), Value.slice A0 zs.length d0], Value.agg #[Value.int IntKind.u8 (r' : Int), Value.int IntKind.u8 (c' : Int), Value.slice A0' zs'.length d0'], Value.bool bg, Value.pointer (some { block := w.heap.size, off := 0 }), Value.pointer (some { block := w.heap.size + 1, off := 0 }), undef, Value.bool false, Value.pointer (some { block := g5, off := 0 }), Value.pointer (some { block := g5 + 1, off := 0 }), Value.pointer (some { block := g5 + 1 + 1, off := 0 }), f 10, f 11, undef, undef, undef, undef, undef, undef, undef, undef, undef, Value.bool true, Value.bool false, Value.tuple #[refV C A1 R c1, refV C' A2 C c2, refV C' A3 R c3], Value.agg #[Value.int IntKind.u8 (r : Int), Value.int IntKind.u8 (c : Int), Value.slice A0 zs.length d0], Value.agg #[Value.int IntKind.u8 (r' : Int), Value.int IntKind.u8 (c' : Int), Value.slice A0' zs'.length d0'], Value.tuple #[refV C A1 R c1, refV C' A2 C c2, refV C' A3 R c3], refV C A1 R c1, refV C' A2 C c2, refV C' A3 R c3, Value.agg #[Value.int IntKind.i64 (C' : Int), Value.slice A3 R c3], ptr b.1, Value.agg #[Value.int IntKind.i64 (C : Int), Value.slice A1 R c1], f 33, Value.agg #[Value.int IntKind.i64 (C' : Int), Value.slice A2 C c2], f 35, f 36, undef, undef, undef, undef, undef, undef, undef, undef, undef, undef, undef, undef, undef, undef, undef, undef, undef, undef, undef, undef, undef, undef, undef, undef, undef, undef, undef, undef, undef, undef, undef, undef, undef, undef, undef, undef, undef, undef, undef, undef, undef, undef, undef, undef, undef, undef, undef, undef, undef, undef, undef, undef, undef, undef, undef, undef, undef, undef, undef, undef, undef, undef, undef, undef, undef, undef, undef, undef, undef, undef, undef, undef, undef, undef, undef, undef, undef, undef, undef, undef, undef, undef, undef, undef, undef]) (fun b ds W => ds = [] ∧ Below w3.heap.size w3 W ∧ IsMat W b.1 C' (nsOf C' MW)) ?_ ?_
    · rintro ⟨q1, q2, q3, gR⟩ f ds W ⟨rfl, b, T1⟩
      try dsimp only at b T1 ⊢
      refine m_s2 3 7 (by kernel_rfl) rfl rfl ?_ ?_
      · go_wp2_with fail
        refine (HM1.out _ b).mono ?_
        rintro e wn ⟨q2, rfl, T2, -, hb⟩
        have b := b.trans (hb.mono b.size)
        go_wp2_with fail
        refine m_keep b ?_
        exact H2_ ⟨q1, q2, 0, 0⟩ _ _ _ (by kernel_rfl) rfl ⟨rfl, b, T1.below hb, T2⟩
      · go_wp2_with fail
        refine absN fun wn hB hb _ => ?_
        refine m_keep (b.trans (hb.mono b.size)) ?_
        exact H1_7 ⟨q1, 0, 0, _⟩ _ _ _ (by kernel_rfl) rfl ⟨rfl, b.trans (hb.mono b.size), T1.below hb, .mk' hB b.size⟩
    intro H1_
    refine m_join (β := Nat × Nat × Nat × Nat) #[true, false, true, false, true, false, false, true, false, false] 6 (fun b f => #[Value.agg #[Value.int IntKind.u8 (r : Int), Value.int IntKind.u8 (c : Int), Value.slice A0 zs.length d0], Value.agg #[Value.int IntKind.u8 (r' : Int), Value.int IntKind.u8 (c' : Int), Value.slice A0' zs'.length d0'], Value.bool bg, Value.pointer (some { block := w.heap.size, off := 0 }), Value.pointer (some { block := w.heap.size + 1, off := 0 }), undef, Value.bool false, Value.pointer (some { block := g5, off := 0 }), Value.pointer (some { block := g5 + 1, off := 0 }), Value.pointer (some { block := g5 + 1 + 1, off := 0 }), f 10, ptr b.2.2.2, undef, undef, undef, undef, undef, undef, undef, undef, undef, Value.bool true, Value.bool false, Value.tuple #[refV C A1 R c1, refV C' A2 C c2, refV C' A3 R c3], Value.agg #[Value.int IntKind.u8 (r : Int), Value.int IntKind.u8 (c : Int), Value.slice A0 zs.length d0], Value.agg #[Value.int IntKind.u8 (r' : Int), Value.int IntKind.u8 (c' : Int), Value.slice A0' zs'.length d0'], Value.tuple #[refV C A1 R c1, refV C' A2 C c2, refV C' A3 R c3], refV C A1 R c1, refV C' A2 C c2, refV C' A3 R c3, Value.agg #[Value.int IntKind.i64 (C' : Int), Value.slice A3 R c3], f 31, Value.agg #[Value.int IntKind.i64 (C : Int), Value.slice A1 R c1], f 33, Value.agg #[Value.int IntKind.i64 (C' : Int), Value.slice A2 C c2], f 35, f 36, undef, undef, undef, undef, undef, undef, undef, undef, undef, undef, undef, undef, undef, undef, undef, undef, undef, undef, undef, undef, undef, undef, undef, undef, undef, undef, undef, undef, undef, undef, undef, undef, undef, undef, undef, undef, undef, undef, undef, undef, undef, undef, undef, undef, undef, undef, undef, undef, undef, undef, undef, undef, undef, undef, undef, undef, undef, undef, undef, undef, undef, undef, undef, undef, undef, undef, undef, undef, undef, undef, undef, undef, undef, undef, undef, undef, undef, undef, undef, undef, undef, undef, undef, undef, undef]) (fun b ds W => ds = [] ∧ Below w3.heap.size w3 W ∧ Bo2 w3 W b.2.2.2) ?_ ?_
    · rintro ⟨q1, q2, q3, gR⟩ f ds W ⟨rfl, b, X9⟩
      try dsimp only at b X9 ⊢
      refine m_s1 1 (by kernel_rfl) rfl ?_
      go_wp2_with fail
      refine (HM3.out _ b).mono ?_
      rintro e wn ⟨q1, rfl, T1, -, hb⟩
      have b := b.trans (hb.mono b.size)
      go_wp2_with fail
      refine m_keep b ?_
      exact H1_7 ⟨q1, 0, 0, gR⟩ _ _ _ (by kernel_rfl) rfl ⟨rfl, b, T1, X9.below hb⟩
    intro H0_7
    refine m_s2 1 7 (by kernel_rfl) rfl rfl ?_ ?_
    · go_wp2_with fail
      refine (HM3.out _ b).mono ?_
      rintro e wn ⟨q1, rfl, T1, -, hb⟩
      have b := b.trans (hb.mono b.size)
      go_wp2_with fail
      refine m_keep b ?_
      exact H1_ ⟨q1, 0, 0, 0⟩ _ _ _ (by kernel_rfl) rfl ⟨rfl, b, T1⟩
    · go_wp2_with fail
      refine absN fun wn hB hb _ => ?_
      refine m_keep (b.trans (hb.mono b.size)) ?_
      exact H0_7 ⟨0, 0, 0, _⟩ _ _ _ (by kernel_rfl) rfl ⟨rfl, b.trans (hb.mono b.size), .mk' hB b.size⟩
  case rest =>
    obtain ⟨q1, q2, q3, gR, hsm, hsr, hBR, hm1, hm2, hm3, hb, hgl0⟩ := hcut
    subst hsm; subst hsr
    have hgRw : w.heap.size ≤ gR := Nat.le_trans b3.size hgl0
    have b4 := b3.trans (hb.mono b3.size)
    have hT4 := hT.below b4
    have hinW := rowsIn_nsOf C' MW (by omega)
    clear h5 h6 h7 hb b3 HM1 HM2 HM3 hy1 hy2 hy3
    have hR5 : R ≤ 5 := by omega
    have hC5 : C ≤ 5 := by omega
    have hC5' : C' ≤ 5 := by omega
    have hvp := valid_prod (C := C) (C' := C') (R := R) (MA := MA) (MB := MB) (MW := MW) (by omega) (by omega) HBL.out HAL.out HMW.out
    have hin2 := rowsIn_nsOf C MA (by omega)
    have hin3 := rowsIn_nsOf C' MB (by omega)
    have hlA : (nsOf C MA).length = R := by rw [show (nsOf C MA).length = MA.length from nsTo_len ..]; exact HAL.out
    have hlB : (nsOf C' MB).length = C := by rw [show (nsOf C' MB).length = MB.length from nsTo_len ..]; exact HBL.out
    have hlW : (nsOf C' MW).length = R := by rw [show (nsOf C' MW).length = MW.length from nsTo_len ..]; exact HWL.out
    obtain ⟨NA, hNA⟩ : ∃ N, N = nsOf C MA := ⟨_, rfl⟩
    obtain ⟨NB, hNB⟩ : ∃ N, N = nsOf C' MB := ⟨_, rfl⟩
    obtain ⟨NW, hNW⟩ : ∃ N, N = nsOf C' MW := ⟨_, rfl⟩
    rw [← hNA] at hvp hin2 hlA hm2
    rw [← hNB] at hvp hin3 hlB hm3
    rw [← hNW] at hvp hlW hm1 hinW
    clear hNA hNB hNW
    have HVP := Lib.hid hvp; have HIN2 := Lib.hid hin2; have HIN3 := Lib.hid hin3; have HLA := Lib.hid hlA; have HLB := Lib.hid hlB; have HLW := Lib.hid hlW; have HINW := Lib.hid hinW
    clear hvp hin2 hin3 hlA hlB hlW hinW
    have r0 := hBR.cell 0
    have r1 := hBR.cell 1
    cases bg with
    | false =>
      have hvp5 := HVP.out
      have hin5 := HIN2.out
      have hin6 := HIN3.out
      have hlU := HLA.out
      have hlP := HLB.out
      have hlP2 : NB.length ≤ 25 := by omega
      have HSI := Lib.hid (fun V (b : Below w.heap.size w V) (e1 : IsMat V q1 C' NW) (e2 : IsMat V q2 C NA) (e3 : IsMat V q3 C' NB) => by
        have q := simplify_any q1 q2 q3 C' C NW NA NB (simQ (validQ C' NW) (roleQ C NA NB NB.length)) V e1 e2 e3 hin5 hin6 (hT.below b) (by omega) (by rw [HLW.out]; omega) (by omega) (by rw [hlU, HLW.out]) hvp5 rfl
        rwa [HLW.out] at q)
      have hwf := roleQ_wf (R := R) (C := C') (D := C) (Us := NA) (Ps := NB) hlU (by omega) hin6
      have hvr := valid_role (C := C') (Ns := NW) (D := C) (Us := NA) (Ps := NB) (by omega) hin5 hvp5 (by omega)
      have hLl := roleQ_len C NA NB NB.length
      obtain ⟨L0, hL0⟩ : ∃ L, L = roleQ C NA NB NB.length := ⟨_, rfl⟩
      rw [← hL0] at HSI hwf hvr hLl
      have hwfK := hwf.simQ (ok := validQ C' NW)
      have hag := simQ_again (C := C') (Ns := NW) (L := L0) (by omega) hvr
      have hfx := (simQ_fix (C := C') (Ns := NW) (L := L0) (by omega) hvr).2
      have hKv := ok_simQ (ok := validQ C' NW) L0 hvr
      have hKl := simQ_len (ok := validQ C' NW) L0
      obtain ⟨K, hK⟩ : ∃ K, K = simQ (validQ C' NW) L0 := ⟨_, rfl⟩
      rw [← hK] at HSI hwfK hag hfx hKv hKl
      have hKl2 : K.length ≤ 25 := by omega
      have hrs := role_same (R := R) (C := C') (K := K) (by omega) (by omega) hwfK
      have hvc := fun i k (hi : i < R) (hk : k < K.length) => valid_clr (C := C') (Ns := NW) (K := K) (by omega) (i := i) (k := k) (by rw [HLW.out]; exact hi) hk
      rw [HLW.out] at hvc
      have hub := fun i k => usersQ_bit (R := R) (L := K) (by omega) i k
      have hKv2 := hKv
      unfold validQ at hKv2
      rw [HLW.out] at hKv2
      have hrw : rowsIn K.length (mtrans R (K.map (·.1)) R) := users_rowsQ (by omega)
      have hrp : rowsIn C' (K.map (·.2)) := hwfK.rows2
      have hul : (mtrans R (K.map (·.1)) R).length = R := mtrans_len ..
      have hpl : (K.map (·.2)).length = K.length := List.length_map ..
      have hvm := fun i k => mset_len (mtrans R (K.map (·.1)) R) i k false
      obtain ⟨U5, hU5⟩ : ∃ U, U = mtrans R (K.map (·.1)) R := ⟨_, rfl⟩
      obtain ⟨P5, hP5⟩ : ∃ U, U = K.map (·.2) := ⟨_, rfl⟩
      rw [← hU5] at HSI hrs hvc hub hKv2 hrw hul hvm
      rw [← hP5] at HSI hrs hvc hKv2 hrp hpl
      -- one user less is not enough
      have hno : ∀ i k, i < R → k < K.length → mhas K.length U5 i k = true → validN C' NW K.length (mset U5 i k false) C' P5 = false := fun i k hi hk hb => by
        rw [hvc i k hi hk]
        rw [mhas_in (by rw [hul]; exact hi) hk] at hb
        exact hfx k hk i ((hub i k).1 hb).2.2
      have HSA := Lib.hid (fun V u p (b : Below w.heap.size w V) (e1 : IsMat V q1 C' NW) (e2 : IsMat V u K.length U5) (e3 : IsMat V p C' P5) => by
        have q := simplify_any q1 u p C' K.length NW U5 P5 K V e1 e2 e3 hrw hrp (hT.below b) (by omega) (by rw [HLW.out]; omega) (by omega) (by rw [hul, HLW.out]) hKv2 (by rw [hpl, hrs]; exact hag.symm)
        rwa [HLW.out, ← hU5, ← hP5] at q)
      have HNO := Lib.hid hno; have HKV := Lib.hid hKv2; have HRW := Lib.hid hrw; have HUL := Lib.hid hul; have HPL := Lib.hid hpl; have HVM := Lib.hid hvm
      have hrm : ∀ i k, i < R → k < K.length → rowsIn K.length (mset U5 i k false) := fun i k hi hk x hx => by
        refine low_of fun y hy => ?_
        rw [mset_bit (by rw [hul]; exact hi), Bool.and_eq_true] at hy
        rw [hvm] at hx
        exact of_low (hrw x hx) y hy.1
      have HRM := Lib.hid hrm
      clear hwf hvr hLl hL0 hwfK hag hfx hKv hKl hK hrs hvc hub hKv2 hrw hrp hul hpl hvm hU5 hP5 hno hrm hin5 hin6 hlU hvp5
      have HS := hideC (HSI.out _ b4 hm1 hm2 hm3)
      clear HSI
      go_wp2_with fail
      with_reducible refine HS.out.mono ?_
      rintro e w5 ⟨u5, p5, rfl, hu5, hp5, hb5⟩
      have b5 := b4.trans (hb5.mono b4.size)
      have hm5 := hm1.below hb5
      clear HS r0 r1
      go_upto_region 13 with fail
      refine abs1 fun w6 h14 hb6 hz => ?_
      clear hz
      obtain ⟨g14, hg14⟩ : ∃ x, x = w5.heap.size := ⟨_, rfl⟩
      rw [← hg14] at h14 ⊢
      clear hg14
      have b6 := b5.trans (hb6.mono b5.size)
      replace hm5 := hm5.below hb6
      have hu6 := (hu5.below hb6).mat
      have hp6 := (hp5.below hb6).mat
      have a0 := h14.cell 0
      have a1 := h14.cell 1
      have hva := valid_any q1 u5 p5 C' K.length C' NW U5 P5 w6 hm5 hu6 hp6 HRW.out (hT.below b6)
      rw [HKV.out] at hva
      have HVA := hideC hva
      clear hva hb5 hb6 hu5 hp5 b5 hm1
      go_wp2_with fail
      with_reducible refine HVA.out.mono ?_
      rintro e w7 ⟨rfl, hb7⟩
      have b7 := b6.trans (hb7.mono b6.size)
      have hm7 := hm5.below hb7
      have hu7 := hu6.below hb7
      have hp7 := hp6.below hb7
      have h147 := h14.below hb7 h14.lt
      have a0 := h147.cell 0
      have a1 := h147.cell 1
      have HCO := Lib.hid (fun W (hb : Below w7.heap.size w7 W) => cols_any u5 K.length U5 W (hu7.below hb))
      have HRO := Lib.hid (fun W (hb : Below w7.heap.size w7 W) => rows_any u5 K.length U5 W (hu7.below hb))
      rw [HUL.out] at HRO
      have HHA := Lib.hid (fun (i k : Nat) W (hb : Below w7.heap.size w7 W) => hasm_any u5 K.length U5 (i : Nat) (k : Nat) W (hu7.below hb))
      have HSE := Lib.hid (fun (i k : Nat) W (hb : Below w7.heap.size w7 W) (hi : i < R) (hk : k < K.length) => setm_in u5 K.length U5 i k false W (hu7.below hb) (by rw [HUL.out]; exact hi) hk)
      have HVX := Lib.hid (fun (i k : Nat) x W (hb : Below w7.heap.size w7 W) (hi : i < R) (hk : k < K.length) (hx : IsMat W x K.length (mset U5 i k false)) => valid_any q1 x p5 C' K.length C' NW (mset U5 i k false) P5 W (hm7.below hb) hx (hp7.below hb) (HRM.out i k hi hk) (hT.below (b7.trans (hb.mono b7.size))))
      clear HVA hb7 hm5 hu6 hp6 h14 b6
      have HC0 := hideC (HCO.out w7 (Below.refl _ _))
      go_wp2_with fail
      with_reducible refine HC0.out.mono ?_
      rintro e w' ⟨rfl, rfl⟩
      clear HC0
      go_wp2_with fail
      refine wp_loopF (β := Nat) (fun x f => #[f 0, f 1, f 2, f 3, f 4, f 5, f 6, f 7, f 8, f 9, ptr q1, f 11, f 12, f 13, ptr g14, f 15, f 16, f 17, f 18, f 19, f 20, f 21, f 22, f 23, f 24, f 25, f 26, f 27, f 28, f 29, f 30, f 31, f 32, f 33, f 34, f 35, f 36, f 37, f 38, f 39, f 40, f 41, f 42, f 43, f 44, f 45, f 46, f 47, f 48, f 49, f 50, f 51, f 52, f 53, f 54, f 55, f 56, f 57, f 58, f 59, f 60, f 61, f 62, f 63, .int .i64 (K.length : Int), .int .i64 (x : Int), f 66, f 67, f 68, f 69, f 70, f 71, f 72, f 73, f 74, f 75, f 76, f 77, f 78, f 79, f 80, f 81, f 82, f 83, f 84, f 85, f 86, f 87, f 88, f 89, f 90, f 91, f 92, f 93, f 94, f 95, f 96, f 97, f 98, f 99, f 100, f 101, f 102, f 103, f 104, f 105, f 106, f 107, f 108, f 109, f 110, f 111, f 112, f 113, f 114, f 115, f 116, f 117, f 118, f 119, f 120, f 121])
        (fun x ds W => ds = [] ∧ x ≤ K.length ∧ Below w7.heap.size w7 W) (fun x => K.length - x) 0 rfl ⟨rfl, Nat.zero_le _, Below.refl _ _⟩ ?_
      rintro k f ds W ⟨rfl, hk, hbW⟩
      dsimp only at hk ⊢
      have h14W := h147.below hbW h147.lt
      have a0 := h14W.cell 0
      have a1 := h14W.cell 1
      by_cases hlt : k < K.length
      · have HR0 := hideC (HRO.out W hbW)
        go_wp2_with fail
        with_reducible refine HR0.out.mono ?_
        rintro e w' ⟨rfl, rfl⟩
        clear HR0
        go_wp2_with fail
        refine wp_loopF (β := Nat) (fun x f => #[f 0, f 1, f 2, f 3, f 4, f 5, f 6, f 7, f 8, f 9, ptr q1, f 11, f 12, f 13, ptr g14, f 15, .int .i64 (k : Int), f 17, f 18, f 19, f 20, f 21, f 22, f 23, f 24, f 25, f 26, f 27, f 28, f 29, f 30, f 31, f 32, f 33, f 34, f 35, f 36, f 37, f 38, f 39, f 40, f 41, f 42, f 43, f 44, f 45, f 46, f 47, f 48, f 49, f 50, f 51, f 52, f 53, f 54, f 55, f 56, f 57, f 58, f 59, f 60, f 61, f 62, f 63, .int .i64 (K.length : Int), .int .i64 (k : Int), f 66, f 67, f 68, f 69, .int .i64 (R : Int), .int .i64 (x : Int), f 72, f 73, f 74, f 75, f 76, f 77, f 78, f 79, f 80, f 81, f 82, f 83, f 84, f 85, f 86, f 87, f 88, f 89, f 90, f 91, f 92, f 93, f 94, f 95, f 96, f 97, f 98, f 99, f 100, f 101, f 102, f 103, f 104, f 105, f 106, f 107, f 108, f 109, f 110, f 111, f 112, f 113, f 114, f 115, f 116, f 117, f 118, f 119, f 120, f 121])
          (fun x ds U => ds = [] ∧ x ≤ R ∧ Below w7.heap.size w7 U) (fun x => R - x) 0 rfl ⟨rfl, Nat.zero_le _, hbW⟩ ?_
        clear hbW h14W a0 a1
        rintro i f ds W ⟨rfl, hi, hbW⟩
        dsimp only at hi ⊢
        have h14W := h147.below hbW h147.lt
        have a0 := h14W.cell 0
        have a1 := h14W.cell 1
        by_cases hli : i < R
        · obtain ⟨bh, hbh⟩ : ∃ b, b = mhas K.length U5 i k := ⟨_, rfl⟩
          have hha := HHA.out i k W hbW
          rw [← hbh] at hha
          have HH := hideC hha
          have HBH := Lib.hid hbh
          clear hha hbh
          cases bh with
          | false =>
            go_wp2_with fail
            with_reducible refine HH.out.mono ?_
            rintro e W1 ⟨rfl, hb1⟩
            clear HH
            go_wp2_with fail
            exact ⟨i + 1, rfl, ⟨by first | rfl | trivial, by omega, hbW.trans (hb1.mono hbW.size)⟩, by omega⟩
          | true =>
            have hno := HNO.out i k hli hlt HBH.out.symm
            have HN := Lib.hid hno
            clear hno
            go_wp2_with fail
            with_reducible refine HH.out.mono ?_
            rintro e W1 ⟨rfl, hb1⟩
            have c1 := hbW.trans (hb1.mono hbW.size)
            have h141 := h147.below c1 h147.lt
            have HE := hideC (HSE.out i k W1 c1 hli hlt)
            have a0 := h141.cell 0
            have a1 := h141.cell 1
            clear HH
            go_wp2_with fail
            with_reducible refine HE.out.mono ?_
            rintro e W2 ⟨x, rfl, hx, hb2⟩
            have c2 := c1.trans (hb2.mono c1.size)
            have h142 := h147.below c2 h147.lt
            have hvx := HVX.out i k x W2 c2 hli hlt hx
            rw [HN.out] at hvx
            have HX := hideC hvx
            have a0 := h142.cell 0
            have a1 := h142.cell 1
            clear HE hvx
            go_wp2_with fail
            with_reducible refine HX.out.mono ?_
            rintro e W3 ⟨rfl, hb3⟩
            clear HX
            go_wp2_with fail
            exact ⟨i + 1, rfl, ⟨by first | rfl | trivial, by omega, c2.trans (hb3.mono c2.size)⟩, by omega⟩
        · obtain rfl : i = R := by omega
          go_wp2_with fail
          exact ⟨k + 1, rfl, ⟨by first | rfl | trivial, by omega, hbW⟩, by omega⟩
      · obtain rfl : k = K.length := by omega
        have bW := b7.trans (hbW.mono b7.size)
        have HS := hideC (HSA.out W u5 p5 bW (hm7.below hbW) (hu7.below hbW) (hp7.below hbW))
        clear HSA HCO HRO HHA HSE HVX HNO HRM
        go_wp2_with fail
        with_reducible refine HS.out.mono ?_
        rintro e w8 ⟨u8, p8, rfl, hu8, hp8, hb8⟩
        clear HS
        go_upto_region 28 with fail
        refine abs1 fun w9 h20 hb9 hz => ?_
        clear hz
        obtain ⟨g20, hg20⟩ : ∃ x, x = w8.heap.size := ⟨_, rfl⟩
        rw [← hg20] at h20 ⊢
        clear hg20
        have c9 := hbW.trans ((hb8.trans (hb9.mono hb8.size)).mono hbW.size)
        have h149 := h147.below c9 h147.lt
        have b9 := b7.trans (c9.mono b7.size)
        have hq1 := equalm_any u8 u5 K.length K.length U5 U5 w9 (hu8.below hb9).mat (hu7.below c9)
        rw [equal_refl] at hq1
        have HQ := hideC hq1
        have x0 := h20.cell 0
        have x1 := h20.cell 1
        have a0 := h149.cell 0
        have a1 := h149.cell 1
        clear hq1 h14W
        go_wp2_with fail
        with_reducible refine HQ.out.mono ?_
        rintro e w10 ⟨rfl, hb10⟩
        have c10 := c9.trans (hb10.mono c9.size)
        have h14A := h147.below c10 h147.lt
        have h20A := h20.below hb10 h20.lt
        have hq2 := equalm_any p8 p5 C' C' P5 P5 w10 ((hp8.below hb9).mat.below hb10) (hp7.below c10)
        rw [equal_refl] at hq2
        have HQ2 := hideC hq2
        have x0 := h20A.cell 0
        have x1 := h20A.cell 1
        have a0 := h14A.cell 0
        have a1 := h14A.cell 1
        clear hq2 HQ h149 h20
        go_wp2_with fail
        with_reducible refine HQ2.out.mono ?_
        rintro e w11 ⟨rfl, hb11⟩
        go_wp2_with fail
        go_ret
        exact ⟨rfl, (b9.trans (hb10.mono b9.size)).trans (hb11.mono (b9.trans (hb10.mono b9.size)).size)⟩
    | true =>
      have HG := hideC (greedyc_any q1 C' NW wc hm1 HINW.out (by rw [HLW.out]; exact hR5) hC5' hT4)
      have hgl := greC_len (C := C') (Ns := NW) HINW.out (by rw [HLW.out]; exact hR5) hC5'
      have hgf := greC_facts (C := C') (Ns := NW) (by rw [HLW.out]; omega) HINW.out (by omega)
      have hgu := users_rowsG (C := C') (Ns := NW) (M := greC C' NW) (by omega)
      have hgn : (usersN C' NW (greC C' NW)).length = NW.length := by unfold usersN; rw [mtrans_len]
      rw [HLW.out] at hgn
      obtain ⟨GM, hGM⟩ : ∃ M, M = greC C' NW := ⟨_, rfl⟩
      rw [← hGM] at HG hgl hgf hgu hgn
      obtain ⟨UG, hUG⟩ : ∃ M, M = usersN C' NW GM := ⟨_, rfl⟩
      rw [← hUG] at HG hgf hgu hgn
      clear hGM hUG hm2 hm3
      go_wp2_with fail
      with_reducible refine HG.out.mono ?_
      rintro e wg ⟨ug, pg, rfl, hug, hpg, hbg⟩
      have bg := b4.trans (hbg.mono b4.size)
      have hmg := hm1.below hbg
      have hBg := hBR.below hbg hBR.lt
      clear HG r0 r1 hBR
      go_upto_region 9 with fail
      refine abs1 fun wh h12 hbh hz => ?_
      clear hz
      obtain ⟨g12, hg12⟩ : ∃ x, x = wg.heap.size := ⟨_, rfl⟩
      have hne : gR ≠ g12 := by rw [hg12]; exact Nat.ne_of_lt hBg.lt
      rw [← hg12] at h12 ⊢
      clear hg12
      have bh := bg.trans (hbh.mono bg.size)
      have hBh := hBg.below hbh hBg.lt
      have c120 := h12.cell 0
      have c121 := h12.cell 1
      have cR0 := hBh.cell 0
      have cR1 := hBh.cell 1
      have fR0 := hBh.frozen 0
      have fR1 := hBh.frozen 1
      have lR := hBh.lt
      have xB := (hBh.set_ 0 (ptr ug)).set_ 1 (ptr pg)
      have xb := (bh.setCell (p := ⟨gR, 0, none⟩) hgRw (ptr ug)).setCell (p := ⟨gR, 1, none⟩) hgRw (ptr pg)
      have xm := IsMat.boxQ2 (p1 := ug) (p2 := pg) (hmg.below hbh) hBh (by decide) (by decide)
      have xu := IsMat.boxQ2 (p1 := ug) (p2 := pg) (hug.below hbh).mat hBh (by decide) (by decide)
      have xp := IsMat.boxQ2 (p1 := ug) (p2 := pg) (hpg.below hbh).mat hBh (by decide) (by decide)
      have XB := Lib.hid xB; have XBL := Lib.hid xb; have XM := Lib.hid xm; have XU := Lib.hid xu; have XP := Lib.hid xp
      clear xB xb xm xu xp hBh hmg hm1 hug hpg hBg bg bh hbg hbh h12 b4 hT4
      go_upto_region 12 with fail
      obtain ⟨wj, hwj⟩ : ∃ x, x = (wh.setCell ⟨gR, 0, none⟩ (ptr ug)).setCell ⟨gR, 1, none⟩ (ptr pg) := ⟨_, rfl⟩
      rw [← hwj] at XB XBL XM XU XP ⊢
      clear hwj c120 c121 cR0 cR1 fR0 fR1 lR
      have b4 := XBL.out
      have hm1 := XM.out
      have hm2 := XU.out
      have hm3 := XP.out
      have hBR := XB.out
      have r0 := hBR.cell 0
      have r1 := hBR.cell 1
      have hvp5 := hgf.1
      have hin5 := hgu
      have hin6 := hgf.2
      have hlU := hgn
      have hlP2 : GM.length ≤ 25 := hgl
      clear hgf hgu hgn XBL XM XU XP XB
      have HSI := Lib.hid (fun V (b : Below w.heap.size w V) (e1 : IsMat V q1 C' NW) (e2 : IsMat V ug GM.length UG) (e3 : IsMat V pg C' GM) => by
        have q := simplify_any q1 ug pg C' GM.length NW UG GM (simQ (validQ C' NW) (roleQ GM.length UG GM GM.length)) V e1 e2 e3 hin5 hin6 (hT.below b) (by omega) (by rw [HLW.out]; omega) (by omega) (by rw [hlU, HLW.out]) hvp5 rfl
        rwa [HLW.out] at q)
      have hwf := roleQ_wf (R := R) (C := C') (D := GM.length) (Us := UG) (Ps := GM) hlU (by omega) hin6
      have hvr := valid_role (C := C') (Ns := NW) (D := GM.length) (Us := UG) (Ps := GM) (by omega) hin5 hvp5 (by omega)
      have hLl := roleQ_len GM.length UG GM GM.length
      obtain ⟨L0, hL0⟩ : ∃ L, L = roleQ GM.length UG GM GM.length := ⟨_, rfl⟩
      rw [← hL0] at HSI hwf hvr hLl
      have hwfK := hwf.simQ (ok := validQ C' NW)
      have hag := simQ_again (C := C') (Ns := NW) (L := L0) (by omega) hvr
      have hfx := (simQ_fix (C := C') (Ns := NW) (L := L0) (by omega) hvr).2
      have hKv := ok_simQ (ok := validQ C' NW) L0 hvr
      have hKl := simQ_len (ok := validQ C' NW) L0
      obtain ⟨K, hK⟩ : ∃ K, K = simQ (validQ C' NW) L0 := ⟨_, rfl⟩
      rw [← hK] at HSI hwfK hag hfx hKv hKl
      have hKl2 : K.length ≤ 25 := by omega
      have hrs := role_same (R := R) (C := C') (K := K) (by omega) (by omega) hwfK
      have hvc := fun i k (hi : i < R) (hk : k < K.length) => valid_clr (C := C') (Ns := NW) (K := K) (by omega) (i := i) (k := k) (by rw [HLW.out]; exact hi) hk
      rw [HLW.out] at hvc
      have hub := fun i k => usersQ_bit (R := R) (L := K) (by omega) i k
      have hKv2 := hKv
      unfold validQ at hKv2
      rw [HLW.out] at hKv2
      have hrw : rowsIn K.length (mtrans R (K.map (·.1)) R) := users_rowsQ (by omega)
      have hrp : rowsIn C' (K.map (·.2)) := hwfK.rows2
      have hul : (mtrans R (K.map (·.1)) R).length = R := mtrans_len ..
      have hpl : (K.map (·.2)).length = K.length := List.length_map ..
      have hvm := fun i k => mset_len (mtrans R (K.map (·.1)) R) i k false
      obtain ⟨U5, hU5⟩ : ∃ U, U = mtrans R (K.map (·.1)) R := ⟨_, rfl⟩
      obtain ⟨P5, hP5⟩ : ∃ U, U = K.map (·.2) := ⟨_, rfl⟩
      rw [← hU5] at HSI hrs hvc hub hKv2 hrw hul hvm
      rw [← hP5] at HSI hrs hvc hKv2 hrp hpl
      -- one user less is not enough
      have hno : ∀ i k, i < R → k < K.length → mhas K.length U5 i k = true → validN C' NW K.length (mset U5 i k false) C' P5 = false := fun i k hi hk hb => by
        rw [hvc i k hi hk]
        rw [mhas_in (by rw [hul]; exact hi) hk] at hb
        exact hfx k hk i ((hub i k).1 hb).2.2
      have HSA := Lib.hid (fun V u p (b : Below w.heap.size w V) (e1 : IsMat V q1 C' NW) (e2 : IsMat V u K.length U5) (e3 : IsMat V p C' P5) => by
        have q := simplify_any q1 u p C' K.length NW U5 P5 K V e1 e2 e3 hrw hrp (hT.below b) (by omega) (by rw [HLW.out]; omega) (by omega) (by rw [hul, HLW.out]) hKv2 (by rw [hpl, hrs]; exact hag.symm)
        rwa [HLW.out, ← hU5, ← hP5] at q)
      have HNO := Lib.hid hno; have HKV := Lib.hid hKv2; have HRW := Lib.hid hrw; have HUL := Lib.hid hul; have HPL := Lib.hid hpl; have HVM := Lib.hid hvm
      have hrm : ∀ i k, i < R → k < K.length → rowsIn K.length (mset U5 i k false) := fun i k hi hk x hx => by
        refine low_of fun y hy => ?_
        rw [mset_bit (by rw [hul]; exact hi), Bool.and_eq_true] at hy
        rw [hvm] at hx
        exact of_low (hrw x hx) y hy.1
      have HRM := Lib.hid hrm
      clear hwf hvr hLl hL0 hwfK hag hfx hKv hKl hK hrs hvc hub hKv2 hrw hrp hul hpl hvm hU5 hP5 hno hrm hin5 hin6 hlU hvp5
      have HS := hideC (HSI.out _ b4 hm1 hm2 hm3)
      clear HSI
      go_wp2_with fail
      with_reducible refine HS.out.mono ?_
      rintro e w5 ⟨u5, p5, rfl, hu5, hp5, hb5⟩
      have b5 := b4.trans (hb5.mono b4.size)
      have hm5 := hm1.below hb5
      clear HS r0 r1
      go_upto_region 13 with fail
      refine abs1 fun w6 h14 hb6 hz => ?_
      clear hz
      obtain ⟨g14, hg14⟩ : ∃ x, x = w5.heap.size := ⟨_, rfl⟩
      rw [← hg14] at h14 ⊢
      clear hg14
      have b6 := b5.trans (hb6.mono b5.size)
      replace hm5 := hm5.below hb6
      have hu6 := (hu5.below hb6).mat
      have hp6 := (hp5.below hb6).mat
      have a0 := h14.cell 0
      have a1 := h14.cell 1
      have hva := valid_any q1 u5 p5 C' K.length C' NW U5 P5 w6 hm5 hu6 hp6 HRW.out (hT.below b6)
      rw [HKV.out] at hva
      have HVA := hideC hva
      clear hva hb5 hb6 hu5 hp5 b5 hm1
      go_wp2_with fail
      with_reducible refine HVA.out.mono ?_
      rintro e w7 ⟨rfl, hb7⟩
      have b7 := b6.trans (hb7.mono b6.size)
      have hm7 := hm5.below hb7
      have hu7 := hu6.below hb7
      have hp7 := hp6.below hb7
      have h147 := h14.below hb7 h14.lt
      have a0 := h147.cell 0
      have a1 := h147.cell 1
      have HCO := Lib.hid (fun W (hb : Below w7.heap.size w7 W) => cols_any u5 K.length U5 W (hu7.below hb))
      have HRO := Lib.hid (fun W (hb : Below w7.heap.size w7 W) => rows_any u5 K.length U5 W (hu7.below hb))
      rw [HUL.out] at HRO
      have HHA := Lib.hid (fun (i k : Nat) W (hb : Below w7.heap.size w7 W) => hasm_any u5 K.length U5 (i : Nat) (k : Nat) W (hu7.below hb))
      have HSE := Lib.hid (fun (i k : Nat) W (hb : Below w7.heap.size w7 W) (hi : i < R) (hk : k < K.length) => setm_in u5 K.length U5 i k false W (hu7.below hb) (by rw [HUL.out]; exact hi) hk)
      have HVX := Lib.hid (fun (i k : Nat) x W (hb : Below w7.heap.size w7 W) (hi : i < R) (hk : k < K.length) (hx : IsMat W x K.length (mset U5 i k false)) => valid_any q1 x p5 C' K.length C' NW (mset U5 i k false) P5 W (hm7.below hb) hx (hp7.below hb) (HRM.out i k hi hk) (hT.below (b7.trans (hb.mono b7.size))))
      clear HVA hb7 hm5 hu6 hp6 h14 b6
      have HC0 := hideC (HCO.out w7 (Below.refl _ _))
      go_wp2_with fail
      with_reducible refine HC0.out.mono ?_
      rintro e w' ⟨rfl, rfl⟩
      clear HC0
      go_wp2_with fail
      refine wp_loopF (β := Nat) (fun x f => #[f 0, f 1, f 2, f 3, f 4, f 5, f 6, f 7, f 8, f 9, ptr q1, f 11, f 12, f 13, ptr g14, f 15, f 16, f 17, f 18, f 19, f 20, f 21, f 22, f 23, f 24, f 25, f 26, f 27, f 28, f 29, f 30, f 31, f 32, f 33, f 34, f 35, f 36, f 37, f 38, f 39, f 40, f 41, f 42, f 43, f 44, f 45, f 46, f 47, f 48, f 49, f 50, f 51, f 52, f 53, f 54, f 55, f 56, f 57, f 58, f 59, f 60, f 61, f 62, f 63, .int .i64 (K.length : Int), .int .i64 (x : Int), f 66, f 67, f 68, f 69, f 70, f 71, f 72, f 73, f 74, f 75, f 76, f 77, f 78, f 79, f 80, f 81, f 82, f 83, f 84, f 85, f 86, f 87, f 88, f 89, f 90, f 91, f 92, f 93, f 94, f 95, f 96, f 97, f 98, f 99, f 100, f 101, f 102, f 103, f 104, f 105, f 106, f 107, f 108, f 109, f 110, f 111, f 112, f 113, f 114, f 115, f 116, f 117, f 118, f 119, f 120, f 121])
        (fun x ds W => ds = [] ∧ x ≤ K.length ∧ Below w7.heap.size w7 W) (fun x => K.length - x) 0 rfl ⟨rfl, Nat.zero_le _, Below.refl _ _⟩ ?_
      rintro k f ds W ⟨rfl, hk, hbW⟩
      dsimp only at hk ⊢
      have h14W := h147.below hbW h147.lt
      have a0 := h14W.cell 0
      have a1 := h14W.cell 1
      by_cases hlt : k < K.length
      · have HR0 := hideC (HRO.out W hbW)
        go_wp2_with fail
        with_reducible refine HR0.out.mono ?_
        rintro e w' ⟨rfl, rfl⟩
        clear HR0
        go_wp2_with fail
        refine wp_loopF (β := Nat) (fun x f => #[f 0, f 1, f 2, f 3, f 4, f 5, f 6, f 7, f 8, f 9, ptr q1, f 11, f 12, f 13, ptr g14, f 15, .int .i64 (k : Int), f 17, f 18, f 19, f 20, f 21, f 22, f 23, f 24, f 25, f 26, f 27, f 28, f 29, f 30, f 31, f 32, f 33, f 34, f 35, f 36, f 37, f 38, f 39, f 40, f 41, f 42, f 43, f 44, f 45, f 46, f 47, f 48, f 49, f 50, f 51, f 52, f 53, f 54, f 55, f 56, f 57, f 58, f 59, f 60, f 61, f 62, f 63, .int .i64 (K.length : Int), .int .i64 (k : Int), f 66, f 67, f 68, f 69, .int .i64 (R : Int), .int .i64 (x : Int), f 72, f 73, f 74, f 75, f 76, f 77, f 78, f 79, f 80, f 81, f 82, f 83, f 84, f 85, f 86, f 87, f 88, f 89, f 90, f 91, f 92, f 93, f 94, f 95, f 96, f 97, f 98, f 99, f 100, f 101, f 102, f 103, f 104, f 105, f 106, f 107, f 108, f 109, f 110, f 111, f 112, f 113, f 114, f 115, f 116, f 117, f 118, f 119, f 120, f 121])
          (fun x ds U => ds = [] ∧ x ≤ R ∧ Below w7.heap.size w7 U) (fun x => R - x) 0 rfl ⟨rfl, Nat.zero_le _, hbW⟩ ?_
        clear hbW h14W a0 a1
        rintro i f ds W ⟨rfl, hi, hbW⟩
        dsimp only at hi ⊢
        have h14W := h147.below hbW h147.lt
        have a0 := h14W.cell 0
        have a1 := h14W.cell 1
        by_cases hli : i < R
        · obtain ⟨bh, hbh⟩ : ∃ b, b = mhas K.length U5 i k := ⟨_, rfl⟩
          have hha := HHA.out i k W hbW
          rw [← hbh] at hha
          have HH := hideC hha
          have HBH := Lib.hid hbh
          clear hha hbh
          cases bh with
          | false =>
            go_wp2_with fail
            with_reducible refine HH.out.mono ?_
            rintro e W1 ⟨rfl, hb1⟩
            clear HH
            go_wp2_with fail
            exact ⟨i + 1, rfl, ⟨by first | rfl | trivial, by omega, hbW.trans (hb1.mono hbW.size)⟩, by omega⟩
          | true =>
            have hno := HNO.out i k hli hlt HBH.out.symm
            have HN := Lib.hid hno
            clear hno
            go_wp2_with fail
            with_reducible refine HH.out.mono ?_
            rintro e W1 ⟨rfl, hb1⟩
            have c1 := hbW.trans (hb1.mono hbW.size)
            have h141 := h147.below c1 h147.lt
            have HE := hideC (HSE.out i k W1 c1 hli hlt)
            have a0 := h141.cell 0
            have a1 := h141.cell 1
            clear HH
            go_wp2_with fail
            with_reducible refine HE.out.mono ?_
            rintro e W2 ⟨x, rfl, hx, hb2⟩
            have c2 := c1.trans (hb2.mono c1.size)
            have h142 := h147.below c2 h147.lt
            have hvx := HVX.out i k x W2 c2 hli hlt hx
            rw [HN.out] at hvx
            have HX := hideC hvx
            have a0 := h142.cell 0
            have a1 := h142.cell 1
            clear HE hvx
            go_wp2_with fail
            with_reducible refine HX.out.mono ?_
            rintro e W3 ⟨rfl, hb3⟩
            clear HX
            go_wp2_with fail
            exact ⟨i + 1, rfl, ⟨by first | rfl | trivial, by omega, c2.trans (hb3.mono c2.size)⟩, by omega⟩
        · obtain rfl : i = R := by omega
          go_wp2_with fail
          exact ⟨k + 1, rfl, ⟨by first | rfl | trivial, by omega, hbW⟩, by omega⟩
      · obtain rfl : k = K.length := by omega
        have bW := b7.trans (hbW.mono b7.size)
        have HS := hideC (HSA.out W u5 p5 bW (hm7.below hbW) (hu7.below hbW) (hp7.below hbW))
        clear HSA HCO HRO HHA HSE HVX HNO HRM
        go_wp2_with fail
        with_reducible refine HS.out.mono ?_
        rintro e w8 ⟨u8, p8, rfl, hu8, hp8, hb8⟩
        clear HS
        go_upto_region 28 with fail
        refine abs1 fun w9 h20 hb9 hz => ?_
        clear hz
        obtain ⟨g20, hg20⟩ : ∃ x, x = w8.heap.size := ⟨_, rfl⟩
        rw [← hg20] at h20 ⊢
        clear hg20
        have c9 := hbW.trans ((hb8.trans (hb9.mono hb8.size)).mono hbW.size)
        have h149 := h147.below c9 h147.lt
        have b9 := b7.trans (c9.mono b7.size)
        have hq1 := equalm_any u8 u5 K.length K.length U5 U5 w9 (hu8.below hb9).mat (hu7.below c9)
        rw [equal_refl] at hq1
        have HQ := hideC hq1
        have x0 := h20.cell 0
        have x1 := h20.cell 1
        have a0 := h149.cell 0
        have a1 := h149.cell 1
        clear hq1 h14W
        go_wp2_with fail
        with_reducible refine HQ.out.mono ?_
        rintro e w10 ⟨rfl, hb10⟩
        have c10 := c9.trans (hb10.mono c9.size)
        have h14A := h147.below c10 h147.lt
        have h20A := h20.below hb10 h20.lt
        have hq2 := equalm_any p8 p5 C' C' P5 P5 w10 ((hp8.below hb9).mat.below hb10) (hp7.below c10)
        rw [equal_refl] at hq2
        have HQ2 := hideC hq2
        have x0 := h20A.cell 0
        have x1 := h20A.cell 1
        have a0 := h14A.cell 0
        have a1 := h14A.cell 1
        clear hq2 HQ h149 h20
        go_wp2_with fail
        with_reducible refine HQ2.out.mono ?_
        rintro e w11 ⟨rfl, hb11⟩
        go_wp2_with fail
        go_ret
        exact ⟨rfl, (b9.trans (hb10.mono b9.size)).trans (hb11.mono (b9.trans (hb10.mono b9.size)).size)⟩
end Mix2
end Go.Proofs.YtfbkcdhmggjbaaaGreatDoor
