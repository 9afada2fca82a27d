import Derived.Test.YtfbkcdhmggjbaaaGreatDoorCxT2
import Derived.Test.YtfbkcdhmggjbaaaGreatDoorCxT3
import Derived.Deep.DeepCutAuto
import Derived.Deep.CutBlock
/-
  The law CoverNormal.
-/
namespace Go.Proofs.YtfbkcdhmggjbaaaGreatDoor
open Go.RowKit
namespace Mix2
set_option maxRecDepth 100000 in
set_option maxHeartbeats 40000000 in
theorem normal_walk (v v' : Value) (R C R' C' : Nat) (zs zs' : List Int) (w : World) (hT : Tab w) (h : IsRaw w v R C zs) (h' : IsRaw w v' R' C' zs') :
    Calls Tryz.prog 5 #[v, v'] w fun e w' => e = .returned (.bool true) ∧ Below w.heap.size w w' := by
  have hbd := h.bd
  have hbd' := h'.bd
  obtain ⟨r, c, A0, d0, hv, _⟩ := id h
  obtain ⟨r', c', A0', d0', hv', _⟩ := id h'
  subst hv; subst hv'
  have HIN := hideC h; clear h
  have HIN' := hideC h'; clear h'
  go_enter Tryz.func5, Tryz.ntmps5
  go_wp2_with fail
  refine absC2 fun W0 hX hX' hbel0 hz => ?_
  clear hz
  refine (awake_any48 W0 (hT.below hbel0)).mono ?_
  rintro e w1 ⟨rfl, hb1⟩
  have b1 := hbel0.trans (hb1.mono hbel0.size)
  replace hX := hX.below hb1 hX.lt
  replace hX' := hX'.below hb1 hX'.lt
  have x0 := hX.cell 0
  have x1 := hX.cell 1
  have x2 := hX.cell 2
  have y0 := hX'.cell 0
  have y1 := hX'.cell 1
  have y2 := hX'.cell 2
  have HP := hideC (product48_any _ _ R C R' C' zs zs' w1 (HIN.out.below b1) (HIN'.out.below b1))
  go_wp2_with fail
  with_reducible refine HP.out.mono ?_
  rintro e w2 ⟨A1, c1, A2, c2, A3, c3, rfl, hy1, hy2, hy3, hb2⟩
  have b2 := b1.trans (hb2.mono b1.size)
  clear HP HIN HIN' hX hX' x0 x1 x2 y0 y1 y2 hbel0 hb1 hb2 b1
  obtain ⟨MA, hMA⟩ : ∃ M, M = rawM R C zs := ⟨_, rfl⟩
  obtain ⟨MB, hMB⟩ : ∃ M, M = rawM C C' zs' := ⟨_, rfl⟩
  rw [← hMA, ← hMB] at hy3
  rw [← hMA] at hy1
  rw [← hMB] at hy2
  have hAl : MA.length = R := by rw [hMA]; exact mat_len ..
  have hBl : MB.length = C := by rw [hMB]; exact mat_len ..
  have hAr : ∀ (i : Nat) r, MA[i]? = some r → r.length = C := fun i r hr => mat_rows (hMA ▸ hr)
  have hBr : ∀ (i : Nat) r, MB[i]? = some r → r.length = C' := fun i r hr => mat_rows (hMB ▸ hr)
  obtain ⟨MW, hMW⟩ : ∃ M, M = mat R C' (prodF MA MB C) := ⟨_, rfl⟩
  rw [← hMW] at hy3
  have hWl : MW.length = R := by rw [hMW]; exact mat_len ..
  have HMW := Lib.hid hMW; have HAL := Lib.hid hAl; have HBL := Lib.hid hBl; have HWL := Lib.hid hWl; have HAR := Lib.hid hAr; have HBR := Lib.hid hBr
  clear hMA hMB hMW hAr hBr
  go_upto_region 4 with fail
  refine abs3 fun w3 h5 h6 h7 hb3 hz => ?_
  clear hz
  obtain ⟨g5, hg5⟩ : ∃ x, x = w2.heap.size := ⟨_, rfl⟩
  rw [← hg5] at h5 h6 h7 ⊢
  clear hg5
  have b3 := b2.trans (hb3.mono b2.size)
  replace hy1 := hy1.below hb3
  replace hy2 := hy2.below hb3
  replace hy3 := hy3.below hb3
  clear hb3 b2
  have hml1 := fun W (hb : Below w3.heap.size w3 W) => matrixl_any C A1 c1 MA W (hy1.below hb).ref (by omega) (by omega)
  have hml2 := fun W (hb : Below w3.heap.size w3 W) => matrixl_any C' A2 c2 MB W (hy2.below hb).ref (by omega) (by omega)
  have hml3 := fun W (hb : Below w3.heap.size w3 W) => matrixl_any C' A3 c3 MW W (hy3.below hb).ref (by omega) (by omega)
  rw [hAl] at hml1
  rw [hBl] at hml2
  rw [hWl] at hml3
  have HM1 := Lib.hid hml1; have HM2 := Lib.hid hml2; have HM3 := Lib.hid hml3
  clear hml1 hml2 hml3 hAl hBl hWl
  go_upto_region 5 with fail
  go_cut [8] (fun sr wx => ∃ (q2 q3 gR : Nat), sr = ptr gR ∧ Blk wx gR 34 #[ptr q2, ptr q3] ∧ IsMat wx q2 C (nsOf C MA) ∧ IsMat wx q3 C' (nsOf C' MB) ∧ Below w3.heap.size w3 wx)
  case first =>
    have x0 := h5.cell 0
    have x1 := h5.cell 1
    have y0 := h6.cell 0
    have y1 := h6.cell 1
    refine wp_mix (fun V => Below w3.heap.size w3 V) 7 (by kernel_rfl) (by kernel_rfl) (Below.refl _ _).drew ?_
    have b := (Below.refl w3.heap.size w3).drew
    obtain ⟨W, hWW⟩ : ∃ V, V = w3.drew := ⟨_, rfl⟩
    rw [← hWW] at b ⊢
    clear hWW
    (refine m_q 0 (v := ?_) (by kernel_rfl) rfl rfl (fun W hW => ?_) ?_; rotate_left; (have a0 := onB hW x0; have a1 := onB hW x1; have a2 := onB hW y0; have a3 := onB hW y1; go_simp; first | done | with_reducible rfl); simp only [Act.put, List.setIfInBounds_toArray, List.set_cons_zero, List.set_cons_succ]); (refine m_q 2 (v := ?_) (by kernel_rfl) rfl rfl (fun W hW => ?_) ?_; rotate_left; (have a0 := onB hW x0; have a1 := onB hW x1; have a2 := onB hW y0; have a3 := onB hW y1; go_simp; first | done | with_reducible rfl); simp only [Act.put, List.setIfInBounds_toArray, List.set_cons_zero, List.set_cons_succ])
    clear x0 x1 y0 y1
    refine m_join (β := Nat × Nat × Nat) #[true, true, true, true, true, true, false] 1 (fun b f => #[Value.agg #[Value.int IntKind.u8 (r : Int), Value.int IntKind.u8 (c : Int), Value.slice A0 zs.length d0], Value.agg #[Value.int IntKind.u8 (r' : Int), Value.int IntKind.u8 (c' : Int), Value.slice A0' zs'.length d0'], Value.pointer (some { block := w.heap.size, off := 0 }), Value.pointer (some { block := w.heap.size + 1, off := 0 }), Value.bool false, Value.pointer (some { block := g5, off := 0 }), Value.pointer (some { block := g5 + 1, off := 0 }), Value.pointer (some { block := g5 + 1 + 1, off := 0 }), ptr b.2.2, undef, undef, undef, undef, undef, undef, Value.bool true, Value.bool false, Value.tuple #[refV C A1 R c1, refV C' A2 C c2, refV C' A3 R c3], Value.agg #[Value.int IntKind.u8 (r : Int), Value.int IntKind.u8 (c : Int), Value.slice A0 zs.length d0], Value.agg #[Value.int IntKind.u8 (r' : Int), Value.int IntKind.u8 (c' : Int), Value.slice A0' zs'.length d0'], Value.tuple #[refV C A1 R c1, refV C' A2 C c2, refV C' A3 R c3], refV C A1 R c1, refV C' A2 C c2, refV C' A3 R c3, Value.agg #[Value.int IntKind.i64 (C : Int), Value.slice A1 R c1], ptr b.1, Value.agg #[Value.int IntKind.i64 (C' : Int), Value.slice A2 C c2], ptr b.2.1, .agg #[ptr b.1, ptr b.2.1], undef, undef, undef, undef, undef, undef, undef, undef, undef, undef, undef, undef, undef, undef, undef, undef, undef, undef, undef, undef, undef, undef, undef, undef, undef, undef, undef, undef, undef, undef, undef, undef, undef, undef, undef, undef, undef, undef, undef, undef, undef, undef, undef, undef, undef, undef, undef, undef, undef]) (fun b ds W => ds = [] ∧ Below w3.heap.size w3 W ∧ IsMat W b.1 C (nsOf C MA) ∧ IsMat W b.2.1 C' (nsOf C' MB) ∧ Bo2 w3 W b.2.2) ?_ ?_
    · rintro ⟨q2, q3, gR⟩ f ds W ⟨rfl, b, T2, T3, X9⟩
      try dsimp only at b T2 T3 X9 ⊢
      have e0 := X9.1.cell 0; have e1 := X9.1.cell 1; have f0 := X9.1.frozen 0; have f1 := X9.1.frozen 1; have lg := X9.lt
      have t2 := IsMat.boxQ2 (p1 := q2) (p2 := q3) T2 X9.1 (by decide) (by decide)
      have t3 := IsMat.boxQ2 (p1 := q2) (p2 := q3) T3 X9.1 (by decide) (by decide)
      have bb := (b.setCell (p := ⟨gR, 0, none⟩) X9.2 (ptr q2)).setCell (p := ⟨gR, 1, none⟩) X9.2 (ptr q3)
      have xx := (X9.1.set_ 0 (ptr q2)).set_ 1 (ptr q3)
      have TT2 := Lib.hid t2; have TT3 := Lib.hid t3; have BB := Lib.hid bb; have XX := Lib.hid xx
      clear t2 t3 bb xx T2 T3 b X9
      refine m_s1 6 (by kernel_rfl) rfl ?_
      go_wp2_with fail
      refine m_keep BB.out ?_
      refine m_end (by kernel_rfl) ?_
      go_wp2_with fail
      go_meet
      exact ⟨q2, q3, gR, rfl, XX.out, TT2.out, TT3.out, BB.out⟩
    intro H2_5
    refine m_join (β := Nat × Nat × Nat) #[true, true, true, true, true, false, false] 2 (fun b f => #[Value.agg #[Value.int IntKind.u8 (r : Int), Value.int IntKind.u8 (c : Int), Value.slice A0 zs.length d0], Value.agg #[Value.int IntKind.u8 (r' : Int), Value.int IntKind.u8 (c' : Int), Value.slice A0' zs'.length d0'], Value.pointer (some { block := w.heap.size, off := 0 }), Value.pointer (some { block := w.heap.size + 1, off := 0 }), Value.bool false, Value.pointer (some { block := g5, off := 0 }), Value.pointer (some { block := g5 + 1, off := 0 }), Value.pointer (some { block := g5 + 1 + 1, off := 0 }), f 8, undef, undef, undef, undef, undef, undef, Value.bool true, Value.bool false, Value.tuple #[refV C A1 R c1, refV C' A2 C c2, refV C' A3 R c3], Value.agg #[Value.int IntKind.u8 (r : Int), Value.int IntKind.u8 (c : Int), Value.slice A0 zs.length d0], Value.agg #[Value.int IntKind.u8 (r' : Int), Value.int IntKind.u8 (c' : Int), Value.slice A0' zs'.length d0'], Value.tuple #[refV C A1 R c1, refV C' A2 C c2, refV C' A3 R c3], refV C A1 R c1, refV C' A2 C c2, refV C' A3 R c3, Value.agg #[Value.int IntKind.i64 (C : Int), Value.slice A1 R c1], ptr b.1, Value.agg #[Value.int IntKind.i64 (C' : Int), Value.slice A2 C c2], ptr b.2.1, .agg #[ptr b.1, ptr b.2.1], undef, undef, undef, undef, undef, undef, undef, undef, undef, undef, undef, undef, undef, undef, undef, undef, undef, undef, undef, undef, undef, undef, undef, undef, undef, undef, undef, undef, undef, undef, undef, undef, undef, undef, undef, undef, undef, undef, undef, undef, undef, undef, undef, undef, undef, undef, undef, undef, undef]) (fun b ds W => ds = [] ∧ Below w3.heap.size w3 W ∧ IsMat W b.1 C (nsOf C MA) ∧ IsMat W b.2.1 C' (nsOf C' MB)) ?_ ?_
    · rintro ⟨q2, q3, gR⟩ f ds W ⟨rfl, b, T2, T3⟩
      try dsimp only at b T2 T3 ⊢
      refine m_s1 5 (by kernel_rfl) rfl ?_
      go_wp2_with fail
      refine absN fun wn hB hb _ => ?_
      refine m_keep (b.trans (hb.mono b.size)) ?_
      exact H2_5 ⟨q2, q3, _⟩ _ _ _ (by kernel_rfl) rfl ⟨rfl, b.trans (hb.mono b.size), T2.below hb, T3.below hb, .mk' hB b.size⟩
    intro H2_
    refine m_join (β := Nat × Nat × Nat) #[true, true, true, false, false, true, false] 3 (fun b f => #[Value.agg #[Value.int IntKind.u8 (r : Int), Value.int IntKind.u8 (c : Int), Value.slice A0 zs.length d0], Value.agg #[Value.int IntKind.u8 (r' : Int), Value.int IntKind.u8 (c' : Int), Value.slice A0' zs'.length d0'], Value.pointer (some { block := w.heap.size, off := 0 }), Value.pointer (some { block := w.heap.size + 1, off := 0 }), Value.bool false, Value.pointer (some { block := g5, off := 0 }), Value.pointer (some { block := g5 + 1, off := 0 }), Value.pointer (some { block := g5 + 1 + 1, off := 0 }), ptr b.2.2, undef, undef, undef, undef, undef, undef, Value.bool true, Value.bool false, Value.tuple #[refV C A1 R c1, refV C' A2 C c2, refV C' A3 R c3], Value.agg #[Value.int IntKind.u8 (r : Int), Value.int IntKind.u8 (c : Int), Value.slice A0 zs.length d0], Value.agg #[Value.int IntKind.u8 (r' : Int), Value.int IntKind.u8 (c' : Int), Value.slice A0' zs'.length d0'], Value.tuple #[refV C A1 R c1, refV C' A2 C c2, refV C' A3 R c3], refV C A1 R c1, refV C' A2 C c2, refV C' A3 R c3, Value.agg #[Value.int IntKind.i64 (C : Int), Value.slice A1 R c1], ptr b.1, Value.agg #[Value.int IntKind.i64 (C' : Int), Value.slice A2 C c2], f 27, f 28, undef, undef, undef, undef, undef, undef, undef, undef, undef, undef, undef, undef, undef, undef, undef, undef, undef, undef, undef, undef, undef, undef, undef, undef, undef, undef, undef, undef, undef, undef, undef, undef, undef, undef, undef, undef, undef, undef, undef, undef, undef, undef, undef, undef, undef, undef, undef, undef, undef]) (fun b ds W => ds = [] ∧ Below w3.heap.size w3 W ∧ IsMat W b.1 C (nsOf C MA) ∧ Bo2 w3 W b.2.2) ?_ ?_
    · rintro ⟨q2, q3, gR⟩ f ds W ⟨rfl, b, T2, X9⟩
      try dsimp only at b T2 X9 ⊢
      refine m_s1 3 (by kernel_rfl) rfl ?_
      go_wp2_with fail
      refine (HM2.out _ b).mono ?_
      rintro e wn ⟨q3, rfl, T3, -, hb⟩
      have b := b.trans (hb.mono b.size)
      go_wp2_with fail
      refine m_keep b ?_
      (refine m_q 4 (v := ?_) (by kernel_rfl) rfl rfl (fun W hW => ?_) ?_; rotate_left; (go_simp; first | done | with_reducible rfl); simp only [Act.put, List.setIfInBounds_toArray, List.set_cons_zero, List.set_cons_succ])
      exact H2_5 ⟨q2, q3, gR⟩ _ _ _ (by kernel_rfl) rfl ⟨rfl, b, T2.below hb, T3, X9.below hb⟩
    intro H1_5
    refine m_join (β := Nat × Nat × Nat) #[true, true, true, false, false, false, false] 4 (fun b f => #[Value.agg #[Value.int IntKind.u8 (r : Int), Value.int IntKind.u8 (c : Int), Value.slice A0 zs.length d0], Value.agg #[Value.int IntKind.u8 (r' : Int), Value.int IntKind.u8 (c' : Int), Value.slice A0' zs'.length d0'], Value.pointer (some { block := w.heap.size, off := 0 }), Value.pointer (some { block := w.heap.size + 1, off := 0 }), Value.bool false, Value.pointer (some { block := g5, off := 0 }), Value.pointer (some { block := g5 + 1, off := 0 }), Value.pointer (some { block := g5 + 1 + 1, off := 0 }), f 8, undef, undef, undef, undef, undef, undef, Value.bool true, Value.bool false, Value.tuple #[refV C A1 R c1, refV C' A2 C c2, refV C' A3 R c3], Value.agg #[Value.int IntKind.u8 (r : Int), Value.int IntKind.u8 (c : Int), Value.slice A0 zs.length d0], Value.agg #[Value.int IntKind.u8 (r' : Int), Value.int IntKind.u8 (c' : Int), Value.slice A0' zs'.length d0'], Value.tuple #[refV C A1 R c1, refV C' A2 C c2, refV C' A3 R c3], refV C A1 R c1, refV C' A2 C c2, refV C' A3 R c3, Value.agg #[Value.int IntKind.i64 (C : Int), Value.slice A1 R c1], ptr b.1, Value.agg #[Value.int IntKind.i64 (C' : Int), Value.slice A2 C c2], f 27, f 28, undef, undef, undef, undef, undef, undef, undef, undef, undef, undef, undef, undef, undef, undef, undef, undef, undef, undef, undef, undef, undef, undef, undef, undef, undef, undef, undef, undef, undef, undef, undef, undef, undef, undef, undef, undef, undef, undef, undef, undef, undef, undef, undef, undef, undef, undef, undef, undef, undef]) (fun b ds W => ds = [] ∧ Below w3.heap.size w3 W ∧ IsMat W b.1 C (nsOf C MA)) ?_ ?_
    · rintro ⟨q2, q3, gR⟩ f ds W ⟨rfl, b, T2⟩
      try dsimp only at b T2 ⊢
      refine m_s2 3 5 (by kernel_rfl) rfl rfl ?_ ?_
      · go_wp2_with fail
        refine (HM2.out _ b).mono ?_
        rintro e wn ⟨q3, rfl, T3, -, hb⟩
        have b := b.trans (hb.mono b.size)
        go_wp2_with fail
        refine m_keep b ?_
        (refine m_q 4 (v := ?_) (by kernel_rfl) rfl rfl (fun W hW => ?_) ?_; rotate_left; (go_simp; first | done | with_reducible rfl); simp only [Act.put, List.setIfInBounds_toArray, List.set_cons_zero, List.set_cons_succ])
        exact H2_ ⟨q2, q3, 0⟩ _ _ _ (by kernel_rfl) rfl ⟨rfl, b, T2.below hb, T3⟩
      · go_wp2_with fail
        refine absN fun wn hB hb _ => ?_
        refine m_keep (b.trans (hb.mono b.size)) ?_
        exact H1_5 ⟨q2, 0, _⟩ _ _ _ (by kernel_rfl) rfl ⟨rfl, b.trans (hb.mono b.size), T2.below hb, .mk' hB b.size⟩
    intro H1_
    refine m_join (β := Nat × Nat × Nat) #[true, false, true, false, false, true, false] 4 (fun b f => #[Value.agg #[Value.int IntKind.u8 (r : Int), Value.int IntKind.u8 (c : Int), Value.slice A0 zs.length d0], Value.agg #[Value.int IntKind.u8 (r' : Int), Value.int IntKind.u8 (c' : Int), Value.slice A0' zs'.length d0'], Value.pointer (some { block := w.heap.size, off := 0 }), Value.pointer (some { block := w.heap.size + 1, off := 0 }), Value.bool false, Value.pointer (some { block := g5, off := 0 }), Value.pointer (some { block := g5 + 1, off := 0 }), Value.pointer (some { block := g5 + 1 + 1, off := 0 }), ptr b.2.2, undef, undef, undef, undef, undef, undef, Value.bool true, Value.bool false, Value.tuple #[refV C A1 R c1, refV C' A2 C c2, refV C' A3 R c3], Value.agg #[Value.int IntKind.u8 (r : Int), Value.int IntKind.u8 (c : Int), Value.slice A0 zs.length d0], Value.agg #[Value.int IntKind.u8 (r' : Int), Value.int IntKind.u8 (c' : Int), Value.slice A0' zs'.length d0'], Value.tuple #[refV C A1 R c1, refV C' A2 C c2, refV C' A3 R c3], refV C A1 R c1, refV C' A2 C c2, refV C' A3 R c3, Value.agg #[Value.int IntKind.i64 (C : Int), Value.slice A1 R c1], f 25, Value.agg #[Value.int IntKind.i64 (C' : Int), Value.slice A2 C c2], f 27, f 28, undef, undef, undef, undef, undef, undef, undef, undef, undef, undef, undef, undef, undef, undef, undef, undef, undef, undef, undef, undef, undef, undef, undef, undef, undef, undef, undef, undef, undef, undef, undef, undef, undef, undef, undef, undef, undef, undef, undef, undef, undef, undef, undef, undef, undef, undef, undef, undef, undef]) (fun b ds W => ds = [] ∧ Below w3.heap.size w3 W ∧ Bo2 w3 W b.2.2) ?_ ?_
    · rintro ⟨q2, q3, gR⟩ f ds W ⟨rfl, b, X9⟩
      try dsimp only at b X9 ⊢
      refine m_s1 1 (by kernel_rfl) rfl ?_
      go_wp2_with fail
      refine (HM1.out _ b).mono ?_
      rintro e wn ⟨q2, rfl, T2, -, hb⟩
      have b := b.trans (hb.mono b.size)
      go_wp2_with fail
      refine m_keep b ?_
      exact H1_5 ⟨q2, 0, gR⟩ _ _ _ (by kernel_rfl) rfl ⟨rfl, b, T2, X9.below hb⟩
    intro H0_5
    refine m_s2 1 5 (by kernel_rfl) rfl rfl ?_ ?_
    · go_wp2_with fail
      refine (HM1.out _ b).mono ?_
      rintro e wn ⟨q2, rfl, T2, -, hb⟩
      have b := b.trans (hb.mono b.size)
      go_wp2_with fail
      refine m_keep b ?_
      exact H1_ ⟨q2, 0, 0⟩ _ _ _ (by kernel_rfl) rfl ⟨rfl, b, T2⟩
    · go_wp2_with fail
      refine absN fun wn hB hb _ => ?_
      refine m_keep (b.trans (hb.mono b.size)) ?_
      exact H0_5 ⟨0, 0, _⟩ _ _ _ (by kernel_rfl) rfl ⟨rfl, b.trans (hb.mono b.size), .mk' hB b.size⟩
  case rest =>
    obtain ⟨q2, q3, gR, hsr, hBR, hm2, hm3, hb⟩ := hcut
    subst hsr
    have b4 := b3.trans (hb.mono b3.size)
    have hT4 := hT.below b4
    have k5 := h5.below hb h5.lt
    have k6 := h6.below hb h6.lt
    have k7 := h7.below hb h7.lt
    replace hy1 := hy1.below hb
    replace hy2 := hy2.below hb
    replace hy3 := hy3.below hb
    clear h5 h6 h7 hb b3 HM1 HM2 HM3
    have hR5 : R ≤ 5 := by omega
    have hC5 : C ≤ 5 := by omega
    have hC5' : C' ≤ 5 := by omega
    have hvp := valid_prod (C := C) (C' := C') (R := R) (MA := MA) (MB := MB) (MW := MW) (by omega) (by omega) HBL.out HAL.out HMW.out
    have hin2 := rowsIn_nsOf C MA (by omega)
    have hin3 := rowsIn_nsOf C' MB (by omega)
    obtain ⟨hrl1, hrl2⟩ := role_matU (K := C) (C := C') (R := R) (A := MA) (B := MB) (by omega) (by omega) HAL.out (by omega) HBL.out HAR.out HBR.out
    have hlA : (nsOf C MA).length = R := by rw [show (nsOf C MA).length = MA.length from nsTo_len ..]; exact HAL.out
    have hlB : (nsOf C' MB).length = C := by rw [show (nsOf C' MB).length = MB.length from nsTo_len ..]; exact HBL.out
    have hlW : (nsOf C' MW).length = R := by rw [show (nsOf C' MW).length = MW.length from nsTo_len ..]; exact HWL.out
    obtain ⟨NA, hNA⟩ : ∃ N, N = nsOf C MA := ⟨_, rfl⟩
    obtain ⟨NB, hNB⟩ : ∃ N, N = nsOf C' MB := ⟨_, rfl⟩
    rw [← hNA] at hvp hin2 hrl1 hrl2 hlA hm2
    rw [← hNB] at hvp hin3 hrl1 hrl2 hlB hm3
    have hwf := roleQ_wf (R := R) (C := C') (D := C) (Us := NA) (Ps := NB) hlA (by omega) hin3
    have hvr := valid_role (C := C') (Ns := nsOf C' MW) (D := C) (Us := NA) (Ps := NB) (by omega) hin2 hvp (by omega)
    rw [hlB] at hwf hvr
    have hLl := roleQ_len C NA NB C
    obtain ⟨L0, hL0⟩ : ∃ L, L = roleQ C NA NB C := ⟨_, rfl⟩
    rw [← hL0] at hrl1 hrl2 hwf hvr hLl
    obtain ⟨K, hK⟩ : ∃ K, K = normL L0 := ⟨_, rfl⟩
    have hKl : K.length ≤ 5 := by rw [hK]; exact Nat.le_trans (normL_len _) (by omega)
    have hKv : validQ C' (nsOf C' MW) K = true := by rw [hK]; exact valid_normL (by omega) hvr
    have hKw : WfQ R C' K := by rw [hK]; exact hwf.normL
    have hKa : K = normL K := by rw [hK]; exact (normL_again L0).symm
    have hsi := normal_any q2 q3 C C' NA NB K wc hm2 hm3 hin3 (by omega) (by omega) (by omega) hlB.symm hT4 (by rw [hlB, ← hL0]; exact hK)
    rw [hlA] at hsi
    have HS := hideC hsi
    have hpk := normL_pick (L := L0) (K := C) hLl
    rw [← hK] at hpk
    have hxl := congrArg List.length hpk
    rw [List.length_map] at hxl
    obtain ⟨xs, hxs⟩ : ∃ xs, xs = normI (atQ L0) C := ⟨_, rfl⟩
    rw [← hxs] at hpk hxl
    have hxlt : ∀ x ∈ xs, x < C := by rw [hxs]; exact normI_lt _ _
    have HNR := Lib.hid (fun V (e2 : YRef V C A1 c1 MA) (e3 : YRef V C' A2 c2 MB) => by
      have q := normal48_any R C' C A1 A2 c1 c2 L0 V (by rw [hrl1]; exact e2.ref) (by rw [hrl2]; exact e3.ref) hwf hLl
      rw [← hxs, hxl] at q
      exact q)
    have HPI := Lib.hid (fun V Ak ck (e2 : YRef V C A1 c1 MA) (e3 : YRef V C' A2 c2 MB) (hr : Row V Ak (xs.map i64)) => by
      have q := pick48_any R C' C A1 A2 Ak c1 c2 ck L0 xs V (by rw [hrl1]; exact e2) (by rw [hrl2]; exact e3) hLl hxlt (by omega) hr
      rw [hpk, hxl] at q
      exact q)
    have HK := Lib.hid hK; have HKV := Lib.hid hKv; have HKW := Lib.hid hKw; have HKA := Lib.hid hKa; have HLW := Lib.hid hlW
    clear hsi hKv hKw hKa hLl hNA hNB hrl1 hrl2 hwf hvr hvp hin2 hin3 hlA hlB hlW hm2 hm3 hL0 hK hpk hxl hxs hxlt
    have r0 := hBR.cell 0
    have r1 := hBR.cell 1
    go_wp2_with fail
    with_reducible refine HS.out.mono ?_
    rintro e w5 ⟨u5, p5, rfl, hu5, hp5, hb5⟩
    have b5 := b4.trans (hb5.mono b4.size)
    clear HS r0 r1 hBR
    go_upto_region 6 with fail
    refine abs1 fun w6 h9 hb6 hz => ?_
    clear hz
    obtain ⟨g9, hg9⟩ : ∃ x, x = w5.heap.size := ⟨_, rfl⟩
    rw [← hg9] at h9 ⊢
    clear hg9
    have hb56 := hb5.trans (hb6.mono hb5.size)
    have b6 := b5.trans (hb6.mono b5.size)
    replace k5 := k5.below hb56 k5.lt
    replace k6 := k6.below hb56 k6.lt
    replace k7 := k7.below hb56 k7.lt
    replace hy1 := hy1.below hb56
    replace hy2 := hy2.below hb56
    replace hy3 := hy3.below hb56
    replace hu5 := hu5.below hb6
    replace hp5 := hp5.below hb6
    clear hb5 hb6 hb56 b4 b5
    have HN6 := Lib.hid (fun V (hb : Below w6.heap.size w6 V) => HNR.out V (hy1.below hb) (hy2.below hb))
    have HP6 := Lib.hid (fun V Ak ck (hb : Below w6.heap.size w6 V) (hr : Row V Ak (xs.map i64)) => HPI.out V Ak ck (hy1.below hb) (hy2.below hb) hr)
    clear HNR HPI
    have l1 := matU_len R K
    have l2 := matP_len C' K
    obtain ⟨M1, hM1⟩ : ∃ U, U = matU R K := ⟨_, rfl⟩
    obtain ⟨M2, hM2⟩ : ∃ U, U = matP C' K := ⟨_, rfl⟩
    rw [← hM1, ← hM2] at HP6
    rw [← hM1] at l1
    rw [← hM2] at l2
    have HM1 := Lib.hid hM1; have HM2 := Lib.hid hM2
    clear hM1 hM2
    go_upto_region 8 with fail
    go_cut [11, 12] (fun s11 s12 wx => ∃ (g11 g12 : Nat) (B1 B2 : Option Addr) (d1 d2 : Nat), s11 = ptr g11 ∧ s12 = ptr g12 ∧ Blk wx g11 28 #[.int .i64 (K.length : Int), .slice B1 R d1] ∧ Blk wx g12 28 #[.int .i64 (C' : Int), .slice B2 K.length d2] ∧ YRef wx K.length B1 d1 M1 ∧ YRef wx C' B2 d2 M2 ∧ Below w6.heap.size w6 wx)
    case first =>
      have x0 := k5.cell 0
      have x1 := k5.cell 1
      have y0 := k6.cell 0
      have y1 := k6.cell 1
      refine wp_mix (fun V => Below w6.heap.size w6 V) 13 (by kernel_rfl) (by kernel_rfl) (Below.refl _ _).drew ?_
      have b := (Below.refl w6.heap.size w6).drew
      obtain ⟨W, hWW⟩ : ∃ V, V = w6.drew := ⟨_, rfl⟩
      rw [← hWW] at b ⊢
      clear hWW
      (refine m_q 0 (v := ?_) (by kernel_rfl) rfl rfl (fun W hW => ?_) ?_; rotate_left; (have a0 := onB hW x0; have a1 := onB hW x1; have a2 := onB hW y0; have a3 := onB hW y1; go_simp; first | done | with_reducible rfl); simp only [Act.put, List.setIfInBounds_toArray, List.set_cons_zero, List.set_cons_succ]); (refine m_q 1 (v := ?_) (by kernel_rfl) rfl rfl (fun W hW => ?_) ?_; rotate_left; (have a0 := onB hW x0; have a1 := onB hW x1; have a2 := onB hW y0; have a3 := onB hW y1; go_simp; first | done | with_reducible rfl); simp only [Act.put, List.setIfInBounds_toArray, List.set_cons_zero, List.set_cons_succ]); (refine m_q 2 (v := ?_) (by kernel_rfl) rfl rfl (fun W hW => ?_) ?_; rotate_left; (have a0 := onB hW x0; have a1 := onB hW x1; have a2 := onB hW y0; have a3 := onB hW y1; go_simp; first | done | with_reducible rfl); simp only [Act.put, List.setIfInBounds_toArray, List.set_cons_zero, List.set_cons_succ]); (refine m_q 3 (v := ?_) (by kernel_rfl) rfl rfl (fun W hW => ?_) ?_; rotate_left; (have a0 := onB hW x0; have a1 := onB hW x1; have a2 := onB hW y0; have a3 := onB hW y1; go_simp; first | done | with_reducible rfl); simp only [Act.put, List.setIfInBounds_toArray, List.set_cons_zero, List.set_cons_succ])
      clear x0 x1 y0 y1
      refine m_join (β := Option Addr × Nat × Option Addr × Nat × Option Addr × Nat × Nat × Nat) #[true, true, true, true, true, true, true, true, true, true, true, false, false] 2 (fun b f => #[Value.agg #[Value.int IntKind.u8 (r : Int), Value.int IntKind.u8 (c : Int), Value.slice A0 zs.length d0], Value.agg #[Value.int IntKind.u8 (r' : Int), Value.int IntKind.u8 (c' : Int), Value.slice A0' zs'.length d0'], Value.pointer (some { block := w.heap.size, off := 0 }), Value.pointer (some { block := w.heap.size + 1, off := 0 }), Value.bool false, Value.pointer (some { block := g5, off := 0 }), Value.pointer (some { block := g5 + 1, off := 0 }), Value.pointer (some { block := g5 + 1 + 1, off := 0 }), ptr gR, Value.pointer (some { block := g9, off := 0 }), Value.int IntKind.i64 0, ptr b.2.2.2.2.2.2.1, ptr b.2.2.2.2.2.2.2, undef, undef, u15, u16, u17, u18, u19, u20, u21, u22, u23, u24, u25, u26, u27, u28, Value.tuple #[Value.agg #[ptr u5, ptr p5], Value.int IntKind.i64 0], Value.agg #[ptr q2, ptr q3], Value.tuple #[Value.agg #[ptr u5, ptr p5], Value.int IntKind.i64 0], Value.agg #[ptr u5, ptr p5], Value.int IntKind.i64 0, Value.int IntKind.i64 0, Value.bool false, .tuple #[refV K.length b.2.2.1 R b.2.2.2.1, refV C' b.2.2.2.2.1 K.length b.2.2.2.2.2.1], Value.agg #[Value.int IntKind.i64 (C : Int), Value.slice A1 R c1], Value.agg #[Value.int IntKind.i64 (C' : Int), Value.slice A2 C c2], Value.agg #[Value.int IntKind.i64 (C : Int), Value.slice A1 R c1], Value.agg #[Value.int IntKind.i64 (C' : Int), Value.slice A2 C c2], .slice b.1 K.length b.2.1, .tuple #[refV K.length b.2.2.1 R b.2.2.2.1, refV C' b.2.2.2.2.1 K.length b.2.2.2.2.2.1], refV K.length b.2.2.1 R b.2.2.2.1, refV C' b.2.2.2.2.1 K.length b.2.2.2.2.2.1, u45, u46, u47, u48, u49, u50, u51, u52, u53, u54, u55, u56, u57, u58, u59, u60, u61, u62, u63, u64, u65, u66, u67, u68, u69, u70, u71, u72, u73, u74, u75, u76, u77]) (fun b ds W => ds = [] ∧ Below w6.heap.size w6 W ∧ Row W b.1 (xs.map i64) ∧ YRef W K.length b.2.2.1 b.2.2.2.1 M1 ∧ YRef W C' b.2.2.2.2.1 b.2.2.2.2.2.1 M2 ∧ Bo1 w6 W b.2.2.2.2.2.2.1 (.int .i64 0) (.slice none 0 0) ∧ Bo1 w6 W b.2.2.2.2.2.2.2 (.int .i64 0) (.slice none 0 0) ∧ b.2.2.2.2.2.2.1 ≠ b.2.2.2.2.2.2.2) ?_ ?_
      · rintro ⟨Ak, ck, B1, d1, B2, d2, g11, g12⟩ f ds W ⟨rfl, b, K1, T1, T2, X11, X12, ng11g12⟩
        try dsimp only at b K1 T1 T2 X11 X12 ng11g12 ⊢
        have e0 := X11.1.cell 0; have e1 := X11.1.cell 1; have f0 := X11.1.frozen 0; have f1 := X11.1.frozen 1; have lg := X11.lt
        have t1 := YRef.st2 T1 X11.1 (.int .i64 (K.length : Int)) (.slice B1 R d1); have t2 := YRef.st2 T2 X11.1 (.int .i64 (K.length : Int)) (.slice B1 R d1)
        have bb := X11.base b (.int .i64 (K.length : Int)) (.slice B1 R d1); have p := X11.put (.int .i64 (K.length : Int)) (.slice B1 R d1)
        have o := X12.far (Ne.symm ng11g12) (.int .i64 (K.length : Int)) (.slice B1 R d1)
        clear T1 T2 b
        refine m_s1 11 (by kernel_rfl) rfl ?_
        go_wp2_with fail
        refine m_keep (W := st2 W g11 (.int .i64 (K.length : Int)) (.slice B1 R d1)) bb ?_
        obtain ⟨Wa, hW2⟩ : ∃ V, V = st2 W g11 (.int .i64 (K.length : Int)) (.slice B1 R d1) := ⟨_, rfl⟩
        rw [← hW2] at t1 t2 bb p o ⊢
        clear hW2 e0 e1 f0 f1 lg X11 X12
        have T1 := t1; have T2 := t2; have b := bb; have X11 := p; have X12 := o
        clear t1 t2 bb p o
        have e0 := X12.1.cell 0; have e1 := X12.1.cell 1; have f0 := X12.1.frozen 0; have f1 := X12.1.frozen 1; have lg := X12.lt
        have t1 := YRef.st2 T1 X12.1 (.int .i64 (C' : Int)) (.slice B2 K.length d2); have t2 := YRef.st2 T2 X12.1 (.int .i64 (C' : Int)) (.slice B2 K.length d2)
        have bb := X12.base b (.int .i64 (C' : Int)) (.slice B2 K.length d2); have p := X12.put (.int .i64 (C' : Int)) (.slice B2 K.length d2)
        have o := X11.far ng11g12 (.int .i64 (C' : Int)) (.slice B2 K.length d2)
        clear T1 T2 b
        refine m_s1 12 (by kernel_rfl) rfl ?_
        go_wp2_with fail
        refine m_keep (W := st2 Wa g12 (.int .i64 (C' : Int)) (.slice B2 K.length d2)) bb ?_
        obtain ⟨Wb, hW2⟩ : ∃ V, V = st2 Wa g12 (.int .i64 (C' : Int)) (.slice B2 K.length d2) := ⟨_, rfl⟩
        rw [← hW2] at t1 t2 bb p o ⊢
        clear hW2 e0 e1 f0 f1 lg X11 X12
        have T1 := t1; have T2 := t2; have b := bb; have X12 := p; have X11 := o
        clear t1 t2 bb p o
        refine m_end (by kernel_rfl) ?_
        go_wp2_with fail
        go_meet
        exact ⟨g11, g12, B1, B2, d1, d2, rfl, rfl, X11.1, X12.1, T1, T2, b⟩
      intro H2_910
      refine m_join (β := Option Addr × Nat × Option Addr × Nat × Option Addr × Nat × Nat × Nat) #[true, true, true, true, true, true, true, true, true, true, false, false, false] 3 (fun b f => #[Value.agg #[Value.int IntKind.u8 (r : Int), Value.int IntKind.u8 (c : Int), Value.slice A0 zs.length d0], Value.agg #[Value.int IntKind.u8 (r' : Int), Value.int IntKind.u8 (c' : Int), Value.slice A0' zs'.length d0'], Value.pointer (some { block := w.heap.size, off := 0 }), Value.pointer (some { block := w.heap.size + 1, off := 0 }), Value.bool false, Value.pointer (some { block := g5, off := 0 }), Value.pointer (some { block := g5 + 1, off := 0 }), Value.pointer (some { block := g5 + 1 + 1, off := 0 }), ptr gR, Value.pointer (some { block := g9, off := 0 }), Value.int IntKind.i64 0, ptr b.2.2.2.2.2.2.1, f 12, undef, undef, u15, u16, u17, u18, u19, u20, u21, u22, u23, u24, u25, u26, u27, u28, Value.tuple #[Value.agg #[ptr u5, ptr p5], Value.int IntKind.i64 0], Value.agg #[ptr q2, ptr q3], Value.tuple #[Value.agg #[ptr u5, ptr p5], Value.int IntKind.i64 0], Value.agg #[ptr u5, ptr p5], Value.int IntKind.i64 0, Value.int IntKind.i64 0, Value.bool false, .tuple #[refV K.length b.2.2.1 R b.2.2.2.1, refV C' b.2.2.2.2.1 K.length b.2.2.2.2.2.1], Value.agg #[Value.int IntKind.i64 (C : Int), Value.slice A1 R c1], Value.agg #[Value.int IntKind.i64 (C' : Int), Value.slice A2 C c2], Value.agg #[Value.int IntKind.i64 (C : Int), Value.slice A1 R c1], Value.agg #[Value.int IntKind.i64 (C' : Int), Value.slice A2 C c2], .slice b.1 K.length b.2.1, .tuple #[refV K.length b.2.2.1 R b.2.2.2.1, refV C' b.2.2.2.2.1 K.length b.2.2.2.2.2.1], refV K.length b.2.2.1 R b.2.2.2.1, refV C' b.2.2.2.2.1 K.length b.2.2.2.2.2.1, u45, u46, u47, u48, u49, u50, u51, u52, u53, u54, u55, u56, u57, u58, u59, u60, u61, u62, u63, u64, u65, u66, u67, u68, u69, u70, u71, u72, u73, u74, u75, u76, u77]) (fun b ds W => ds = [] ∧ Below w6.heap.size w6 W ∧ Row W b.1 (xs.map i64) ∧ YRef W K.length b.2.2.1 b.2.2.2.1 M1 ∧ YRef W C' b.2.2.2.2.1 b.2.2.2.2.2.1 M2 ∧ Bo1 w6 W b.2.2.2.2.2.2.1 (.int .i64 0) (.slice none 0 0)) ?_ ?_
      · rintro ⟨Ak, ck, B1, d1, B2, d2, g11, g12⟩ f ds W ⟨rfl, b, K1, T1, T2, X11⟩
        try dsimp only at b K1 T1 T2 X11 ⊢
        refine m_s1 10 (by kernel_rfl) rfl ?_
        go_wp2_with fail
        refine absN fun wn hB hb _ => ?_
        refine m_keep (b.trans (hb.mono b.size)) ?_
        exact H2_910 ⟨Ak, ck, B1, d1, B2, d2, g11, _⟩ _ _ _ (by kernel_rfl) rfl ⟨rfl, b.trans (hb.mono b.size), K1.below hb, T1.below hb, T2.below hb, X11.below hb, .mk' hB b.size, Nat.ne_of_lt X11.lt⟩
      intro H2_9
      refine m_join (β := Option Addr × Nat × Option Addr × Nat × Option Addr × Nat × Nat × Nat) #[true, true, true, true, true, true, true, true, true, false, true, false, false] 3 (fun b f => #[Value.agg #[Value.int IntKind.u8 (r : Int), Value.int IntKind.u8 (c : Int), Value.slice A0 zs.length d0], Value.agg #[Value.int IntKind.u8 (r' : Int), Value.int IntKind.u8 (c' : Int), Value.slice A0' zs'.length d0'], Value.pointer (some { block := w.heap.size, off := 0 }), Value.pointer (some { block := w.heap.size + 1, off := 0 }), Value.bool false, Value.pointer (some { block := g5, off := 0 }), Value.pointer (some { block := g5 + 1, off := 0 }), Value.pointer (some { block := g5 + 1 + 1, off := 0 }), ptr gR, Value.pointer (some { block := g9, off := 0 }), Value.int IntKind.i64 0, f 11, ptr b.2.2.2.2.2.2.2, undef, undef, u15, u16, u17, u18, u19, u20, u21, u22, u23, u24, u25, u26, u27, u28, Value.tuple #[Value.agg #[ptr u5, ptr p5], Value.int IntKind.i64 0], Value.agg #[ptr q2, ptr q3], Value.tuple #[Value.agg #[ptr u5, ptr p5], Value.int IntKind.i64 0], Value.agg #[ptr u5, ptr p5], Value.int IntKind.i64 0, Value.int IntKind.i64 0, Value.bool false, .tuple #[refV K.length b.2.2.1 R b.2.2.2.1, refV C' b.2.2.2.2.1 K.length b.2.2.2.2.2.1], Value.agg #[Value.int IntKind.i64 (C : Int), Value.slice A1 R c1], Value.agg #[Value.int IntKind.i64 (C' : Int), Value.slice A2 C c2], Value.agg #[Value.int IntKind.i64 (C : Int), Value.slice A1 R c1], Value.agg #[Value.int IntKind.i64 (C' : Int), Value.slice A2 C c2], .slice b.1 K.length b.2.1, .tuple #[refV K.length b.2.2.1 R b.2.2.2.1, refV C' b.2.2.2.2.1 K.length b.2.2.2.2.2.1], refV K.length b.2.2.1 R b.2.2.2.1, refV C' b.2.2.2.2.1 K.length b.2.2.2.2.2.1, u45, u46, u47, u48, u49, u50, u51, u52, u53, u54, u55, u56, u57, u58, u59, u60, u61, u62, u63, u64, u65, u66, u67, u68, u69, u70, u71, u72, u73, u74, u75, u76, u77]) (fun b ds W => ds = [] ∧ Below w6.heap.size w6 W ∧ Row W b.1 (xs.map i64) ∧ YRef W K.length b.2.2.1 b.2.2.2.1 M1 ∧ YRef W C' b.2.2.2.2.1 b.2.2.2.2.2.1 M2 ∧ Bo1 w6 W b.2.2.2.2.2.2.2 (.int .i64 0) (.slice none 0 0)) ?_ ?_
      · rintro ⟨Ak, ck, B1, d1, B2, d2, g11, g12⟩ f ds W ⟨rfl, b, K1, T1, T2, X12⟩
        try dsimp only at b K1 T1 T2 X12 ⊢
        refine m_s1 9 (by kernel_rfl) rfl ?_
        go_wp2_with fail
        refine absN fun wn hB hb _ => ?_
        refine m_keep (b.trans (hb.mono b.size)) ?_
        exact H2_910 ⟨Ak, ck, B1, d1, B2, d2, _, g12⟩ _ _ _ (by kernel_rfl) rfl ⟨rfl, b.trans (hb.mono b.size), K1.below hb, T1.below hb, T2.below hb, .mk' hB b.size, X12.below hb, Nat.ne_of_gt X12.lt⟩
      intro H2_10
      refine m_join (β := Option Addr × Nat × Option Addr × Nat × Option Addr × Nat × Nat × Nat) #[true, true, true, true, true, false, false, false, false, true, true, false, false] 6 (fun b f => #[Value.agg #[Value.int IntKind.u8 (r : Int), Value.int IntKind.u8 (c : Int), Value.slice A0 zs.length d0], Value.agg #[Value.int IntKind.u8 (r' : Int), Value.int IntKind.u8 (c' : Int), Value.slice A0' zs'.length d0'], Value.pointer (some { block := w.heap.size, off := 0 }), Value.pointer (some { block := w.heap.size + 1, off := 0 }), Value.bool false, Value.pointer (some { block := g5, off := 0 }), Value.pointer (some { block := g5 + 1, off := 0 }), Value.pointer (some { block := g5 + 1 + 1, off := 0 }), ptr gR, Value.pointer (some { block := g9, off := 0 }), Value.int IntKind.i64 0, ptr b.2.2.2.2.2.2.1, ptr b.2.2.2.2.2.2.2, undef, undef, u15, u16, u17, u18, u19, u20, u21, u22, u23, u24, u25, u26, u27, u28, Value.tuple #[Value.agg #[ptr u5, ptr p5], Value.int IntKind.i64 0], Value.agg #[ptr q2, ptr q3], Value.tuple #[Value.agg #[ptr u5, ptr p5], Value.int IntKind.i64 0], Value.agg #[ptr u5, ptr p5], Value.int IntKind.i64 0, Value.int IntKind.i64 0, Value.bool false, f 36, Value.agg #[Value.int IntKind.i64 (C : Int), Value.slice A1 R c1], Value.agg #[Value.int IntKind.i64 (C' : Int), Value.slice A2 C c2], Value.agg #[Value.int IntKind.i64 (C : Int), Value.slice A1 R c1], Value.agg #[Value.int IntKind.i64 (C' : Int), Value.slice A2 C c2], .slice b.1 K.length b.2.1, f 42, f 43, f 44, u45, u46, u47, u48, u49, u50, u51, u52, u53, u54, u55, u56, u57, u58, u59, u60, u61, u62, u63, u64, u65, u66, u67, u68, u69, u70, u71, u72, u73, u74, u75, u76, u77]) (fun b ds W => ds = [] ∧ Below w6.heap.size w6 W ∧ Row W b.1 (xs.map i64) ∧ Bo1 w6 W b.2.2.2.2.2.2.1 (.int .i64 0) (.slice none 0 0) ∧ Bo1 w6 W b.2.2.2.2.2.2.2 (.int .i64 0) (.slice none 0 0) ∧ b.2.2.2.2.2.2.1 ≠ b.2.2.2.2.2.2.2) ?_ ?_
      · rintro ⟨Ak, ck, B1, d1, B2, d2, g11, g12⟩ f ds W ⟨rfl, b, K1, X11, X12, ng11g12⟩
        try dsimp only at b K1 X11 X12 ng11g12 ⊢
        refine m_s1 5 (by kernel_rfl) rfl ?_
        go_wp2_with fail
        refine (HP6.out _ Ak ck b K1).mono ?_
        rintro e wn ⟨B1, d1, B2, d2, rfl, T1, T2, hb⟩
        have b := b.trans (hb.mono b.size)
        go_wp2_with fail
        refine m_keep b ?_
        (refine m_q 6 (v := ?_) (by kernel_rfl) rfl rfl (fun W hW => ?_) ?_; rotate_left; (go_simp; first | done | with_reducible rfl); simp only [Act.put, List.setIfInBounds_toArray, List.set_cons_zero, List.set_cons_succ]); (refine m_q 7 (v := ?_) (by kernel_rfl) rfl rfl (fun W hW => ?_) ?_; rotate_left; (go_simp; first | done | with_reducible rfl); simp only [Act.put, List.setIfInBounds_toArray, List.set_cons_zero, List.set_cons_succ]); (refine m_q 8 (v := ?_) (by kernel_rfl) rfl rfl (fun W hW => ?_) ?_; rotate_left; (go_simp; first | done | with_reducible rfl); simp only [Act.put, List.setIfInBounds_toArray, List.set_cons_zero, List.set_cons_succ])
        exact H2_910 ⟨Ak, ck, B1, d1, B2, d2, g11, g12⟩ _ _ _ (by kernel_rfl) rfl ⟨rfl, b, K1.below hb, T1, T2, X11.below hb, X12.below hb, ng11g12⟩
      intro H1_910
      refine m_join (β := Option Addr × Nat × Option Addr × Nat × Option Addr × Nat × Nat × Nat) #[true, true, true, true, true, true, true, true, true, false, false, false, false] 4 (fun b f => #[Value.agg #[Value.int IntKind.u8 (r : Int), Value.int IntKind.u8 (c : Int), Value.slice A0 zs.length d0], Value.agg #[Value.int IntKind.u8 (r' : Int), Value.int IntKind.u8 (c' : Int), Value.slice A0' zs'.length d0'], Value.pointer (some { block := w.heap.size, off := 0 }), Value.pointer (some { block := w.heap.size + 1, off := 0 }), Value.bool false, Value.pointer (some { block := g5, off := 0 }), Value.pointer (some { block := g5 + 1, off := 0 }), Value.pointer (some { block := g5 + 1 + 1, off := 0 }), ptr gR, Value.pointer (some { block := g9, off := 0 }), Value.int IntKind.i64 0, f 11, f 12, undef, undef, u15, u16, u17, u18, u19, u20, u21, u22, u23, u24, u25, u26, u27, u28, Value.tuple #[Value.agg #[ptr u5, ptr p5], Value.int IntKind.i64 0], Value.agg #[ptr q2, ptr q3], Value.tuple #[Value.agg #[ptr u5, ptr p5], Value.int IntKind.i64 0], Value.agg #[ptr u5, ptr p5], Value.int IntKind.i64 0, Value.int IntKind.i64 0, Value.bool false, .tuple #[refV K.length b.2.2.1 R b.2.2.2.1, refV C' b.2.2.2.2.1 K.length b.2.2.2.2.2.1], Value.agg #[Value.int IntKind.i64 (C : Int), Value.slice A1 R c1], Value.agg #[Value.int IntKind.i64 (C' : Int), Value.slice A2 C c2], Value.agg #[Value.int IntKind.i64 (C : Int), Value.slice A1 R c1], Value.agg #[Value.int IntKind.i64 (C' : Int), Value.slice A2 C c2], .slice b.1 K.length b.2.1, .tuple #[refV K.length b.2.2.1 R b.2.2.2.1, refV C' b.2.2.2.2.1 K.length b.2.2.2.2.2.1], refV K.length b.2.2.1 R b.2.2.2.1, refV C' b.2.2.2.2.1 K.length b.2.2.2.2.2.1, u45, u46, u47, u48, u49, u50, u51, u52, u53, u54, u55, u56, u57, u58, u59, u60, u61, u62, u63, u64, u65, u66, u67, u68, u69, u70, u71, u72, u73, u74, u75, u76, u77]) (fun b ds W => ds = [] ∧ Below w6.heap.size w6 W ∧ Row W b.1 (xs.map i64) ∧ YRef W K.length b.2.2.1 b.2.2.2.1 M1 ∧ YRef W C' b.2.2.2.2.1 b.2.2.2.2.2.1 M2) ?_ ?_
      · rintro ⟨Ak, ck, B1, d1, B2, d2, g11, g12⟩ f ds W ⟨rfl, b, K1, T1, T2⟩
        try dsimp only at b K1 T1 T2 ⊢
        refine m_s2 9 10 (by kernel_rfl) rfl rfl ?_ ?_
        · go_wp2_with fail
          refine absN fun wn hB hb _ => ?_
          refine m_keep (b.trans (hb.mono b.size)) ?_
          exact H2_9 ⟨Ak, ck, B1, d1, B2, d2, _, 0⟩ _ _ _ (by kernel_rfl) rfl ⟨rfl, b.trans (hb.mono b.size), K1.below hb, T1.below hb, T2.below hb, .mk' hB b.size⟩
        · go_wp2_with fail
          refine absN fun wn hB hb _ => ?_
          refine m_keep (b.trans (hb.mono b.size)) ?_
          exact H2_10 ⟨Ak, ck, B1, d1, B2, d2, 0, _⟩ _ _ _ (by kernel_rfl) rfl ⟨rfl, b.trans (hb.mono b.size), K1.below hb, T1.below hb, T2.below hb, .mk' hB b.size⟩
      intro H2_
      refine m_join (β := Option Addr × Nat × Option Addr × Nat × Option Addr × Nat × Nat × Nat) #[true, true, true, true, true, false, false, false, false, true, false, false, false] 7 (fun b f => #[Value.agg #[Value.int IntKind.u8 (r : Int), Value.int IntKind.u8 (c : Int), Value.slice A0 zs.length d0], Value.agg #[Value.int IntKind.u8 (r' : Int), Value.int IntKind.u8 (c' : Int), Value.slice A0' zs'.length d0'], Value.pointer (some { block := w.heap.size, off := 0 }), Value.pointer (some { block := w.heap.size + 1, off := 0 }), Value.bool false, Value.pointer (some { block := g5, off := 0 }), Value.pointer (some { block := g5 + 1, off := 0 }), Value.pointer (some { block := g5 + 1 + 1, off := 0 }), ptr gR, Value.pointer (some { block := g9, off := 0 }), Value.int IntKind.i64 0, ptr b.2.2.2.2.2.2.1, f 12, undef, undef, u15, u16, u17, u18, u19, u20, u21, u22, u23, u24, u25, u26, u27, u28, Value.tuple #[Value.agg #[ptr u5, ptr p5], Value.int IntKind.i64 0], Value.agg #[ptr q2, ptr q3], Value.tuple #[Value.agg #[ptr u5, ptr p5], Value.int IntKind.i64 0], Value.agg #[ptr u5, ptr p5], Value.int IntKind.i64 0, Value.int IntKind.i64 0, Value.bool false, f 36, Value.agg #[Value.int IntKind.i64 (C : Int), Value.slice A1 R c1], Value.agg #[Value.int IntKind.i64 (C' : Int), Value.slice A2 C c2], Value.agg #[Value.int IntKind.i64 (C : Int), Value.slice A1 R c1], Value.agg #[Value.int IntKind.i64 (C' : Int), Value.slice A2 C c2], .slice b.1 K.length b.2.1, f 42, f 43, f 44, u45, u46, u47, u48, u49, u50, u51, u52, u53, u54, u55, u56, u57, u58, u59, u60, u61, u62, u63, u64, u65, u66, u67, u68, u69, u70, u71, u72, u73, u74, u75, u76, u77]) (fun b ds W => ds = [] ∧ Below w6.heap.size w6 W ∧ Row W b.1 (xs.map i64) ∧ Bo1 w6 W b.2.2.2.2.2.2.1 (.int .i64 0) (.slice none 0 0)) ?_ ?_
      · rintro ⟨Ak, ck, B1, d1, B2, d2, g11, g12⟩ f ds W ⟨rfl, b, K1, X11⟩
        try dsimp only at b K1 X11 ⊢
        refine m_s2 5 10 (by kernel_rfl) rfl rfl ?_ ?_
        · go_wp2_with fail
          refine (HP6.out _ Ak ck b K1).mono ?_
          rintro e wn ⟨B1, d1, B2, d2, rfl, T1, T2, hb⟩
          have b := b.trans (hb.mono b.size)
          go_wp2_with fail
          refine m_keep b ?_
          (refine m_q 6 (v := ?_) (by kernel_rfl) rfl rfl (fun W hW => ?_) ?_; rotate_left; (go_simp; first | done | with_reducible rfl); simp only [Act.put, List.setIfInBounds_toArray, List.set_cons_zero, List.set_cons_succ]); (refine m_q 7 (v := ?_) (by kernel_rfl) rfl rfl (fun W hW => ?_) ?_; rotate_left; (go_simp; first | done | with_reducible rfl); simp only [Act.put, List.setIfInBounds_toArray, List.set_cons_zero, List.set_cons_succ]); (refine m_q 8 (v := ?_) (by kernel_rfl) rfl rfl (fun W hW => ?_) ?_; rotate_left; (go_simp; first | done | with_reducible rfl); simp only [Act.put, List.setIfInBounds_toArray, List.set_cons_zero, List.set_cons_succ])
          exact H2_9 ⟨Ak, ck, B1, d1, B2, d2, g11, 0⟩ _ _ _ (by kernel_rfl) rfl ⟨rfl, b, K1.below hb, T1, T2, X11.below hb⟩
        · go_wp2_with fail
          refine absN fun wn hB hb _ => ?_
          refine m_keep (b.trans (hb.mono b.size)) ?_
          exact H1_910 ⟨Ak, ck, none, 0, none, 0, g11, _⟩ _ _ _ (by kernel_rfl) rfl ⟨rfl, b.trans (hb.mono b.size), K1.below hb, X11.below hb, .mk' hB b.size, Nat.ne_of_lt X11.lt⟩
      intro H1_9
      refine m_join (β := Option Addr × Nat × Option Addr × Nat × Option Addr × Nat × Nat × Nat) #[true, true, true, true, true, false, false, false, false, false, true, false, false] 7 (fun b f => #[Value.agg #[Value.int IntKind.u8 (r : Int), Value.int IntKind.u8 (c : Int), Value.slice A0 zs.length d0], Value.agg #[Value.int IntKind.u8 (r' : Int), Value.int IntKind.u8 (c' : Int), Value.slice A0' zs'.length d0'], Value.pointer (some { block := w.heap.size, off := 0 }), Value.pointer (some { block := w.heap.size + 1, off := 0 }), Value.bool false, Value.pointer (some { block := g5, off := 0 }), Value.pointer (some { block := g5 + 1, off := 0 }), Value.pointer (some { block := g5 + 1 + 1, off := 0 }), ptr gR, Value.pointer (some { block := g9, off := 0 }), Value.int IntKind.i64 0, f 11, ptr b.2.2.2.2.2.2.2, undef, undef, u15, u16, u17, u18, u19, u20, u21, u22, u23, u24, u25, u26, u27, u28, Value.tuple #[Value.agg #[ptr u5, ptr p5], Value.int IntKind.i64 0], Value.agg #[ptr q2, ptr q3], Value.tuple #[Value.agg #[ptr u5, ptr p5], Value.int IntKind.i64 0], Value.agg #[ptr u5, ptr p5], Value.int IntKind.i64 0, Value.int IntKind.i64 0, Value.bool false, f 36, Value.agg #[Value.int IntKind.i64 (C : Int), Value.slice A1 R c1], Value.agg #[Value.int IntKind.i64 (C' : Int), Value.slice A2 C c2], Value.agg #[Value.int IntKind.i64 (C : Int), Value.slice A1 R c1], Value.agg #[Value.int IntKind.i64 (C' : Int), Value.slice A2 C c2], .slice b.1 K.length b.2.1, f 42, f 43, f 44, u45, u46, u47, u48, u49, u50, u51, u52, u53, u54, u55, u56, u57, u58, u59, u60, u61, u62, u63, u64, u65, u66, u67, u68, u69, u70, u71, u72, u73, u74, u75, u76, u77]) (fun b ds W => ds = [] ∧ Below w6.heap.size w6 W ∧ Row W b.1 (xs.map i64) ∧ Bo1 w6 W b.2.2.2.2.2.2.2 (.int .i64 0) (.slice none 0 0)) ?_ ?_
      · rintro ⟨Ak, ck, B1, d1, B2, d2, g11, g12⟩ f ds W ⟨rfl, b, K1, X12⟩
        try dsimp only at b K1 X12 ⊢
        refine m_s2 5 9 (by kernel_rfl) rfl rfl ?_ ?_
        · go_wp2_with fail
          refine (HP6.out _ Ak ck b K1).mono ?_
          rintro e wn ⟨B1, d1, B2, d2, rfl, T1, T2, hb⟩
          have b := b.trans (hb.mono b.size)
          go_wp2_with fail
          refine m_keep b ?_
          (refine m_q 6 (v := ?_) (by kernel_rfl) rfl rfl (fun W hW => ?_) ?_; rotate_left; (go_simp; first | done | with_reducible rfl); simp only [Act.put, List.setIfInBounds_toArray, List.set_cons_zero, List.set_cons_succ]); (refine m_q 7 (v := ?_) (by kernel_rfl) rfl rfl (fun W hW => ?_) ?_; rotate_left; (go_simp; first | done | with_reducible rfl); simp only [Act.put, List.setIfInBounds_toArray, List.set_cons_zero, List.set_cons_succ]); (refine m_q 8 (v := ?_) (by kernel_rfl) rfl rfl (fun W hW => ?_) ?_; rotate_left; (go_simp; first | done | with_reducible rfl); simp only [Act.put, List.setIfInBounds_toArray, List.set_cons_zero, List.set_cons_succ])
          exact H2_10 ⟨Ak, ck, B1, d1, B2, d2, 0, g12⟩ _ _ _ (by kernel_rfl) rfl ⟨rfl, b, K1.below hb, T1, T2, X12.below hb⟩
        · go_wp2_with fail
          refine absN fun wn hB hb _ => ?_
          refine m_keep (b.trans (hb.mono b.size)) ?_
          exact H1_910 ⟨Ak, ck, none, 0, none, 0, _, g12⟩ _ _ _ (by kernel_rfl) rfl ⟨rfl, b.trans (hb.mono b.size), K1.below hb, .mk' hB b.size, X12.below hb, Nat.ne_of_gt X12.lt⟩
      intro H1_10
      refine m_join (β := Option Addr × Nat × Option Addr × Nat × Option Addr × Nat × Nat × Nat) #[true, true, true, true, false, false, false, false, false, true, true, false, false] 7 (fun b f => #[Value.agg #[Value.int IntKind.u8 (r : Int), Value.int IntKind.u8 (c : Int), Value.slice A0 zs.length d0], Value.agg #[Value.int IntKind.u8 (r' : Int), Value.int IntKind.u8 (c' : Int), Value.slice A0' zs'.length d0'], Value.pointer (some { block := w.heap.size, off := 0 }), Value.pointer (some { block := w.heap.size + 1, off := 0 }), Value.bool false, Value.pointer (some { block := g5, off := 0 }), Value.pointer (some { block := g5 + 1, off := 0 }), Value.pointer (some { block := g5 + 1 + 1, off := 0 }), ptr gR, Value.pointer (some { block := g9, off := 0 }), Value.int IntKind.i64 0, ptr b.2.2.2.2.2.2.1, ptr b.2.2.2.2.2.2.2, undef, undef, u15, u16, u17, u18, u19, u20, u21, u22, u23, u24, u25, u26, u27, u28, Value.tuple #[Value.agg #[ptr u5, ptr p5], Value.int IntKind.i64 0], Value.agg #[ptr q2, ptr q3], Value.tuple #[Value.agg #[ptr u5, ptr p5], Value.int IntKind.i64 0], Value.agg #[ptr u5, ptr p5], Value.int IntKind.i64 0, Value.int IntKind.i64 0, Value.bool false, f 36, Value.agg #[Value.int IntKind.i64 (C : Int), Value.slice A1 R c1], Value.agg #[Value.int IntKind.i64 (C' : Int), Value.slice A2 C c2], Value.agg #[Value.int IntKind.i64 (C : Int), Value.slice A1 R c1], Value.agg #[Value.int IntKind.i64 (C' : Int), Value.slice A2 C c2], f 41, f 42, f 43, f 44, u45, u46, u47, u48, u49, u50, u51, u52, u53, u54, u55, u56, u57, u58, u59, u60, u61, u62, u63, u64, u65, u66, u67, u68, u69, u70, u71, u72, u73, u74, u75, u76, u77]) (fun b ds W => ds = [] ∧ Below w6.heap.size w6 W ∧ Bo1 w6 W b.2.2.2.2.2.2.1 (.int .i64 0) (.slice none 0 0) ∧ Bo1 w6 W b.2.2.2.2.2.2.2 (.int .i64 0) (.slice none 0 0) ∧ b.2.2.2.2.2.2.1 ≠ b.2.2.2.2.2.2.2) ?_ ?_
      · rintro ⟨Ak, ck, B1, d1, B2, d2, g11, g12⟩ f ds W ⟨rfl, b, X11, X12, ng11g12⟩
        try dsimp only at b X11 X12 ng11g12 ⊢
        refine m_s1 4 (by kernel_rfl) rfl ?_
        go_wp2_with fail
        refine (HN6.out _ b).mono ?_
        rintro e wn ⟨Ak, ck, rfl, K1, hb⟩
        have b := b.trans (hb.mono b.size)
        go_wp2_with fail
        refine m_keep b ?_
        exact H1_910 ⟨Ak, ck, none, 0, none, 0, g11, g12⟩ _ _ _ (by kernel_rfl) rfl ⟨rfl, b, K1, X11.below hb, X12.below hb, ng11g12⟩
      intro H0_910
      refine m_join (β := Option Addr × Nat × Option Addr × Nat × Option Addr × Nat × Nat × Nat) #[true, true, true, true, true, false, false, false, false, false, false, false, false] 8 (fun b f => #[Value.agg #[Value.int IntKind.u8 (r : Int), Value.int IntKind.u8 (c : Int), Value.slice A0 zs.length d0], Value.agg #[Value.int IntKind.u8 (r' : Int), Value.int IntKind.u8 (c' : Int), Value.slice A0' zs'.length d0'], Value.pointer (some { block := w.heap.size, off := 0 }), Value.pointer (some { block := w.heap.size + 1, off := 0 }), Value.bool false, Value.pointer (some { block := g5, off := 0 }), Value.pointer (some { block := g5 + 1, off := 0 }), Value.pointer (some { block := g5 + 1 + 1, off := 0 }), ptr gR, Value.pointer (some { block := g9, off := 0 }), Value.int IntKind.i64 0, f 11, f 12, undef, undef, u15, u16, u17, u18, u19, u20, u21, u22, u23, u24, u25, u26, u27, u28, Value.tuple #[Value.agg #[ptr u5, ptr p5], Value.int IntKind.i64 0], Value.agg #[ptr q2, ptr q3], Value.tuple #[Value.agg #[ptr u5, ptr p5], Value.int IntKind.i64 0], Value.agg #[ptr u5, ptr p5], Value.int IntKind.i64 0, Value.int IntKind.i64 0, Value.bool false, f 36, Value.agg #[Value.int IntKind.i64 (C : Int), Value.slice A1 R c1], Value.agg #[Value.int IntKind.i64 (C' : Int), Value.slice A2 C c2], Value.agg #[Value.int IntKind.i64 (C : Int), Value.slice A1 R c1], Value.agg #[Value.int IntKind.i64 (C' : Int), Value.slice A2 C c2], .slice b.1 K.length b.2.1, f 42, f 43, f 44, u45, u46, u47, u48, u49, u50, u51, u52, u53, u54, u55, u56, u57, u58, u59, u60, u61, u62, u63, u64, u65, u66, u67, u68, u69, u70, u71, u72, u73, u74, u75, u76, u77]) (fun b ds W => ds = [] ∧ Below w6.heap.size w6 W ∧ Row W b.1 (xs.map i64)) ?_ ?_
      · rintro ⟨Ak, ck, B1, d1, B2, d2, g11, g12⟩ f ds W ⟨rfl, b, K1⟩
        try dsimp only at b K1 ⊢
        refine m_s3 5 9 10 (by kernel_rfl) rfl rfl rfl ?_ ?_ ?_
        · go_wp2_with fail
          refine (HP6.out _ Ak ck b K1).mono ?_
          rintro e wn ⟨B1, d1, B2, d2, rfl, T1, T2, hb⟩
          have b := b.trans (hb.mono b.size)
          go_wp2_with fail
          refine m_keep b ?_
          (refine m_q 6 (v := ?_) (by kernel_rfl) rfl rfl (fun W hW => ?_) ?_; rotate_left; (go_simp; first | done | with_reducible rfl); simp only [Act.put, List.setIfInBounds_toArray, List.set_cons_zero, List.set_cons_succ]); (refine m_q 7 (v := ?_) (by kernel_rfl) rfl rfl (fun W hW => ?_) ?_; rotate_left; (go_simp; first | done | with_reducible rfl); simp only [Act.put, List.setIfInBounds_toArray, List.set_cons_zero, List.set_cons_succ]); (refine m_q 8 (v := ?_) (by kernel_rfl) rfl rfl (fun W hW => ?_) ?_; rotate_left; (go_simp; first | done | with_reducible rfl); simp only [Act.put, List.setIfInBounds_toArray, List.set_cons_zero, List.set_cons_succ])
          exact H2_ ⟨Ak, ck, B1, d1, B2, d2, 0, 0⟩ _ _ _ (by kernel_rfl) rfl ⟨rfl, b, K1.below hb, T1, T2⟩
        · go_wp2_with fail
          refine absN fun wn hB hb _ => ?_
          refine m_keep (b.trans (hb.mono b.size)) ?_
          exact H1_9 ⟨Ak, ck, none, 0, none, 0, _, 0⟩ _ _ _ (by kernel_rfl) rfl ⟨rfl, b.trans (hb.mono b.size), K1.below hb, .mk' hB b.size⟩
        · go_wp2_with fail
          refine absN fun wn hB hb _ => ?_
          refine m_keep (b.trans (hb.mono b.size)) ?_
          exact H1_10 ⟨Ak, ck, none, 0, none, 0, 0, _⟩ _ _ _ (by kernel_rfl) rfl ⟨rfl, b.trans (hb.mono b.size), K1.below hb, .mk' hB b.size⟩
      intro H1_
      refine m_join (β := Option Addr × Nat × Option Addr × Nat × Option Addr × Nat × Nat × Nat) #[true, true, true, true, false, false, false, false, false, true, false, false, false] 8 (fun b f => #[Value.agg #[Value.int IntKind.u8 (r : Int), Value.int IntKind.u8 (c : Int), Value.slice A0 zs.length d0], Value.agg #[Value.int IntKind.u8 (r' : Int), Value.int IntKind.u8 (c' : Int), Value.slice A0' zs'.length d0'], Value.pointer (some { block := w.heap.size, off := 0 }), Value.pointer (some { block := w.heap.size + 1, off := 0 }), Value.bool false, Value.pointer (some { block := g5, off := 0 }), Value.pointer (some { block := g5 + 1, off := 0 }), Value.pointer (some { block := g5 + 1 + 1, off := 0 }), ptr gR, Value.pointer (some { block := g9, off := 0 }), Value.int IntKind.i64 0, ptr b.2.2.2.2.2.2.1, f 12, undef, undef, u15, u16, u17, u18, u19, u20, u21, u22, u23, u24, u25, u26, u27, u28, Value.tuple #[Value.agg #[ptr u5, ptr p5], Value.int IntKind.i64 0], Value.agg #[ptr q2, ptr q3], Value.tuple #[Value.agg #[ptr u5, ptr p5], Value.int IntKind.i64 0], Value.agg #[ptr u5, ptr p5], Value.int IntKind.i64 0, Value.int IntKind.i64 0, Value.bool false, f 36, Value.agg #[Value.int IntKind.i64 (C : Int), Value.slice A1 R c1], Value.agg #[Value.int IntKind.i64 (C' : Int), Value.slice A2 C c2], Value.agg #[Value.int IntKind.i64 (C : Int), Value.slice A1 R c1], Value.agg #[Value.int IntKind.i64 (C' : Int), Value.slice A2 C c2], f 41, f 42, f 43, f 44, u45, u46, u47, u48, u49, u50, u51, u52, u53, u54, u55, u56, u57, u58, u59, u60, u61, u62, u63, u64, u65, u66, u67, u68, u69, u70, u71, u72, u73, u74, u75, u76, u77]) (fun b ds W => ds = [] ∧ Below w6.heap.size w6 W ∧ Bo1 w6 W b.2.2.2.2.2.2.1 (.int .i64 0) (.slice none 0 0)) ?_ ?_
      · rintro ⟨Ak, ck, B1, d1, B2, d2, g11, g12⟩ f ds W ⟨rfl, b, X11⟩
        try dsimp only at b X11 ⊢
        refine m_s2 4 10 (by kernel_rfl) rfl rfl ?_ ?_
        · go_wp2_with fail
          refine (HN6.out _ b).mono ?_
          rintro e wn ⟨Ak, ck, rfl, K1, hb⟩
          have b := b.trans (hb.mono b.size)
          go_wp2_with fail
          refine m_keep b ?_
          exact H1_9 ⟨Ak, ck, none, 0, none, 0, g11, 0⟩ _ _ _ (by kernel_rfl) rfl ⟨rfl, b, K1, X11.below hb⟩
        · go_wp2_with fail
          refine absN fun wn hB hb _ => ?_
          refine m_keep (b.trans (hb.mono b.size)) ?_
          exact H0_910 ⟨none, 0, none, 0, none, 0, g11, _⟩ _ _ _ (by kernel_rfl) rfl ⟨rfl, b.trans (hb.mono b.size), X11.below hb, .mk' hB b.size, Nat.ne_of_lt X11.lt⟩
      intro H0_9
      refine m_join (β := Option Addr × Nat × Option Addr × Nat × Option Addr × Nat × Nat × Nat) #[true, true, true, true, false, false, false, false, false, false, true, false, false] 8 (fun b f => #[Value.agg #[Value.int IntKind.u8 (r : Int), Value.int IntKind.u8 (c : Int), Value.slice A0 zs.length d0], Value.agg #[Value.int IntKind.u8 (r' : Int), Value.int IntKind.u8 (c' : Int), Value.slice A0' zs'.length d0'], Value.pointer (some { block := w.heap.size, off := 0 }), Value.pointer (some { block := w.heap.size + 1, off := 0 }), Value.bool false, Value.pointer (some { block := g5, off := 0 }), Value.pointer (some { block := g5 + 1, off := 0 }), Value.pointer (some { block := g5 + 1 + 1, off := 0 }), ptr gR, Value.pointer (some { block := g9, off := 0 }), Value.int IntKind.i64 0, f 11, ptr b.2.2.2.2.2.2.2, undef, undef, u15, u16, u17, u18, u19, u20, u21, u22, u23, u24, u25, u26, u27, u28, Value.tuple #[Value.agg #[ptr u5, ptr p5], Value.int IntKind.i64 0], Value.agg #[ptr q2, ptr q3], Value.tuple #[Value.agg #[ptr u5, ptr p5], Value.int IntKind.i64 0], Value.agg #[ptr u5, ptr p5], Value.int IntKind.i64 0, Value.int IntKind.i64 0, Value.bool false, f 36, Value.agg #[Value.int IntKind.i64 (C : Int), Value.slice A1 R c1], Value.agg #[Value.int IntKind.i64 (C' : Int), Value.slice A2 C c2], Value.agg #[Value.int IntKind.i64 (C : Int), Value.slice A1 R c1], Value.agg #[Value.int IntKind.i64 (C' : Int), Value.slice A2 C c2], f 41, f 42, f 43, f 44, u45, u46, u47, u48, u49, u50, u51, u52, u53, u54, u55, u56, u57, u58, u59, u60, u61, u62, u63, u64, u65, u66, u67, u68, u69, u70, u71, u72, u73, u74, u75, u76, u77]) (fun b ds W => ds = [] ∧ Below w6.heap.size w6 W ∧ Bo1 w6 W b.2.2.2.2.2.2.2 (.int .i64 0) (.slice none 0 0)) ?_ ?_
      · rintro ⟨Ak, ck, B1, d1, B2, d2, g11, g12⟩ f ds W ⟨rfl, b, X12⟩
        try dsimp only at b X12 ⊢
        refine m_s2 4 9 (by kernel_rfl) rfl rfl ?_ ?_
        · go_wp2_with fail
          refine (HN6.out _ b).mono ?_
          rintro e wn ⟨Ak, ck, rfl, K1, hb⟩
          have b := b.trans (hb.mono b.size)
          go_wp2_with fail
          refine m_keep b ?_
          exact H1_10 ⟨Ak, ck, none, 0, none, 0, 0, g12⟩ _ _ _ (by kernel_rfl) rfl ⟨rfl, b, K1, X12.below hb⟩
        · go_wp2_with fail
          refine absN fun wn hB hb _ => ?_
          refine m_keep (b.trans (hb.mono b.size)) ?_
          exact H0_910 ⟨none, 0, none, 0, none, 0, _, g12⟩ _ _ _ (by kernel_rfl) rfl ⟨rfl, b.trans (hb.mono b.size), .mk' hB b.size, X12.below hb, Nat.ne_of_gt X12.lt⟩
      intro H0_10
      refine m_s3 4 9 10 (by kernel_rfl) rfl rfl rfl ?_ ?_ ?_
      · go_wp2_with fail
        refine (HN6.out _ b).mono ?_
        rintro e wn ⟨Ak, ck, rfl, K1, hb⟩
        have b := b.trans (hb.mono b.size)
        go_wp2_with fail
        refine m_keep b ?_
        exact H1_ ⟨Ak, ck, none, 0, none, 0, 0, 0⟩ _ _ _ (by kernel_rfl) rfl ⟨rfl, b, K1⟩
      · go_wp2_with fail
        refine absN fun wn hB hb _ => ?_
        refine m_keep (b.trans (hb.mono b.size)) ?_
        exact H0_9 ⟨none, 0, none, 0, none, 0, _, 0⟩ _ _ _ (by kernel_rfl) rfl ⟨rfl, b.trans (hb.mono b.size), .mk' hB b.size⟩
      · go_wp2_with fail
        refine absN fun wn hB hb _ => ?_
        refine m_keep (b.trans (hb.mono b.size)) ?_
        exact H0_10 ⟨none, 0, none, 0, none, 0, 0, _⟩ _ _ _ (by kernel_rfl) rfl ⟨rfl, b.trans (hb.mono b.size), .mk' hB b.size⟩
    case rest =>
      obtain ⟨g11, g12, B1, B2, d1, d2, rfl, rfl, h11, h12, T1, T2, bc⟩ := hcut
      have b8 := b6.trans (bc.mono b6.size)
      have h98 := h9.below bc h9.lt
      have k78 := k7.below bc k7.lt
      have hu8 := hu5.below bc
      have hp8 := hp5.below bc
      have hz8 := hy3.below bc
      have s1 := users_sameQ (R := R) (L := K) (by omega)
      have s2 := perms_sameQ (C := C') (L := K)
      rw [← HM1.out] at s1
      rw [← HM2.out] at s2
      have l3 : (mtrans R (K.map (·.1)) R).length = R := mtrans_len ..
      have l4 : (K.map (·.2)).length = K.length := List.length_map ..
      have hrs := role_sameN (R := R) (C := C') (K := K) (by omega) (by omega) HKW.out
      have hin5 : rowsIn K.length (mtrans R (K.map (·.1)) R) := users_rowsQ (by omega)
      have hin6 : rowsIn C' (K.map (·.2)) := HKW.out.rows2
      have hq := HKV.out
      unfold validQ at hq
      rw [HLW.out] at hq
      obtain ⟨Us, hUs⟩ : ∃ U, U = mtrans R (K.map (·.1)) R := ⟨_, rfl⟩
      obtain ⟨Ps, hPs⟩ : ∃ U, U = K.map (·.2) := ⟨_, rfl⟩
      rw [← hUs] at s1 l3 hu8 hrs hin5 hq
      rw [← hPs] at s2 l4 hp8 hrs hin6 hq
      have hn2 := normal_any u5 p5 K.length C' Us Ps K wc hu8.mat hp8.mat hin6 (by omega) (by omega) (by omega) l4.symm (hT.below b8) (by rw [l4, hrs]; exact HKA.out)
      rw [l3, ← hUs, ← hPs] at hn2
      have HN2 := hideC hn2
      have HUS := Lib.hid hUs; have HPS := Lib.hid hPs
      have HIS := Lib.hid (fun W (b : Below wc.heap.size wc W) => is48q u5 p5 K.length C' R K.length Us Ps B1 B2 d1 d2 M1 M2 W (hu8.mat.below b) (hp8.mat.below b) (T1.ref.below b) (T2.ref.below b) l1 l2 (by omega) (by omega) (by omega) (by omega) s1 s2)
      have HMA := Lib.hid (fun W (b : Below wc.heap.size wc W) => by
        have q := matrixl_any C' A3 c3 MW W (hz8.below b).ref (by omega) (by rw [HWL.out]; omega)
        rw [HWL.out] at q
        exact q)
      have HVA := Lib.hid (fun q1 W (b : Below wc.heap.size wc W) (hm : IsMat W q1 C' (nsOf C' MW)) => by
        have q := valid_any q1 u5 p5 C' K.length C' (nsOf C' MW) Us Ps W hm (hu8.mat.below b) (hp8.mat.below b) hin5 (hT.below (b8.trans (b.mono b8.size)))
        rw [hq] at q
        exact q)
      have HEU := Lib.hid (fun p q W (h1 : IsMat W p K.length Us) (h2 : IsMat W q K.length Us) => by
        have q := equalm_any p q K.length K.length Us Us W h1 h2
        rw [equal_reflN] at q
        exact q)
      have HEP := Lib.hid (fun p q W (h1 : IsMat W p C' Ps) (h2 : IsMat W q C' Ps) => by
        have q := equalm_any p q C' C' Ps Ps W h1 h2
        rw [equal_reflN] at q
        exact q)
      have a0 := h98.cell 0
      have a1 := h98.cell 1
      clear hn2 hUs hPs s1 s2 l1 l2 l3 l4 hrs hin5 hin6 hq HM1 HM2 HN6 HP6 hy1 hy2 hy3 hu5 hp5 h9 k5 k6 k7 hz8 T1 T2
      go_wp2_with fail
      with_reducible refine HN2.out.mono ?_
      rintro e w9 ⟨u6, p6, rfl, hu6, hp6, hb9⟩
      have b9 := b8.trans (hb9.mono b8.size)
      clear HN2 a0 a1
      go_upto_region 10 with fail
      refine abs1 fun w10 h13 hb10 hz => ?_
      clear hz
      obtain ⟨g13, hg13⟩ : ∃ x, x = w9.heap.size := ⟨_, rfl⟩
      rw [← hg13] at h13 ⊢
      clear hg13
      have bca := hb9.trans (hb10.mono hb9.size)
      have b10 := b8.trans (bca.mono b8.size)
      have j9 := h98.below bca h98.lt
      have j11 := h11.below bca h11.lt
      have j12 := h12.below bca h12.lt
      have j7 := k78.below bca k78.lt
      have hu10 := (hu8.below bca).mat
      have hp10 := (hp8.below bca).mat
      have hu60 := (hu6.below hb10).mat
      have hp60 := (hp6.below hb10).mat
      clear hb9 hb10 h98 h11 h12 k78 hu8 hp8 hu6 hp6 b8 b9
      have z0 := j9.cell 0
      have z1 := j9.cell 1
      have z2 := j11.cell 0
      have z3 := j11.cell 1
      have z4 := j12.cell 0
      have z5 := j12.cell 1
      have z6 := j7.cell 0
      have z7 := j7.cell 1
      have z8 := h13.cell 0
      have z9 := h13.cell 1
      refine wp_mix (fun V => Below w10.heap.size w10 V) 29 (by kernel_rfl) (by kernel_rfl) (Below.refl _ _).drew ?_
      have b := (Below.refl w10.heap.size w10).drew
      obtain ⟨Wd, hWW⟩ : ∃ V, V = w10.drew := ⟨_, rfl⟩
      rw [← hWW] at b ⊢
      clear hWW
      (refine m_q 0 (v := ?_) (by kernel_rfl) rfl rfl (fun W hW => ?_) ?_; rotate_left; (have c0 := onB hW z0; have c1 := onB hW z1; have c2 := onB hW z2; have c3 := onB hW z3; have c4 := onB hW z4; have c5 := onB hW z5; go_simp; first | done | with_reducible rfl); simp only [Act.put, List.setIfInBounds_toArray, List.set_cons_zero, List.set_cons_succ]); (refine m_q 1 (v := ?_) (by kernel_rfl) rfl rfl (fun W hW => ?_) ?_; rotate_left; (have c0 := onB hW z0; have c1 := onB hW z1; have c2 := onB hW z2; have c3 := onB hW z3; have c4 := onB hW z4; have c5 := onB hW z5; go_simp; first | done | with_reducible rfl); simp only [Act.put, List.setIfInBounds_toArray, List.set_cons_zero, List.set_cons_succ]); (refine m_q 2 (v := ?_) (by kernel_rfl) rfl rfl (fun W hW => ?_) ?_; rotate_left; (have c0 := onB hW z0; have c1 := onB hW z1; have c2 := onB hW z2; have c3 := onB hW z3; have c4 := onB hW z4; have c5 := onB hW z5; go_simp; first | done | with_reducible rfl); simp only [Act.put, List.setIfInBounds_toArray, List.set_cons_zero, List.set_cons_succ])
      have HC1 := hideC (HIS.out Wd (bca.trans (b.mono bca.size)))
      refine m_s1 3 (by kernel_rfl) rfl ?_
      go_wp2_with fail
      with_reducible refine HC1.out.mono ?_
      rintro e W1 ⟨rfl, hb1⟩
      have r1 := b.trans (hb1.mono b.size)
      go_wp2_with fail
      refine m_keep r1 ?_
      (refine m_q 4 (v := ?_) (by kernel_rfl) rfl rfl (fun W hW => ?_) ?_; rotate_left; (go_simp; first | done | with_reducible rfl); simp only [Act.put, List.setIfInBounds_toArray, List.set_cons_zero, List.set_cons_succ])
      (refine m_yes 5 (v := ?_) (by kernel_rfl) rfl (by rfl) (fun W hW => ?_) ?_; rotate_left; (have c0 := onB hW z0; have c1 := onB hW z1; have c2 := onB hW z6; have c3 := onB hW z7; go_simp; first | done | with_reducible rfl); simp only [Act.put, List.setIfInBounds_toArray, List.set_cons_zero, List.set_cons_succ]); (refine m_yes 7 (v := ?_) (by kernel_rfl) rfl (by rfl) (fun W hW => ?_) ?_; rotate_left; (have c0 := onB hW z0; have c1 := onB hW z1; have c2 := onB hW z6; have c3 := onB hW z7; go_simp; first | done | with_reducible rfl); simp only [Act.put, List.setIfInBounds_toArray, List.set_cons_zero, List.set_cons_succ])
      have HC2 := hideC (HMA.out W1 (bca.trans (r1.mono bca.size)))
      clear HC1
      refine m_s1 6 (by kernel_rfl) rfl ?_
      go_wp2_with fail
      with_reducible refine HC2.out.mono ?_
      rintro e W2 ⟨q1, rfl, hmW, -, hb2⟩
      have r2 := r1.trans (hb2.mono r1.size)
      go_wp2_with fail
      refine m_keep r2 ?_
      have HC3 := hideC (HVA.out q1 W2 (bca.trans (r2.mono bca.size)) hmW)
      clear HC2
      refine m_s1 8 (by kernel_rfl) rfl ?_
      go_wp2_with fail
      with_reducible refine HC3.out.mono ?_
      rintro e W3 ⟨rfl, hb3⟩
      have r3 := r2.trans (hb3.mono r2.size)
      go_wp2_with fail
      refine m_keep r3 ?_
      (refine m_q 9 (v := ?_) (by kernel_rfl) rfl rfl (fun W hW => ?_) ?_; rotate_left; (go_simp; first | done | with_reducible rfl); simp only [Act.put, List.setIfInBounds_toArray, List.set_cons_zero, List.set_cons_succ]); (refine m_q 10 (v := ?_) (by kernel_rfl) rfl rfl (fun W hW => ?_) ?_; rotate_left; (go_simp; first | done | with_reducible rfl); simp only [Act.put, List.setIfInBounds_toArray, List.set_cons_zero, List.set_cons_succ])
      (refine m_yes 11 (v := ?_) (by kernel_rfl) rfl (by rfl) (fun W hW => ?_) ?_; rotate_left; (go_simp; first | done | with_reducible rfl); simp only [Act.put, List.setIfInBounds_toArray, List.set_cons_zero, List.set_cons_succ]); (refine m_yes 12 (v := ?_) (by kernel_rfl) rfl (by rfl) (fun W hW => ?_) ?_; rotate_left; (go_simp; first | done | with_reducible rfl); simp only [Act.put, List.setIfInBounds_toArray, List.set_cons_zero, List.set_cons_succ])
      (refine m_q 13 (v := ?_) (by kernel_rfl) rfl rfl (fun W hW => ?_) ?_; rotate_left; (go_simp; first | done | with_reducible rfl); simp only [Act.put, List.setIfInBounds_toArray, List.set_cons_zero, List.set_cons_succ]); (refine m_q 14 (v := ?_) (by kernel_rfl) rfl rfl (fun W hW => ?_) ?_; rotate_left; (go_simp; first | done | with_reducible rfl); simp only [Act.put, List.setIfInBounds_toArray, List.set_cons_zero, List.set_cons_succ])
      (refine m_yes 15 (v := ?_) (by kernel_rfl) rfl (by rfl) (fun W hW => ?_) ?_; rotate_left; (have c0 := onB hW z0; have c1 := onB hW z8; go_simp; first | done | with_reducible rfl); simp only [Act.put, List.setIfInBounds_toArray, List.set_cons_zero, List.set_cons_succ]); (refine m_yes 16 (v := ?_) (by kernel_rfl) rfl (by rfl) (fun W hW => ?_) ?_; rotate_left; (have c0 := onB hW z0; have c1 := onB hW z8; go_simp; first | done | with_reducible rfl); simp only [Act.put, List.setIfInBounds_toArray, List.set_cons_zero, List.set_cons_succ]); (refine m_yes 17 (v := ?_) (by kernel_rfl) rfl (by rfl) (fun W hW => ?_) ?_; rotate_left; (have c0 := onB hW z0; have c1 := onB hW z8; go_simp; first | done | with_reducible rfl); simp only [Act.put, List.setIfInBounds_toArray, List.set_cons_zero, List.set_cons_succ]); (refine m_yes 18 (v := ?_) (by kernel_rfl) rfl (by rfl) (fun W hW => ?_) ?_; rotate_left; (have c0 := onB hW z0; have c1 := onB hW z8; go_simp; first | done | with_reducible rfl); simp only [Act.put, List.setIfInBounds_toArray, List.set_cons_zero, List.set_cons_succ])
      have HC4 := hideC (HEU.out u6 u5 W3 (hu60.below r3) (hu10.below r3))
      clear HC3
      refine m_s1 19 (by kernel_rfl) rfl ?_
      go_wp2_with fail
      with_reducible refine HC4.out.mono ?_
      rintro e W4 ⟨rfl, hb4⟩
      have r4 := r3.trans (hb4.mono r3.size)
      go_wp2_with fail
      refine m_keep r4 ?_
      (refine m_q 20 (v := ?_) (by kernel_rfl) rfl rfl (fun W hW => ?_) ?_; rotate_left; (go_simp; first | done | with_reducible rfl); simp only [Act.put, List.setIfInBounds_toArray, List.set_cons_zero, List.set_cons_succ]); (refine m_q 21 (v := ?_) (by kernel_rfl) rfl rfl (fun W hW => ?_) ?_; rotate_left; (go_simp; first | done | with_reducible rfl); simp only [Act.put, List.setIfInBounds_toArray, List.set_cons_zero, List.set_cons_succ])
      (refine m_yes 22 (v := ?_) (by kernel_rfl) rfl (by rfl) (fun W hW => ?_) ?_; rotate_left; (have c0 := onB hW z1; have c1 := onB hW z9; go_simp; first | done | with_reducible rfl); simp only [Act.put, List.setIfInBounds_toArray, List.set_cons_zero, List.set_cons_succ]); (refine m_yes 23 (v := ?_) (by kernel_rfl) rfl (by rfl) (fun W hW => ?_) ?_; rotate_left; (have c0 := onB hW z1; have c1 := onB hW z9; go_simp; first | done | with_reducible rfl); simp only [Act.put, List.setIfInBounds_toArray, List.set_cons_zero, List.set_cons_succ]); (refine m_yes 24 (v := ?_) (by kernel_rfl) rfl (by rfl) (fun W hW => ?_) ?_; rotate_left; (have c0 := onB hW z1; have c1 := onB hW z9; go_simp; first | done | with_reducible rfl); simp only [Act.put, List.setIfInBounds_toArray, List.set_cons_zero, List.set_cons_succ]); (refine m_yes 25 (v := ?_) (by kernel_rfl) rfl (by rfl) (fun W hW => ?_) ?_; rotate_left; (have c0 := onB hW z1; have c1 := onB hW z9; go_simp; first | done | with_reducible rfl); simp only [Act.put, List.setIfInBounds_toArray, List.set_cons_zero, List.set_cons_succ])
      have HC5 := hideC (HEP.out p6 p5 W4 (hp60.below r4) (hp10.below r4))
      clear HC4
      refine m_s1 26 (by kernel_rfl) rfl ?_
      go_wp2_with fail
      with_reducible refine HC5.out.mono ?_
      rintro e W5 ⟨rfl, hb5⟩
      have r5 := r4.trans (hb5.mono r4.size)
      go_wp2_with fail
      refine m_keep r5 ?_
      (refine m_q 27 (v := ?_) (by kernel_rfl) rfl rfl (fun W hW => ?_) ?_; rotate_left; (go_simp; first | done | with_reducible rfl); simp only [Act.put, List.setIfInBounds_toArray, List.set_cons_zero, List.set_cons_succ]); (refine m_q 28 (v := ?_) (by kernel_rfl) rfl rfl (fun W hW => ?_) ?_; rotate_left; (go_simp; first | done | with_reducible rfl); simp only [Act.put, List.setIfInBounds_toArray, List.set_cons_zero, List.set_cons_succ])
      refine m_end (by kernel_rfl) ?_
      go_wp2_with fail
      go_ret
      exact ⟨rfl, b10.trans (r5.mono b10.size)⟩
end Mix2
end Go.Proofs.YtfbkcdhmggjbaaaGreatDoor
