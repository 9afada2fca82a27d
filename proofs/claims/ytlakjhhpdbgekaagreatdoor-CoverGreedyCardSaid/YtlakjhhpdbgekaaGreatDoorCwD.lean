/-
  The law CoverGreedy.
-/
import Derived.Test.YtlakjhhpdbgekaaGreatDoorCw7
import Derived.Test.YtlakjhhpdbgekaaGreatDoorCvR
import Derived.Test.YtlakjhhpdbgekaaGreatDoorCwA
import Derived.Test.YtlakjhhpdbgekaaGreatDoorCvG
import Derived.Deep.DeepCutAuto
import Derived.Deep.CutBlock
namespace Go.Proofs.YtlakjhhpdbgekaaGreatDoor
open Go.RowKit

namespace Mix2
set_option maxRecDepth 100000 in
set_option maxHeartbeats 16000000 in
theorem greedy_walk (v : Value) (R C : Nat) (zs : List Int) (w : World) (hT : Tab w) (h : IsRaw w v R C zs) :
    Calls Tryz.prog 4 #[v] w fun e w' => e = .returned (.bool true) ∧ Below w.heap.size w w' := by
  have hbd := h.bd
  obtain ⟨r, c, A0, d0, hv, _⟩ := id h
  subst hv
  have HIN := hideC h; clear h
  go_enter Tryz.func4, Tryz.ntmps4
  go_wp2_with fail
  refine absC1 fun W0 hX hbel0 hz => ?_
  clear hz
  refine (awake_any48 W0 (hT.below hbel0)).mono ?_
  rintro e w1 ⟨rfl, hb1⟩
  have b1 := hbel0.trans (hb1.mono hbel0.size)
  replace hX := hX.below hb1 hX.lt
  have x0 := hX.cell 0
  have x1 := hX.cell 1
  have x2 := hX.cell 2
  have HM := hideC (make_raw _ R C zs w1 (HIN.out.below b1))
  go_wp2_with fail
  refine HM.out.mono ?_
  rintro e w2 ⟨A2, c2, rfl, hI, hb2⟩
  have b2 := b1.trans (hb2.mono b1.size)
  obtain ⟨M, hMd⟩ : ∃ M, M = rawM R C zs := ⟨_, rfl⟩
  have hML : M.length = R := by rw [hMd, mat_len]
  rw [← hMd] at hI
  subst hML
  obtain ⟨hR5, hC5⟩ := hbd
  have hnl : (nsOf C M).length = M.length := nsTo_len ..
  have hin := rowsIn_nsOf C M (by omega)
  clear hMd HM HIN hbel0 hb1 hb2 b1 x0 x1 x2 hX
  go_wp2_with fail
  refine absC1 fun w3 h3 hb3 hz => ?_
  clear hz
  obtain ⟨g3, hg3⟩ : ∃ x, x = w2.heap.size := ⟨_, rfl⟩
  rw [← hg3] at h3 ⊢
  have b3 := b2.trans (hb3.mono b2.size)
  have hI3 := hI.below hb3
  clear hg3 hb3 b2 hI
  refine (matrixl_any C A2 c2 M _ hI3 (by omega) (by omega)).mono ?_
  rintro e w4 ⟨q, rfl, hq, -, hb4⟩
  have b4 := b3.trans (hb4.mono b3.size)
  have hI4 := hI3.below hb4
  have h34 := h3.below hb4 h3.lt
  obtain ⟨Ns, hNs⟩ : ∃ N, N = nsOf C M := ⟨_, rfl⟩
  rw [← hNs] at hq hin hnl
  have hN5 : Ns.length ≤ 5 := by omega
  have hl : Ns.length ≤ 4096 := by omega
  have HNS := Lib.hid hNs
  have HNL := Lib.hid hnl
  clear hNs b3 hb4 hI3 h3 hnl
  have hM1 := greedyc_any q C Ns w4 hq hin hN5 hC5 (hT.below b4)
  obtain ⟨hks1, hks2, hks3⟩ := grR_spec (C := C) hl hin hN5 hC5
  have hcl0 := allL_clo (C := C) (Ns := Ns)
  have hgs := greedyK_spec (cov_allL (C := C) hl hin) (cellsOf Ns).length (cellsOf Ns) (fun _ h => h) (Nat.le_refl _)
  have hclo : ∀ s ∈ greC C Ns, cloN C Ns s = s := fun s hs => by
    obtain ⟨k, hk, rfl⟩ := List.mem_map.1 hs
    have hlt := hgs.1 k hk
    exact hcl0 _ (by rw [getD_at hlt]; exact List.getElem_mem hlt)
  have hcov : ∀ c ∈ cellsOf Ns, ∃ s ∈ greC C Ns, inS C Ns s c = true := fun c hc => by
    obtain ⟨k, hk, h⟩ := hgs.2 c hc
    exact ⟨_, List.mem_map.2 ⟨k, hk, rfl⟩, h⟩
  have hMR := fun W (hb : Below w4.heap.size w4 W) => greedy48_any C A2 c2 M W (hI4.below hb) hC5 hR5
  rw [← HNS.out] at hMR
  obtain ⟨K, hK⟩ : ∃ K, K = greC C Ns := ⟨_, rfl⟩
  rw [← hK] at hM1 hks1 hclo hcov
  obtain ⟨ks, hks⟩ : ∃ ks, ks = grR C Ns := ⟨_, rfl⟩
  rw [← hks] at hMR hks1 hks2 hks3
  obtain ⟨L, hL⟩ : ∃ L, L = closL C Ns := ⟨_, rfl⟩
  rw [← hL] at hks1 hks2
  have hkl : ks.length ≤ 32 := by omega
  have hlen32 : K.length ≤ 32 := by rw [atL_len hks1]; omega
  have hval := cover_valid (C := C) hl (Nat.le_trans hlen32 (by decide)) hclo hcov
  have HM1 := hideC hM1
  have HVAL := Lib.hid hval; have HKS1 := Lib.hid hks1; have HKS2 := Lib.hid hks2; have HMR := Lib.hid hMR; have HL := Lib.hid hL
  clear hM1 hcov hclo hval hK hks hks1 hks2 hks3 hMR hL hgs hcl0
  go_wp2_with fail
  with_reducible refine HM1.out.mono ?_
  rintro e w5 ⟨u1, r1, rfl, hu1, hr1, hb5⟩
  have b5 := b4.trans (hb5.mono b4.size)
  have hq5 := hq.below hb5
  have hI5 := hI4.below hb5
  have h35 := h34.below hb5 h34.lt
  clear HM1 hq b4 hI4 h34
  go_upto_region 6 with fail
  refine abs1 fun w7 h57 hb6 hz => ?_
  clear hz
  obtain ⟨g5, hg5⟩ : ∃ x, x = w5.heap.size := ⟨_, rfl⟩
  rw [← hg5] at h57 ⊢
  have b7 := b5.trans (hb6.mono b5.size)
  have hb47 := hb5.trans (hb6.mono hb5.size)
  have hq7 := hq5.below hb6
  have hI7 := hI5.below hb6
  have h37 := h35.below hb6 h35.lt
  have hu7 := hu1.below hb6
  have hr7 := hr1.below hb6
  clear hg5 hb6 b5 hq5 hI5 h35 hu1 hr1 hb5
  have i0 := h37.cell 0
  have i1 := h37.cell 1
  have HGR := Lib.hid (fun W (hb : Below w7.heap.size w7 W) => HMR.out W (hb47.trans (hb.mono hb47.size)))
  have HCO := Lib.hid (fun W (hb : Below w7.heap.size w7 W) => concepts48_any C A2 c2 M W (hI7.below hb) (by omega) (by omega))
  rw [← HNS.out, ← HL.out] at HCO
  have HRO := Lib.hid (fun W Ac cc Ak ck (hb : Below w7.heap.size w7 W) (hD : Row W Ac (conV C Ns L)) (hk : Row W Ak (ks.map i64)) => roles48_any C A2 Ac Ak c2 cc ck M L ks W (hI7.below hb) (by rw [← HNS.out]; exact hD) hk (by omega) HKS2.out (by omega) (by omega))
  rw [← HNS.out] at HRO
  clear HMR
  go_upto_region 8 with fail
  go_cut [7, 8] (fun s9 s10 wx => ∃ (g9 g10 : Nat) (B1 B2 : Option Addr) (d1 d2 : Nat), s9 = ptr g9 ∧ s10 = ptr g10 ∧ Blk wx g9 28 #[.int .i64 (ks.length : Int), .slice B1 M.length d1] ∧ Blk wx g10 28 #[.int .i64 (C : Int), .slice B2 ks.length d2] ∧ TRef wx ks.length B1 d1 (mat M.length ks.length (usF C Ns L ks)) ∧ TRef wx C B2 d2 (mat ks.length C (peF L ks)) ∧ Below w7.heap.size w7 wx)
  case first =>
    refine wp_mix (fun V => Below w7.heap.size w7 V) 13 (by kernel_rfl) (by kernel_rfl) (Below.refl _ _).drew ?_
    have b := (Below.refl w7.heap.size w7).drew
    obtain ⟨W, hWW⟩ : ∃ V, V = w7.drew := ⟨_, rfl⟩
    rw [← hWW] at b ⊢
    clear hWW
    (refine m_q 0 (v := ?_) (by kernel_rfl) rfl rfl (fun W hW => ?_) ?_; rotate_left; (have z0 := onB hW i0; have z1 := onB hW i1; go_simp; first | done | with_reducible rfl); simp only [Act.put, List.setIfInBounds_toArray, List.set_cons_zero, List.set_cons_succ]); (refine m_q 1 (v := ?_) (by kernel_rfl) rfl rfl (fun W hW => ?_) ?_; rotate_left; (have z0 := onB hW i0; have z1 := onB hW i1; go_simp; first | done | with_reducible rfl); simp only [Act.put, List.setIfInBounds_toArray, List.set_cons_zero, List.set_cons_succ]); (refine m_q 3 (v := ?_) (by kernel_rfl) rfl rfl (fun W hW => ?_) ?_; rotate_left; (have z0 := onB hW i0; have z1 := onB hW i1; go_simp; first | done | with_reducible rfl); simp only [Act.put, List.setIfInBounds_toArray, List.set_cons_zero, List.set_cons_succ])
    clear i0 i1
    refine m_join (β := Option Addr × Nat × Option Addr × Nat × Option Addr × Nat × Option Addr × Nat × Nat × Nat) #[true, true, true, true, true, true, true, true, true, true, true, false, false] 2 (fun b f => #[Value.agg #[Value.int IntKind.u8 (r : Int), Value.int IntKind.u8 (c : Int), Value.slice A0 zs.length d0], Value.pointer (some { block := w.heap.size, off := 0 }), Value.bool false, Value.pointer (some { block := g3, off := 0 }), ptr q, Value.pointer (some { block := g5, off := 0 }), Value.int IntKind.i64 0, ptr b.2.2.2.2.2.2.2.2.1, ptr b.2.2.2.2.2.2.2.2.2, Value.bool true, Value.bool false, Value.agg #[Value.int IntKind.u8 (r : Int), Value.int IntKind.u8 (c : Int), Value.slice A0 zs.length d0], refV C A2 M.length c2, Value.agg #[Value.int IntKind.i64 (C : Int), Value.slice A2 M.length c2], ptr q, Value.tuple #[Value.agg #[ptr u1, ptr r1], Value.int IntKind.i64 0], ptr q, Value.tuple #[Value.agg #[ptr u1, ptr r1], Value.int IntKind.i64 0], Value.agg #[ptr u1, ptr r1], Value.int IntKind.i64 0, ptr q, Value.bool false, Value.bool false, Value.int IntKind.i64 0, Value.bool false, Value.bool false, .tuple #[refV ks.length b.2.2.2.2.1 M.length b.2.2.2.2.2.1, refV C b.2.2.2.2.2.2.1 ks.length b.2.2.2.2.2.2.2.1], Value.agg #[Value.int IntKind.i64 (C : Int), Value.slice A2 M.length c2], Value.agg #[Value.int IntKind.i64 (C : Int), Value.slice A2 M.length c2], .slice b.1 L.length b.2.1, Value.agg #[Value.int IntKind.i64 (C : Int), Value.slice A2 M.length c2], .slice b.2.2.1 ks.length b.2.2.2.1, .tuple #[refV ks.length b.2.2.2.2.1 M.length b.2.2.2.2.2.1, refV C b.2.2.2.2.2.2.1 ks.length b.2.2.2.2.2.2.2.1], refV ks.length b.2.2.2.2.1 M.length b.2.2.2.2.2.1, refV C b.2.2.2.2.2.2.1 ks.length b.2.2.2.2.2.2.2.1, undef, undef, undef, undef, undef, undef, undef, undef, undef]) (fun b ds W => ds = [] ∧ Below w7.heap.size w7 W ∧ Row W b.1 (conV C Ns L) ∧ Row W b.2.2.1 (ks.map i64) ∧ TRef W ks.length b.2.2.2.2.1 b.2.2.2.2.2.1 (mat M.length ks.length (usF C Ns L ks)) ∧ TRef W C b.2.2.2.2.2.2.1 b.2.2.2.2.2.2.2.1 (mat ks.length C (peF L ks)) ∧ Bo1 w7 W b.2.2.2.2.2.2.2.2.1 (.int .i64 0) (.slice none 0 0) ∧ Bo1 w7 W b.2.2.2.2.2.2.2.2.2 (.int .i64 0) (.slice none 0 0) ∧ b.2.2.2.2.2.2.2.2.1 ≠ b.2.2.2.2.2.2.2.2.2) ?_ ?_
    · rintro ⟨Ac, cc, Ak, ck, B1, d1, B2, d2, g9, g10⟩ f ds W ⟨rfl, b, D1, K1, T1, T2, X9, X10, ng9g10⟩
      dsimp only at b D1 K1 T1 T2 X9 X10 ng9g10 ⊢
      have e0 := X9.1.cell 0; have e1 := X9.1.cell 1; have f0 := X9.1.frozen 0; have f1 := X9.1.frozen 1; have lg := X9.lt
      have t1 := X9.tref T1 (.int .i64 (ks.length : Int)) (.slice B1 M.length d1); have t2 := X9.tref T2 (.int .i64 (ks.length : Int)) (.slice B1 M.length d1)
      have bb := X9.base b (.int .i64 (ks.length : Int)) (.slice B1 M.length d1); have p := X9.put (.int .i64 (ks.length : Int)) (.slice B1 M.length d1)
      have o := X10.far (Ne.symm ng9g10) (.int .i64 (ks.length : Int)) (.slice B1 M.length d1)
      clear T1 T2 b
      refine m_s1 11 (by kernel_rfl) rfl ?_
      go_wp2_with fail
      refine m_keep (W := st2 W g9 (.int .i64 (ks.length : Int)) (.slice B1 M.length d1)) bb ?_
      obtain ⟨Wa, hW2⟩ : ∃ V, V = st2 W g9 (.int .i64 (ks.length : Int)) (.slice B1 M.length d1) := ⟨_, rfl⟩
      rw [← hW2] at t1 t2 bb p o ⊢
      clear hW2 e0 e1 f0 f1 lg X9 X10
      have T1 := t1; have T2 := t2; have b := bb; have X9 := p; have X10 := o
      clear t1 t2 bb p o
      have e0 := X10.1.cell 0; have e1 := X10.1.cell 1; have f0 := X10.1.frozen 0; have f1 := X10.1.frozen 1; have lg := X10.lt
      have t1 := X10.tref T1 (.int .i64 (C : Int)) (.slice B2 ks.length d2); have t2 := X10.tref T2 (.int .i64 (C : Int)) (.slice B2 ks.length d2)
      have bb := X10.base b (.int .i64 (C : Int)) (.slice B2 ks.length d2); have p := X10.put (.int .i64 (C : Int)) (.slice B2 ks.length d2)
      have o := X9.far ng9g10 (.int .i64 (C : Int)) (.slice B2 ks.length d2)
      clear T1 T2 b
      refine m_s1 12 (by kernel_rfl) rfl ?_
      go_wp2_with fail
      refine m_keep (W := st2 Wa g10 (.int .i64 (C : Int)) (.slice B2 ks.length d2)) bb ?_
      obtain ⟨Wb, hW2⟩ : ∃ V, V = st2 Wa g10 (.int .i64 (C : Int)) (.slice B2 ks.length d2) := ⟨_, rfl⟩
      rw [← hW2] at t1 t2 bb p o ⊢
      clear hW2 e0 e1 f0 f1 lg X9 X10
      have T1 := t1; have T2 := t2; have b := bb; have X10 := p; have X9 := o
      clear t1 t2 bb p o
      refine m_end (by kernel_rfl) ?_
      go_wp2_with fail
      go_meet
      exact ⟨g9, g10, B1, B2, d1, d2, rfl, rfl, X9.1, X10.1, T1, T2, b⟩
    intro H3_910
    refine m_join (β := Option Addr × Nat × Option Addr × Nat × Option Addr × Nat × Option Addr × Nat × Nat × Nat) #[true, true, true, true, true, true, true, true, true, true, false, false, false] 3 (fun b f => #[Value.agg #[Value.int IntKind.u8 (r : Int), Value.int IntKind.u8 (c : Int), Value.slice A0 zs.length d0], Value.pointer (some { block := w.heap.size, off := 0 }), Value.bool false, Value.pointer (some { block := g3, off := 0 }), ptr q, Value.pointer (some { block := g5, off := 0 }), Value.int IntKind.i64 0, ptr b.2.2.2.2.2.2.2.2.1, f 8, Value.bool true, Value.bool false, Value.agg #[Value.int IntKind.u8 (r : Int), Value.int IntKind.u8 (c : Int), Value.slice A0 zs.length d0], refV C A2 M.length c2, Value.agg #[Value.int IntKind.i64 (C : Int), Value.slice A2 M.length c2], ptr q, Value.tuple #[Value.agg #[ptr u1, ptr r1], Value.int IntKind.i64 0], ptr q, Value.tuple #[Value.agg #[ptr u1, ptr r1], Value.int IntKind.i64 0], Value.agg #[ptr u1, ptr r1], Value.int IntKind.i64 0, ptr q, Value.bool false, Value.bool false, Value.int IntKind.i64 0, Value.bool false, Value.bool false, .tuple #[refV ks.length b.2.2.2.2.1 M.length b.2.2.2.2.2.1, refV C b.2.2.2.2.2.2.1 ks.length b.2.2.2.2.2.2.2.1], Value.agg #[Value.int IntKind.i64 (C : Int), Value.slice A2 M.length c2], Value.agg #[Value.int IntKind.i64 (C : Int), Value.slice A2 M.length c2], .slice b.1 L.length b.2.1, Value.agg #[Value.int IntKind.i64 (C : Int), Value.slice A2 M.length c2], .slice b.2.2.1 ks.length b.2.2.2.1, .tuple #[refV ks.length b.2.2.2.2.1 M.length b.2.2.2.2.2.1, refV C b.2.2.2.2.2.2.1 ks.length b.2.2.2.2.2.2.2.1], refV ks.length b.2.2.2.2.1 M.length b.2.2.2.2.2.1, refV C b.2.2.2.2.2.2.1 ks.length b.2.2.2.2.2.2.2.1, undef, undef, undef, undef, undef, undef, undef, undef, undef]) (fun b ds W => ds = [] ∧ Below w7.heap.size w7 W ∧ Row W b.1 (conV C Ns L) ∧ Row W b.2.2.1 (ks.map i64) ∧ TRef W ks.length b.2.2.2.2.1 b.2.2.2.2.2.1 (mat M.length ks.length (usF C Ns L ks)) ∧ TRef W C b.2.2.2.2.2.2.1 b.2.2.2.2.2.2.2.1 (mat ks.length C (peF L ks)) ∧ Bo1 w7 W b.2.2.2.2.2.2.2.2.1 (.int .i64 0) (.slice none 0 0)) ?_ ?_
    · rintro ⟨Ac, cc, Ak, ck, B1, d1, B2, d2, g9, g10⟩ f ds W ⟨rfl, b, D1, K1, T1, T2, X9⟩
      dsimp only at b D1 K1 T1 T2 X9 ⊢
      refine m_s1 10 (by kernel_rfl) rfl ?_
      go_wp2_with fail
      refine absN fun wn hB hb _ => ?_
      refine m_keep (b.trans (hb.mono b.size)) ?_
      exact H3_910 ⟨Ac, cc, Ak, ck, B1, d1, B2, d2, g9, _⟩ _ _ _ (by kernel_rfl) rfl ⟨rfl, b.trans (hb.mono b.size), D1.below hb, K1.below hb, T1.below hb, T2.below hb, X9.below hb, .mk' hB b.size, Nat.ne_of_lt X9.lt⟩
    intro H3_9
    refine m_join (β := Option Addr × Nat × Option Addr × Nat × Option Addr × Nat × Option Addr × Nat × Nat × Nat) #[true, true, true, true, true, true, true, true, true, false, true, false, false] 3 (fun b f => #[Value.agg #[Value.int IntKind.u8 (r : Int), Value.int IntKind.u8 (c : Int), Value.slice A0 zs.length d0], Value.pointer (some { block := w.heap.size, off := 0 }), Value.bool false, Value.pointer (some { block := g3, off := 0 }), ptr q, Value.pointer (some { block := g5, off := 0 }), Value.int IntKind.i64 0, f 7, ptr b.2.2.2.2.2.2.2.2.2, Value.bool true, Value.bool false, Value.agg #[Value.int IntKind.u8 (r : Int), Value.int IntKind.u8 (c : Int), Value.slice A0 zs.length d0], refV C A2 M.length c2, Value.agg #[Value.int IntKind.i64 (C : Int), Value.slice A2 M.length c2], ptr q, Value.tuple #[Value.agg #[ptr u1, ptr r1], Value.int IntKind.i64 0], ptr q, Value.tuple #[Value.agg #[ptr u1, ptr r1], Value.int IntKind.i64 0], Value.agg #[ptr u1, ptr r1], Value.int IntKind.i64 0, ptr q, Value.bool false, Value.bool false, Value.int IntKind.i64 0, Value.bool false, Value.bool false, .tuple #[refV ks.length b.2.2.2.2.1 M.length b.2.2.2.2.2.1, refV C b.2.2.2.2.2.2.1 ks.length b.2.2.2.2.2.2.2.1], Value.agg #[Value.int IntKind.i64 (C : Int), Value.slice A2 M.length c2], Value.agg #[Value.int IntKind.i64 (C : Int), Value.slice A2 M.length c2], .slice b.1 L.length b.2.1, Value.agg #[Value.int IntKind.i64 (C : Int), Value.slice A2 M.length c2], .slice b.2.2.1 ks.length b.2.2.2.1, .tuple #[refV ks.length b.2.2.2.2.1 M.length b.2.2.2.2.2.1, refV C b.2.2.2.2.2.2.1 ks.length b.2.2.2.2.2.2.2.1], refV ks.length b.2.2.2.2.1 M.length b.2.2.2.2.2.1, refV C b.2.2.2.2.2.2.1 ks.length b.2.2.2.2.2.2.2.1, undef, undef, undef, undef, undef, undef, undef, undef, undef]) (fun b ds W => ds = [] ∧ Below w7.heap.size w7 W ∧ Row W b.1 (conV C Ns L) ∧ Row W b.2.2.1 (ks.map i64) ∧ TRef W ks.length b.2.2.2.2.1 b.2.2.2.2.2.1 (mat M.length ks.length (usF C Ns L ks)) ∧ TRef W C b.2.2.2.2.2.2.1 b.2.2.2.2.2.2.2.1 (mat ks.length C (peF L ks)) ∧ Bo1 w7 W b.2.2.2.2.2.2.2.2.2 (.int .i64 0) (.slice none 0 0)) ?_ ?_
    · rintro ⟨Ac, cc, Ak, ck, B1, d1, B2, d2, g9, g10⟩ f ds W ⟨rfl, b, D1, K1, T1, T2, X10⟩
      dsimp only at b D1 K1 T1 T2 X10 ⊢
      refine m_s1 9 (by kernel_rfl) rfl ?_
      go_wp2_with fail
      refine absN fun wn hB hb _ => ?_
      refine m_keep (b.trans (hb.mono b.size)) ?_
      exact H3_910 ⟨Ac, cc, Ak, ck, B1, d1, B2, d2, _, g10⟩ _ _ _ (by kernel_rfl) rfl ⟨rfl, b.trans (hb.mono b.size), D1.below hb, K1.below hb, T1.below hb, T2.below hb, .mk' hB b.size, X10.below hb, Nat.ne_of_gt X10.lt⟩
    intro H3_10
    refine m_join (β := Option Addr × Nat × Option Addr × Nat × Option Addr × Nat × Option Addr × Nat × Nat × Nat) #[true, true, true, true, true, false, false, false, false, true, true, false, false] 6 (fun b f => #[Value.agg #[Value.int IntKind.u8 (r : Int), Value.int IntKind.u8 (c : Int), Value.slice A0 zs.length d0], Value.pointer (some { block := w.heap.size, off := 0 }), Value.bool false, Value.pointer (some { block := g3, off := 0 }), ptr q, Value.pointer (some { block := g5, off := 0 }), Value.int IntKind.i64 0, ptr b.2.2.2.2.2.2.2.2.1, ptr b.2.2.2.2.2.2.2.2.2, Value.bool true, Value.bool false, Value.agg #[Value.int IntKind.u8 (r : Int), Value.int IntKind.u8 (c : Int), Value.slice A0 zs.length d0], refV C A2 M.length c2, Value.agg #[Value.int IntKind.i64 (C : Int), Value.slice A2 M.length c2], ptr q, Value.tuple #[Value.agg #[ptr u1, ptr r1], Value.int IntKind.i64 0], ptr q, Value.tuple #[Value.agg #[ptr u1, ptr r1], Value.int IntKind.i64 0], Value.agg #[ptr u1, ptr r1], Value.int IntKind.i64 0, ptr q, Value.bool false, Value.bool false, Value.int IntKind.i64 0, Value.bool false, Value.bool false, f 26, Value.agg #[Value.int IntKind.i64 (C : Int), Value.slice A2 M.length c2], Value.agg #[Value.int IntKind.i64 (C : Int), Value.slice A2 M.length c2], .slice b.1 L.length b.2.1, Value.agg #[Value.int IntKind.i64 (C : Int), Value.slice A2 M.length c2], .slice b.2.2.1 ks.length b.2.2.2.1, f 32, f 33, f 34, undef, undef, undef, undef, undef, undef, undef, undef, undef]) (fun b ds W => ds = [] ∧ Below w7.heap.size w7 W ∧ Row W b.1 (conV C Ns L) ∧ Row W b.2.2.1 (ks.map i64) ∧ Bo1 w7 W b.2.2.2.2.2.2.2.2.1 (.int .i64 0) (.slice none 0 0) ∧ Bo1 w7 W b.2.2.2.2.2.2.2.2.2 (.int .i64 0) (.slice none 0 0) ∧ b.2.2.2.2.2.2.2.2.1 ≠ b.2.2.2.2.2.2.2.2.2) ?_ ?_
    · rintro ⟨Ac, cc, Ak, ck, B1, d1, B2, d2, g9, g10⟩ f ds W ⟨rfl, b, D1, K1, X9, X10, ng9g10⟩
      dsimp only at b D1 K1 X9 X10 ng9g10 ⊢
      refine m_s1 5 (by kernel_rfl) rfl ?_
      go_wp2_with fail
      refine (HRO.out _ Ac cc Ak ck b D1 K1).mono ?_
      rintro e wn ⟨B1, d1, B2, d2, rfl, T1, T2, hb⟩
      have b := b.trans (hb.mono b.size)
      go_wp2_with fail
      refine m_keep b ?_
      (refine m_q 6 (v := ?_) (by kernel_rfl) rfl rfl (fun W hW => ?_) ?_; rotate_left; (go_simp; first | done | with_reducible rfl); simp only [Act.put, List.setIfInBounds_toArray, List.set_cons_zero, List.set_cons_succ]); (refine m_q 7 (v := ?_) (by kernel_rfl) rfl rfl (fun W hW => ?_) ?_; rotate_left; (go_simp; first | done | with_reducible rfl); simp only [Act.put, List.setIfInBounds_toArray, List.set_cons_zero, List.set_cons_succ]); (refine m_q 8 (v := ?_) (by kernel_rfl) rfl rfl (fun W hW => ?_) ?_; rotate_left; (go_simp; first | done | with_reducible rfl); simp only [Act.put, List.setIfInBounds_toArray, List.set_cons_zero, List.set_cons_succ])
      exact H3_910 ⟨Ac, cc, Ak, ck, B1, d1, B2, d2, g9, g10⟩ _ _ _ (by kernel_rfl) rfl ⟨rfl, b, D1.below hb, K1.below hb, T1, T2, X9.below hb, X10.below hb, ng9g10⟩
    intro H2_910
    refine m_join (β := Option Addr × Nat × Option Addr × Nat × Option Addr × Nat × Option Addr × Nat × Nat × Nat) #[true, true, true, true, true, true, true, true, true, false, false, false, false] 4 (fun b f => #[Value.agg #[Value.int IntKind.u8 (r : Int), Value.int IntKind.u8 (c : Int), Value.slice A0 zs.length d0], Value.pointer (some { block := w.heap.size, off := 0 }), Value.bool false, Value.pointer (some { block := g3, off := 0 }), ptr q, Value.pointer (some { block := g5, off := 0 }), Value.int IntKind.i64 0, f 7, f 8, Value.bool true, Value.bool false, Value.agg #[Value.int IntKind.u8 (r : Int), Value.int IntKind.u8 (c : Int), Value.slice A0 zs.length d0], refV C A2 M.length c2, Value.agg #[Value.int IntKind.i64 (C : Int), Value.slice A2 M.length c2], ptr q, Value.tuple #[Value.agg #[ptr u1, ptr r1], Value.int IntKind.i64 0], ptr q, Value.tuple #[Value.agg #[ptr u1, ptr r1], Value.int IntKind.i64 0], Value.agg #[ptr u1, ptr r1], Value.int IntKind.i64 0, ptr q, Value.bool false, Value.bool false, Value.int IntKind.i64 0, Value.bool false, Value.bool false, .tuple #[refV ks.length b.2.2.2.2.1 M.length b.2.2.2.2.2.1, refV C b.2.2.2.2.2.2.1 ks.length b.2.2.2.2.2.2.2.1], Value.agg #[Value.int IntKind.i64 (C : Int), Value.slice A2 M.length c2], Value.agg #[Value.int IntKind.i64 (C : Int), Value.slice A2 M.length c2], .slice b.1 L.length b.2.1, Value.agg #[Value.int IntKind.i64 (C : Int), Value.slice A2 M.length c2], .slice b.2.2.1 ks.length b.2.2.2.1, .tuple #[refV ks.length b.2.2.2.2.1 M.length b.2.2.2.2.2.1, refV C b.2.2.2.2.2.2.1 ks.length b.2.2.2.2.2.2.2.1], refV ks.length b.2.2.2.2.1 M.length b.2.2.2.2.2.1, refV C b.2.2.2.2.2.2.1 ks.length b.2.2.2.2.2.2.2.1, undef, undef, undef, undef, undef, undef, undef, undef, undef]) (fun b ds W => ds = [] ∧ Below w7.heap.size w7 W ∧ Row W b.1 (conV C Ns L) ∧ Row W b.2.2.1 (ks.map i64) ∧ TRef W ks.length b.2.2.2.2.1 b.2.2.2.2.2.1 (mat M.length ks.length (usF C Ns L ks)) ∧ TRef W C b.2.2.2.2.2.2.1 b.2.2.2.2.2.2.2.1 (mat ks.length C (peF L ks))) ?_ ?_
    · rintro ⟨Ac, cc, Ak, ck, B1, d1, B2, d2, g9, g10⟩ f ds W ⟨rfl, b, D1, K1, T1, T2⟩
      dsimp only at b D1 K1 T1 T2 ⊢
      refine m_s2 9 10 (by kernel_rfl) rfl rfl ?_ ?_
      · go_wp2_with fail
        refine absN fun wn hB hb _ => ?_
        refine m_keep (b.trans (hb.mono b.size)) ?_
        exact H3_9 ⟨Ac, cc, Ak, ck, B1, d1, B2, d2, _, 0⟩ _ _ _ (by kernel_rfl) rfl ⟨rfl, b.trans (hb.mono b.size), D1.below hb, K1.below hb, T1.below hb, T2.below hb, .mk' hB b.size⟩
      · go_wp2_with fail
        refine absN fun wn hB hb _ => ?_
        refine m_keep (b.trans (hb.mono b.size)) ?_
        exact H3_10 ⟨Ac, cc, Ak, ck, B1, d1, B2, d2, 0, _⟩ _ _ _ (by kernel_rfl) rfl ⟨rfl, b.trans (hb.mono b.size), D1.below hb, K1.below hb, T1.below hb, T2.below hb, .mk' hB b.size⟩
    intro H3_
    refine m_join (β := Option Addr × Nat × Option Addr × Nat × Option Addr × Nat × Option Addr × Nat × Nat × Nat) #[true, true, true, true, true, false, false, false, false, true, false, false, false] 7 (fun b f => #[Value.agg #[Value.int IntKind.u8 (r : Int), Value.int IntKind.u8 (c : Int), Value.slice A0 zs.length d0], Value.pointer (some { block := w.heap.size, off := 0 }), Value.bool false, Value.pointer (some { block := g3, off := 0 }), ptr q, Value.pointer (some { block := g5, off := 0 }), Value.int IntKind.i64 0, ptr b.2.2.2.2.2.2.2.2.1, f 8, Value.bool true, Value.bool false, Value.agg #[Value.int IntKind.u8 (r : Int), Value.int IntKind.u8 (c : Int), Value.slice A0 zs.length d0], refV C A2 M.length c2, Value.agg #[Value.int IntKind.i64 (C : Int), Value.slice A2 M.length c2], ptr q, Value.tuple #[Value.agg #[ptr u1, ptr r1], Value.int IntKind.i64 0], ptr q, Value.tuple #[Value.agg #[ptr u1, ptr r1], Value.int IntKind.i64 0], Value.agg #[ptr u1, ptr r1], Value.int IntKind.i64 0, ptr q, Value.bool false, Value.bool false, Value.int IntKind.i64 0, Value.bool false, Value.bool false, f 26, Value.agg #[Value.int IntKind.i64 (C : Int), Value.slice A2 M.length c2], Value.agg #[Value.int IntKind.i64 (C : Int), Value.slice A2 M.length c2], .slice b.1 L.length b.2.1, Value.agg #[Value.int IntKind.i64 (C : Int), Value.slice A2 M.length c2], .slice b.2.2.1 ks.length b.2.2.2.1, f 32, f 33, f 34, undef, undef, undef, undef, undef, undef, undef, undef, undef]) (fun b ds W => ds = [] ∧ Below w7.heap.size w7 W ∧ Row W b.1 (conV C Ns L) ∧ Row W b.2.2.1 (ks.map i64) ∧ Bo1 w7 W b.2.2.2.2.2.2.2.2.1 (.int .i64 0) (.slice none 0 0)) ?_ ?_
    · rintro ⟨Ac, cc, Ak, ck, B1, d1, B2, d2, g9, g10⟩ f ds W ⟨rfl, b, D1, K1, X9⟩
      dsimp only at b D1 K1 X9 ⊢
      refine m_s2 5 10 (by kernel_rfl) rfl rfl ?_ ?_
      · go_wp2_with fail
        refine (HRO.out _ Ac cc Ak ck b D1 K1).mono ?_
        rintro e wn ⟨B1, d1, B2, d2, rfl, T1, T2, hb⟩
        have b := b.trans (hb.mono b.size)
        go_wp2_with fail
        refine m_keep b ?_
        (refine m_q 6 (v := ?_) (by kernel_rfl) rfl rfl (fun W hW => ?_) ?_; rotate_left; (go_simp; first | done | with_reducible rfl); simp only [Act.put, List.setIfInBounds_toArray, List.set_cons_zero, List.set_cons_succ]); (refine m_q 7 (v := ?_) (by kernel_rfl) rfl rfl (fun W hW => ?_) ?_; rotate_left; (go_simp; first | done | with_reducible rfl); simp only [Act.put, List.setIfInBounds_toArray, List.set_cons_zero, List.set_cons_succ]); (refine m_q 8 (v := ?_) (by kernel_rfl) rfl rfl (fun W hW => ?_) ?_; rotate_left; (go_simp; first | done | with_reducible rfl); simp only [Act.put, List.setIfInBounds_toArray, List.set_cons_zero, List.set_cons_succ])
        exact H3_9 ⟨Ac, cc, Ak, ck, B1, d1, B2, d2, g9, 0⟩ _ _ _ (by kernel_rfl) rfl ⟨rfl, b, D1.below hb, K1.below hb, T1, T2, X9.below hb⟩
      · go_wp2_with fail
        refine absN fun wn hB hb _ => ?_
        refine m_keep (b.trans (hb.mono b.size)) ?_
        exact H2_910 ⟨Ac, cc, Ak, ck, none, 0, none, 0, g9, _⟩ _ _ _ (by kernel_rfl) rfl ⟨rfl, b.trans (hb.mono b.size), D1.below hb, K1.below hb, X9.below hb, .mk' hB b.size, Nat.ne_of_lt X9.lt⟩
    intro H2_9
    refine m_join (β := Option Addr × Nat × Option Addr × Nat × Option Addr × Nat × Option Addr × Nat × Nat × Nat) #[true, true, true, true, true, false, false, false, false, false, true, false, false] 7 (fun b f => #[Value.agg #[Value.int IntKind.u8 (r : Int), Value.int IntKind.u8 (c : Int), Value.slice A0 zs.length d0], Value.pointer (some { block := w.heap.size, off := 0 }), Value.bool false, Value.pointer (some { block := g3, off := 0 }), ptr q, Value.pointer (some { block := g5, off := 0 }), Value.int IntKind.i64 0, f 7, ptr b.2.2.2.2.2.2.2.2.2, Value.bool true, Value.bool false, Value.agg #[Value.int IntKind.u8 (r : Int), Value.int IntKind.u8 (c : Int), Value.slice A0 zs.length d0], refV C A2 M.length c2, Value.agg #[Value.int IntKind.i64 (C : Int), Value.slice A2 M.length c2], ptr q, Value.tuple #[Value.agg #[ptr u1, ptr r1], Value.int IntKind.i64 0], ptr q, Value.tuple #[Value.agg #[ptr u1, ptr r1], Value.int IntKind.i64 0], Value.agg #[ptr u1, ptr r1], Value.int IntKind.i64 0, ptr q, Value.bool false, Value.bool false, Value.int IntKind.i64 0, Value.bool false, Value.bool false, f 26, Value.agg #[Value.int IntKind.i64 (C : Int), Value.slice A2 M.length c2], Value.agg #[Value.int IntKind.i64 (C : Int), Value.slice A2 M.length c2], .slice b.1 L.length b.2.1, Value.agg #[Value.int IntKind.i64 (C : Int), Value.slice A2 M.length c2], .slice b.2.2.1 ks.length b.2.2.2.1, f 32, f 33, f 34, undef, undef, undef, undef, undef, undef, undef, undef, undef]) (fun b ds W => ds = [] ∧ Below w7.heap.size w7 W ∧ Row W b.1 (conV C Ns L) ∧ Row W b.2.2.1 (ks.map i64) ∧ Bo1 w7 W b.2.2.2.2.2.2.2.2.2 (.int .i64 0) (.slice none 0 0)) ?_ ?_
    · rintro ⟨Ac, cc, Ak, ck, B1, d1, B2, d2, g9, g10⟩ f ds W ⟨rfl, b, D1, K1, X10⟩
      dsimp only at b D1 K1 X10 ⊢
      refine m_s2 5 9 (by kernel_rfl) rfl rfl ?_ ?_
      · go_wp2_with fail
        refine (HRO.out _ Ac cc Ak ck b D1 K1).mono ?_
        rintro e wn ⟨B1, d1, B2, d2, rfl, T1, T2, hb⟩
        have b := b.trans (hb.mono b.size)
        go_wp2_with fail
        refine m_keep b ?_
        (refine m_q 6 (v := ?_) (by kernel_rfl) rfl rfl (fun W hW => ?_) ?_; rotate_left; (go_simp; first | done | with_reducible rfl); simp only [Act.put, List.setIfInBounds_toArray, List.set_cons_zero, List.set_cons_succ]); (refine m_q 7 (v := ?_) (by kernel_rfl) rfl rfl (fun W hW => ?_) ?_; rotate_left; (go_simp; first | done | with_reducible rfl); simp only [Act.put, List.setIfInBounds_toArray, List.set_cons_zero, List.set_cons_succ]); (refine m_q 8 (v := ?_) (by kernel_rfl) rfl rfl (fun W hW => ?_) ?_; rotate_left; (go_simp; first | done | with_reducible rfl); simp only [Act.put, List.setIfInBounds_toArray, List.set_cons_zero, List.set_cons_succ])
        exact H3_10 ⟨Ac, cc, Ak, ck, B1, d1, B2, d2, 0, g10⟩ _ _ _ (by kernel_rfl) rfl ⟨rfl, b, D1.below hb, K1.below hb, T1, T2, X10.below hb⟩
      · go_wp2_with fail
        refine absN fun wn hB hb _ => ?_
        refine m_keep (b.trans (hb.mono b.size)) ?_
        exact H2_910 ⟨Ac, cc, Ak, ck, none, 0, none, 0, _, g10⟩ _ _ _ (by kernel_rfl) rfl ⟨rfl, b.trans (hb.mono b.size), D1.below hb, K1.below hb, .mk' hB b.size, X10.below hb, Nat.ne_of_gt X10.lt⟩
    intro H2_10
    refine m_join (β := Option Addr × Nat × Option Addr × Nat × Option Addr × Nat × Option Addr × Nat × Nat × Nat) #[true, true, true, true, false, false, false, false, false, true, true, false, false] 7 (fun b f => #[Value.agg #[Value.int IntKind.u8 (r : Int), Value.int IntKind.u8 (c : Int), Value.slice A0 zs.length d0], Value.pointer (some { block := w.heap.size, off := 0 }), Value.bool false, Value.pointer (some { block := g3, off := 0 }), ptr q, Value.pointer (some { block := g5, off := 0 }), Value.int IntKind.i64 0, ptr b.2.2.2.2.2.2.2.2.1, ptr b.2.2.2.2.2.2.2.2.2, Value.bool true, Value.bool false, Value.agg #[Value.int IntKind.u8 (r : Int), Value.int IntKind.u8 (c : Int), Value.slice A0 zs.length d0], refV C A2 M.length c2, Value.agg #[Value.int IntKind.i64 (C : Int), Value.slice A2 M.length c2], ptr q, Value.tuple #[Value.agg #[ptr u1, ptr r1], Value.int IntKind.i64 0], ptr q, Value.tuple #[Value.agg #[ptr u1, ptr r1], Value.int IntKind.i64 0], Value.agg #[ptr u1, ptr r1], Value.int IntKind.i64 0, ptr q, Value.bool false, Value.bool false, Value.int IntKind.i64 0, Value.bool false, Value.bool false, f 26, Value.agg #[Value.int IntKind.i64 (C : Int), Value.slice A2 M.length c2], Value.agg #[Value.int IntKind.i64 (C : Int), Value.slice A2 M.length c2], .slice b.1 L.length b.2.1, Value.agg #[Value.int IntKind.i64 (C : Int), Value.slice A2 M.length c2], f 31, f 32, f 33, f 34, undef, undef, undef, undef, undef, undef, undef, undef, undef]) (fun b ds W => ds = [] ∧ Below w7.heap.size w7 W ∧ Row W b.1 (conV C Ns L) ∧ Bo1 w7 W b.2.2.2.2.2.2.2.2.1 (.int .i64 0) (.slice none 0 0) ∧ Bo1 w7 W b.2.2.2.2.2.2.2.2.2 (.int .i64 0) (.slice none 0 0) ∧ b.2.2.2.2.2.2.2.2.1 ≠ b.2.2.2.2.2.2.2.2.2) ?_ ?_
    · rintro ⟨Ac, cc, Ak, ck, B1, d1, B2, d2, g9, g10⟩ f ds W ⟨rfl, b, D1, X9, X10, ng9g10⟩
      dsimp only at b D1 X9 X10 ng9g10 ⊢
      refine m_s1 4 (by kernel_rfl) rfl ?_
      go_wp2_with fail
      refine (HGR.out _ b).mono ?_
      rintro e wn ⟨vk, rfl, hO, hb⟩
      obtain ⟨Ak, ck, rfl, -, -, K1, -⟩ := row_of_own hO
      clear hO
      have b := b.trans (hb.mono b.size)
      go_wp2_with fail
      refine m_keep b ?_
      exact H2_910 ⟨Ac, cc, Ak, ck, none, 0, none, 0, g9, g10⟩ _ _ _ (by kernel_rfl) rfl ⟨rfl, b, D1.below hb, K1, X9.below hb, X10.below hb, ng9g10⟩
    intro H1_910
    refine m_join (β := Option Addr × Nat × Option Addr × Nat × Option Addr × Nat × Option Addr × Nat × Nat × Nat) #[true, true, true, true, true, false, false, false, false, false, false, false, false] 8 (fun b f => #[Value.agg #[Value.int IntKind.u8 (r : Int), Value.int IntKind.u8 (c : Int), Value.slice A0 zs.length d0], Value.pointer (some { block := w.heap.size, off := 0 }), Value.bool false, Value.pointer (some { block := g3, off := 0 }), ptr q, Value.pointer (some { block := g5, off := 0 }), Value.int IntKind.i64 0, f 7, f 8, Value.bool true, Value.bool false, Value.agg #[Value.int IntKind.u8 (r : Int), Value.int IntKind.u8 (c : Int), Value.slice A0 zs.length d0], refV C A2 M.length c2, Value.agg #[Value.int IntKind.i64 (C : Int), Value.slice A2 M.length c2], ptr q, Value.tuple #[Value.agg #[ptr u1, ptr r1], Value.int IntKind.i64 0], ptr q, Value.tuple #[Value.agg #[ptr u1, ptr r1], Value.int IntKind.i64 0], Value.agg #[ptr u1, ptr r1], Value.int IntKind.i64 0, ptr q, Value.bool false, Value.bool false, Value.int IntKind.i64 0, Value.bool false, Value.bool false, f 26, Value.agg #[Value.int IntKind.i64 (C : Int), Value.slice A2 M.length c2], Value.agg #[Value.int IntKind.i64 (C : Int), Value.slice A2 M.length c2], .slice b.1 L.length b.2.1, Value.agg #[Value.int IntKind.i64 (C : Int), Value.slice A2 M.length c2], .slice b.2.2.1 ks.length b.2.2.2.1, f 32, f 33, f 34, undef, undef, undef, undef, undef, undef, undef, undef, undef]) (fun b ds W => ds = [] ∧ Below w7.heap.size w7 W ∧ Row W b.1 (conV C Ns L) ∧ Row W b.2.2.1 (ks.map i64)) ?_ ?_
    · rintro ⟨Ac, cc, Ak, ck, B1, d1, B2, d2, g9, g10⟩ f ds W ⟨rfl, b, D1, K1⟩
      dsimp only at b D1 K1 ⊢
      refine m_s3 5 9 10 (by kernel_rfl) rfl rfl rfl ?_ ?_ ?_
      · go_wp2_with fail
        refine (HRO.out _ Ac cc Ak ck b D1 K1).mono ?_
        rintro e wn ⟨B1, d1, B2, d2, rfl, T1, T2, hb⟩
        have b := b.trans (hb.mono b.size)
        go_wp2_with fail
        refine m_keep b ?_
        (refine m_q 6 (v := ?_) (by kernel_rfl) rfl rfl (fun W hW => ?_) ?_; rotate_left; (go_simp; first | done | with_reducible rfl); simp only [Act.put, List.setIfInBounds_toArray, List.set_cons_zero, List.set_cons_succ]); (refine m_q 7 (v := ?_) (by kernel_rfl) rfl rfl (fun W hW => ?_) ?_; rotate_left; (go_simp; first | done | with_reducible rfl); simp only [Act.put, List.setIfInBounds_toArray, List.set_cons_zero, List.set_cons_succ]); (refine m_q 8 (v := ?_) (by kernel_rfl) rfl rfl (fun W hW => ?_) ?_; rotate_left; (go_simp; first | done | with_reducible rfl); simp only [Act.put, List.setIfInBounds_toArray, List.set_cons_zero, List.set_cons_succ])
        exact H3_ ⟨Ac, cc, Ak, ck, B1, d1, B2, d2, 0, 0⟩ _ _ _ (by kernel_rfl) rfl ⟨rfl, b, D1.below hb, K1.below hb, T1, T2⟩
      · go_wp2_with fail
        refine absN fun wn hB hb _ => ?_
        refine m_keep (b.trans (hb.mono b.size)) ?_
        exact H2_9 ⟨Ac, cc, Ak, ck, none, 0, none, 0, _, 0⟩ _ _ _ (by kernel_rfl) rfl ⟨rfl, b.trans (hb.mono b.size), D1.below hb, K1.below hb, .mk' hB b.size⟩
      · go_wp2_with fail
        refine absN fun wn hB hb _ => ?_
        refine m_keep (b.trans (hb.mono b.size)) ?_
        exact H2_10 ⟨Ac, cc, Ak, ck, none, 0, none, 0, 0, _⟩ _ _ _ (by kernel_rfl) rfl ⟨rfl, b.trans (hb.mono b.size), D1.below hb, K1.below hb, .mk' hB b.size⟩
    intro H2_
    refine m_join (β := Option Addr × Nat × Option Addr × Nat × Option Addr × Nat × Option Addr × Nat × Nat × Nat) #[true, true, true, true, false, false, false, false, false, true, false, false, false] 8 (fun b f => #[Value.agg #[Value.int IntKind.u8 (r : Int), Value.int IntKind.u8 (c : Int), Value.slice A0 zs.length d0], Value.pointer (some { block := w.heap.size, off := 0 }), Value.bool false, Value.pointer (some { block := g3, off := 0 }), ptr q, Value.pointer (some { block := g5, off := 0 }), Value.int IntKind.i64 0, ptr b.2.2.2.2.2.2.2.2.1, f 8, Value.bool true, Value.bool false, Value.agg #[Value.int IntKind.u8 (r : Int), Value.int IntKind.u8 (c : Int), Value.slice A0 zs.length d0], refV C A2 M.length c2, Value.agg #[Value.int IntKind.i64 (C : Int), Value.slice A2 M.length c2], ptr q, Value.tuple #[Value.agg #[ptr u1, ptr r1], Value.int IntKind.i64 0], ptr q, Value.tuple #[Value.agg #[ptr u1, ptr r1], Value.int IntKind.i64 0], Value.agg #[ptr u1, ptr r1], Value.int IntKind.i64 0, ptr q, Value.bool false, Value.bool false, Value.int IntKind.i64 0, Value.bool false, Value.bool false, f 26, Value.agg #[Value.int IntKind.i64 (C : Int), Value.slice A2 M.length c2], Value.agg #[Value.int IntKind.i64 (C : Int), Value.slice A2 M.length c2], .slice b.1 L.length b.2.1, Value.agg #[Value.int IntKind.i64 (C : Int), Value.slice A2 M.length c2], f 31, f 32, f 33, f 34, undef, undef, undef, undef, undef, undef, undef, undef, undef]) (fun b ds W => ds = [] ∧ Below w7.heap.size w7 W ∧ Row W b.1 (conV C Ns L) ∧ Bo1 w7 W b.2.2.2.2.2.2.2.2.1 (.int .i64 0) (.slice none 0 0)) ?_ ?_
    · rintro ⟨Ac, cc, Ak, ck, B1, d1, B2, d2, g9, g10⟩ f ds W ⟨rfl, b, D1, X9⟩
      dsimp only at b D1 X9 ⊢
      refine m_s2 4 10 (by kernel_rfl) rfl rfl ?_ ?_
      · go_wp2_with fail
        refine (HGR.out _ b).mono ?_
        rintro e wn ⟨vk, rfl, hO, hb⟩
        obtain ⟨Ak, ck, rfl, -, -, K1, -⟩ := row_of_own hO
        clear hO
        have b := b.trans (hb.mono b.size)
        go_wp2_with fail
        refine m_keep b ?_
        exact H2_9 ⟨Ac, cc, Ak, ck, none, 0, none, 0, g9, 0⟩ _ _ _ (by kernel_rfl) rfl ⟨rfl, b, D1.below hb, K1, X9.below hb⟩
      · go_wp2_with fail
        refine absN fun wn hB hb _ => ?_
        refine m_keep (b.trans (hb.mono b.size)) ?_
        exact H1_910 ⟨Ac, cc, none, 0, none, 0, none, 0, g9, _⟩ _ _ _ (by kernel_rfl) rfl ⟨rfl, b.trans (hb.mono b.size), D1.below hb, X9.below hb, .mk' hB b.size, Nat.ne_of_lt X9.lt⟩
    intro H1_9
    refine m_join (β := Option Addr × Nat × Option Addr × Nat × Option Addr × Nat × Option Addr × Nat × Nat × Nat) #[true, true, true, true, false, false, false, false, false, false, true, false, false] 8 (fun b f => #[Value.agg #[Value.int IntKind.u8 (r : Int), Value.int IntKind.u8 (c : Int), Value.slice A0 zs.length d0], Value.pointer (some { block := w.heap.size, off := 0 }), Value.bool false, Value.pointer (some { block := g3, off := 0 }), ptr q, Value.pointer (some { block := g5, off := 0 }), Value.int IntKind.i64 0, f 7, ptr b.2.2.2.2.2.2.2.2.2, Value.bool true, Value.bool false, Value.agg #[Value.int IntKind.u8 (r : Int), Value.int IntKind.u8 (c : Int), Value.slice A0 zs.length d0], refV C A2 M.length c2, Value.agg #[Value.int IntKind.i64 (C : Int), Value.slice A2 M.length c2], ptr q, Value.tuple #[Value.agg #[ptr u1, ptr r1], Value.int IntKind.i64 0], ptr q, Value.tuple #[Value.agg #[ptr u1, ptr r1], Value.int IntKind.i64 0], Value.agg #[ptr u1, ptr r1], Value.int IntKind.i64 0, ptr q, Value.bool false, Value.bool false, Value.int IntKind.i64 0, Value.bool false, Value.bool false, f 26, Value.agg #[Value.int IntKind.i64 (C : Int), Value.slice A2 M.length c2], Value.agg #[Value.int IntKind.i64 (C : Int), Value.slice A2 M.length c2], .slice b.1 L.length b.2.1, Value.agg #[Value.int IntKind.i64 (C : Int), Value.slice A2 M.length c2], f 31, f 32, f 33, f 34, undef, undef, undef, undef, undef, undef, undef, undef, undef]) (fun b ds W => ds = [] ∧ Below w7.heap.size w7 W ∧ Row W b.1 (conV C Ns L) ∧ Bo1 w7 W b.2.2.2.2.2.2.2.2.2 (.int .i64 0) (.slice none 0 0)) ?_ ?_
    · rintro ⟨Ac, cc, Ak, ck, B1, d1, B2, d2, g9, g10⟩ f ds W ⟨rfl, b, D1, X10⟩
      dsimp only at b D1 X10 ⊢
      refine m_s2 4 9 (by kernel_rfl) rfl rfl ?_ ?_
      · go_wp2_with fail
        refine (HGR.out _ b).mono ?_
        rintro e wn ⟨vk, rfl, hO, hb⟩
        obtain ⟨Ak, ck, rfl, -, -, K1, -⟩ := row_of_own hO
        clear hO
        have b := b.trans (hb.mono b.size)
        go_wp2_with fail
        refine m_keep b ?_
        exact H2_10 ⟨Ac, cc, Ak, ck, none, 0, none, 0, 0, g10⟩ _ _ _ (by kernel_rfl) rfl ⟨rfl, b, D1.below hb, K1, X10.below hb⟩
      · go_wp2_with fail
        refine absN fun wn hB hb _ => ?_
        refine m_keep (b.trans (hb.mono b.size)) ?_
        exact H1_910 ⟨Ac, cc, none, 0, none, 0, none, 0, _, g10⟩ _ _ _ (by kernel_rfl) rfl ⟨rfl, b.trans (hb.mono b.size), D1.below hb, .mk' hB b.size, X10.below hb, Nat.ne_of_gt X10.lt⟩
    intro H1_10
    refine m_join (β := Option Addr × Nat × Option Addr × Nat × Option Addr × Nat × Option Addr × Nat × Nat × Nat) #[true, true, false, true, false, false, false, false, false, true, true, false, false] 8 (fun b f => #[Value.agg #[Value.int IntKind.u8 (r : Int), Value.int IntKind.u8 (c : Int), Value.slice A0 zs.length d0], Value.pointer (some { block := w.heap.size, off := 0 }), Value.bool false, Value.pointer (some { block := g3, off := 0 }), ptr q, Value.pointer (some { block := g5, off := 0 }), Value.int IntKind.i64 0, ptr b.2.2.2.2.2.2.2.2.1, ptr b.2.2.2.2.2.2.2.2.2, Value.bool true, Value.bool false, Value.agg #[Value.int IntKind.u8 (r : Int), Value.int IntKind.u8 (c : Int), Value.slice A0 zs.length d0], refV C A2 M.length c2, Value.agg #[Value.int IntKind.i64 (C : Int), Value.slice A2 M.length c2], ptr q, Value.tuple #[Value.agg #[ptr u1, ptr r1], Value.int IntKind.i64 0], ptr q, Value.tuple #[Value.agg #[ptr u1, ptr r1], Value.int IntKind.i64 0], Value.agg #[ptr u1, ptr r1], Value.int IntKind.i64 0, ptr q, Value.bool false, Value.bool false, Value.int IntKind.i64 0, Value.bool false, Value.bool false, f 26, Value.agg #[Value.int IntKind.i64 (C : Int), Value.slice A2 M.length c2], Value.agg #[Value.int IntKind.i64 (C : Int), Value.slice A2 M.length c2], f 29, Value.agg #[Value.int IntKind.i64 (C : Int), Value.slice A2 M.length c2], f 31, f 32, f 33, f 34, undef, undef, undef, undef, undef, undef, undef, undef, undef]) (fun b ds W => ds = [] ∧ Below w7.heap.size w7 W ∧ Bo1 w7 W b.2.2.2.2.2.2.2.2.1 (.int .i64 0) (.slice none 0 0) ∧ Bo1 w7 W b.2.2.2.2.2.2.2.2.2 (.int .i64 0) (.slice none 0 0) ∧ b.2.2.2.2.2.2.2.2.1 ≠ b.2.2.2.2.2.2.2.2.2) ?_ ?_
    · rintro ⟨Ac, cc, Ak, ck, B1, d1, B2, d2, g9, g10⟩ f ds W ⟨rfl, b, X9, X10, ng9g10⟩
      dsimp only at b X9 X10 ng9g10 ⊢
      refine m_s1 2 (by kernel_rfl) rfl ?_
      go_wp2_with fail
      refine (HCO.out _ b).mono ?_
      rintro e wn ⟨vc, rfl, hD, hb⟩
      obtain ⟨Ac, cc, rfl, hlcc, D1⟩ := hD.row
      clear hD
      have b := b.trans (hb.mono b.size)
      go_wp2_with fail
      refine m_keep b ?_
      exact H1_910 ⟨Ac, cc, none, 0, none, 0, none, 0, g9, g10⟩ _ _ _ (by kernel_rfl) rfl ⟨rfl, b, D1, X9.below hb, X10.below hb, ng9g10⟩
    intro H0_910
    refine m_join (β := Option Addr × Nat × Option Addr × Nat × Option Addr × Nat × Option Addr × Nat × Nat × Nat) #[true, true, true, true, false, false, false, false, false, false, false, false, false] 9 (fun b f => #[Value.agg #[Value.int IntKind.u8 (r : Int), Value.int IntKind.u8 (c : Int), Value.slice A0 zs.length d0], Value.pointer (some { block := w.heap.size, off := 0 }), Value.bool false, Value.pointer (some { block := g3, off := 0 }), ptr q, Value.pointer (some { block := g5, off := 0 }), Value.int IntKind.i64 0, f 7, f 8, Value.bool true, Value.bool false, Value.agg #[Value.int IntKind.u8 (r : Int), Value.int IntKind.u8 (c : Int), Value.slice A0 zs.length d0], refV C A2 M.length c2, Value.agg #[Value.int IntKind.i64 (C : Int), Value.slice A2 M.length c2], ptr q, Value.tuple #[Value.agg #[ptr u1, ptr r1], Value.int IntKind.i64 0], ptr q, Value.tuple #[Value.agg #[ptr u1, ptr r1], Value.int IntKind.i64 0], Value.agg #[ptr u1, ptr r1], Value.int IntKind.i64 0, ptr q, Value.bool false, Value.bool false, Value.int IntKind.i64 0, Value.bool false, Value.bool false, f 26, Value.agg #[Value.int IntKind.i64 (C : Int), Value.slice A2 M.length c2], Value.agg #[Value.int IntKind.i64 (C : Int), Value.slice A2 M.length c2], .slice b.1 L.length b.2.1, Value.agg #[Value.int IntKind.i64 (C : Int), Value.slice A2 M.length c2], f 31, f 32, f 33, f 34, undef, undef, undef, undef, undef, undef, undef, undef, undef]) (fun b ds W => ds = [] ∧ Below w7.heap.size w7 W ∧ Row W b.1 (conV C Ns L)) ?_ ?_
    · rintro ⟨Ac, cc, Ak, ck, B1, d1, B2, d2, g9, g10⟩ f ds W ⟨rfl, b, D1⟩
      dsimp only at b D1 ⊢
      refine m_s3 4 9 10 (by kernel_rfl) rfl rfl rfl ?_ ?_ ?_
      · go_wp2_with fail
        refine (HGR.out _ b).mono ?_
        rintro e wn ⟨vk, rfl, hO, hb⟩
        obtain ⟨Ak, ck, rfl, -, -, K1, -⟩ := row_of_own hO
        clear hO
        have b := b.trans (hb.mono b.size)
        go_wp2_with fail
        refine m_keep b ?_
        exact H2_ ⟨Ac, cc, Ak, ck, none, 0, none, 0, 0, 0⟩ _ _ _ (by kernel_rfl) rfl ⟨rfl, b, D1.below hb, K1⟩
      · go_wp2_with fail
        refine absN fun wn hB hb _ => ?_
        refine m_keep (b.trans (hb.mono b.size)) ?_
        exact H1_9 ⟨Ac, cc, none, 0, none, 0, none, 0, _, 0⟩ _ _ _ (by kernel_rfl) rfl ⟨rfl, b.trans (hb.mono b.size), D1.below hb, .mk' hB b.size⟩
      · go_wp2_with fail
        refine absN fun wn hB hb _ => ?_
        refine m_keep (b.trans (hb.mono b.size)) ?_
        exact H1_10 ⟨Ac, cc, none, 0, none, 0, none, 0, 0, _⟩ _ _ _ (by kernel_rfl) rfl ⟨rfl, b.trans (hb.mono b.size), D1.below hb, .mk' hB b.size⟩
    intro H1_
    refine m_join (β := Option Addr × Nat × Option Addr × Nat × Option Addr × Nat × Option Addr × Nat × Nat × Nat) #[true, true, false, true, false, false, false, false, false, true, false, false, false] 9 (fun b f => #[Value.agg #[Value.int IntKind.u8 (r : Int), Value.int IntKind.u8 (c : Int), Value.slice A0 zs.length d0], Value.pointer (some { block := w.heap.size, off := 0 }), Value.bool false, Value.pointer (some { block := g3, off := 0 }), ptr q, Value.pointer (some { block := g5, off := 0 }), Value.int IntKind.i64 0, ptr b.2.2.2.2.2.2.2.2.1, f 8, Value.bool true, Value.bool false, Value.agg #[Value.int IntKind.u8 (r : Int), Value.int IntKind.u8 (c : Int), Value.slice A0 zs.length d0], refV C A2 M.length c2, Value.agg #[Value.int IntKind.i64 (C : Int), Value.slice A2 M.length c2], ptr q, Value.tuple #[Value.agg #[ptr u1, ptr r1], Value.int IntKind.i64 0], ptr q, Value.tuple #[Value.agg #[ptr u1, ptr r1], Value.int IntKind.i64 0], Value.agg #[ptr u1, ptr r1], Value.int IntKind.i64 0, ptr q, Value.bool false, Value.bool false, Value.int IntKind.i64 0, Value.bool false, Value.bool false, f 26, Value.agg #[Value.int IntKind.i64 (C : Int), Value.slice A2 M.length c2], Value.agg #[Value.int IntKind.i64 (C : Int), Value.slice A2 M.length c2], f 29, Value.agg #[Value.int IntKind.i64 (C : Int), Value.slice A2 M.length c2], f 31, f 32, f 33, f 34, undef, undef, undef, undef, undef, undef, undef, undef, undef]) (fun b ds W => ds = [] ∧ Below w7.heap.size w7 W ∧ Bo1 w7 W b.2.2.2.2.2.2.2.2.1 (.int .i64 0) (.slice none 0 0)) ?_ ?_
    · rintro ⟨Ac, cc, Ak, ck, B1, d1, B2, d2, g9, g10⟩ f ds W ⟨rfl, b, X9⟩
      dsimp only at b X9 ⊢
      refine m_s2 2 10 (by kernel_rfl) rfl rfl ?_ ?_
      · go_wp2_with fail
        refine (HCO.out _ b).mono ?_
        rintro e wn ⟨vc, rfl, hD, hb⟩
        obtain ⟨Ac, cc, rfl, hlcc, D1⟩ := hD.row
        clear hD
        have b := b.trans (hb.mono b.size)
        go_wp2_with fail
        refine m_keep b ?_
        exact H1_9 ⟨Ac, cc, none, 0, none, 0, none, 0, g9, 0⟩ _ _ _ (by kernel_rfl) rfl ⟨rfl, b, D1, X9.below hb⟩
      · go_wp2_with fail
        refine absN fun wn hB hb _ => ?_
        refine m_keep (b.trans (hb.mono b.size)) ?_
        exact H0_910 ⟨none, 0, none, 0, none, 0, none, 0, g9, _⟩ _ _ _ (by kernel_rfl) rfl ⟨rfl, b.trans (hb.mono b.size), X9.below hb, .mk' hB b.size, Nat.ne_of_lt X9.lt⟩
    intro H0_9
    refine m_join (β := Option Addr × Nat × Option Addr × Nat × Option Addr × Nat × Option Addr × Nat × Nat × Nat) #[true, true, false, true, false, false, false, false, false, false, true, false, false] 9 (fun b f => #[Value.agg #[Value.int IntKind.u8 (r : Int), Value.int IntKind.u8 (c : Int), Value.slice A0 zs.length d0], Value.pointer (some { block := w.heap.size, off := 0 }), Value.bool false, Value.pointer (some { block := g3, off := 0 }), ptr q, Value.pointer (some { block := g5, off := 0 }), Value.int IntKind.i64 0, f 7, ptr b.2.2.2.2.2.2.2.2.2, Value.bool true, Value.bool false, Value.agg #[Value.int IntKind.u8 (r : Int), Value.int IntKind.u8 (c : Int), Value.slice A0 zs.length d0], refV C A2 M.length c2, Value.agg #[Value.int IntKind.i64 (C : Int), Value.slice A2 M.length c2], ptr q, Value.tuple #[Value.agg #[ptr u1, ptr r1], Value.int IntKind.i64 0], ptr q, Value.tuple #[Value.agg #[ptr u1, ptr r1], Value.int IntKind.i64 0], Value.agg #[ptr u1, ptr r1], Value.int IntKind.i64 0, ptr q, Value.bool false, Value.bool false, Value.int IntKind.i64 0, Value.bool false, Value.bool false, f 26, Value.agg #[Value.int IntKind.i64 (C : Int), Value.slice A2 M.length c2], Value.agg #[Value.int IntKind.i64 (C : Int), Value.slice A2 M.length c2], f 29, Value.agg #[Value.int IntKind.i64 (C : Int), Value.slice A2 M.length c2], f 31, f 32, f 33, f 34, undef, undef, undef, undef, undef, undef, undef, undef, undef]) (fun b ds W => ds = [] ∧ Below w7.heap.size w7 W ∧ Bo1 w7 W b.2.2.2.2.2.2.2.2.2 (.int .i64 0) (.slice none 0 0)) ?_ ?_
    · rintro ⟨Ac, cc, Ak, ck, B1, d1, B2, d2, g9, g10⟩ f ds W ⟨rfl, b, X10⟩
      dsimp only at b X10 ⊢
      refine m_s2 2 9 (by kernel_rfl) rfl rfl ?_ ?_
      · go_wp2_with fail
        refine (HCO.out _ b).mono ?_
        rintro e wn ⟨vc, rfl, hD, hb⟩
        obtain ⟨Ac, cc, rfl, hlcc, D1⟩ := hD.row
        clear hD
        have b := b.trans (hb.mono b.size)
        go_wp2_with fail
        refine m_keep b ?_
        exact H1_10 ⟨Ac, cc, none, 0, none, 0, none, 0, 0, g10⟩ _ _ _ (by kernel_rfl) rfl ⟨rfl, b, D1, X10.below hb⟩
      · go_wp2_with fail
        refine absN fun wn hB hb _ => ?_
        refine m_keep (b.trans (hb.mono b.size)) ?_
        exact H0_910 ⟨none, 0, none, 0, none, 0, none, 0, _, g10⟩ _ _ _ (by kernel_rfl) rfl ⟨rfl, b.trans (hb.mono b.size), .mk' hB b.size, X10.below hb, Nat.ne_of_gt X10.lt⟩
    intro H0_10
    refine m_s3 2 9 10 (by kernel_rfl) rfl rfl rfl ?_ ?_ ?_
    · go_wp2_with fail
      refine (HCO.out _ b).mono ?_
      rintro e wn ⟨vc, rfl, hD, hb⟩
      obtain ⟨Ac, cc, rfl, hlcc, D1⟩ := hD.row
      clear hD
      have b := b.trans (hb.mono b.size)
      go_wp2_with fail
      refine m_keep b ?_
      exact H1_ ⟨Ac, cc, none, 0, none, 0, none, 0, 0, 0⟩ _ _ _ (by kernel_rfl) rfl ⟨rfl, b, D1⟩
    · go_wp2_with fail
      refine absN fun wn hB hb _ => ?_
      refine m_keep (b.trans (hb.mono b.size)) ?_
      exact H0_9 ⟨none, 0, none, 0, none, 0, none, 0, _, 0⟩ _ _ _ (by kernel_rfl) rfl ⟨rfl, b.trans (hb.mono b.size), .mk' hB b.size⟩
    · go_wp2_with fail
      refine absN fun wn hB hb _ => ?_
      refine m_keep (b.trans (hb.mono b.size)) ?_
      exact H0_10 ⟨none, 0, none, 0, none, 0, none, 0, 0, _⟩ _ _ _ (by kernel_rfl) rfl ⟨rfl, b.trans (hb.mono b.size), .mk' hB b.size⟩
  case rest =>
    obtain ⟨g9, g10, B1, B2, d1, d2, rfl, rfl, h9, h10, T1, T2, bc⟩ := hcut
    have b8 := b7.trans (bc.mono b7.size)
    have hq8 := hq7.below bc
    have h58 := h57.below bc h57.lt
    have hu8 := hu7.below bc
    have hr8 := hr7.below bc
    have hKk : K.length = ks.length := atL_len HKS1.out
    have hK32 : K.length ≤ 32 := hlen32
    have e0 := h58.cell 0
    have e1 := h58.cell 1
    have e3 := h9.cell 0
    have e4 := h9.cell 1
    have e5 := h10.cell 0
    have e6 := h10.cell 1
    have hun : (usersN C Ns K).length ≤ 256 := by unfold usersN; rw [mtrans_len]; omega
    have hus := users_same (C := C) (Ns := Ns) hl HKS1.out (by omega)
    have hpe := perms_same (C := C) HKS1.out
    rw [HNL.out] at hus
    have huk : IsMat wc u1 ks.length (usersN C Ns K) := hKk ▸ hu8.mat
    have hIS := is48_any u1 r1 ks.length C M.length ks.length (usersN C Ns K) K B1 B2 d1 d2 _ _ wc huk hr8.mat T1.ref T2.ref (mat_len ..) (mat_len ..) (by omega) (by omega) hun (by omega) hus hpe
    have HIS := hideC hIS
    have HV := Lib.hid (fun W (hb : Below wc.heap.size wc W) => valid_any q u1 r1 C K.length C Ns (usersN C Ns K) K W (hq8.below hb) (hu8.mat.below hb) (hr8.mat.below hb) (users_rows (by omega)) (hT.below (b8.trans (hb.mono b8.size))))
    rw [HVAL.out] at HV
    clear hIS hus hpe huk hun T1 T2 h9 h10 hq7 hu7 hr7 h57 i0 i1 h37 hI7 HRO HCO HGR bc b7 hb47
    go_wp2_with fail
    refine HIS.out.mono ?_
    rintro e w9 ⟨rfl, hb9⟩
    have b9 := b8.trans (hb9.mono b8.size)
    have k58 := h58.below hb9 h58.lt
    clear e0 e1 e3 e4 e5 e6 HIS
    have e0 := k58.cell 0
    have e1 := k58.cell 1
    have HV9 := hideC (HV.out w9 hb9)
    clear HV hb9 h58 hq8 hu8 hr8
    go_wp2_with fail
    refine HV9.out.mono ?_
    rintro e wa ⟨rfl, hba⟩
    go_wp2_with fail
    go_ret
    exact ⟨rfl, b9.trans (hba.mono b9.size)⟩
end Mix2
end Go.Proofs.YtlakjhhpdbgekaaGreatDoor
