import Derived.Test.YthkjigggfeejdaaDoorMig7
namespace Go.Proofs.YthkjigggfeejdaaDoor
open Go.RowKit
attribute [local go_sem] Oper.semAt_some

/-- What Joint leaves where the configurations do not fit. -/
def jNo (w : World) (e : Ending) (w' : World) : Prop := e = .returned (.tuple #[.agg #[.pointer none, .pointer none], .agg #[.pointer none, .pointer none], .slice none 0 0, .int .i64 1]) ∧ Below w.heap.size w w'
set_option maxRecDepth 100000 in
set_option maxHeartbeats 4000000 in
theorem joint_no1 (u p u' p' C C' D D' : Nat) (M P M' P' : List (List Bool)) (w : World) (h : IsCfg w u p C D M P) (hu' : PM w u' C' M') (hp' : PM w p' D' P') (hne : C' ≠ P'.length) :
    Calls Tryd.prog 27 #[cfgV u p, cfgV u' p'] w (jNo w) := by
  have HCK : Hid (∀ W, Below w.heap.size w W → Calls Tryd.prog 17 #[cfgV u' p'] W fun e w' => e = .returned (.int .i64 1) ∧ Below W.heap.size W w') := hideC fun W hW => by
    have := mcheck_any u' p' C' D' M' P' W (hu'.below hW) (hp'.below hW)
    rwa [if_neg hne] at this
  clear hne
  go_enter Tryd.func27, Tryd.ntmps27
  go_wp2_with fail
  refine abs5 fun W0 hA hB hR1 hR2 hL hbel0 hz => ?_
  have j0 : JI w W0 u p u' p' := ⟨hA, hB, hR1, hR2, hL, hbel0⟩
  clear hz hA hB hR1 hR2 hL hbel0
  refine wp_loop_rounds 3 ?_
  rw [rounds_succ]
  have l0 := j0.lst.cell 0
  have l1 := j0.lst.cell 1
  have ll := j0.lst.lt
  go_wp2_with fail
  refine absC1 fun V1 hV1 hv1 hzv1 => ?_
  have j1 := j0.next hv1
  (with_reducible refine (mcheck_ok u p C D M P V1 (h.below j1.below)).mono ?_); rintro e w1 ⟨rfl, hb1⟩
  have j2 := j1.next hb1
  clear j0 j1 l0 l1 ll hV1 hv1 hzv1 hb1
  go_wp2_with fail
  rw [rounds_succ]
  have l2 := j2.lst.cell 2
  have l3 := j2.lst.cell 3
  have ll := j2.lst.lt
  go_wp2_with fail
  refine absC1 fun V2 hV2 hv2 hzv2 => ?_
  have j3 := j2.next hv2
  refine (HCK.out V2 j3.below).mono ?_
  rintro e w2 ⟨rfl, hb2⟩
  have j4 := j3.next hb2
  clear j2 j3 l2 l3 ll hV2 hv2 hzv2 hb2
  have s0 := j4.r1.cell 0
  have s1 := j4.r1.cell 1
  have f0 := j4.r1.frozen 0
  have f1 := j4.r1.frozen 1
  have t0 := j4.r2.cell 0
  have t1 := j4.r2.cell 1
  have g0 := j4.r2.frozen 0
  have g1 := j4.r2.frozen 1
  go_wp2_with fail
  have r1 := (j4.r1.putc (.pointer none) (.pointer none)).far2 (g' := w.heap.size + 3) (by omega) (.pointer none) (.pointer none)
  have r2 := (j4.r2.far2 (g' := w.heap.size + 2) (by omega) (.pointer none) (.pointer none)).putc (.pointer none) (.pointer none)
  have bl := below_put2 (below_put2 j4.below (g := w.heap.size + 2) (by omega) (.pointer none) (.pointer none)) (g := w.heap.size + 3) (by omega) (.pointer none) (.pointer none)
  have cX := r1.cell 0
  have cY := r1.cell 1
  have dX := r2.cell 0
  have dY := r2.cell 1
  unfold put2 at cX cY dX dY bl
  exact bodyPost_ret (v := .tuple #[.agg #[.pointer none, .pointer none], .agg #[.pointer none, .pointer none], .slice none 0 0, .int .i64 1]) (by simp [results, Tryd.results27, go_sem, cX, cY, dX, dY]) rfl ⟨rfl, bl⟩
set_option maxRecDepth 100000 in
set_option maxHeartbeats 4000000 in
theorem joint_no2 (u p u' p' C C' D D' : Nat) (M P M' P' : List (List Bool)) (w : World) (h : IsCfg w u p C D M P) (h' : IsCfg w u' p' C' D' M' P') (hl : M.length ≠ M'.length) :
    Calls Tryd.prog 27 #[cfgV u p, cfgV u' p'] w (jNo w) := by
  have e1 : ((M.length : Int) != (M'.length : Int)) = true := by simp; omega
  clear hl
  go_enter Tryd.func27, Tryd.ntmps27
  go_wp2_with fail
  refine abs5 fun W0 hA hB hR1 hR2 hL hbel0 hz => ?_
  have j0 : JI w W0 u p u' p' := ⟨hA, hB, hR1, hR2, hL, hbel0⟩
  clear hz hA hB hR1 hR2 hL hbel0
  refine wp_loop_rounds 3 ?_
  rw [rounds_succ]
  have l0 := j0.lst.cell 0
  have l1 := j0.lst.cell 1
  have ll := j0.lst.lt
  go_wp2_with fail
  refine absC1 fun V1 hV1 hv1 hzv1 => ?_
  have j1 := j0.next hv1
  (with_reducible refine (mcheck_ok u p C D M P V1 (h.below j1.below)).mono ?_); rintro e w1 ⟨rfl, hb1⟩
  have j2 := j1.next hb1
  clear j0 j1 l0 l1 ll hV1 hv1 hzv1 hb1
  go_wp2_with fail
  rw [rounds_succ]
  have l2 := j2.lst.cell 2
  have l3 := j2.lst.cell 3
  have ll := j2.lst.lt
  go_wp2_with fail
  refine absC1 fun V2 hV2 hv2 hzv2 => ?_
  have j3 := j2.next hv2
  (with_reducible refine (mcheck_ok u' p' C' D' M' P' V2 (h'.below j3.below)).mono ?_); rintro e w2 ⟨rfl, hb2⟩
  have j4 := j3.next hb2
  clear j2 j3 l2 l3 ll hV2 hv2 hzv2 hb2
  go_wp2_with fail
  rw [rounds_succ]
  go_wp2_with fail
  have HRW := hideC (fun W hW => pm_rows u C M W (h.users.below (w' := W) hW))
  have HRW' := hideC (fun W hW => pm_rows u' C' M' W (h'.users.below (w' := W) hW))
  have HCL := hideC (fun W hW => pm_cols p D P W (h.perms.below (w' := W) hW))
  have HCL' := hideC (fun W hW => pm_cols p' D' P' W (h'.perms.below (w' := W) hW))
  have o0 := j4.old.cell 0
  have o1 := j4.old.cell 1
  have n0 := j4.new.cell 0
  have n1 := j4.new.cell 1
  obtain ⟨wq, hwq⟩ : ∃ wq, wq = w2.drew := ⟨_, rfl⟩
  have hbq : Below w2.heap.size w2 wq := by rw [hwq]; exact (Below.refl _ _).drew
  have j5 := j4.next hbq
  refine wp_mix (fun V => Below w2.heap.size w2 V) 16 (by kernel_rfl) (by kernel_rfl) (Below.refl _ _).drew ?_
  rw [← hwq]
  clear hwq
  (refine m_q 0 (v := ?_) (by kernel_rfl) rfl rfl (fun W hW => ?_) ?_; rotate_left; (have z0 := onB hW o0; have z1 := onB hW n0; go_simp; first | done | with_reducible rfl); simp only [Act.put, List.setIfInBounds_toArray, List.set_cons_zero, List.set_cons_succ]); (refine m_q 1 (v := ?_) (by kernel_rfl) rfl rfl (fun W hW => ?_) ?_; rotate_left; (have z0 := onB hW o0; have z1 := onB hW n0; go_simp; first | done | with_reducible rfl); simp only [Act.put, List.setIfInBounds_toArray, List.set_cons_zero, List.set_cons_succ]); (refine m_q 3 (v := ?_) (by kernel_rfl) rfl rfl (fun W hW => ?_) ?_; rotate_left; (have z0 := onB hW o0; have z1 := onB hW n0; go_simp; first | done | with_reducible rfl); simp only [Act.put, List.setIfInBounds_toArray, List.set_cons_zero, List.set_cons_succ]); (refine m_q 4 (v := ?_) (by kernel_rfl) rfl rfl (fun W hW => ?_) ?_; rotate_left; (have z0 := onB hW o0; have z1 := onB hW n0; go_simp; first | done | with_reducible rfl); simp only [Act.put, List.setIfInBounds_toArray, List.set_cons_zero, List.set_cons_succ])
  refine m_s1 2 (by kernel_rfl) rfl ?_
  go_wp2_with fail
  refine (HRW.out wq j5.below).mono ?_
  rintro e v1 ⟨rfl, rfl⟩
  go_wp2_with fail
  refine m_next hbq ?_
  refine m_s1 5 (by kernel_rfl) rfl ?_
  go_wp2_with fail
  refine (HRW'.out wq j5.below).mono ?_
  rintro e v1 ⟨rfl, rfl⟩
  go_wp2_with fail
  refine m_next (Below.refl _ _) ?_
  (refine m_q 6 (v := ?_) (by kernel_rfl) rfl rfl (fun W hW => ?_) ?_; rotate_left; (go_simp; first | done | with_reducible rfl); simp only [Act.put, List.setIfInBounds_toArray, List.set_cons_zero, List.set_cons_succ]); (refine m_q 7 (v := ?_) (by kernel_rfl) rfl rfl (fun W hW => ?_) ?_; rotate_left; (go_simp; first | done | with_reducible rfl); simp only [Act.put, List.setIfInBounds_toArray, List.set_cons_zero, List.set_cons_succ])
  (refine m_no 8 (by kernel_rfl) rfl (by rfl) ?_; simp only [Act.put, List.setIfInBounds_toArray, List.set_cons_zero, List.set_cons_succ]); (refine m_no 9 (by kernel_rfl) rfl (by rfl) ?_; simp only [Act.put, List.setIfInBounds_toArray, List.set_cons_zero, List.set_cons_succ]); (refine m_no 10 (by kernel_rfl) rfl (by rfl) ?_; simp only [Act.put, List.setIfInBounds_toArray, List.set_cons_zero, List.set_cons_succ]); (refine m_no 11 (by kernel_rfl) rfl (by rfl) ?_; simp only [Act.put, List.setIfInBounds_toArray, List.set_cons_zero, List.set_cons_succ]); (refine m_no 12 (by kernel_rfl) rfl (by rfl) ?_; simp only [Act.put, List.setIfInBounds_toArray, List.set_cons_zero, List.set_cons_succ]); (refine m_no 13 (by kernel_rfl) rfl (by rfl) ?_; simp only [Act.put, List.setIfInBounds_toArray, List.set_cons_zero, List.set_cons_succ]); (refine m_no 14 (by kernel_rfl) rfl (by rfl) ?_; simp only [Act.put, List.setIfInBounds_toArray, List.set_cons_zero, List.set_cons_succ])
  (refine m_q 15 (v := ?_) (by kernel_rfl) rfl rfl (fun W hW => ?_) ?_; rotate_left; (go_simp; first | done | with_reducible rfl); simp only [Act.put, List.setIfInBounds_toArray, List.set_cons_zero, List.set_cons_succ])
  refine m_end (by kernel_rfl) ?_
  clear e1
  clear o0 o1 n0 n1 HRW HRW' HCL HCL' j4 hbq
  have s0 := j5.r1.cell 0
  have s1 := j5.r1.cell 1
  have f0 := j5.r1.frozen 0
  have f1 := j5.r1.frozen 1
  have t0 := j5.r2.cell 0
  have t1 := j5.r2.cell 1
  have g0 := j5.r2.frozen 0
  have g1 := j5.r2.frozen 1
  go_wp2_with fail
  have r1 := (j5.r1.putc (.pointer none) (.pointer none)).far2 (g' := w.heap.size + 3) (by omega) (.pointer none) (.pointer none)
  have r2 := (j5.r2.far2 (g' := w.heap.size + 2) (by omega) (.pointer none) (.pointer none)).putc (.pointer none) (.pointer none)
  have bl := below_put2 (below_put2 j5.below (g := w.heap.size + 2) (by omega) (.pointer none) (.pointer none)) (g := w.heap.size + 3) (by omega) (.pointer none) (.pointer none)
  have cX := r1.cell 0
  have cY := r1.cell 1
  have dX := r2.cell 0
  have dY := r2.cell 1
  unfold put2 at cX cY dX dY bl
  exact bodyPost_ret (v := .tuple #[.agg #[.pointer none, .pointer none], .agg #[.pointer none, .pointer none], .slice none 0 0, .int .i64 1]) (by simp [results, Tryd.results27, go_sem, cX, cY, dX, dY]) rfl ⟨rfl, bl⟩
set_option maxRecDepth 100000 in
set_option maxHeartbeats 4000000 in
theorem joint_no3 (u p u' p' C C' D D' : Nat) (M P M' P' : List (List Bool)) (w : World) (h : IsCfg w u p C D M P) (h' : IsCfg w u' p' C' D' M' P') (hl : M.length = M'.length) (hd : D ≠ D') :
    Calls Tryd.prog 27 #[cfgV u p, cfgV u' p'] w (jNo w) := by
  have e1 : ((M.length : Int) != (M'.length : Int)) = false := by simp [hl]
  have e2 : ((D : Int) != (D' : Int)) = true := by simp; omega
  have E1 := Lib.hid e1
  clear hl hd e1
  go_enter Tryd.func27, Tryd.ntmps27
  go_wp2_with fail
  refine abs5 fun W0 hA hB hR1 hR2 hL hbel0 hz => ?_
  have j0 : JI w W0 u p u' p' := ⟨hA, hB, hR1, hR2, hL, hbel0⟩
  clear hz hA hB hR1 hR2 hL hbel0
  refine wp_loop_rounds 3 ?_
  rw [rounds_succ]
  have l0 := j0.lst.cell 0
  have l1 := j0.lst.cell 1
  have ll := j0.lst.lt
  go_wp2_with fail
  refine absC1 fun V1 hV1 hv1 hzv1 => ?_
  have j1 := j0.next hv1
  (with_reducible refine (mcheck_ok u p C D M P V1 (h.below j1.below)).mono ?_); rintro e w1 ⟨rfl, hb1⟩
  have j2 := j1.next hb1
  clear j0 j1 l0 l1 ll hV1 hv1 hzv1 hb1
  go_wp2_with fail
  rw [rounds_succ]
  have l2 := j2.lst.cell 2
  have l3 := j2.lst.cell 3
  have ll := j2.lst.lt
  go_wp2_with fail
  refine absC1 fun V2 hV2 hv2 hzv2 => ?_
  have j3 := j2.next hv2
  (with_reducible refine (mcheck_ok u' p' C' D' M' P' V2 (h'.below j3.below)).mono ?_); rintro e w2 ⟨rfl, hb2⟩
  have j4 := j3.next hb2
  clear j2 j3 l2 l3 ll hV2 hv2 hzv2 hb2
  go_wp2_with fail
  rw [rounds_succ]
  go_wp2_with fail
  have HRW := hideC (fun W hW => pm_rows u C M W (h.users.below (w' := W) hW))
  have HRW' := hideC (fun W hW => pm_rows u' C' M' W (h'.users.below (w' := W) hW))
  have HCL := hideC (fun W hW => pm_cols p D P W (h.perms.below (w' := W) hW))
  have HCL' := hideC (fun W hW => pm_cols p' D' P' W (h'.perms.below (w' := W) hW))
  have o0 := j4.old.cell 0
  have o1 := j4.old.cell 1
  have n0 := j4.new.cell 0
  have n1 := j4.new.cell 1
  obtain ⟨wq, hwq⟩ : ∃ wq, wq = w2.drew := ⟨_, rfl⟩
  have hbq : Below w2.heap.size w2 wq := by rw [hwq]; exact (Below.refl _ _).drew
  have j5 := j4.next hbq
  refine wp_mix (fun V => Below w2.heap.size w2 V) 16 (by kernel_rfl) (by kernel_rfl) (Below.refl _ _).drew ?_
  rw [← hwq]
  clear hwq
  (refine m_q 0 (v := ?_) (by kernel_rfl) rfl rfl (fun W hW => ?_) ?_; rotate_left; (have z0 := onB hW o0; have z1 := onB hW n0; go_simp; first | done | with_reducible rfl); simp only [Act.put, List.setIfInBounds_toArray, List.set_cons_zero, List.set_cons_succ]); (refine m_q 1 (v := ?_) (by kernel_rfl) rfl rfl (fun W hW => ?_) ?_; rotate_left; (have z0 := onB hW o0; have z1 := onB hW n0; go_simp; first | done | with_reducible rfl); simp only [Act.put, List.setIfInBounds_toArray, List.set_cons_zero, List.set_cons_succ]); (refine m_q 3 (v := ?_) (by kernel_rfl) rfl rfl (fun W hW => ?_) ?_; rotate_left; (have z0 := onB hW o0; have z1 := onB hW n0; go_simp; first | done | with_reducible rfl); simp only [Act.put, List.setIfInBounds_toArray, List.set_cons_zero, List.set_cons_succ]); (refine m_q 4 (v := ?_) (by kernel_rfl) rfl rfl (fun W hW => ?_) ?_; rotate_left; (have z0 := onB hW o0; have z1 := onB hW n0; go_simp; first | done | with_reducible rfl); simp only [Act.put, List.setIfInBounds_toArray, List.set_cons_zero, List.set_cons_succ])
  refine m_s1 2 (by kernel_rfl) rfl ?_
  go_wp2_with fail
  refine (HRW.out wq j5.below).mono ?_
  rintro e v1 ⟨rfl, rfl⟩
  go_wp2_with fail
  refine m_next hbq ?_
  refine m_s1 5 (by kernel_rfl) rfl ?_
  go_wp2_with fail
  refine (HRW'.out wq j5.below).mono ?_
  rintro e v1 ⟨rfl, rfl⟩
  go_wp2_with fail
  refine m_next (Below.refl _ _) ?_
  have e1 := E1.out
  (refine m_q 6 (v := ?_) (by kernel_rfl) rfl rfl (fun W hW => ?_) ?_; rotate_left; (go_simp; first | done | with_reducible rfl); simp only [Act.put, List.setIfInBounds_toArray, List.set_cons_zero, List.set_cons_succ]); (refine m_q 7 (v := ?_) (by kernel_rfl) rfl rfl (fun W hW => ?_) ?_; rotate_left; (go_simp; first | done | with_reducible rfl); simp only [Act.put, List.setIfInBounds_toArray, List.set_cons_zero, List.set_cons_succ])
  clear e1
  have q1 := onB hbq o1
  have r1 := onB hbq n1
  (refine m_yes 8 (v := ?_) (by kernel_rfl) rfl (by rfl) (fun W hW => ?_) ?_; rotate_left; (have z0 := onB hW q1; have z1 := onB hW r1; go_simp; first | done | with_reducible rfl); simp only [Act.put, List.setIfInBounds_toArray, List.set_cons_zero, List.set_cons_succ]); (refine m_yes 9 (v := ?_) (by kernel_rfl) rfl (by rfl) (fun W hW => ?_) ?_; rotate_left; (have z0 := onB hW q1; have z1 := onB hW r1; go_simp; first | done | with_reducible rfl); simp only [Act.put, List.setIfInBounds_toArray, List.set_cons_zero, List.set_cons_succ]); (refine m_yes 11 (v := ?_) (by kernel_rfl) rfl (by rfl) (fun W hW => ?_) ?_; rotate_left; (have z0 := onB hW q1; have z1 := onB hW r1; go_simp; first | done | with_reducible rfl); simp only [Act.put, List.setIfInBounds_toArray, List.set_cons_zero, List.set_cons_succ]); (refine m_yes 12 (v := ?_) (by kernel_rfl) rfl (by rfl) (fun W hW => ?_) ?_; rotate_left; (have z0 := onB hW q1; have z1 := onB hW r1; go_simp; first | done | with_reducible rfl); simp only [Act.put, List.setIfInBounds_toArray, List.set_cons_zero, List.set_cons_succ])
  refine m_s1 10 (by kernel_rfl) rfl ?_
  go_wp2_with fail
  refine (HCL.out wq j5.below).mono ?_
  rintro e v1 ⟨rfl, rfl⟩
  go_wp2_with fail
  refine m_next (Below.refl _ _) ?_
  refine m_s1 13 (by kernel_rfl) rfl ?_
  go_wp2_with fail
  refine (HCL'.out wq j5.below).mono ?_
  rintro e v1 ⟨rfl, rfl⟩
  go_wp2_with fail
  refine m_next (Below.refl _ _) ?_
  (refine m_yes 14 (v := ?_) (by kernel_rfl) rfl (by rfl) (fun W hW => ?_) ?_; rotate_left; (go_simp; first | done | with_reducible rfl); simp only [Act.put, List.setIfInBounds_toArray, List.set_cons_zero, List.set_cons_succ])
  (refine m_q 15 (v := ?_) (by kernel_rfl) rfl rfl (fun W hW => ?_) ?_; rotate_left; (go_simp; first | done | with_reducible rfl); simp only [Act.put, List.setIfInBounds_toArray, List.set_cons_zero, List.set_cons_succ])
  refine m_end (by kernel_rfl) ?_
  clear e2 q1 r1
  clear o0 o1 n0 n1 HRW HRW' HCL HCL' j4 hbq
  have s0 := j5.r1.cell 0
  have s1 := j5.r1.cell 1
  have f0 := j5.r1.frozen 0
  have f1 := j5.r1.frozen 1
  have t0 := j5.r2.cell 0
  have t1 := j5.r2.cell 1
  have g0 := j5.r2.frozen 0
  have g1 := j5.r2.frozen 1
  go_wp2_with fail
  have r1 := (j5.r1.putc (.pointer none) (.pointer none)).far2 (g' := w.heap.size + 3) (by omega) (.pointer none) (.pointer none)
  have r2 := (j5.r2.far2 (g' := w.heap.size + 2) (by omega) (.pointer none) (.pointer none)).putc (.pointer none) (.pointer none)
  have bl := below_put2 (below_put2 j5.below (g := w.heap.size + 2) (by omega) (.pointer none) (.pointer none)) (g := w.heap.size + 3) (by omega) (.pointer none) (.pointer none)
  have cX := r1.cell 0
  have cY := r1.cell 1
  have dX := r2.cell 0
  have dY := r2.cell 1
  unfold put2 at cX cY dX dY bl
  exact bodyPost_ret (v := .tuple #[.agg #[.pointer none, .pointer none], .agg #[.pointer none, .pointer none], .slice none 0 0, .int .i64 1]) (by simp [results, Tryd.results27, go_sem, cX, cY, dX, dY]) rfl ⟨rfl, bl⟩
/-- Configurations that do not fit. -/
theorem joint_no (u p u' p' C C' D D' : Nat) (M P M' P' : List (List Bool)) (w : World) (h : IsCfg w u p C D M P) (hu' : PM w u' C' M') (hp' : PM w p' D' P') (hne : u' ≠ p') (hno : C' ≠ P'.length ∨ M.length ≠ M'.length ∨ D ≠ D') :
    Calls Tryd.prog 27 #[cfgV u p, cfgV u' p'] w (jNo w) := by
  by_cases h1 : C' = P'.length
  · by_cases h2 : M.length = M'.length
    · exact joint_no3 u p u' p' C C' D D' M P M' P' w h ⟨hu', hp', h1, hne⟩ h2 (by rcases hno with h | h | h <;> first | exact absurd h1 h | exact absurd h2 h | exact h)
    · exact joint_no2 u p u' p' C C' D D' M P M' P' w h ⟨hu', hp', h1, hne⟩ h2
  · exact joint_no1 u p u' p' C C' D D' M P M' P' w h hu' hp' h1
end Go.Proofs.YthkjigggfeejdaaDoor
