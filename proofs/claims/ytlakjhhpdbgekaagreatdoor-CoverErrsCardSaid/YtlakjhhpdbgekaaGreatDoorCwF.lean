import Derived.Test.YtlakjhhpdbgekaaGreatDoorCwE
import Derived.Test.YtlakjhhpdbgekaaGreatDoorSortQ
import Derived.Laws.EntriesVeiled
/-
  package cover: Normal and Simplify of no roles, and of roles that do not fit.
-/
namespace Go.Proofs.YtlakjhhpdbgekaaGreatDoor
open Go.RowKit
theorem run_store_funcG {P : Program} {w : World} {a : Addr} {m : Mode} (fn : Fn) (first cap : Array Value) : (store a (.func fn first cap) m).run P w = stored P w a (.func fn first cap) m := run_store P w a _ m rfl
attribute [local go_sem] run_store_funcG
namespace Mix2
set_option maxRecDepth 100000 in
set_option maxHeartbeats 2000000 in
theorem index_nilF (fv : Value) (w : World) : Calls Tryz.prog 136 #[.slice none 0 0, fv] w fun e w' => e = .returned (.int .i64 (-1)) ∧ w = w' := by
  go_enter Tryz.func136, Tryz.ntmps136
  go_wp2_with fail
  refine wp_loopF (β := Unit) (fun _ f => #[.slice none 0 0, fv, f 2, f 3, .int .i64 0, f 5, f 6, .int .i64 0, .int .i64 0, f 9, f 10, f 11, f 12, f 13, f 14, f 15, f 16, f 17, f 18]) (fun _ ds W => ds = [] ∧ W = w) (fun _ => 0) () rfl ⟨rfl, rfl⟩ ?_
  rintro _ f ds W ⟨rfl, rfl⟩
  go_wp2_with fail
  go_ret
  exact ⟨rfl, rfl⟩
set_option maxRecDepth 100000 in
set_option maxHeartbeats 2000000 in
theorem delete_nilF (fv : Value) (w : World) : Calls Tryz.prog 93 #[.slice none 0 0, fv] w fun e w' => e = .returned (.slice none 0 0) ∧ w = w' := by
  go_enter Tryz.func93, Tryz.ntmps93
  go_wp2_with fail
  with_reducible refine (index_nilF fv w).mono ?_
  rintro e w' ⟨rfl, rfl⟩
  go_wp2_with fail
  go_ret
  exact ⟨rfl, rfl⟩
set_option maxRecDepth 100000 in
set_option maxHeartbeats 2000000 in
theorem compact_nilF (fv : Value) (w : World) : Calls Tryz.prog 98 #[.slice none 0 0, fv] w fun e w' => e = .returned (.slice none 0 0) ∧ w = w' := by
  go_enter Tryz.func98, Tryz.ntmps98
  go_wp2_with fail
  go_ret
  exact ⟨rfl, rfl⟩
set_option maxRecDepth 100000 in
set_option maxHeartbeats 2000000 in
theorem list_nilF (u p C : Nat) (w : World) (h : IsMat w p C []) : Calls Tryz.prog 71 #[.agg #[ptr u, ptr p]] w fun e w' => e = .returned (.slice none 0 0) ∧ Below w.heap.size w w' := by
  go_enter Tryz.func71, Tryz.ntmps71
  go_wp2_with fail
  refine absC1 fun W hB hb hz => ?_
  clear hz
  have HC := hideC (rows_any p C [] W (h.below hb))
  with_reducible refine HC.out.mono ?_
  rintro e w' ⟨rfl, rfl⟩
  go_wp2_with fail
  refine wp_loopF (β := Unit) (fun _ f => #[f 0, .pointer (some ⟨w.heap.size, 0, none⟩), .slice none 0 0, .slice none 0 0, f 4, f 5, f 6, .int .i64 0, .int .i64 0, f 9, f 10, f 11, f 12, f 13, f 14, f 15, f 16, f 17, f 18, f 19, f 20, f 21, f 22, f 23, f 24]) (fun _ ds V => ds = [] ∧ V = W) (fun _ => 0) () rfl ⟨rfl, rfl⟩ ?_
  rintro _ f ds V ⟨rfl, rfl⟩
  go_wp2_with fail
  go_ret
  exact ⟨rfl, hb⟩
set_option maxRecDepth 100000 in
set_option maxHeartbeats 4000000 in
theorem normal_arg1 (u : Nat) (w : World) : Calls Tryz.prog 38 #[.agg #[ptr u, .pointer none]] w fun e w' => e = zer2 1 ∧ Below w.heap.size w w' := by
  go_enter Tryz.func38, Tryz.ntmps38
  go_upto_region 1 with fail
  refine abs2 fun W h1 h2 hb hz => ?_
  clear hz
  obtain ⟨g, hg⟩ : ∃ x, x = w.heap.size := ⟨_, rfl⟩
  have hgw : w.heap.size ≤ g + 1 := by omega
  rw [← hg] at h1 h2 ⊢
  clear hg
  have p0 := h1.cell 0
  have p1 := h1.cell 1
  refine wp_mix (fun V => Below W.heap.size W V) 17 (by kernel_rfl) (by kernel_rfl) (Below.refl _ _).drew ?_
  have hr := (Below.refl W.heap.size W).drew
  obtain ⟨U, hU⟩ : ∃ U, U = W.drew := ⟨_, rfl⟩
  rw [← hU] at hr ⊢
  clear hU
  (refine m_q 0 (v := ?_) (by kernel_rfl) rfl rfl (fun W hW => ?_) ?_; rotate_left; (have y0 := onB hW p0; have y1 := onB hW p1; go_simp; first | done | with_reducible rfl); simp only [Act.put, List.setIfInBounds_toArray, List.set_cons_zero, List.set_cons_succ]); (refine m_q 1 (v := ?_) (by kernel_rfl) rfl rfl (fun W hW => ?_) ?_; rotate_left; (have y0 := onB hW p0; have y1 := onB hW p1; go_simp; first | done | with_reducible rfl); simp only [Act.put, List.setIfInBounds_toArray, List.set_cons_zero, List.set_cons_succ]); (refine m_q 2 (v := ?_) (by kernel_rfl) rfl rfl (fun W hW => ?_) ?_; rotate_left; (have y0 := onB hW p0; have y1 := onB hW p1; go_simp; first | done | with_reducible rfl); simp only [Act.put, List.setIfInBounds_toArray, List.set_cons_zero, List.set_cons_succ]); (refine m_q 3 (v := ?_) (by kernel_rfl) rfl rfl (fun W hW => ?_) ?_; rotate_left; (have y0 := onB hW p0; have y1 := onB hW p1; go_simp; first | done | with_reducible rfl); simp only [Act.put, List.setIfInBounds_toArray, List.set_cons_zero, List.set_cons_succ])
  (refine m_yes 4 (v := ?_) (by kernel_rfl) rfl (by rfl) (fun W hW => ?_) ?_; rotate_left; (have y0 := onB hW p0; have y1 := onB hW p1; go_simp; first | done | with_reducible rfl); simp only [Act.put, List.setIfInBounds_toArray, List.set_cons_zero, List.set_cons_succ]); (refine m_yes 5 (v := ?_) (by kernel_rfl) rfl (by rfl) (fun W hW => ?_) ?_; rotate_left; (have y0 := onB hW p0; have y1 := onB hW p1; go_simp; first | done | with_reducible rfl); simp only [Act.put, List.setIfInBounds_toArray, List.set_cons_zero, List.set_cons_succ]); (refine m_yes 6 (v := ?_) (by kernel_rfl) rfl (by rfl) (fun W hW => ?_) ?_; rotate_left; (have y0 := onB hW p0; have y1 := onB hW p1; go_simp; first | done | with_reducible rfl); simp only [Act.put, List.setIfInBounds_toArray, List.set_cons_zero, List.set_cons_succ])
  (refine m_q 7 (v := ?_) (by kernel_rfl) rfl rfl (fun W hW => ?_) ?_; rotate_left; (go_simp; first | done | with_reducible rfl); simp only [Act.put, List.setIfInBounds_toArray, List.set_cons_zero, List.set_cons_succ]); (refine m_q 8 (v := ?_) (by kernel_rfl) rfl rfl (fun W hW => ?_) ?_; rotate_left; (go_simp; first | done | with_reducible rfl); simp only [Act.put, List.setIfInBounds_toArray, List.set_cons_zero, List.set_cons_succ])
  (refine m_no 9 (by kernel_rfl) rfl (by rfl) ?_; simp only [Act.put, List.setIfInBounds_toArray, List.set_cons_zero, List.set_cons_succ]); (refine m_no 10 (by kernel_rfl) rfl (by rfl) ?_; simp only [Act.put, List.setIfInBounds_toArray, List.set_cons_zero, List.set_cons_succ]); (refine m_no 11 (by kernel_rfl) rfl (by rfl) ?_; simp only [Act.put, List.setIfInBounds_toArray, List.set_cons_zero, List.set_cons_succ]); (refine m_no 12 (by kernel_rfl) rfl (by rfl) ?_; simp only [Act.put, List.setIfInBounds_toArray, List.set_cons_zero, List.set_cons_succ]); (refine m_no 13 (by kernel_rfl) rfl (by rfl) ?_; simp only [Act.put, List.setIfInBounds_toArray, List.set_cons_zero, List.set_cons_succ]); (refine m_no 14 (by kernel_rfl) rfl (by rfl) ?_; simp only [Act.put, List.setIfInBounds_toArray, List.set_cons_zero, List.set_cons_succ]); (refine m_no 15 (by kernel_rfl) rfl (by rfl) ?_; simp only [Act.put, List.setIfInBounds_toArray, List.set_cons_zero, List.set_cons_succ])
  (refine m_q 16 (v := ?_) (by kernel_rfl) rfl rfl (fun W hW => ?_) ?_; rotate_left; (go_simp; first | done | with_reducible rfl); simp only [Act.put, List.setIfInBounds_toArray, List.set_cons_zero, List.set_cons_succ])
  refine m_end (by kernel_rfl) ?_
  have k2 := h2.below hr h2.lt
  have kb := hb.trans (hr.mono hb.size)
  have x2 := (k2.set_ 0 (.pointer none)).set_ 1 (.pointer none)
  have xb := (kb.setCell (p := ⟨g + 1, 0, none⟩) hgw (.pointer none)).setCell (p := ⟨g + 1, 1, none⟩) hgw (.pointer none)
  have f0 := k2.frozen 0
  have f1 := k2.frozen 1
  have c0 := k2.cell 0
  have c1 := k2.cell 1
  have l2 := k2.lt
  have X2 := Lib.hid x2; have XB := Lib.hid xb
  clear x2 xb h1 h2 hb k2 kb hr p0 p1
  go_wp2_with fail
  have d0 := Blk.cell X2.out 0
  have d1 := Blk.cell X2.out 1
  exact bodyPost_ret (v := .tuple #[.agg #[.pointer none, .pointer none], .int .i64 1]) (by simp [results, Tryz.results38, go_sem, d0, d1]) rfl ⟨rfl, XB.out⟩
set_option maxRecDepth 100000 in
set_option maxHeartbeats 8000000 in
/-- Roles that do not fit are refused; no roles stay no roles. -/
theorem normal_fit (u p D C : Nat) (Us Ps : List Nat) (w : World) (hu : IsMat w u D Us) (hp : IsMat w p C Ps) (hC : C ≤ 256) (hR : Us.length ≤ 256) (h : D ≠ Ps.length ∨ D = 0 ∧ Ps = []) :
    Calls Tryz.prog 38 #[.agg #[ptr u, ptr p]] w fun e w' => (∃ a b, e = .returned (.tuple #[.agg #[.pointer a, .pointer b], .int .i64 (if D = Ps.length then 0 else 1)])) ∧ Below w.heap.size w w' := by
  go_enter Tryz.func38, Tryz.ntmps38
  go_upto_region 1 with fail
  refine abs2 fun W h1 h2 hb hz => ?_
  clear hz
  obtain ⟨g, hg⟩ : ∃ x, x = w.heap.size := ⟨_, rfl⟩
  have hgw : w.heap.size ≤ g + 1 := by omega
  rw [← hg] at h1 h2 ⊢
  clear hg
  have p0 := h1.cell 0
  have p1 := h1.cell 1
  refine wp_mix (fun V => Below W.heap.size W V) 17 (by kernel_rfl) (by kernel_rfl) (Below.refl _ _).drew ?_
  have hr := (Below.refl W.heap.size W).drew
  obtain ⟨U, hU⟩ : ∃ U, U = W.drew := ⟨_, rfl⟩
  rw [← hU] at hr ⊢
  clear hU
  have hbU := hb.trans (hr.mono hb.size)
  have HC := hideC (cols_any u D Us U (hu.below hbU))
  have HR := hideC (rows_any p C Ps U (hp.below hbU))
  (refine m_q 0 (v := ?_) (by kernel_rfl) rfl rfl (fun W hW => ?_) ?_; rotate_left; (have y0 := onB hW p0; have y1 := onB hW p1; go_simp; first | done | with_reducible rfl); simp only [Act.put, List.setIfInBounds_toArray, List.set_cons_zero, List.set_cons_succ]); (refine m_q 1 (v := ?_) (by kernel_rfl) rfl rfl (fun W hW => ?_) ?_; rotate_left; (have y0 := onB hW p0; have y1 := onB hW p1; go_simp; first | done | with_reducible rfl); simp only [Act.put, List.setIfInBounds_toArray, List.set_cons_zero, List.set_cons_succ]); (refine m_q 2 (v := ?_) (by kernel_rfl) rfl rfl (fun W hW => ?_) ?_; rotate_left; (have y0 := onB hW p0; have y1 := onB hW p1; go_simp; first | done | with_reducible rfl); simp only [Act.put, List.setIfInBounds_toArray, List.set_cons_zero, List.set_cons_succ]); (refine m_q 3 (v := ?_) (by kernel_rfl) rfl rfl (fun W hW => ?_) ?_; rotate_left; (have y0 := onB hW p0; have y1 := onB hW p1; go_simp; first | done | with_reducible rfl); simp only [Act.put, List.setIfInBounds_toArray, List.set_cons_zero, List.set_cons_succ])
  (refine m_yes 4 (v := ?_) (by kernel_rfl) rfl (by rfl) (fun W hW => ?_) ?_; rotate_left; (have y0 := onB hW p0; have y1 := onB hW p1; go_simp; first | done | with_reducible rfl); simp only [Act.put, List.setIfInBounds_toArray, List.set_cons_zero, List.set_cons_succ]); (refine m_yes 5 (v := ?_) (by kernel_rfl) rfl (by rfl) (fun W hW => ?_) ?_; rotate_left; (have y0 := onB hW p0; have y1 := onB hW p1; go_simp; first | done | with_reducible rfl); simp only [Act.put, List.setIfInBounds_toArray, List.set_cons_zero, List.set_cons_succ]); (refine m_yes 6 (v := ?_) (by kernel_rfl) rfl (by rfl) (fun W hW => ?_) ?_; rotate_left; (have y0 := onB hW p0; have y1 := onB hW p1; go_simp; first | done | with_reducible rfl); simp only [Act.put, List.setIfInBounds_toArray, List.set_cons_zero, List.set_cons_succ])
  (refine m_q 7 (v := ?_) (by kernel_rfl) rfl rfl (fun W hW => ?_) ?_; rotate_left; (go_simp; first | done | with_reducible rfl); simp only [Act.put, List.setIfInBounds_toArray, List.set_cons_zero, List.set_cons_succ]); (refine m_q 8 (v := ?_) (by kernel_rfl) rfl rfl (fun W hW => ?_) ?_; rotate_left; (go_simp; first | done | with_reducible rfl); simp only [Act.put, List.setIfInBounds_toArray, List.set_cons_zero, List.set_cons_succ])
  (refine m_yes 9 (v := ?_) (by kernel_rfl) rfl (by rfl) (fun W hW => ?_) ?_; rotate_left; (have y0 := onB hW p0; have y1 := onB hW p1; go_simp; first | done | with_reducible rfl); simp only [Act.put, List.setIfInBounds_toArray, List.set_cons_zero, List.set_cons_succ]); (refine m_yes 10 (v := ?_) (by kernel_rfl) rfl (by rfl) (fun W hW => ?_) ?_; rotate_left; (have y0 := onB hW p0; have y1 := onB hW p1; go_simp; first | done | with_reducible rfl); simp only [Act.put, List.setIfInBounds_toArray, List.set_cons_zero, List.set_cons_succ]); (refine m_yes 12 (v := ?_) (by kernel_rfl) rfl (by rfl) (fun W hW => ?_) ?_; rotate_left; (have y0 := onB hW p0; have y1 := onB hW p1; go_simp; first | done | with_reducible rfl); simp only [Act.put, List.setIfInBounds_toArray, List.set_cons_zero, List.set_cons_succ]); (refine m_yes 13 (v := ?_) (by kernel_rfl) rfl (by rfl) (fun W hW => ?_) ?_; rotate_left; (have y0 := onB hW p0; have y1 := onB hW p1; go_simp; first | done | with_reducible rfl); simp only [Act.put, List.setIfInBounds_toArray, List.set_cons_zero, List.set_cons_succ])
  refine m_s1 11 (by kernel_rfl) rfl ?_
  go_wp2_with fail
  with_reducible refine HC.out.mono ?_
  rintro e w' ⟨rfl, rfl⟩
  go_wp2_with fail
  refine m_keep hr ?_
  refine m_s1 14 (by kernel_rfl) rfl ?_
  go_wp2_with fail
  with_reducible refine HR.out.mono ?_
  rintro e w' ⟨rfl, rfl⟩
  go_wp2_with fail
  refine m_keep hr ?_
  (refine m_yes 15 (v := ?_) (by kernel_rfl) rfl (by rfl) (fun W hW => ?_) ?_; rotate_left; (go_simp; first | done | with_reducible rfl); simp only [Act.put, List.setIfInBounds_toArray, List.set_cons_zero, List.set_cons_succ])
  (refine m_q 16 (v := ?_) (by kernel_rfl) rfl rfl (fun W hW => ?_) ?_; rotate_left; (go_simp; first | done | with_reducible rfl); simp only [Act.put, List.setIfInBounds_toArray, List.set_cons_zero, List.set_cons_succ])
  refine m_end (by kernel_rfl) ?_
  have k1 := h1.below hr h1.lt
  have k2 := h2.below hr h2.lt
  clear HC HR hr h1 h2 p0 p1 hb
  by_cases hD : D = Ps.length
  · have hPs : Ps = [] := by rcases h with h | h; · exact absurd hD h
                             · exact h.2
    have e1 : ((D : Int) != (Ps.length : Int)) = false := by rw [hD]; simp
    have e2 : decide ((D : Int) = (Ps.length : Int)) = true := decide_eq_true (by rw [hD])
    have e3 : ((D : Int) == (Ps.length : Int)) = true := by rw [hD]; simp
    have HD := Lib.hid hD
    clear h hD
    subst hPs
    have p0 := k1.cell 0
    have p1 := k1.cell 1
    have HL := hideC (list_nilF u p C U (hp.below hbU))
    go_wp2_with fail
    with_reducible refine HL.out.mono ?_
    rintro e W2 ⟨rfl, hb2⟩
    have b2 := hbU.trans (hb2.mono hbU.size)
    have q1 := k1.below hb2 k1.lt
    have q2 := k2.below hb2 k2.lt
    clear e1 e2 e3 p0 p1 k1 k2 HL
    have HDl := hideC (delete_nilF (.func (.func 94) #[] #[]) W2)
    go_wp2_with fail
    with_reducible refine HDl.out.mono ?_
    rintro e w' ⟨rfl, rfl⟩
    have HS := hideC (AnyF.slices_SortFunc_none Tryz.sortCon none 0 (.func (.func 97) #[] #[]) W2)
    clear HDl
    go_wp2_with fail
    refine Calls.mono HS.out ?_
    rintro e w9 ⟨rfl, hw9⟩
    have e9 : w9 = W2 := by first | exact hw9 | exact hw9.symm
    rw [e9]
    clear HS hw9 e9
    have HCo := hideC (compact_nilF (.func (.func 99) #[] #[]) W2)
    go_wp2_with fail
    with_reducible refine HCo.out.mono ?_
    rintro e w' ⟨rfl, rfl⟩
    clear HCo
    have p0 := q1.cell 0
    have p1 := q1.cell 1
    go_upto_region 6 with fail
    refine wp_mix (fun V => Below W2.heap.size W2 V) 12 (by kernel_rfl) (by kernel_rfl) (Below.refl _ _).drew ?_
    have hr := (Below.refl W2.heap.size W2).drew
    obtain ⟨U2, hU⟩ : ∃ U, U = W2.drew := ⟨_, rfl⟩
    rw [← hU] at hr ⊢
    clear hU
    have bU2 := b2.trans (hr.mono b2.size)
    have HC := hideC (cols_any p C [] U2 (hp.below bU2))
    have HR := hideC (rows_any u D Us U2 (hu.below bU2))
    have HB := hideC (build_any U2.heap.size (.slice none 0 0) C Us [] U2 (OwnK.nil _ _ _ _) (by simp) hR hC (by simp))
    (refine m_q 0 (v := ?_) (by kernel_rfl) rfl rfl (fun W hW => ?_) ?_; rotate_left; (have y0 := onB hW p0; have y1 := onB hW p1; go_simp; first | done | with_reducible rfl); simp only [Act.put, List.setIfInBounds_toArray, List.set_cons_zero, List.set_cons_succ]); (refine m_q 1 (v := ?_) (by kernel_rfl) rfl rfl (fun W hW => ?_) ?_; rotate_left; (have y0 := onB hW p0; have y1 := onB hW p1; go_simp; first | done | with_reducible rfl); simp only [Act.put, List.setIfInBounds_toArray, List.set_cons_zero, List.set_cons_succ]); (refine m_q 3 (v := ?_) (by kernel_rfl) rfl rfl (fun W hW => ?_) ?_; rotate_left; (have y0 := onB hW p0; have y1 := onB hW p1; go_simp; first | done | with_reducible rfl); simp only [Act.put, List.setIfInBounds_toArray, List.set_cons_zero, List.set_cons_succ]); (refine m_q 4 (v := ?_) (by kernel_rfl) rfl rfl (fun W hW => ?_) ?_; rotate_left; (have y0 := onB hW p0; have y1 := onB hW p1; go_simp; first | done | with_reducible rfl); simp only [Act.put, List.setIfInBounds_toArray, List.set_cons_zero, List.set_cons_succ]); (refine m_q 6 (v := ?_) (by kernel_rfl) rfl rfl (fun W hW => ?_) ?_; rotate_left; (have y0 := onB hW p0; have y1 := onB hW p1; go_simp; first | done | with_reducible rfl); simp only [Act.put, List.setIfInBounds_toArray, List.set_cons_zero, List.set_cons_succ])
    refine m_s1 2 (by kernel_rfl) rfl ?_
    go_wp2_with fail
    with_reducible refine HR.out.mono ?_
    rintro e w' ⟨rfl, rfl⟩
    go_wp2_with fail
    refine m_keep hr ?_
    refine m_s1 5 (by kernel_rfl) rfl ?_
    go_wp2_with fail
    with_reducible refine HC.out.mono ?_
    rintro e w' ⟨rfl, rfl⟩
    go_wp2_with fail
    refine m_keep hr ?_
    refine m_s1 7 (by kernel_rfl) rfl ?_
    go_wp2_with fail
    with_reducible refine HB.out.mono ?_
    rintro e U3 ⟨u3, p3, rfl, -, -, hb3⟩
    have hr3 := hr.trans (hb3.mono hr.size)
    go_wp2_with fail
    refine m_keep hr3 ?_
    (refine m_q 8 (v := ?_) (by kernel_rfl) rfl rfl (fun W hW => ?_) ?_; rotate_left; (go_simp; first | done | with_reducible rfl); simp only [Act.put, List.setIfInBounds_toArray, List.set_cons_zero, List.set_cons_succ]); (refine m_q 9 (v := ?_) (by kernel_rfl) rfl rfl (fun W hW => ?_) ?_; rotate_left; (go_simp; first | done | with_reducible rfl); simp only [Act.put, List.setIfInBounds_toArray, List.set_cons_zero, List.set_cons_succ])
    have k2 := q2.below hr3 q2.lt
    have kb := b2.trans (hr3.mono b2.size)
    have x2 := (k2.set_ 0 (ptr u3)).set_ 1 (ptr p3)
    have xb := (kb.setCell (p := ⟨g + 1, 0, none⟩) hgw (ptr u3)).setCell (p := ⟨g + 1, 1, none⟩) hgw (ptr p3)
    have f0 := k2.frozen 0
    have f1 := k2.frozen 1
    have c0 := k2.cell 0
    have c1 := k2.cell 1
    have l2 := k2.lt
    have X2 := Lib.hid x2; have XB := Lib.hid xb
    clear x2 xb q1 q2 k2 kb hr hr3 p0 p1 HB HC HR hb2 hb3
    refine m_s1 10 (by kernel_rfl) rfl ?_
    go_wp2_with fail
    refine m_clear (by kernel_rfl) ?_
    (refine m_q 11 (v := ?_) (by kernel_rfl) rfl rfl (fun W hW => ?_) ?_; rotate_left; (go_simp; first | done | with_reducible rfl); simp only [Act.put, List.setIfInBounds_toArray, List.set_cons_zero, List.set_cons_succ])
    refine m_end (by kernel_rfl) ?_
    go_wp2_with fail
    have d0 := Blk.cell X2.out 0
    have d1 := Blk.cell X2.out 1
    exact bodyPost_ret (v := .tuple #[.agg #[ptr u3, ptr p3], .int .i64 0]) (by simp [results, Tryz.results38, go_sem, d0, d1]) rfl ⟨⟨_, _, by first | rfl | rw [if_pos HD.out]⟩, XB.out⟩
  · have e1 : ((D : Int) != (Ps.length : Int)) = true := by rw [bne_iff_ne]; omega
    have e2 : decide ((D : Int) = (Ps.length : Int)) = false := decide_eq_false (by omega)
    have e3 : ((D : Int) == (Ps.length : Int)) = false := by rw [beq_eq_false_iff_ne]; omega
    have HD := Lib.hid hD
    have x2 := (k2.set_ 0 (.pointer none)).set_ 1 (.pointer none)
    have xb := (hbU.setCell (p := ⟨g + 1, 0, none⟩) hgw (.pointer none)).setCell (p := ⟨g + 1, 1, none⟩) hgw (.pointer none)
    have f0 := k2.frozen 0
    have f1 := k2.frozen 1
    have c0 := k2.cell 0
    have c1 := k2.cell 1
    have l2 := k2.lt
    have X2 := Lib.hid x2; have XB := Lib.hid xb
    clear x2 xb h k1 k2 hD
    go_wp2_with fail
    have d0 := Blk.cell X2.out 0
    have d1 := Blk.cell X2.out 1
    exact bodyPost_ret (v := .tuple #[.agg #[.pointer none, .pointer none], .int .i64 1]) (by simp [results, Tryz.results38, go_sem, d0, d1]) rfl ⟨⟨_, _, by first | rfl | rw [if_neg HD.out]⟩, XB.out⟩
set_option maxRecDepth 100000 in
set_option maxHeartbeats 8000000 in
theorem simplify_few (q u p C D E : Nat) (Ns Us Ps : List Nat) (w : World) (hm : IsMat w q C Ns) (hu : IsMat w u D Us) (hp : IsMat w p E Ps) (hin : rowsIn D Us) (hT : Tab w) (hC : C ≤ 256) (hR : Ns.length ≤ 256) (h : validN C Ns D Us E Ps = false ∨ Ps = []) :
    Calls Tryz.prog 23 #[ptr q, .agg #[ptr u, ptr p]] w fun e w' => (∃ a b, e = .returned (.tuple #[.agg #[.pointer a, .pointer b], .int .i64 (if validN C Ns D Us E Ps = true then 0 else 7)])) ∧ Below w.heap.size w w' := by
  obtain ⟨en, hen⟩ : ∃ en : Int, en = if validN C Ns D Us E Ps = true then 0 else 7 := ⟨_, rfl⟩
  rw [← hen]
  have HEN := Lib.hid hen
  clear hen
  go_enter Tryz.func23, Tryz.ntmps23
  go_upto_region 1 with fail
  refine abs3 fun W h2 h3 h4 hb hz => ?_
  clear hz
  obtain ⟨g, hg⟩ : ∃ x, x = w.heap.size := ⟨_, rfl⟩
  have hgw : w.heap.size ≤ g + 2 := by omega
  rw [← hg] at h2 h3 h4 ⊢
  clear hg
  have p2 := h2.cell 0
  have p3 := h3.cell 0
  have p3' := h3.cell 1
  have hva := valid_any q u p C D E Ns Us Ps W (hm.below hb) (hu.below hb) (hp.below hb) hin (hT.below hb)
  obtain ⟨b, hbv⟩ : ∃ b, b = validN C Ns D Us E Ps := ⟨_, rfl⟩
  rw [← hbv] at hva h
  have HVA := hideC hva
  have HBV := Lib.hid hbv
  clear hva hbv
  go_wp2_with fail
  with_reducible refine HVA.out.mono ?_
  rintro e W1 ⟨rfl, hb1⟩
  have b1 := hb.trans (hb1.mono hb.size)
  have k2 := h2.below hb1 h2.lt
  have k3 := h3.below hb1 h3.lt
  have k4 := h4.below hb1 h4.lt
  clear HVA p2 p3 p3' h2 h3 h4 hb hb1
  cases b with
  | false =>
    have x2 := (k4.set_ 0 (.pointer none)).set_ 1 (.pointer none)
    have xb := (b1.setCell (p := ⟨g + 2, 0, none⟩) hgw (.pointer none)).setCell (p := ⟨g + 2, 1, none⟩) hgw (.pointer none)
    have f0 := k4.frozen 0
    have f1 := k4.frozen 1
    have c0 := k4.cell 0
    have c1 := k4.cell 1
    have l2 := k4.lt
    have X2 := Lib.hid x2; have XB := Lib.hid xb
    clear x2 xb h k2 k3 k4
    go_wp2_with fail
    have d0 := Blk.cell X2.out 0
    have d1 := Blk.cell X2.out 1
    exact bodyPost_ret (v := .tuple #[.agg #[.pointer none, .pointer none], .int .i64 7]) (by simp [results, Tryz.results23, go_sem, d0, d1]) rfl ⟨⟨_, _, by rw [HEN.out, ← HBV.out]; rfl⟩, XB.out⟩
  | true =>
    have hPs : Ps = [] := by rcases h with h | h; · cases h
                             · exact h
    subst hPs
    clear h
    have p3 := k3.cell 0
    have p3' := k3.cell 1
    have HL := hideC (list_nilF u p E W1 (hp.below b1))
    go_wp2_with fail
    with_reducible refine HL.out.mono ?_
    rintro e W2 ⟨rfl, hb2⟩
    have b2 := b1.trans (hb2.mono b1.size)
    have q2 := k2.below hb2 k2.lt
    have q4 := k4.below hb2 k4.lt
    clear HL p3 p3' k2 k3 k4
    go_upto_region 7 with fail
    refine abs2 fun W3 h6 h7 hb3 hz => ?_
    clear hz
    obtain ⟨g6, hg6⟩ : ∃ x, x = W2.heap.size := ⟨_, rfl⟩
    rw [← hg6] at h6 h7 ⊢
    clear hg6
    have b3 := b2.trans (hb3.mono b2.size)
    have r2 := q2.below hb3 q2.lt
    have r4 := q4.below hb3 q4.lt
    have c6 := h6.cell 0
    go_wp2_with fail
    refine wp_loopF (β := Unit) (fun _ f => #[f 0, f 1, ptr g, ptr (g + 1), ptr (g + 2), .int .i64 0, ptr g6, ptr (g6 + 1), .int .i64 (-1), f 9, f 10, f 11, f 12, f 13, f 14, f 15, f 16, f 17, f 18, f 19, f 20, f 21, f 22, f 23, f 24, f 25, f 26, f 27, f 28, f 29, f 30, f 31, f 32, f 33, f 34, f 35, f 36, f 37, f 38, f 39, f 40, f 41, f 42, f 43, f 44, f 45, f 46, f 47, f 48, f 49, f 50, f 51, f 52, f 53, f 54, f 55, f 56, f 57, f 58, f 59, f 60, f 61, f 62, f 63, f 64, f 65, f 66, f 67, f 68, f 69, f 70, f 71, f 72, f 73, f 74, f 75, f 76, f 77, f 78]) (fun _ ds V => ds = [] ∧ V = W3) (fun _ => 0) () rfl ⟨rfl, rfl⟩ ?_
    rintro _ f ds V ⟨rfl, rfl⟩
    go_wp2_with fail
    refine wp_loopF (β := Unit) (fun _ f => #[f 0, f 1, ptr g, ptr (g + 1), ptr (g + 2), .int .i64 0, ptr g6, ptr (g6 + 1), f 8, f 9, f 10, f 11, f 12, f 13, f 14, f 15, f 16, f 17, f 18, f 19, f 20, f 21, f 22, f 23, f 24, f 25, f 26, f 27, f 28, f 29, f 30, f 31, f 32, f 33, f 34, f 35, f 36, f 37, f 38, f 39, f 40, .slice none 0 0, .int .i64 0, .int .i64 0, f 44, f 45, f 46, f 47, f 48, f 49, f 50, f 51, f 52, f 53, f 54, f 55, f 56, f 57, f 58, f 59, f 60, f 61, f 62, f 63, f 64, f 65, f 66, f 67, f 68, f 69, f 70, f 71, f 72, f 73, f 74, f 75, f 76, f 77, f 78]) (fun _ ds Vx => ds = [] ∧ Vx = V) (fun _ => 0) () rfl ⟨rfl, rfl⟩ ?_
    rintro _ f ds Vx ⟨rfl, rfl⟩
    have d2 := r2.cell 0
    go_upto_region 23 with fail
    refine wp_mix (fun V => Below Vx.heap.size Vx V) 10 (by kernel_rfl) (by kernel_rfl) (Below.refl _ _).drew ?_
    have hr := (Below.refl Vx.heap.size Vx).drew
    obtain ⟨U, hU⟩ : ∃ U, U = Vx.drew := ⟨_, rfl⟩
    rw [← hU] at hr ⊢
    clear hU
    have bU := b3.trans (hr.mono b3.size)
    have HC := hideC (cols_any q C Ns U (hm.below bU))
    have HR := hideC (rows_any q C Ns U (hm.below bU))
    have HB := hideC (build_any U.heap.size (.slice none 0 0) C Ns [] U (OwnK.nil _ _ _ _) (by simp) hR hC (by simp))
    (refine m_q 0 (v := ?_) (by kernel_rfl) rfl rfl (fun W hW => ?_) ?_; rotate_left; (have y0 := onB hW d2; have y1 := onB hW c6; go_simp; first | done | with_reducible rfl); simp only [Act.put, List.setIfInBounds_toArray, List.set_cons_zero, List.set_cons_succ]); (refine m_q 2 (v := ?_) (by kernel_rfl) rfl rfl (fun W hW => ?_) ?_; rotate_left; (have y0 := onB hW d2; have y1 := onB hW c6; go_simp; first | done | with_reducible rfl); simp only [Act.put, List.setIfInBounds_toArray, List.set_cons_zero, List.set_cons_succ]); (refine m_q 4 (v := ?_) (by kernel_rfl) rfl rfl (fun W hW => ?_) ?_; rotate_left; (have y0 := onB hW d2; have y1 := onB hW c6; go_simp; first | done | with_reducible rfl); simp only [Act.put, List.setIfInBounds_toArray, List.set_cons_zero, List.set_cons_succ])
    refine m_s1 1 (by kernel_rfl) rfl ?_
    go_wp2_with fail
    with_reducible refine HR.out.mono ?_
    rintro e w' ⟨rfl, rfl⟩
    go_wp2_with fail
    refine m_keep hr ?_
    refine m_s1 3 (by kernel_rfl) rfl ?_
    go_wp2_with fail
    with_reducible refine HC.out.mono ?_
    rintro e w' ⟨rfl, rfl⟩
    go_wp2_with fail
    refine m_keep hr ?_
    refine m_s1 5 (by kernel_rfl) rfl ?_
    go_wp2_with fail
    with_reducible refine HB.out.mono ?_
    rintro e U3 ⟨u3, p3, rfl, -, -, hb5⟩
    have hr3 := hr.trans (hb5.mono hr.size)
    go_wp2_with fail
    refine m_keep hr3 ?_
    (refine m_q 6 (v := ?_) (by kernel_rfl) rfl rfl (fun W hW => ?_) ?_; rotate_left; (go_simp; first | done | with_reducible rfl); simp only [Act.put, List.setIfInBounds_toArray, List.set_cons_zero, List.set_cons_succ]); (refine m_q 7 (v := ?_) (by kernel_rfl) rfl rfl (fun W hW => ?_) ?_; rotate_left; (go_simp; first | done | with_reducible rfl); simp only [Act.put, List.setIfInBounds_toArray, List.set_cons_zero, List.set_cons_succ])
    have k2 := r4.below hr3 r4.lt
    have kb := b3.trans (hr3.mono b3.size)
    have x2 := (k2.set_ 0 (ptr u3)).set_ 1 (ptr p3)
    have xb := (kb.setCell (p := ⟨g + 2, 0, none⟩) hgw (ptr u3)).setCell (p := ⟨g + 2, 1, none⟩) hgw (ptr p3)
    have f0 := k2.frozen 0
    have f1 := k2.frozen 1
    have c0 := k2.cell 0
    have c1 := k2.cell 1
    have l2 := k2.lt
    have X2 := Lib.hid x2; have XB := Lib.hid xb
    clear x2 xb r2 r4 k2 kb hr hr3 d2 c6 HB HC HR hb2 hb3 h6 h7 hb5
    refine m_s1 8 (by kernel_rfl) rfl ?_
    go_wp2_with fail
    refine m_clear (by kernel_rfl) ?_
    (refine m_q 9 (v := ?_) (by kernel_rfl) rfl rfl (fun W hW => ?_) ?_; rotate_left; (go_simp; first | done | with_reducible rfl); simp only [Act.put, List.setIfInBounds_toArray, List.set_cons_zero, List.set_cons_succ])
    refine m_end (by kernel_rfl) ?_
    go_wp2_with fail
    have d0 := Blk.cell X2.out 0
    have d1 := Blk.cell X2.out 1
    exact bodyPost_ret (v := .tuple #[.agg #[ptr u3, ptr p3], .int .i64 0]) (by simp [results, Tryz.results23, go_sem, d0, d1]) rfl ⟨⟨_, _, by rw [HEN.out, ← HBV.out]; rfl⟩, XB.out⟩
end Mix2
end Go.Proofs.YtlakjhhpdbgekaaGreatDoor
