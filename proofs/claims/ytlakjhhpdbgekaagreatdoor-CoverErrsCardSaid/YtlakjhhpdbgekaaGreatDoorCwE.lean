import Derived.Test.YtlakjhhpdbgekaaGreatDoorCvG
import Derived.Test.YtlakjhhpdbgekaaGreatDoorCvH
/-
  Limits: lattice.New, cover.concepts and cover.Minimal where the limit is met; nil matrices.
-/
namespace Go.Proofs.YtlakjhhpdbgekaaGreatDoor
open Go.RowKit
attribute [local go_sem] Oper.semAt_some
namespace Mix2
set_option maxRecDepth 100000 in
set_option maxHeartbeats 8000000 in
theorem new_lim (p C : Nat) (Ns : List Nat) (mo : Nat) (w : World) (h : IsMat w p C Ns) (hT : Tab w) (hC : C ≤ 12) (h1m : 1 ≤ mo) (hm : mo < (closL C Ns).length) :
    Calls Tryz.prog 41 #[ptr p, .int .i64 (mo : Int)] w fun e w' => e = pair (.pointer none) 3 ∧ Below w.heap.size w w' := by
  obtain ⟨i0, hi0, hz0, hz1, hz2⟩ := info_parts info_con
  have hl : Ns.length ≤ 4096 := h.2.1
  have hfirst := clos_first (C := C) (Ns := Ns) hl
  have hll := closL_len C Ns
  have hp12 : 2 ^ C ≤ 2 ^ 12 := Nat.pow_le_pow_right (by omega) hC
  have hnext := fun k a => next_at (C := C) (Ns := Ns) hl (k := k) (a := a)
  have hclo := fun k a (hk : (closL C Ns)[k]? = some a) => mem_closL.1 (List.mem_of_getElem? hk)
  have hlow := fun k a => clos_low (C := C) (Ns := Ns) (k := k) (a := a)
  obtain ⟨L, hL⟩ : ∃ L, L = closL C Ns := ⟨_, rfl⟩
  rw [← hL] at hfirst hll hm hnext hclo hlow
  have hpos : 0 < L.length := (List.getElem?_eq_some_iff.1 hfirst).1
  have hLL : L.length ≤ 4096 := by omega
  have HN := Lib.hid hnext; have HCL := Lib.hid hclo; have HLO := Lib.hid hlow
  clear hL hll hp12 hnext hclo hlow
  have hm1 : ¬ (mo : Int) < 1 := by omega
  have hm1d : decide ((mo : Int) < 1) = false := decide_eq_false (by omega)
  have hm1n : decide (mo < 1) = false := decide_eq_false (by omega)
  go_enter Tryz.func41, Tryz.ntmps41
  go_upto_region 4 with fail
  refine abs1 fun W0 h6 hb0 hz => ?_
  clear hz
  obtain ⟨g, hg⟩ : ∃ g, g = w.heap.size := ⟨_, rfl⟩
  have hgw : w.heap.size ≤ g := by omega
  rw [← hg] at h6 ⊢
  clear hg
  go_wp2_with fail
  refine (close_any (some ⟨p, 0, none⟩) C Ns _ 0 W0 (h.below hb0).mv (IsSet.empty _) (hT.below hb0)).mono ?_
  rintro e W1 ⟨r, rfl, sa, hb1⟩
  obtain ⟨A0, c0, rfl, _⟩ := id sa
  obtain ⟨n0, hn0⟩ : ∃ n, n = nw (cloN C Ns 0) := ⟨_, rfl⟩
  rw [← hn0] at sa ⊢
  have b1 := hb0.trans (hb1.mono hb0.size)
  have h61 := h6.below hb1 h6.lt
  clear h6 hb0 hb1 hn0
  go_wp2_with fail
  refine abs1 fun W2 h7 hb1 hz => ?_
  clear hz
  have b2 := b1.trans (hb1.mono b1.size)
  have h62 := h61.below hb1 h61.lt
  have sa2 := sa.below hb1
  obtain ⟨ga, hga⟩ : ∃ x, x = W1.heap.size := ⟨_, rfl⟩
  have hgaw : g < ga := by rw [hga]; exact h61.lt
  rw [← hga] at h7 ⊢
  clear hga h61 sa b1 hb1
  refine wp_loopF (β := Nat × Bool × Option Addr × Nat × Nat × Value) (fun x f => #[ptr p, .int .i64 (mo : Int), f 2, f 3, .pointer none, .int .i64 0, ptr g, ptr ga, .bool x.2.1, f 9, f 10, f 11, f 12, f 13, f 14, f 15, f 16, f 17, f 18, f 19, f 20, f 21, f 22, f 23, f 24, f 25, f 26, f 27, f 28, f 29, f 30, f 31, f 32, f 33, f 34, f 35, f 36, f 37, f 38, f 39, f 40, f 41, f 42, f 43, f 44, f 45, f 46, f 47])
    (fun x ds W => ds = [] ∧ x.1 ≤ mo ∧ x.2.1 = decide (x.1 < L.length) ∧ Below w.heap.size w W ∧ Blk W g 156 #[ptr p, x.2.2.2.2.2] ∧ OwnK W w.heap.size x.2.2.2.2.2 C Ns (L.take x.1) ∧ Blk W ga 65 #[.slice x.2.2.1 x.2.2.2.1 x.2.2.2.2.1] ∧ ∀ s, L[x.1]? = some s → IsSet W (.slice x.2.2.1 x.2.2.2.1 x.2.2.2.2.1) s) (fun x => L.length - x.1) (0, true, A0, n0, c0, .slice none 0 0) rfl
    ⟨rfl, Nat.zero_le _, (decide_eq_true hpos).symm, b2, h62, by rw [List.take_zero]; exact OwnK.nil _ _ _ _, h7, fun s hs => by rw [hfirst] at hs; cases hs; exact sa2⟩ ?_
  rintro ⟨k, ok, A, n, c, vl⟩ f ds W ⟨rfl, hk, hok, hb, k6, hown, k7, hset⟩
  dsimp only at hk hok k6 hown k7 hset ⊢
  by_cases hlt0 : k < mo
  · have hlt : k < L.length := by omega
    obtain rfl : ok = true := by rw [hok]; exact decide_eq_true hlt
    obtain ⟨s, hs⟩ : ∃ s, L[k]? = some s := ⟨_, List.getElem?_eq_getElem hlt⟩
    have sa := hset s hs
    obtain ⟨A', c', e, _⟩ := id sa
    injection e with e1 e2 e3
    subst e1; subst e2; subst e3
    have hcs := HCL.out k s hs
    have hls := HLO.out k s hs
    have hnx := HN.out k s hs
    have htk : L.take (k + 1) = L.take k ++ [s] := by rw [List.take_add_one, hs]; rfl
    have htl : (L.take k).length = k := by rw [List.length_take]; omega
    obtain ⟨vs, hown0, hsets⟩ := id hown
    rw [htl] at hown0
    obtain ⟨Al, cl, rfl⟩ := hown.val
    rw [htl] at k6 hown0
    have HTL := Lib.hid htl; have HNX := Lib.hid hnx; have HTK := Lib.hid htk; have HSE := Lib.hid hsets; have HLS := Lib.hid hls
    have hmk : ((k : Int) == (mo : Int)) = false := by rw [beq_eq_false_iff_ne]; omega
    have hmk2 : ¬ ((k : Int) = (mo : Int)) := by omega
    have c60 := k6.cell 0
    have c61 := k6.cell 1
    have c7 := k7.cell 0
    clear hset hnx htk htl hsets hfirst hok hls
    go_wp2_with fail
    refine wp_mix (fun V => V.cell? ⟨g, 0, none⟩ = some (ptr p) ∧ V.cell? ⟨g, 1, none⟩ = some (.slice Al k cl) ∧ V.cell? ⟨ga, 0, none⟩ = some (.slice A (nw s) c)) 13 (by kernel_rfl) (by kernel_rfl) ⟨c60, c61, c7⟩ ?_
    have hr := (Below.refl W.heap.size W).drew
    obtain ⟨u, hu⟩ : ∃ V, V = W.drew := ⟨_, rfl⟩
    rw [← hu] at hr ⊢
    clear hu
    (refine m_q 0 (v := ?_) (by kernel_rfl) rfl rfl (fun W hW => ?_) ?_; rotate_left; (obtain ⟨z6, z61, z7⟩ := hW; go_simp; first | done | with_reducible rfl); simp only [Act.put, List.setIfInBounds_toArray, List.set_cons_zero, List.set_cons_succ]); (refine m_q 1 (v := ?_) (by kernel_rfl) rfl rfl (fun W hW => ?_) ?_; rotate_left; (obtain ⟨z6, z61, z7⟩ := hW; go_simp; first | done | with_reducible rfl); simp only [Act.put, List.setIfInBounds_toArray, List.set_cons_zero, List.set_cons_succ]); (refine m_q 2 (v := ?_) (by kernel_rfl) rfl rfl (fun W hW => ?_) ?_; rotate_left; (obtain ⟨z6, z61, z7⟩ := hW; go_simp; first | done | with_reducible rfl); simp only [Act.put, List.setIfInBounds_toArray, List.set_cons_zero, List.set_cons_succ]); (refine m_q 3 (v := ?_) (by kernel_rfl) rfl rfl (fun W hW => ?_) ?_; rotate_left; (obtain ⟨z6, z61, z7⟩ := hW; go_simp; first | done | with_reducible rfl); simp only [Act.put, List.setIfInBounds_toArray, List.set_cons_zero, List.set_cons_succ]); (refine m_q 4 (v := ?_) (by kernel_rfl) rfl rfl (fun W hW => ?_) ?_; rotate_left; (obtain ⟨z6, z61, z7⟩ := hW; go_simp; first | done | with_reducible rfl); simp only [Act.put, List.setIfInBounds_toArray, List.set_cons_zero, List.set_cons_succ]); (refine m_q 5 (v := ?_) (by kernel_rfl) rfl rfl (fun W hW => ?_) ?_; rotate_left; (obtain ⟨z6, z61, z7⟩ := hW; go_simp; first | done | with_reducible rfl); simp only [Act.put, List.setIfInBounds_toArray, List.set_cons_zero, List.set_cons_succ]); (refine m_q 6 (v := ?_) (by kernel_rfl) rfl rfl (fun W hW => ?_) ?_; rotate_left; (obtain ⟨z6, z61, z7⟩ := hW; go_simp; first | done | with_reducible rfl); simp only [Act.put, List.setIfInBounds_toArray, List.set_cons_zero, List.set_cons_succ])
    refine m_s1 7 (by kernel_rfl) rfl ?_
    go_wp2_with fail
    refine (of_is (X := havN C Ns s) (Y := s) rfl hcs ((h.below (hb.trans (hr.mono hb.size))).mv) (sa.below hr) (hT.below (hb.trans (hr.mono hb.size)))).mono ?_
    rintro e u1 ⟨A1, c1, A2, c2, rfl, s1, s2, hb1⟩
    have r1 := hr.trans (hb1.mono hr.size)
    have k61 := k6.below r1 k6.lt
    have k71 := k7.below r1 k7.lt
    go_wp2_with fail
    refine m_keep ⟨k61.cell 0, k61.cell 1, k71.cell 0⟩ ?_
    refine m_s1 8 (by kernel_rfl) rfl ?_
    go_wp2_with fail
    refine absN fun u2 hB hb2 hz => ?_
    clear hz
    have r2 := r1.trans (hb2.mono r1.size)
    have k62 := k6.below r2 k6.lt
    have k72 := k7.below r2 k7.lt
    have hlocs := own_below hown0 r2
    have b2' := hb.trans (r2.mono hb.size)
    have s12 := s1.below hb2
    have s22 := s2.below hb2
    obtain ⟨gB, hgB⟩ : ∃ x, x = u1.heap.size := ⟨_, rfl⟩
    rw [← hgB] at hB ⊢
    clear hgB
    refine m_keep ⟨k62.cell 0, k62.cell 1, k72.cell 0⟩ ?_
    refine m_s1 9 (by kernel_rfl) rfl ?_
    have hsz := b2'.size
    have HNW := hideC (World.news_of_block hB)
    go_wp2_with (at_builtin; refine wpList_append_own _ rfl _ _ 91 rfl (w.heap.size) 119 i0 (.agg #[.slice none 0 0, .slice none 0 0]) 2 48 Tryz.underlying91 hi0 hz0 hz1 hz2 rfl (by decide) _ _ _ rfl (hlocs) ⟨gB, 0, none⟩ 1 1 [.slice A1 (nw (havN C Ns s)) c1, .slice A2 (nw s) c2] rfl rfl (HNW.out) (by simp [Value.oneCell']) (by unfold maxLen; omega) (by omega) (by first | omega | (simp; omega)) ?_; intro v' w3 hown' hgrow _)
    obtain ⟨hK, hkw⟩ := OwnK.push (HSE.out.below r2) hlocs hgrow hown' (by have := HTL.out; omega) s12 s22
    have hu6 := k62.grown hgrow (own_ne hlocs k62 (by decide))
    have hu7 := k72.grown hgrow (own_ne hlocs k72 (by decide))
    have b3 := b2'.grown hgrow hsz (fun q hq => (hlocs.lt q hq).1)
    have sa3 := (sa.below r2).keep hkw
    obtain ⟨A9, c9, rfl⟩ := hK.val_ (n := k + 1) (by rw [List.length_append, HTL.out]; rfl)
    rw [← HTK.out] at hK
    have r3 := r2.size
    clear hown hown0 hown' hlocs HNW sa hgrow hB s1 s2 s12 s22 k61 k62 k71 k72 hb1 hb2 r1 r2 b2' HSE c60 c61 c7 k6 k7
    refine m_keep ⟨hu6.cell 0, hu6.cell 1, hu7.cell 0⟩ ?_
    (refine m_q 10 (v := ?_) (by kernel_rfl) rfl rfl (fun W hW => ?_) ?_; rotate_left; (go_simp; first | done | with_reducible rfl); simp only [Act.put, List.setIfInBounds_toArray, List.set_cons_zero, List.set_cons_succ]); (refine m_q 11 (v := ?_) (by kernel_rfl) rfl rfl (fun W hW => ?_) ?_; rotate_left; (go_simp; first | done | with_reducible rfl); simp only [Act.put, List.setIfInBounds_toArray, List.set_cons_zero, List.set_cons_succ])
    have f6 := hu6.frozen 1
    have l6 := hu6.lt
    have d6 := hu6.cell 1
    refine m_s1 12 (by kernel_rfl) rfl ?_
    go_wp2_with fail
    have hv6 := hu6.set_ 1 (.slice A9 (k + 1) c9)
    have hv7 := hu7.far (p := ⟨g, 1, none⟩) (by simp; omega) (.slice A9 (k + 1) c9)
    have hvK := hK.put hu6 (by decide) (by decide) 1 (.slice A9 (k + 1) c9)
    have hvs := sa3.put hu6 (by decide) 1 (.slice A9 (k + 1) c9)
    have hvb := b3.setCell (p := ⟨g, 1, none⟩) hgw (.slice A9 (k + 1) c9)
    obtain ⟨u4, hu4⟩ : ∃ V, V = w3.setCell ⟨g, 1, none⟩ (.slice A9 (k + 1) c9) := ⟨_, rfl⟩
    rw [← hu4] at hv6 hv7 hvK hvs hvb ⊢
    clear hu4 hu6 hu7 hK sa3 b3 f6 l6 d6 hkw
    refine m_clear (by kernel_rfl) ?_
    refine m_end (by kernel_rfl) ?_
    have c7 := hv7.cell 0
    go_wp2_with fail
    refine (next_any p C Ns _ s u4 (h.below hvb) hvs (hT.below hvb) HLS.out).mono ?_
    rintro e u5 ⟨A5, n5, c5, rfl, hset5, hb5⟩
    have hw6 := hv6.below hb5 hv6.lt
    have hw7 := hv7.below hb5 hv7.lt
    have hwK := hvK.below hb5
    have hwb := hvb.trans (hb5.mono hvb.size)
    have f7 := hw7.frozen 0
    have d7 := hw7.cell 0
    have hok : (nextTo C Ns s C).isSome = decide (k + 1 < L.length) := by
      rw [HNX.out]
      by_cases hk1 : k + 1 < L.length
      · rw [List.getElem?_eq_getElem hk1, decide_eq_true hk1]; rfl
      · rw [List.getElem?_eq_none (by omega), decide_eq_false hk1]; rfl
    rw [hok]
    rw [HNX.out] at hset5
    obtain ⟨ok, hoke⟩ : ∃ b, b = decide (k + 1 < L.length) := ⟨_, rfl⟩
    rw [← hoke]
    have HOK := Lib.hid hoke
    clear hok hoke hv6 hv7 hvK hvs hvb hb5
    go_wp2_with fail
    exact ⟨(k + 1, ok, A5, n5, c5, _), rfl, ⟨by first | rfl | trivial, by show k + 1 ≤ mo; omega, HOK.out, hwb.setCell (p := ⟨ga, 0, none⟩) (show w.heap.size ≤ ga by omega) _, hw6.far (p := ⟨ga, 0, none⟩) (by simp; omega) _, hwK.put hw7 (by decide) (by decide) 0 _, hw7.set_ 0 _, fun s' hs' => (hset5 s' hs').put hw7 (by decide) 0 _⟩, by show L.length - (k + 1) < L.length - k; omega⟩
  · obtain rfl : k = mo := by omega
    obtain rfl : ok = true := by rw [hok]; exact decide_eq_true hm
    have htl : (L.take k).length = k := by rw [List.length_take]; omega
    obtain ⟨Al, cl, rfl⟩ := hown.val
    rw [htl] at k6
    have c60 := k6.cell 0
    have c61 := k6.cell 1
    clear hset hok htl
    go_wp2_with fail
    go_ret2
    exact ⟨rfl, hb⟩
set_option maxRecDepth 100000 in
set_option maxHeartbeats 2000000 in
theorem concepts_lim (p C : Nat) (Ns : List Nat) (mo : Nat) (w : World) (h : IsMat w p C Ns) (hT : Tab w) (hC : C ≤ 12) (h1m : 1 ≤ mo) (hm : mo < (closL C Ns).length) :
    Calls Tryz.prog 52 #[ptr p, .int .i64 (mo : Int)] w fun e w' => e = pair (.slice none 0 0) 3 ∧ Below w.heap.size w w' := by
  have HN := hideC (new_lim p C Ns mo w h hT hC h1m hm)
  go_enter Tryz.func52, Tryz.ntmps52
  go_wp2_with fail
  refine HN.out.mono ?_
  rintro e W0 ⟨rfl, hb0⟩
  go_wp2_with fail
  go_ret2
  exact ⟨rfl, hb0⟩
/-- No roles, no proof, an error. -/
abbrev zer3 (k : Int) : Ending := .returned (.tuple #[.agg #[.pointer none, .pointer none], .agg #[.int .i64 0, .slice none 0 0], .int .i64 k])
abbrev zw4 (W : World) (g : Nat) : World := (((W.setCell ⟨g, 0, none⟩ (.pointer none)).setCell ⟨g, 1, none⟩ (.pointer none)).setCell ⟨g + 1, 0, none⟩ (.int .i64 0)).setCell ⟨g + 1, 1, none⟩ (.slice none 0 0)
theorem zw4_blk {w W : World} {g : Nat} (h4 : Blk W g 33 #[.pointer none, .pointer none]) (h5 : Blk W (g + 1) 36 #[.int .i64 0, .slice none 0 0]) (hb : Below w.heap.size w W) (hg : w.heap.size ≤ g) :
    Blk (zw4 W g) g 33 #[.pointer none, .pointer none] ∧ Blk (zw4 W g) (g + 1) 36 #[.int .i64 0, .slice none 0 0] ∧ Below w.heap.size w (zw4 W g) := by
  have n1 : g + 1 ≠ g := by omega
  have n2 : g ≠ g + 1 := by omega
  have a4 := (h4.set_ 0 (.pointer none)).set_ 1 (.pointer none)
  have a5 := (h5.far (p := ⟨g, 0, none⟩) n1 (.pointer none)).far (p := ⟨g, 1, none⟩) n1 (.pointer none)
  refine ⟨(a4.far (p := ⟨g + 1, 0, none⟩) n2 (.int .i64 0)).far (p := ⟨g + 1, 1, none⟩) n2 (.slice none 0 0), (a5.set_ 0 (.int .i64 0)).set_ 1 (.slice none 0 0), ?_⟩
  exact (((hb.setCell (p := ⟨g, 0, none⟩) hg _).setCell (p := ⟨g, 1, none⟩) hg _).setCell (p := ⟨g + 1, 0, none⟩) (Nat.le_succ_of_le hg) _).setCell (p := ⟨g + 1, 1, none⟩) (Nat.le_succ_of_le hg) _
set_option maxRecDepth 100000 in
set_option maxHeartbeats 4000000 in
theorem minimal_arg (m : Option Addr) (limit : Int) (w : World) (h : m = none ∨ limit < 1) :
    Calls Tryz.prog 14 #[.pointer m, .int .i64 limit] w fun e w' => e = zer3 1 ∧ Below w.heap.size w w' := by
  go_enter Tryz.func14, Tryz.ntmps14
  go_upto_region 1 with fail
  refine abs2 fun W h4 h5 hb hz => ?_
  clear hz
  obtain ⟨g, hg⟩ : ∃ x, x = w.heap.size := ⟨_, rfl⟩
  have hgw : w.heap.size ≤ g := by omega
  rw [← hg] at h4 h5 ⊢
  clear hg
  obtain ⟨x4, x5, xb⟩ := zw4_blk h4 h5 hb hgw
  have f40 := h4.frozen 0
  have f41 := h4.frozen 1
  have f50 := h5.frozen 0
  have f51 := h5.frozen 1
  have c40 := h4.cell 0
  have c41 := h4.cell 1
  have c50 := h5.cell 0
  have c51 := h5.cell 1
  have l4 := h4.lt
  have l5 := h5.lt
  have X4 := Lib.hid x4; have X5 := Lib.hid x5; have XB := Lib.hid xb
  clear x4 x5 xb h4 h5 hb
  cases m with
  | none =>
    clear h
    go_wp2_with fail
    have d0 := X4.out.cell 0
    have d1 := X4.out.cell 1
    have d2 := X5.out.cell 0
    have d3 := X5.out.cell 1
    exact bodyPost_ret (v := .tuple #[.agg #[.pointer none, .pointer none], .agg #[.int .i64 0, .slice none 0 0], .int .i64 1]) (by simp [results, Tryz.results14, go_sem, d0, d1, d2, d3]) rfl ⟨rfl, XB.out⟩
  | some a =>
    have hl : limit < 1 := by rcases h with h | h; · cases h
                              · exact h
    have hld : decide (limit < 1) = true := decide_eq_true hl
    clear h
    go_wp2_with fail
    have d0 := X4.out.cell 0
    have d1 := X4.out.cell 1
    have d2 := X5.out.cell 0
    have d3 := X5.out.cell 1
    exact bodyPost_ret (v := .tuple #[.agg #[.pointer none, .pointer none], .agg #[.int .i64 0, .slice none 0 0], .int .i64 1]) (by simp [results, Tryz.results14, go_sem, d0, d1, d2, d3]) rfl ⟨rfl, XB.out⟩
set_option maxRecDepth 100000 in
set_option maxHeartbeats 4000000 in
theorem minimal_lim (p C : Nat) (Ns : List Nat) (mo : Nat) (w : World) (h : IsMat w p C Ns) (hT : Tab w) (h1m : 1 ≤ mo) (hm : 12 < C ∨ C ≤ 12 ∧ mo < (closL C Ns).length) :
    Calls Tryz.prog 14 #[ptr p, .int .i64 (mo : Int)] w fun e w' => e = zer3 3 ∧ Below w.heap.size w w' := by
  go_enter Tryz.func14, Tryz.ntmps14
  go_upto_region 1 with fail
  refine abs2 fun W h4 h5 hb hz => ?_
  clear hz
  obtain ⟨g, hg⟩ : ∃ x, x = w.heap.size := ⟨_, rfl⟩
  have hgw : w.heap.size ≤ g := by omega
  rw [← hg] at h4 h5 ⊢
  clear hg
  have hmd : decide ((mo : Int) < 1) = false := decide_eq_false (by omega)
  have hmn : decide (mo < 1) = false := decide_eq_false (by omega)
  have hmi : ¬ mo < 1 := by omega
  have HC := hideC (cols_any p C Ns W (h.below hb))
  go_wp2_with fail
  with_reducible refine HC.out.mono ?_
  rintro e w' ⟨rfl, rfl⟩
  clear HC
  by_cases hC : 12 < C
  · obtain ⟨x4, x5, xb⟩ := zw4_blk h4 h5 hb hgw
    have f40 := h4.frozen 0
    have f41 := h4.frozen 1
    have f50 := h5.frozen 0
    have f51 := h5.frozen 1
    have c40 := h4.cell 0
    have c41 := h4.cell 1
    have c50 := h5.cell 0
    have c51 := h5.cell 1
    have l4 := h4.lt
    have l5 := h5.lt
    have X4 := Lib.hid x4; have X5 := Lib.hid x5; have XB := Lib.hid xb
    have e1 : decide ((12 : Int) < (C : Int)) = true := decide_eq_true (by omega)
    have e2 : decide (12 < C) = true := decide_eq_true hC
    clear x4 x5 xb h4 h5 hb hm
    go_wp2_with fail
    have d0 := X4.out.cell 0
    have d1 := X4.out.cell 1
    have d2 := X5.out.cell 0
    have d3 := X5.out.cell 1
    exact bodyPost_ret (v := .tuple #[.agg #[.pointer none, .pointer none], .agg #[.int .i64 0, .slice none 0 0], .int .i64 3]) (by simp [results, Tryz.results14, go_sem, d0, d1, d2, d3]) rfl ⟨rfl, XB.out⟩
  · have hlim : mo < (closL C Ns).length := by rcases hm with h | h; · omega
                                               · exact h.2
    have e1 : decide ((12 : Int) < (C : Int)) = false := decide_eq_false (by omega)
    have e2 : decide (12 < C) = false := decide_eq_false hC
    have HL := hideC (concepts_lim p C Ns mo W (h.below hb) (hT.below hb) (by omega) h1m hlim)
    clear hm hlim
    go_wp2_with fail
    with_reducible refine HL.out.mono ?_
    rintro e W1 ⟨rfl, hb1⟩
    have k4 := h4.below hb1 h4.lt
    have k5 := h5.below hb1 h5.lt
    have kb := hb.trans (hb1.mono hb.size)
    obtain ⟨x4, x5, xb⟩ := zw4_blk k4 k5 kb hgw
    have f40 := k4.frozen 0
    have f41 := k4.frozen 1
    have f50 := k5.frozen 0
    have f51 := k5.frozen 1
    have c40 := k4.cell 0
    have c41 := k4.cell 1
    have c50 := k5.cell 0
    have c51 := k5.cell 1
    have l4 := k4.lt
    have l5 := k5.lt
    have X4 := Lib.hid x4; have X5 := Lib.hid x5; have XB := Lib.hid xb
    clear x4 x5 xb h4 h5 hb k4 k5 kb hb1 HL
    go_wp2_with fail
    have d0 := X4.out.cell 0
    have d1 := X4.out.cell 1
    have d2 := X5.out.cell 0
    have d3 := X5.out.cell 1
    exact bodyPost_ret (v := .tuple #[.agg #[.pointer none, .pointer none], .agg #[.int .i64 0, .slice none 0 0], .int .i64 3]) (by simp [results, Tryz.results14, go_sem, d0, d1, d2, d3]) rfl ⟨rfl, XB.out⟩
/-- No roles, an error. -/
abbrev zer2 (k : Int) : Ending := .returned (.tuple #[.agg #[.pointer none, .pointer none], .int .i64 k])
abbrev zw2 (W : World) (g : Nat) : World := (W.setCell ⟨g, 0, none⟩ (.pointer none)).setCell ⟨g, 1, none⟩ (.pointer none)
set_option maxRecDepth 100000 in
set_option maxHeartbeats 4000000 in
theorem greedy_nil (w : World) : Calls Tryz.prog 20 #[.pointer none] w fun e w' => e = zer2 1 ∧ Below w.heap.size w w' := by
  go_enter Tryz.func20, Tryz.ntmps20
  go_upto_region 1 with fail
  refine abs1 fun W h2 hb hz => ?_
  clear hz
  obtain ⟨g, hg⟩ : ∃ x, x = w.heap.size := ⟨_, rfl⟩
  have hgw : w.heap.size ≤ g := by omega
  rw [← hg] at h2 ⊢
  clear hg
  have x2 := (h2.set_ 0 (.pointer none)).set_ 1 (.pointer none)
  have xb := (hb.setCell (p := ⟨g, 0, none⟩) hgw (.pointer none)).setCell (p := ⟨g, 1, none⟩) hgw (.pointer none)
  have f0 := h2.frozen 0
  have f1 := h2.frozen 1
  have c0 := h2.cell 0
  have c1 := h2.cell 1
  have l2 := h2.lt
  have X2 := Lib.hid x2; have XB := Lib.hid xb
  clear x2 xb h2 hb
  go_wp2_with fail
  have d0 := Blk.cell X2.out 0
  have d1 := Blk.cell X2.out 1
  exact bodyPost_ret (v := .tuple #[.agg #[.pointer none, .pointer none], .int .i64 1]) (by simp [results, Tryz.results20, go_sem, d0, d1]) rfl ⟨rfl, XB.out⟩
set_option maxRecDepth 100000 in
set_option maxHeartbeats 4000000 in
theorem simplify_nil (u r : Option Addr) (w : World) : Calls Tryz.prog 23 #[.pointer none, .agg #[.pointer u, .pointer r]] w fun e w' => e = zer2 1 ∧ Below w.heap.size w w' := by
  go_enter Tryz.func23, Tryz.ntmps23
  go_upto_region 1 with fail
  refine abs3 fun W hp hr h2 hb hz => ?_
  clear hz
  obtain ⟨g0, hg⟩ : ∃ x, x = w.heap.size := ⟨_, rfl⟩
  rw [← hg] at hp hr h2 ⊢
  obtain ⟨g, hgg⟩ : ∃ x, x = g0 + 2 := ⟨_, rfl⟩
  have hgw : w.heap.size ≤ g := by omega
  clear hg
  have e1 : g0 + 1 + 1 = g := by omega
  rw [show g0 + 2 = g from hgg.symm] at h2
  have x2 := (h2.set_ 0 (.pointer none)).set_ 1 (.pointer none)
  have xb := (hb.setCell (p := ⟨g, 0, none⟩) hgw (.pointer none)).setCell (p := ⟨g, 1, none⟩) hgw (.pointer none)
  have f0 := h2.frozen 0
  have f1 := h2.frozen 1
  have c0 := h2.cell 0
  have c1 := h2.cell 1
  have l2 := h2.lt
  have p0 := hp.cell 0
  have X2 := Lib.hid x2; have XB := Lib.hid xb
  clear x2 xb h2 hb hgg
  try rw [e1]
  clear e1
  go_wp2_with fail
  have d0 := Blk.cell X2.out 0
  have d1 := Blk.cell X2.out 1
  exact bodyPost_ret (v := .tuple #[.agg #[.pointer none, .pointer none], .int .i64 1]) (by simp [results, Tryz.results23, go_sem, d0, d1]) rfl ⟨rfl, XB.out⟩
end Mix2
end Go.Proofs.YtlakjhhpdbgekaaGreatDoor
