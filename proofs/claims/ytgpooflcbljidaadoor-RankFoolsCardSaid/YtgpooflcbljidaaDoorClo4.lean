/-
  closure.Close, own, Closed, Of, Implies at every matrix, nil too.
-/
import Derived.Test.YtgpooflcbljidaaDoorClo3
import Derived.Test.YtgpooflcbljidaaDoorClo2
import Derived.Test.YtgpooflcbljidaaDoorMix2
namespace Go.Proofs.YtgpooflcbljidaaDoor
open Go.RowKit

/-- A result cell is written. -/
theorem IsSet.put {w : World} {v : Value} {N g : Nat} {t : TypeId} {cs : Array Value} (h : IsSet w v N) (hB : Blk w g t cs) (ht : 72 ≠ t) (i : Nat) (u : Value) : IsSet (w.setCell ⟨g, i, none⟩ u) v N := h.keep (KeepW.setCell (p := ⟨g, i, none⟩) hB ht u)
set_option maxRecDepth 100000 in
set_option maxHeartbeats 2000000 in
theorem close_any (m : Option Addr) (C : Nat) (Ns : List Nat) (v : Value) (S : Nat) (w : World) (h : IsMV w m C Ns) (hs : IsSet w v S) (hT : Tab w) :
    Calls Tryd.prog 28 #[.pointer m, .agg #[v]] w fun e w' => ∃ r, e = .returned (.agg #[r]) ∧ IsSet w' r (cloN C Ns S) ∧ Below w.heap.size w w' := by
  obtain ⟨A, c, rfl, _⟩ := id hs
  go_enter Tryd.func28, Tryd.ntmps28
  go_wp2_with fail
  refine absC2 fun W0 hX hO hb0 hz => ?_
  refine (having_any m C Ns _ S W0 (h.below hb0) (hs.below hb0) (hT.below hb0)).mono ?_
  rintro e w1 ⟨r1, rfl, hr1, hb1⟩
  obtain ⟨A1, c1, rfl, _⟩ := id hr1
  have b1 := hb0.trans (hb1.mono hb0.size)
  have hO1 := hO.below hb1 hO.lt
  go_wp2_with fail
  refine (common_any m C Ns _ _ w1 (h.below b1) hr1 (hT.below b1)).mono ?_
  rintro e w2 ⟨r2, rfl, hr2, hb2⟩
  obtain ⟨A2, c2, rfl, _⟩ := id hr2
  have b2 := b1.trans (hb2.mono b1.size)
  have hO2 := hO1.below hb2 hO1.lt
  have f0 := hO2.frozen 0
  have o0 := hO2.cell 0
  have lO := hO2.lt
  go_wp2_with fail
  have hOX := hO2.set_ 0 (.slice A2 (nw (comN C Ns (havN C Ns S))) c2)
  have cX := hOX.cell 0
  exact bodyPost_ret (v := .agg #[.slice A2 (nw (comN C Ns (havN C Ns S))) c2]) (by simp [results, Tryd.results28, go_sem, cX]) rfl ⟨_, rfl, hr2.put hO2 (by decide) 0 _, b2.setCell (p := ⟨w.heap.size + 1, 0, none⟩) (by simp) _⟩
set_option maxRecDepth 100000 in
set_option maxHeartbeats 2000000 in
theorem own_any (m : Option Addr) (C : Nat) (Ns : List Nat) (v : Value) (S : Nat) (w : World) (h : IsMV w m C Ns) (hs : IsSet w v S) :
    Calls Tryd.prog 69 #[.pointer m, .agg #[v]] w fun e w' => ∃ r, e = .returned (.agg #[r]) ∧ IsSet w' r (S &&& lowN C) ∧ Below w.heap.size w w' := by
  obtain ⟨A, c, rfl, _⟩ := id hs
  have hC := h.bd.1
  go_enter Tryd.func69, Tryd.ntmps69
  go_wp2_with fail
  refine abs2 fun W0 hX hO hb0 hz => ?_
  have x0 := hX.cell 0
  have hd : Below W0.heap.size W0 W0.drew := (Below.refl _ _).drew
  have bd := hb0.trans (hd.mono hb0.size)
  refine wp_spine (fun W => Below W0.heap.size W0 W) [0, 1] [2, 3, 4, 5] (by kernel_rfl) (by kernel_rfl) ?_
  iterate 2 (refine wpE_op (v := ?_) rfl rfl (fun W hW => ?_) ?_; rotate_left; (have z0 := onB hW x0; go_simp; first | done | with_reducible rfl); simp only [Act.put, List.setIfInBounds_toArray, List.set_cons_zero, List.set_cons_succ])
  refine wpE_nil ⟨fun h => (by cases h), wpSp_op rfl hd ?_⟩
  go_wp2_with fail
  refine (cols_v (h.below bd)).mono ?_
  rintro e w1 ⟨rfl, rfl⟩
  go_wp2_with fail
  refine nxt_op rfl hd ?_
  go_wp2_with fail
  refine (below_any _ _).mono ?_
  rintro e w2 ⟨r2, rfl, hr2, hb2⟩
  rw [clamp_nat hC] at hr2
  obtain ⟨A2, c2, rfl, _⟩ := id hr2
  have hb02 := hd.trans (hb2.mono hd.size)
  have b2 := hb0.trans (hb02.mono hb0.size)
  go_wp2_with fail
  refine nxt_op rfl hb02 ?_
  go_wp2_with fail
  refine (and_any _ _ S (lowN C) w2 (hs.below b2) hr2).mono ?_
  rintro e w3 ⟨r3, rfl, hr3, hb3⟩
  obtain ⟨A3, c3, rfl, _⟩ := id hr3
  have hb03 := hb02.trans (hb3.mono hb02.size)
  have b3 := hb0.trans (hb03.mono hb0.size)
  have hO3 := hO.below hb03 hO.lt
  have f0 := hO3.frozen 0
  have o0 := hO3.cell 0
  have lO := hO3.lt
  go_wp2_with fail
  refine nxt_op rfl hb03 ?_
  go_wp2_with fail
  refine nxt_nil ?_
  go_wp2_with fail
  have hOX := hO3.set_ 0 (.slice A3 (nw (S &&& lowN C)) c3)
  have cX := hOX.cell 0
  exact bodyPost_ret (v := .agg #[.slice A3 (nw (S &&& lowN C)) c3]) (by simp [results, Tryd.results69, go_sem, cX]) rfl ⟨_, rfl, hr3.put hO3 (by decide) 0 _, b3.setCell (p := ⟨w.heap.size + 1, 0, none⟩) (by simp) _⟩
set_option maxRecDepth 100000 in
set_option maxHeartbeats 2000000 in
theorem of_concept (m : Option Addr) (C : Nat) (Ns : List Nat) (v : Value) (S : Nat) (w : World) (h : IsMV w m C Ns) (hs : IsSet w v S) (hT : Tab w) :
    Calls Tryd.prog 112 #[.pointer m, .agg #[v]] w fun e w' => ∃ r q, e = .returned (.agg #[r, q]) ∧ IsSet w' r (havN C Ns S) ∧ IsSet w' q (cloN C Ns S) ∧ Below w.heap.size w w' := by
  obtain ⟨A, c, rfl, _⟩ := id hs
  go_enter Tryd.func112, Tryd.ntmps112
  go_wp2_with fail
  refine abs2 fun W0 hX hO hb0 hz => ?_
  have x0 := hX.cell 0
  have hd : Below W0.heap.size W0 W0.drew := (Below.refl _ _).drew
  have bd := hb0.trans (hd.mono hb0.size)
  refine wp_spine (fun W => Below W0.heap.size W0 W) [0, 1, 3, 4] [2, 5, 6, 7] (by kernel_rfl) (by kernel_rfl) ?_
  iterate 4 (refine wpE_op (v := ?_) rfl rfl (fun W hW => ?_) ?_; rotate_left; (have z0 := onB hW x0; go_simp; first | done | with_reducible rfl); simp only [Act.put, List.setIfInBounds_toArray, List.set_cons_zero, List.set_cons_succ])
  refine wpE_nil ⟨fun h => (by cases h), wpSp_op rfl hd ?_⟩
  go_wp2_with fail
  refine (having_any m C Ns _ S _ (h.below bd) (hs.below bd) (hT.below bd)).mono ?_
  rintro e w1 ⟨r1, rfl, hr1, hb1⟩
  obtain ⟨A1, c1, rfl, _⟩ := id hr1
  have hb01 := hd.trans (hb1.mono hd.size)
  have b1 := hb0.trans (hb01.mono hb0.size)
  go_wp2_with fail
  refine nxt_op rfl hb01 ?_
  go_wp2_with fail
  refine (close_any m C Ns _ S w1 (h.below b1) (hs.below b1) (hT.below b1)).mono ?_
  rintro e w2 ⟨r2, rfl, hr2, hb2⟩
  obtain ⟨A2, c2, rfl, _⟩ := id hr2
  have hb02 := hb01.trans (hb2.mono hb01.size)
  have b2 := hb0.trans (hb02.mono hb0.size)
  have hO3 := hO.below hb02 hO.lt
  have f0 := hO3.frozen 0
  have o0 := hO3.cell 0
  have f1 := hO3.frozen 1
  have o1 := hO3.cell 1
  have lO := hO3.lt
  go_wp2_with fail
  refine nxt_op rfl hb02 ?_
  go_wp2_with fail
  refine nxt_op rfl hb02 ?_
  go_wp2_with fail
  refine nxt_nil ?_
  go_wp2_with fail
  have hOX := (hO3.set_ 0 (.slice A1 (nw (havN C Ns S)) c1)).set_ 1 (.slice A2 (nw (cloN C Ns S)) c2)
  have cX := hOX.cell 0
  have cY := hOX.cell 1
  have hk := KeepW.trans (KeepW.setCell (p := ⟨w.heap.size + 1, 0, none⟩) hO3 (by decide) (.slice A1 (nw (havN C Ns S)) c1)) (KeepW.setCell (p := ⟨w.heap.size + 1, 1, none⟩) (hO3.set_ 0 _) (by decide) (.slice A2 (nw (cloN C Ns S)) c2))
  exact bodyPost_ret (v := .agg #[.slice A1 (nw (havN C Ns S)) c1, .slice A2 (nw (cloN C Ns S)) c2]) (by simp [results, Tryd.results112, go_sem, cX, cY]) rfl ⟨_, _, rfl, (hr1.below hb2).keep hk, hr2.keep hk, (b2.setCell (p := ⟨w.heap.size + 1, 0, none⟩) (by simp) _).setCell (p := ⟨w.heap.size + 1, 1, none⟩) (by simp) _⟩
end Go.Proofs.YtgpooflcbljidaaDoor
