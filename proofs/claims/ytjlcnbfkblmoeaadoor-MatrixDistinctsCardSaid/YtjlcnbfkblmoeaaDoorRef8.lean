import Derived.Test.YtjlcnbfkblmoeaaDoorRef7
namespace Go.Proofs.YtjlcnbfkblmoeaaDoor
open Go.RowKit

/-- A matrix of the program's, as the specification has it. -/
def toldF (C : Nat) (Ns : List Nat) (i j : Nat) : Bool := mhas C Ns i j
set_option maxRecDepth 100000 in
set_option maxHeartbeats 2000000 in
theorem told_any (p C : Nat) (Ns : List Nat) (w : World) (h : IsMat w p C Ns) (hC : C ≤ 256) (hR : Ns.length ≤ 256) :
    Calls Tryd.prog 61 #[ptr p] w fun e w' => ∃ A' c' gs, e = .returned (refV C A' Ns.length c') ∧ gs.length = Ns.length ∧ OwnRef w' w.heap.size C (.slice A' Ns.length c') gs (toldF C Ns) ∧ Below w.heap.size w w' := by
  have hmin1 : min (Ns.length : Int) 300 = (Ns.length : Int) := by omega
  have hmin2 : min (C : Int) 300 = (C : Int) := by omega
  go_enter Tryd.func61, Tryd.ntmps61
  go_wp2_with fail
  refine absC1 fun W0 hY0 hbel0 hz0 => ?_
  have HR := hideC (rows_any p C Ns W0 (h.below hbel0))
  have HC := hideC (cols_any p C Ns W0 (h.below hbel0))
  refine HR.out.mono ?_
  rintro e w' ⟨rfl, rfl⟩
  go_wp2_with fail
  refine HC.out.mono ?_
  rintro e w' ⟨rfl, rfl⟩
  go_wp2_with fail
  clear hmin1 hmin2
  refine (newr_any Ns.length C W0 (by omega) (by omega)).mono ?_
  rintro e w1 ⟨A1, c1, gs, rfl, hgs, hO1, hb1⟩
  go_wp2_with fail
  refine abs1 fun W2 hM2 hb2 hz2 => ?_
  have hY2 := (hY0.below hb1 hY0.lt).below hb2 (by have := hb1.size; omega)
  have hO2 := hO1.below hb2
  have hbe2 : Below w.heap.size w W2 := hbel0.trans ((hb1.trans (hb2.mono hb1.size)).mono (by omega))
  have hsz1 : w.heap.size + 1 ≤ w1.heap.size := by have := hb1.size; omega
  have HZ2 := Lib.hid hz2; have HZ0 := Lib.hid hz0
  rw [← hgs] at hO2 hM2 ⊢
  rw [← hgs] at hR
  have HGS := Lib.hid hgs
  clear hz2 hz0 hY0 hO1 hbel0 hb1 hb2 hgs
  go_loopw [18] (fun i wr => ∃ k : Nat, k ≤ gs.length ∧ i = .int .i64 k ∧ Blk wr w.heap.size 28 #[.int .i64 0, .slice none 0 0] ∧
    Blk wr w1.heap.size 28 #[.int .i64 (C : Int), .slice A1 gs.length c1] ∧ OwnRef wr W0.heap.size C (.slice A1 gs.length c1) gs (part k 0 (toldF C Ns)) ∧ Below w.heap.size w wr) (fun i _ => gs.length - (intOf i).toNat)
  case atStart => exact ⟨0, Nat.zero_le _, rfl, hY2, hM2, by rw [part_zero]; exact hO2, hbe2⟩
  case round =>
    obtain ⟨k, hk, rfl, hY, hM, hO, hbel⟩ := hrel
    clear hY2 hM2 hO2 hbe2
    by_cases hlt : k < gs.length
    · have m1 := hM.cell 1
      have m0 := hM.cell 0
      go_wp2_with fail
      obtain ⟨wo, rfl⟩ : ∃ wo : World, wo = wr := ⟨_, rfl⟩
      go_loopw [23] (fun j wq => ∃ n : Nat, n ≤ C ∧ j = .int .i64 n ∧ Blk wq w.heap.size 28 #[.int .i64 0, .slice none 0 0] ∧
        Blk wq w1.heap.size 28 #[.int .i64 (C : Int), .slice A1 gs.length c1] ∧ OwnRef wq W0.heap.size C (.slice A1 gs.length c1) gs (part k n (toldF C Ns)) ∧ Below w.heap.size w wq) (fun j _ => C - (intOf j).toNat)
      case atStart => exact ⟨0, Nat.zero_le _, rfl, hY, hM, hO, hbel⟩
      case round =>
        clear hY hM hO hbel m0 m1
        obtain ⟨n, hn, rfl, hY, hM, hO, hbel⟩ := hrel
        have m1 := hM.cell 1
        have m0 := hM.cell 0
        by_cases hnC : n < C
        · have hcall := hasm_any p C Ns k n wr.drew (h.below hbel.drew)
          have hcell0 := (onB (Below.refl _ _).drew m1 : wr.drew.cell? _ = _)
          obtain ⟨g, off, rfl, hg, h1, hB, hbase⟩ := hO.at_ hlt
          have b0 := (hB.cell n).trans (bools_get hnC _)
          have f0 := hB.frozen n
          have hnY := hY.ne_ hB (by decide)
          have hnM := hM.ne_ hB (by decide)
          have HCALL := hideC hcall; clear hcall
          have hputk : ∀ W, OwnRef W W0.heap.size C (.slice (some ⟨g, off, none⟩) gs.length c1) gs (part k n (toldF C Ns)) → OwnRef (W.setCell ⟨gs[k], n, none⟩ (.bool (toldF C Ns k n))) W0.heap.size C (.slice (some ⟨g, off, none⟩) gs.length c1) gs (part k (n + 1) (toldF C Ns)) := fun W hW => by
            have := hW.put (j := n) hlt (toldF C Ns k n)
            rwa [part_step] at this
          have HPUT := hideC hputk; clear hputk
          have lB := hB.lt
          generalize gs[k] = gk at *
          go_wp2_with fail
          refine wp_spine (fun W => Below wr.heap.size wr W) [0, 1, 2, 3, 4, 5, 6, 7, 8] [9, 10, 11] (by kernel_rfl) (by kernel_rfl) ?_
          iterate 9 (refine wpE_op (v := ?_) rfl rfl (fun W hW => ?_) ?_; rotate_left; (have y1 := onB hW m1; have y3 := onB hW h1; go_simp; first | done | with_reducible rfl); simp only [Act.put, List.setIfInBounds_toArray, List.set_cons_zero, List.set_cons_succ])
          refine wpE_nil ⟨fun h => (by cases h), wpSp_op rfl (Below.refl _ _).drew ?_⟩
          go_wp2_with fail
          refine HCALL.out.mono ?_
          rintro e w3 ⟨rfl, hb3⟩
          have hb4 : Below wr.heap.size wr w3 := (Below.refl _ _).drew.trans hb3
          have b4 := onB hb4 b0
          have f4 := onFrozen hb4 b0 f0
          have hput := HPUT.out w3 (hO.below hb4)
          have hw2 := (hY.below hb4 hY.lt).far (p := ⟨gk, n, none⟩) hnY (.bool (toldF C Ns k n))
          have hw3 := (hM.below hb4 hM.lt).far (p := ⟨gk, n, none⟩) hnM (.bool (toldF C Ns k n))
          have hbw := (hbel.trans (hb4.mono hbel.size)).setCell (p := ⟨gk, n, none⟩) (by have := HZ0.out; simp; omega) (.bool (toldF C Ns k n))
          clear hY hM hO
          go_wp2_with fail
          refine nxt_op rfl hb4 ?_
          go_wp2_with fail
          refine nxt_op rfl hb4 ?_
          go_wp2_with fail
          refine nxt_nil ?_
          go_wp2_with fail
          exact ⟨⟨n + 1, by omega, by go_num, hw2, hw3, hput, hbw⟩, by simp [intOf]; omega⟩
        · obtain rfl : n = C := by omega
          go_wp2_with fail
          exact ⟨⟨k + 1, by omega, by go_num, hY, hM, hO.row_done, hbel⟩, by simp [intOf]; omega⟩
    · obtain rfl : k = gs.length := by omega
      have m0 := hM.cell 0
      have m1 := hM.cell 1
      have fy0 := hY.frozen 0
      have fy1 := hY.frozen 1
      have y0 := hY.cell 0
      have y1 := hY.cell 1
      have nM := hM.lt
      go_wp2_with fail
      have hE := (hY.set_ 0 (.int .i64 (C : Int))).set_ 1 (.slice A1 gs.length c1)
      have hOE := (hO.all_done.far hY (by decide) (by decide) 0 (.int .i64 (C : Int))).far (hY.set_ 0 (.int .i64 (C : Int))) (by decide) (by decide) 1 (.slice A1 gs.length c1)
      have cX := hE.cell 0
      have cY := hE.cell 1
      have hbs : w.heap.size ≤ W0.heap.size := by have := HZ0.out; omega
      refine bodyPost_ret (v := refV C A1 gs.length c1) (by simp [results, Tryd.results61, go_sem, cX, cY]) rfl ⟨A1, c1, gs, by rw [HGS.out], HGS.out, by rw [← HGS.out]; exact ⟨hOE.1.mono hbs, hOE.2.1, fun g hg => Nat.le_trans hbs (hOE.2.2.1 g hg), hOE.2.2.2⟩, (hbel.setCell (by simp) _).setCell (by simp) _⟩
/-- A matrix of the program's as the specification's. -/
abbrev toldM (C : Nat) (Ns : List Nat) : List (List Bool) := mat Ns.length C (toldF C Ns)
set_option maxRecDepth 100000 in
set_option maxHeartbeats 2000000 in
theorem samel_any (p C D : Nat) (Ns : List Nat) (A : Option Addr) (c : Nat) (M : List (List Bool)) (w : World) (h : IsMat w p C Ns) (hC : C ≤ 256) (hR : Ns.length ≤ 256) (h' : IsRef w D A M) :
    Calls Tryd.prog 18 #[ptr p, refV D A M.length c] w fun e w' => e = .returned (.bool (sameB C D (toldM C Ns) M)) ∧ Below w.heap.size w w' := by
  go_enter Tryd.func18, Tryd.ntmps18
  go_wp2_with fail
  refine abs1 fun W0 hX hbel0 hz => ?_
  have x0 := hX.cell 0
  have x1 := hX.cell 1
  have HT := hideC (told_any p C Ns W0.drew ((h.below hbel0).below (Below.refl _ _).drew) hC hR)
  refine wp_spine (fun W => Below W0.heap.size W0 W) [0, 1, 2, 3, 5] [4, 6, 7, 8] (by kernel_rfl) (by kernel_rfl) ?_
  iterate 3 (refine wpE_op (v := ?_) rfl rfl (fun W hW => ?_) ?_; rotate_left; (go_simp; first | done | with_reducible rfl); simp only [Act.put, List.setIfInBounds_toArray, List.set_cons_zero, List.set_cons_succ])
  iterate 1 (refine wpE_yes (v := ?_) rfl (by rfl) (fun W hW => ?_) ?_; rotate_left; (go_simp; first | done | with_reducible rfl); simp only [Act.put, List.setIfInBounds_toArray, List.set_cons_zero, List.set_cons_succ])
  iterate 1 (refine wpE_yes (v := ?_) rfl (by rfl) (fun W hW => ?_) ?_; rotate_left; (have y0 := onB hW x0; have y1 := onB hW x1; go_simp; first | done | with_reducible rfl); simp only [Act.put, List.setIfInBounds_toArray, List.set_cons_zero, List.set_cons_succ])
  refine wpE_nil ⟨fun h => (by cases h), wpSp_op rfl (Below.refl _ _).drew ?_⟩
  go_wp2_with fail
  refine HT.out.mono ?_
  rintro e w1 ⟨A1, c1, gs, rfl, hgs, hO, hb1⟩
  have hb2 : Below W0.heap.size W0 w1 := (Below.refl _ _).drew.trans hb1
  rw [← hgs] at hO
  obtain ⟨A2, c2, hv, _, hI⟩ := hO.ref (by omega) (by omega)
  cases hv
  rw [hgs] at hI
  have hcall := samer_any C D A1 A c1 c (toldM C Ns) M w1 hI ((h'.below hbel0).below hb2)
  rw [mat_len] at hcall
  have HC := hideC hcall; clear hcall
  go_wp2_with fail
  refine nxt_op rfl hb2 ?_
  go_wp2_with fail
  refine HC.out.mono ?_
  rintro e w3 ⟨rfl, hb3⟩
  have hb4 := hb2.trans (hb3.mono hb2.size)
  go_wp2_with fail
  refine nxt_op rfl hb4 ?_
  go_wp2_with fail
  refine nxt_op rfl hb4 ?_
  go_wp2_with fail
  refine nxt_nil ?_
  go_wp2_with fail
  go_ret
  exact ⟨rfl, hbel0.trans (hb4.mono hbel0.size)⟩
end Go.Proofs.YtjlcnbfkblmoeaaDoor
