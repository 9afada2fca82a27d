import Derived.Test.YtjlcnbfkblmoeaaDoorRef5
namespace Go.Proofs.YtjlcnbfkblmoeaaDoor
open Go.RowKit

/-- Bit k of bytes. -/
def bitB (zs : List Int) (k : Nat) : Bool := decide (k / 8 < zs.length) && decide ((zs.getD (k / 8) 0) / 2 ^ (k % 8) % 2 = 1)
set_option maxRecDepth 100000 in
set_option maxHeartbeats 1000000 in
theorem bit_any (A : Option Addr) (c : Nat) (zs : List Int) (k : Nat) (w : World) (hr : Row w A (zs.map (.int .u8))) (hz : ∀ z ∈ zs, 0 ≤ z ∧ z ≤ 255) (hk : k ≤ 1000000) (hl : zs.length ≤ maxLen) :
    Calls Tryd.prog 58 #[.slice A zs.length c, .int .i64 k] w fun e w' => e = .returned (.bool (bitB zs k)) ∧ w = w' := by
  unfold maxLen at hl
  by_cases h : k / 8 < zs.length
  · obtain ⟨g, off, rfl, hg, hc⟩ := hr (by simp; omega)
    have hc1 := hc (k / 8) (.int .u8 (zs.getD (k / 8) 0)) (by
      rw [List.getElem?_map, List.getElem?_eq_getElem h, List.getD_eq_getElem?_getD, List.getElem?_eq_getElem h]; rfl)
    have hb := hz (zs.getD (k / 8) 0) (by rw [List.getD_eq_getElem?_getD, List.getElem?_eq_getElem h]; exact List.getElem_mem h)
    obtain ⟨b1, b2⟩ := hb
    have e : bitB zs k = decide ((zs.getD (k / 8) 0) / 2 ^ (k % 8) % 2 = 1) := by unfold bitB; rw [decide_eq_true h, Bool.true_and]
    rw [e]
    clear hc hz e
    obtain ⟨z, hz⟩ : ∃ z, z = zs.getD (k / 8) 0 := ⟨_, rfl⟩
    rw [← hz] at hc1 b1 b2 ⊢
    clear hz
    go_enter Tryd.func58, Tryd.ntmps58
    go_wp2
    go_ret
    refine ⟨ret_bool ?_, rfl⟩
    rw [Int.tmod_eq_emod_of_nonneg (Int.ediv_nonneg b1 (Int.le_of_lt (Int.pow_pos (by decide)))), Bool.eq_iff_iff, beq_iff_eq, decide_eq_true_eq]
  · have e : bitB zs k = false := by unfold bitB; rw [decide_eq_false h, Bool.false_and]
    rw [e]
    clear e hr hz
    go_enter Tryd.func58, Tryd.ntmps58
    go_wp2
    go_ret
    exact ⟨rfl, rfl⟩
/-- A matrix that is being filled row by row: what T says of the elements before (k, n), zeros behind. -/
def part (k n : Nat) (T : Nat → Nat → Bool) (i j : Nat) : Bool := if i < k ∨ (i = k ∧ j < n) then T i j else false
theorem part_zero (T : Nat → Nat → Bool) : part 0 0 T = fun _ _ => false := by
  funext i j; unfold part; rw [if_neg (by omega)]
theorem part_step (k n : Nat) (T : Nat → Nat → Bool) : (fun x y => if x = k ∧ y = n then T k n else part k n T x y) = part k (n + 1) T := by
  funext i j
  unfold part
  by_cases h : i = k ∧ j = n
  · rw [if_pos h, if_pos (by omega)]; rw [h.1, h.2]
  · rw [if_neg h]
    by_cases h2 : i < k ∨ (i = k ∧ j < n)
    · rw [if_pos h2, if_pos (by omega)]
    · rw [if_neg h2, if_neg (by omega)]
section
variable {W W' : World} {base C : Nat} {gs : List Nat} {f f' : Nat → Nat → Bool} {v : Value}
theorem OwnRows.congr (h : OwnRows W base C gs f) (he : ∀ i, i < gs.length → ∀ j, j < C → f i j = f' i j) : OwnRows W base C gs f' := by
  refine ⟨h.1, h.2.1, fun i g hg => ?_⟩
  have hi : i < gs.length := (List.getElem?_eq_some_iff.1 hg).1
  have := h.2.2 i g hg
  have e : (List.range C).map (fun j => Value.bool (f i j)) = (List.range C).map (fun j => Value.bool (f' i j)) := List.map_congr_left fun j hj => by rw [he i hi j (List.mem_range.1 hj)]
  rwa [e] at this
theorem OwnRef.congr (h : OwnRef W base C v gs f) (he : ∀ i, i < gs.length → ∀ j, j < C → f i j = f' i j) : OwnRef W base C v gs f' := ⟨h.1, h.2.congr he⟩
theorem OwnRef.row_done {T : Nat → Nat → Bool} {k : Nat} (h : OwnRef W base C v gs (part k C T)) : OwnRef W base C v gs (part (k + 1) 0 T) :=
  h.congr fun i _ j hj => by
    unfold part
    by_cases h2 : i < k ∨ (i = k ∧ j < C)
    · rw [if_pos h2, if_pos (by omega)]
    · rw [if_neg h2, if_neg (by omega)]
theorem OwnRef.all_done {T : Nat → Nat → Bool} (h : OwnRef W base C v gs (part gs.length 0 T)) : OwnRef W base C v gs T :=
  h.congr fun i hi j _ => by unfold part; rw [if_pos (by omega)]
/-- Row i of a matrix of our own: its slice, its block. -/
theorem OwnRef.at_ {A : Option Addr} {c : Nat} (h : OwnRef W base C (.slice A gs.length c) gs f) {i : Nat} (hi : i < gs.length) :
    ∃ g off, A = some ⟨g, off, none⟩ ∧ g < W.heap.size ∧ W.cell? ⟨g, off + i, none⟩ = some (.slice (some ⟨gs[i], 0, none⟩) C C) ∧ Blk W gs[i] 4 ((List.range C).map fun j => Value.bool (f i j)).toArray ∧ base ≤ gs[i] := by
  obtain ⟨A', c', hv, _, _, h2, _⟩ := row_of_own h.1
  cases hv
  obtain ⟨g, off, rfl, hg, hc⟩ := h2 (by simp [hdrs]; omega)
  refine ⟨g, off, rfl, hg, hc i _ ?_, h.2.2.2 i _ (List.getElem?_eq_getElem hi), h.2.2.1 _ (List.getElem_mem hi)⟩
  unfold hdrs
  rw [List.getElem?_map, List.getElem?_eq_getElem hi]; rfl
theorem bools_get {C j : Nat} (hj : j < C) (F : Nat → Bool) : (((List.range C).map fun y => Value.bool (F y)).toArray)[j]? = some (.bool (F j)) := by
  simp [hj]
/-- One element is stored. -/
theorem OwnRef.put {v : Value} (h : OwnRef W base C v gs f) {i j : Nat} (hi : i < gs.length) (b : Bool) : OwnRef (W.setCell ⟨gs[i], j, none⟩ (.bool b)) base C v gs (fun x y => if x = i ∧ y = j then b else f x y) := by
  refine ⟨ownsRow_setCell_other h.1 (a := ⟨gs[i], j, none⟩) (fun e => own_ne h.1 (h.2.2.2 i _ (List.getElem?_eq_getElem hi)) (by decide) e.symm) _, h.2.set_ (List.getElem?_eq_getElem hi) b⟩
end

/-- The elements of a raw matrix. -/
def rawF (C : Nat) (zs : List Int) (i j : Nat) : Bool := bitB zs (C * i + j)
set_option maxRecDepth 100000 in
set_option maxHeartbeats 2000000 in
theorem maker_any (r c R C : Nat) (A : Option Addr) (d : Nat) (zs : List Int) (w : World) (hR : (r : Int) % 6 = R) (hC : (c : Int) % 6 = C) (hr1 : r ≤ 255) (hc1 : c ≤ 255) (hr : Row w A (zs.map (.int .u8))) (hz : ∀ z ∈ zs, 0 ≤ z ∧ z ≤ 255) (hl : zs.length ≤ maxLen) :
    Calls Tryd.prog 14 #[.agg #[.int .u8 r, .int .u8 c, .slice A zs.length d]] w fun e w' => ∃ A' c' gs, e = .returned (refV C A' R c') ∧ gs.length = R ∧ OwnRef w' w.heap.size C (.slice A' R c') gs (rawF C zs) ∧ Below w.heap.size w w' := by
  have hR5 : R ≤ 5 := by omega
  have hC5 : C ≤ 5 := by omega
  go_enter Tryd.func14, Tryd.ntmps14
  go_wp2_with fail
  refine absC2 fun W0 hX0 hY0 hbel0 hz0 => ?_
  refine (newr_any R C W0 (by omega) (by omega)).mono ?_
  rintro e w1 ⟨A1, c1, gs, rfl, hgs, hO1, hb1⟩
  go_wp2_with fail
  refine abs1 fun W2 hM2 hb2 hz2 => ?_
  have hX2 := (hX0.below hb1 hX0.lt).below hb2 (by have := hb1.size; omega)
  have hY2 := (hY0.below hb1 hY0.lt).below hb2 (by have := hb1.size; omega)
  have hO2 := hO1.below hb2
  have hbe2 : Below w.heap.size w W2 := hbel0.trans ((hb1.trans (hb2.mono hb1.size)).mono (by omega))
  have hsz1 : w.heap.size + 2 ≤ w1.heap.size := by have := hb1.size; omega
  subst hgs
  have HZ2 := Lib.hid hz2; have HZ0 := Lib.hid hz0; have HR := Lib.hid hR; have HC := Lib.hid hC; have HZS := Lib.hid hz
  clear hz2 hz0 hR hC hz hX0 hY0 hO1 hbel0 hb1 hb2
  go_loopw [18] (fun i wr => ∃ k : Nat, k ≤ gs.length ∧ i = .int .i64 k ∧ Blk wr w.heap.size 24 #[.int .u8 r, .int .u8 c, .slice A zs.length d] ∧ Blk wr (w.heap.size + 1) 28 #[.int .i64 0, .slice none 0 0] ∧
    Blk wr w1.heap.size 28 #[.int .i64 (C : Int), .slice A1 gs.length c1] ∧ OwnRef wr W0.heap.size C (.slice A1 gs.length c1) gs (part k 0 (rawF C zs)) ∧ Below w.heap.size w wr) (fun i _ => gs.length - (intOf i).toNat)
  case atStart => exact ⟨0, Nat.zero_le _, rfl, hX2, hY2, hM2, by rw [part_zero]; exact hO2, hbe2⟩
  case round =>
    obtain ⟨k, hk, rfl, hX, hY, hM, hO, hbel⟩ := hrel
    clear hX2 hY2 hM2 hO2 hbe2
    by_cases hlt : k < gs.length
    · have m1 := hM.cell 1
      have m0 := hM.cell 0
      go_wp2_with fail
      obtain ⟨wo, rfl⟩ : ∃ wo : World, wo = wr := ⟨_, rfl⟩
      go_loopw [5] (fun j wq => ∃ n : Nat, n ≤ C ∧ j = .int .i64 n ∧ Blk wq w.heap.size 24 #[.int .u8 r, .int .u8 c, .slice A zs.length d] ∧ Blk wq (w.heap.size + 1) 28 #[.int .i64 0, .slice none 0 0] ∧
        Blk wq w1.heap.size 28 #[.int .i64 (C : Int), .slice A1 gs.length c1] ∧ OwnRef wq W0.heap.size C (.slice A1 gs.length c1) gs (part k n (rawF C zs)) ∧ Below w.heap.size w wq) (fun j _ => C - (intOf j).toNat)
      case atStart => exact ⟨0, Nat.zero_le _, rfl, hX, hY, hM, hO, hbel⟩
      case round =>
        clear hX hY hM hO hbel m0 m1
        obtain ⟨n, hn, rfl, hX, hY, hM, hO, hbel⟩ := hrel
        have m1 := hM.cell 1
        have m0 := hM.cell 0
        by_cases hnC : n < C
        · have x2 := hX.cell 2
          obtain ⟨g, off, rfl, hg, h1, hB, hbase⟩ := hO.at_ hlt
          have hput := hO.put (j := n) hlt (rawF C zs k n)
          rw [part_step] at hput
          have b0 := (hB.cell n).trans (bools_get hnC _)
          have f0 := hB.frozen n
          have hw1 := hX.far (p := ⟨gs[k], n, none⟩) (hX.ne_ hB (by decide)) (.bool (rawF C zs k n))
          have hw2 := hY.far (p := ⟨gs[k], n, none⟩) (hY.ne_ hB (by decide)) (.bool (rawF C zs k n))
          have hw3 := hM.far (p := ⟨gs[k], n, none⟩) (hM.ne_ hB (by decide)) (.bool (rawF C zs k n))
          have hbw := hbel.setCell (p := ⟨gs[k], n, none⟩) (by have := HZ0.out; simp; omega) (.bool (rawF C zs k n))
          have HBIT := hideC (bit_any A d zs (C * k + n) wr.drew (hr.below (hbel.drew)) HZS.out (by have : C * k ≤ 5 * 5 := Nat.mul_le_mul hC5 (by omega); omega) hl)
          have q0 : (0 : Int) ≤ (C : Int) * k := Int.mul_nonneg (by omega) (by omega)
          have q1 : (C : Int) * k ≤ 25 := by have : C * k ≤ 5 * 5 := Nat.mul_le_mul hC5 (by omega); exact_mod_cast this
          clear hX hY hM hB hO
          generalize gs[k] = gk at *
          have e1 := i64w (x := (C : Int) * k) ⟨by omega, by omega⟩
          have e2 := i64w (x := (C : Int) * k + n) ⟨by omega, by omega⟩
          have HCAST := Lib.hid (show ((C : Int) * k + n) = ((C * k + n : Nat) : Int) by push_cast; rfl)
          go_wp2_with fail
          refine wp_spine (fun W => Below wr.heap.size wr W) [0, 1, 2, 3, 4, 5, 6, 7, 8, 9, 10, 11, 12, 13] [14, 15, 16] (by kernel_rfl) (by kernel_rfl) ?_
          iterate 14 (refine wpE_op (v := ?_) rfl rfl (fun W hW => ?_) ?_; rotate_left; (have y1 := onB hW m1; have y2 := onB hW m0; have y3 := onB hW h1; have y4 := onB hW x2; go_simp; first | done | with_reducible rfl); simp only [Act.put, List.setIfInBounds_toArray, List.set_cons_zero, List.set_cons_succ])
          clear e1 e2
          refine wpE_nil ⟨fun h => (by cases h), wpSp_op rfl (Below.refl _ _).drew ?_⟩
          go_wp2_with fail
          rw [HCAST.out]
          refine HBIT.out.mono ?_
          rintro e w' ⟨rfl, rfl⟩
          go_wp2_with fail
          refine nxt_op rfl (Below.refl _ _).drew ?_
          go_wp2_with fail
          refine nxt_op rfl (Below.refl _ _).drew ?_
          go_wp2_with fail
          refine nxt_nil ?_
          go_wp2_with fail
          exact ⟨⟨n + 1, by omega, by go_num, hw1.drew, hw2.drew, hw3.drew, hput.below (Below.refl _ _).drew, hbw.drew⟩, by simp [intOf]; omega⟩
        · obtain rfl : n = C := by omega
          go_wp2_with fail
          exact ⟨⟨k + 1, by omega, by go_num, hX, hY, hM, hO.row_done, hbel⟩, by simp [intOf]; omega⟩
    · obtain rfl : k = gs.length := by omega
      have m0 := hM.cell 0
      have m1 := hM.cell 1
      have fy0 := hY.frozen 0
      have fy1 := hY.frozen 1
      have y0 := hY.cell 0
      have y1 := hY.cell 1
      have nM := hM.lt
      go_wp2_with fail
      have hE := (hY.set_ 0 (.int .i64 (C : Int))).set_ 1 (.slice A1 gs.length c1)
      have hOE := (hO.all_done.far hY (by decide) (by decide) 0 (.int .i64 (C : Int))).far (hY.set_ 0 (.int .i64 (C : Int))) (by decide) (by decide) 1 (.slice A1 gs.length c1)
      have cX := hE.cell 0
      have cY := hE.cell 1
      have hbs : w.heap.size ≤ W0.heap.size := by have := HZ0.out; omega
      refine bodyPost_ret (v := refV C A1 gs.length c1) (by simp [results, Tryd.results14, go_sem, cX, cY]) rfl ⟨A1, c1, gs, rfl, rfl, ⟨?_, hOE.2.1, fun g hg => Nat.le_trans hbs (hOE.2.2.1 g hg), hOE.2.2.2⟩, (hbel.setCell (by simp) _).setCell (by simp) _⟩
      exact hOE.1.mono hbs
end Go.Proofs.YtjlcnbfkblmoeaaDoor
