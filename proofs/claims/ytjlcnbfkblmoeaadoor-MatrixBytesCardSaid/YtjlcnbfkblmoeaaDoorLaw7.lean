import Derived.Test.YtjlcnbfkblmoeaaDoorLaw
namespace Go.Proofs.YtjlcnbfkblmoeaaDoor
open Go.RowKit

/-- The ones of column j above row k. -/
def colR (C : Nat) (M : List (List Bool)) (j : Int) (k : Nat) : List Nat := (List.range k).filter fun i => hasR C M i j
theorem colR_yes {C : Nat} {M : List (List Bool)} {j : Int} {k : Nat} (h : hasR C M k j = true) : colR C M j (k + 1) = colR C M j k ++ [k] := by simp [colR, List.range_succ, h]
theorem colR_no {C : Nat} {M : List (List Bool)} {j : Int} {k : Nat} (h : hasR C M k j = false) : colR C M j (k + 1) = colR C M j k := by simp [colR, List.range_succ, h]
theorem colR_len (C : Nat) (M : List (List Bool)) (j : Int) (k : Nat) : (colR C M j k).length ≤ k := by unfold colR; exact Nat.le_trans (List.length_filter_le _ _) (by simp)
set_option maxRecDepth 100000 in
set_option maxHeartbeats 1000000 in
theorem colr_any (C : Nat) (A : Option Addr) (c : Nat) (M : List (List Bool)) (j : Int) (w : World) (h : IsRef w C A M) :
    Calls Tryd.prog 52 #[refV C A M.length c, .int .i64 j] w fun e w' => ∃ B d, e = .returned (.slice B (colR C M j M.length).length d) ∧ (colR C M j M.length).length ≤ d ∧ Row w' B ((colR C M j M.length).map i64) ∧ Below w.heap.size w w' := by
  obtain ⟨i0, hi0, hz0, hz1, hz2⟩ := info_parts info_int
  have hR : M.length ≤ 4096 := h.2.1
  go_enter Tryd.func52, Tryd.ntmps52
  go_wp2_with fail
  refine abs1 fun W0 hX0 hbel0 hz => ?_
  have HZ := Lib.hid hz; clear hz
  go_loopw [5, 10] (fun l i wr => ∃ k : Nat, k ≤ M.length ∧ i = .int .i64 k ∧ wr.ownsRow (w.heap.size + 1) 3 1 l (colR C M j k).length ((colR C M j k).map i64) ∧ Below (w.heap.size + 1) W0 wr) (fun _ i _ => M.length - (intOf i).toNat)
  case atStart => exact ⟨0, Nat.zero_le _, rfl, World.ownsRow_nil _ _ _ _, Below.refl _ _⟩
  case round =>
    obtain ⟨k, hk, rfl, hown, hbel⟩ := hrel
    have hX := hX0.below hbel (by omega)
    have x0 := hX.cell 0
    have x1 := hX.cell 1
    have hbw : Below w.heap.size w wr := hbel0.trans (hbel.mono (by omega))
    have hrl := colR_len C M j k
    by_cases hlt : k < M.length
    · have hcall := hasr_any C A c M k j wr (h.below hbw)
      cases hh : hasR C M k j with
      | true =>
        rw [hh] at hcall
        have HC := hideC hcall; clear hcall
        have HS := Lib.hid (colR_yes hh); clear hh
        go_wp2_with fail
        refine HC.out.mono ?_
        rintro e w2 ⟨rfl, hb2⟩
        have hown2 := (own_below hown hb2).alloc (.cells #[.int .i64 (k : Int)] 3)
        have hsz := hbel.size
        have hsz2 := hb2.size
        have hbel2 : Below (w.heap.size + 1) W0 w2 := hbel.trans (hb2.mono (by have := HZ.out; omega))
        have hzz := HZ.out
        go_wp2_with (at_builtin; refine wpList_append_own _ rfl _ _ 32 rfl (w.heap.size + 1) 3 i0 (.int .i64 0) 1 8 Tryd.underlying32 hi0 hz0 hz1 hz2 rfl (by decide) _ _ _ rfl (hown2) ⟨w2.heap.size, 0, none⟩ 1 1 [.int .i64 k] rfl rfl (cell_one_new _ _ _) (by simp [Value.oneCell']) (by unfold maxLen; omega) (by omega) (by simp; omega) ?_; intro v' w3 hown' hgrow _)
        exact ⟨⟨k + 1, by omega, by go_num, by rw [HS.out]; simpa using hown', (hbel2.alloc (by omega) _).grown hgrow (by simp; omega) (fun q hq => (hown2.lt q hq).1)⟩, by simp [intOf]; omega⟩
      | false =>
        rw [hh] at hcall
        have HC := hideC hcall; clear hcall
        have HS := Lib.hid (colR_no hh); clear hh
        go_wp2_with fail
        refine HC.out.mono ?_
        rintro e w2 ⟨rfl, hb2⟩
        go_wp2_with fail
        exact ⟨⟨k + 1, by omega, by go_num, by rw [HS.out]; exact own_below hown hb2, hbel.trans (hb2.mono (by have := HZ.out; have := hbel.size; omega))⟩, by simp [intOf]; omega⟩
    · obtain rfl : k = M.length := by omega
      obtain ⟨B, d, rfl, h1, _, h2, _⟩ := row_of_own hown
      go_wp2_with fail
      go_ret
      exact ⟨B, d, rfl, h1, h2, hbw⟩
/-- The ones of the rows below k. -/
def onesR (C : Nat) (M : List (List Bool)) (k : Nat) : Nat := ((List.range k).map fun (i : Nat) => (rowTo C M (i : Int) C).length).sum
theorem onesR_succ (C : Nat) (M : List (List Bool)) (k : Nat) : onesR C M (k + 1) = onesR C M k + (rowTo C M k C).length := by unfold onesR; rw [List.range_succ, List.map_append, List.sum_append]; simp
set_option maxRecDepth 100000 in
set_option maxHeartbeats 1000000 in
theorem onesr_any (C : Nat) (A : Option Addr) (c : Nat) (M : List (List Bool)) (w : World) (h : IsRef w C A M) :
    Calls Tryd.prog 45 #[refV C A M.length c] w fun e w' => e = .returned (.int .i64 (onesR C M M.length)) ∧ Below w.heap.size w w' := by
  have hR : M.length ≤ 4096 := h.2.1
  have hC : C ≤ 4096 := h.1
  go_enter Tryd.func45, Tryd.ntmps45
  go_wp2_with fail
  refine abs1 fun W0 hX0 hbel0 hz => ?_
  have HZ := Lib.hid hz; clear hz
  go_loopw [3, 8] (fun n i wr => ∃ k : Nat, k ≤ M.length ∧ i = .int .i64 k ∧ n = .int .i64 (onesR C M k) ∧ onesR C M k ≤ 4096 * k ∧ Below (w.heap.size + 1) W0 wr) (fun _ i _ => M.length - (intOf i).toNat)
  case atStart => exact ⟨0, Nat.zero_le _, rfl, by simp [onesR], by simp [onesR], Below.refl _ _⟩
  case round =>
    obtain ⟨k, hk, rfl, rfl, hle, hbel⟩ := hrel
    have hX := hX0.below hbel (by omega)
    have x0 := hX.cell 0
    have x1 := hX.cell 1
    have hbw : Below w.heap.size w wr := hbel0.trans (hbel.mono (by omega))
    by_cases hlt : k < M.length
    · have hrl := rowTo_len C M k C
      have HC := hideC (rowr_any C A c M k wr (h.below hbw))
      have HS := Lib.hid (onesR_succ C M k)
      go_wp2_with fail
      refine HC.out.mono ?_
      rintro e w2 ⟨B, d, rfl, hd, _, hb2⟩
      go_wp2_with fail
      exact ⟨⟨k + 1, by omega, by go_num, by rw [HS.out]; go_num, by rw [HS.out]; omega, hbel.trans (hb2.mono (by have := HZ.out; have := hbel.size; omega))⟩, by simp [intOf]; omega⟩
    · obtain rfl : k = M.length := by omega
      go_wp2_with fail
      go_ret
      exact ⟨rfl, hbw⟩

/-! Plain: the same lists. -/
theorem filter_range {p : Nat → Bool} : ∀ (d a : Nat), (∀ j, p j = true → j < a) → (List.range (a + d)).filter p = (List.range a).filter p
  | 0, _, _ => rfl
  | d + 1, a, h => by
    rw [show a + (d + 1) = (a + d) + 1 from rfl, List.range_succ, List.filter_append, filter_range d a h]
    have : p (a + d) = false := by
      cases hp : p (a + d) with
      | false => rfl
      | true => have := h _ hp; omega
    simp [this]
theorem filter_ranges {p : Nat → Bool} {a b : Nat} (ha : ∀ j, p j = true → j < a) (hb : ∀ j, p j = true → j < b) : (List.range a).filter p = (List.range b).filter p := by
  rcases Nat.le_total a b with h | h
  · obtain ⟨d, rfl⟩ := Nat.exists_eq_add_of_le h; exact (filter_range d a ha).symm
  · obtain ⟨d, rfl⟩ := Nat.exists_eq_add_of_le h; exact filter_range d b hb
theorem mems_filter {N C : Nat} {p : Nat → Bool} (h : ∀ j, N.testBit j = p j) (hp : ∀ j, p j = true → j < C) : mems N = (List.range C).filter p := by
  have e : p = N.testBit := funext fun j => (h j).symm
  subst e
  unfold mems
  rw [mTo_map]
  refine filter_ranges (fun j hj => ?_) hp
  rcases Nat.lt_or_ge j (64 * nw N) with h2 | h2
  · exact h2
  · rw [testBit_ge (Nat.le_refl _) h2] at hj; cases hj
theorem hasR_lt {C : Nat} {M : List (List Bool)} {i j : Int} (h : hasR C M i j = true) : (0 ≤ i ∧ i < M.length) ∧ 0 ≤ j ∧ j < C := by
  unfold hasR insideB at h
  rw [Bool.and_eq_true, decide_eq_true_eq] at h
  omega
theorem mrow_list {C : Nat} {M : List (List Bool)} (hC : C ≤ 4096) (i : Int) : mems (mrow (nsOf C M) i) = rowTo C M i C := by
  unfold rowTo
  refine mems_filter (fun j => ?_) fun j hj => by have := hasR_lt hj; omega
  unfold mrow
  by_cases h0 : 0 ≤ i
  · rw [if_pos h0]
    obtain ⟨I, rfl⟩ := Int.eq_ofNat_of_zero_le h0
    rw [Int.toNat_natCast]
    by_cases hI : I < M.length
    · rw [nsOf_get hI, testBit_rowN _ _ _ _ hC]
    · rw [List.getD_eq_getElem?_getD, List.getElem?_eq_none (by rw [nsTo_len]; omega), Option.getD_none, Nat.zero_testBit, hasR_nat]
      simp [hI]
  · rw [if_neg h0, Nat.zero_testBit]
    unfold hasR insideB
    rw [decide_eq_false (fun h => h0 h.1)]; rfl
theorem mcol_list {C : Nat} {M : List (List Bool)} (hC : C ≤ 4096) (hR : M.length ≤ 4096) (j : Int) : mems (mcol C (nsOf C M) j) = colR C M j M.length := by
  unfold colR
  refine mems_filter (fun i => ?_) fun i hi => by have := hasR_lt hi; omega
  rw [testBit_mcol _ _ _ _ (by rw [nsTo_len]; exact hR), mhas_nsOf _ _ hC]
theorem card_mems (N : Nat) : _root_.Go.Proofs.YtjlcnbfkblmoeaaDoor.card N = (mems N).length := by
  unfold card mems pc
  rw [mTo_map, List.countP_eq_length_filter]
theorem ones_same {C : Nat} {M : List (List Bool)} (hC : C ≤ 4096) : ∀ k, k ≤ M.length → onesTo (nsOf C M) k = onesR C M k
  | 0, _ => by simp [onesTo, onesR]
  | k + 1, h => by
    have hk : k < (nsOf C M).length := by rw [nsTo_len]; omega
    rw [onesTo_succ hk, onesR_succ, ones_same hC k (by omega), card_mems]
    have e : (nsOf C M)[k] = mrow (nsOf C M) (k : Int) := by
      unfold mrow; rw [if_pos (by omega), Int.toNat_natCast, getD_at hk]
    rw [e, mrow_list hC]
/-- slices.Equal of a list with itself. -/
theorem seq_same (A B : Option Addr) (c d : Nat) (l : List Nat) (w : World) (hx : Row w A (l.map i64)) (hy : Row w B (l.map i64)) (hl : l.length ≤ 1000000) :
    Calls Tryd.prog 19 #[.slice A l.length c, .slice B l.length d] w fun e w' => e = .returned (.bool true) ∧ Below w.heap.size w w' := by
  have h := seq_any A B c d (l.map Int.ofNat) (l.map Int.ofNat) w (by rw [List.map_map]; exact hx) (by rw [List.map_map]; exact hy) (by rw [List.length_map]; exact hl) (by rw [List.length_map]; exact hl)
  rwa [List.length_map, decide_eq_true rfl] at h
set_option maxRecDepth 100000 in
set_option maxHeartbeats 40000000 in
theorem elements_walk (v : Value) (R C : Nat) (zs : List Int) (x y : Int) (w : World) (hT : Tab w) (h : IsRaw w v R C zs) :
    Calls Tryd.prog 10 #[v, .int .i64 x, .int .i64 y] w fun e w' => e = .returned (.bool true) ∧ Below w.heap.size w w' := by
  have hbd := h.bd
  obtain ⟨r, c, A0, d0, hv, _⟩ := id h
  subst hv
  have HIN := hideC h; clear h
  go_enter Tryd.func10, Tryd.ntmps10
  go_wp2_with fail
  refine absC1 fun W0 hX hbel0 hz => ?_
  have HZ := Lib.hid hz; clear hz
  refine (awake_any W0 (hT.below hbel0)).mono ?_
  rintro e w1 ⟨rfl, hb1⟩
  have b1 := hbel0.trans (hb1.mono hbel0.size)
  have hX1 := hX.below hb1 hX.lt
  have x0 := hX1.cell 0
  have x1 := hX1.cell 1
  have x2 := hX1.cell 2
  have HM := hideC (make_raw _ R C zs w1 (HIN.out.below b1))
  go_wp2_with fail
  refine HM.out.mono ?_
  rintro e w2 ⟨A2, c2, rfl, hI2, hb2⟩
  have b2 := b1.trans (hb2.mono b1.size)
  obtain ⟨M, hMd⟩ : ∃ M, M = rawM R C zs := ⟨_, rfl⟩
  have hML : M.length = R := by rw [hMd, mat_len]
  rw [← hMd] at hI2
  subst hML
  clear hMd HM HIN hX hX1 x0 x1 x2
  go_wp2_with fail
  refine absC1 fun W3 hY hb3 hz3 => ?_
  have HZ3 := Lib.hid hz3; clear hz3
  have b3 := b2.trans (hb3.mono b2.size)
  have hI3 := hI2.below hb3
  refine (matrixl_any C A2 c2 M W3 hI3 (by omega) (by omega)).mono ?_
  rintro e w4 ⟨q, rfl, hm4, _, hb4⟩
  have b4 := b3.trans (hb4.mono b3.size)
  have hY4 := hY.below hb4 hY.lt
  have y0 := hY4.cell 0
  have y1 := hY4.cell 1
  have hI4 := hI3.below hb4
  have hT4 := hT.below b4
  clear hY hI2 hI3 hb3 b2 b3 hb1 hb2 hb4 b1 hbel0
  go_wp2_with fail
  obtain ⟨wq, hwq⟩ : ∃ wq, wq = w4.drew := ⟨_, rfl⟩
  have hbq : Below w4.heap.size w4 wq := by rw [hwq]; exact (Below.refl _ _).drew
  have hn1 : ((M.length : Int) != (M.length : Int)) = false := by simp
  have hn2 : ((C : Int) != (C : Int)) = false := by simp
  have hsm := samel_any q C C (nsOf C M) A2 c2 M wq (hm4.below hbq) (by omega) (by rw [nsTo_len]; omega) (hI4.below hbq)
  rw [told_ns (by omega) (ref_wide hI4), sameB_refl] at hsm
  have HSM := hideC hsm; clear hsm
  refine wp_mix (fun V => Below w4.heap.size w4 V) 37 (by kernel_rfl) (by kernel_rfl) (Below.refl _ _).drew ?_
  rw [← hwq]
  clear hwq
  (refine m_q 0 (v := ?_) (by kernel_rfl) rfl rfl (fun W hW => ?_) ?_; rotate_left; (have z0 := onB hW y0; have z1 := onB hW y1; go_simp; first | done | with_reducible rfl); simp only [Act.put, List.setIfInBounds_toArray, List.set_cons_zero, List.set_cons_succ]); (refine m_q 1 (v := ?_) (by kernel_rfl) rfl rfl (fun W hW => ?_) ?_; rotate_left; (have z0 := onB hW y0; have z1 := onB hW y1; go_simp; first | done | with_reducible rfl); simp only [Act.put, List.setIfInBounds_toArray, List.set_cons_zero, List.set_cons_succ])
  refine m_s1 2 (by kernel_rfl) rfl ?_
  go_wp2_with fail
  refine HSM.out.mono ?_
  rintro e v1 ⟨rfl, d1⟩
  have k1 := hbq.trans (d1.mono hbq.size)
  have HR := rows_any q C (nsOf C M) v1 (hm4.below k1)
  rw [nsTo_len] at HR
  have HR := hideC HR
  have HCc := hideC (cols_any q C (nsOf C M) v1 (hm4.below k1))
  go_wp2_with fail
  refine m_next k1 ?_
  have y0 := onB k1 y0
  have y1 := onB k1 y1
  (refine m_q 3 (v := ?_) (by kernel_rfl) rfl rfl (fun W hW => ?_) ?_; rotate_left; (go_simp; first | done | with_reducible rfl); simp only [Act.put, List.setIfInBounds_toArray, List.set_cons_zero, List.set_cons_succ]); (refine m_q 4 (v := ?_) (by kernel_rfl) rfl rfl (fun W hW => ?_) ?_; rotate_left; (go_simp; first | done | with_reducible rfl); simp only [Act.put, List.setIfInBounds_toArray, List.set_cons_zero, List.set_cons_succ])
  (refine m_yes 5 (v := ?_) (by kernel_rfl) rfl (by rfl) (fun W hW => ?_) ?_; rotate_left; (have z0 := onB hW y0; have z1 := onB hW y1; go_simp; first | done | with_reducible rfl); simp only [Act.put, List.setIfInBounds_toArray, List.set_cons_zero, List.set_cons_succ]); (refine m_yes 7 (v := ?_) (by kernel_rfl) rfl (by rfl) (fun W hW => ?_) ?_; rotate_left; (have z0 := onB hW y0; have z1 := onB hW y1; go_simp; first | done | with_reducible rfl); simp only [Act.put, List.setIfInBounds_toArray, List.set_cons_zero, List.set_cons_succ]); (refine m_yes 8 (v := ?_) (by kernel_rfl) rfl (by rfl) (fun W hW => ?_) ?_; rotate_left; (have z0 := onB hW y0; have z1 := onB hW y1; go_simp; first | done | with_reducible rfl); simp only [Act.put, List.setIfInBounds_toArray, List.set_cons_zero, List.set_cons_succ]); (refine m_yes 9 (v := ?_) (by kernel_rfl) rfl (by rfl) (fun W hW => ?_) ?_; rotate_left; (have z0 := onB hW y0; have z1 := onB hW y1; go_simp; first | done | with_reducible rfl); simp only [Act.put, List.setIfInBounds_toArray, List.set_cons_zero, List.set_cons_succ])
  refine m_s1 6 (by kernel_rfl) rfl ?_
  go_wp2_with fail
  refine HR.out.mono ?_
  rintro e v1' ⟨rfl, rfl⟩
  go_wp2_with fail
  refine m_next (Below.refl _ _) ?_
  (refine m_yes 10 (v := ?_) (by kernel_rfl) rfl (by rfl) (fun W hW => ?_) ?_; rotate_left; (go_simp; first | done | with_reducible rfl); simp only [Act.put, List.setIfInBounds_toArray, List.set_cons_zero, List.set_cons_succ])
  (refine m_q 11 (v := ?_) (by kernel_rfl) rfl rfl (fun W hW => ?_) ?_; rotate_left; (go_simp; first | done | with_reducible rfl); simp only [Act.put, List.setIfInBounds_toArray, List.set_cons_zero, List.set_cons_succ]); (refine m_q 12 (v := ?_) (by kernel_rfl) rfl rfl (fun W hW => ?_) ?_; rotate_left; (go_simp; first | done | with_reducible rfl); simp only [Act.put, List.setIfInBounds_toArray, List.set_cons_zero, List.set_cons_succ])
  (refine m_yes 13 (v := ?_) (by kernel_rfl) rfl (by rfl) (fun W hW => ?_) ?_; rotate_left; (have z0 := onB hW y0; have z1 := onB hW y1; go_simp; first | done | with_reducible rfl); simp only [Act.put, List.setIfInBounds_toArray, List.set_cons_zero, List.set_cons_succ]); (refine m_yes 15 (v := ?_) (by kernel_rfl) rfl (by rfl) (fun W hW => ?_) ?_; rotate_left; (have z0 := onB hW y0; have z1 := onB hW y1; go_simp; first | done | with_reducible rfl); simp only [Act.put, List.setIfInBounds_toArray, List.set_cons_zero, List.set_cons_succ]); (refine m_yes 16 (v := ?_) (by kernel_rfl) rfl (by rfl) (fun W hW => ?_) ?_; rotate_left; (have z0 := onB hW y0; have z1 := onB hW y1; go_simp; first | done | with_reducible rfl); simp only [Act.put, List.setIfInBounds_toArray, List.set_cons_zero, List.set_cons_succ])
  refine m_s1 14 (by kernel_rfl) rfl ?_
  go_wp2_with fail
  refine HCc.out.mono ?_
  rintro e v1' ⟨rfl, rfl⟩
  go_wp2_with fail
  refine m_next (Below.refl _ _) ?_
  (refine m_yes 17 (v := ?_) (by kernel_rfl) rfl (by rfl) (fun W hW => ?_) ?_; rotate_left; (go_simp; first | done | with_reducible rfl); simp only [Act.put, List.setIfInBounds_toArray, List.set_cons_zero, List.set_cons_succ])
  (refine m_q 18 (v := ?_) (by kernel_rfl) rfl rfl (fun W hW => ?_) ?_; rotate_left; (go_simp; first | done | with_reducible rfl); simp only [Act.put, List.setIfInBounds_toArray, List.set_cons_zero, List.set_cons_succ]); (refine m_q 19 (v := ?_) (by kernel_rfl) rfl rfl (fun W hW => ?_) ?_; rotate_left; (go_simp; first | done | with_reducible rfl); simp only [Act.put, List.setIfInBounds_toArray, List.set_cons_zero, List.set_cons_succ])
  (refine m_yes 20 (v := ?_) (by kernel_rfl) rfl (by rfl) (fun W hW => ?_) ?_; rotate_left; (have z0 := onB hW y0; have z1 := onB hW y1; go_simp; first | done | with_reducible rfl); simp only [Act.put, List.setIfInBounds_toArray, List.set_cons_zero, List.set_cons_succ]); (refine m_yes 22 (v := ?_) (by kernel_rfl) rfl (by rfl) (fun W hW => ?_) ?_; rotate_left; (have z0 := onB hW y0; have z1 := onB hW y1; go_simp; first | done | with_reducible rfl); simp only [Act.put, List.setIfInBounds_toArray, List.set_cons_zero, List.set_cons_succ])
  have HON := onesm_any q C (nsOf C M) v1 (hm4.below k1) (hT4.below k1)
  rw [nsTo_len, ones_same (by omega) _ (Nat.le_refl _)] at HON
  have HON := hideC HON
  refine m_s1 21 (by kernel_rfl) rfl ?_
  go_wp2_with fail
  refine HON.out.mono ?_
  rintro e v2 ⟨rfl, d2⟩
  have k2 := k1.trans (d2.mono k1.size)
  have HOR := hideC (onesr_any C A2 c2 M v2 (hI4.below k2))
  go_wp2_with fail
  refine m_next d2 ?_
  refine m_s1 23 (by kernel_rfl) rfl ?_
  go_wp2_with fail
  refine HOR.out.mono ?_
  rintro e v3 ⟨rfl, d3⟩
  have k3 := k2.trans (d3.mono k2.size)
  have hn3 : ((onesR C M M.length : Int) != (onesR C M M.length : Int)) = false := by simp
  go_wp2_with fail
  refine m_next d3 ?_
  have d23 := d2.trans (d3.mono d2.size)
  have y0 := onB d23 y0
  have y1 := onB d23 y1
  (refine m_yes 24 (v := ?_) (by kernel_rfl) rfl (by rfl) (fun W hW => ?_) ?_; rotate_left; (go_simp; first | done | with_reducible rfl); simp only [Act.put, List.setIfInBounds_toArray, List.set_cons_zero, List.set_cons_succ])
  clear hn3
  (refine m_q 25 (v := ?_) (by kernel_rfl) rfl rfl (fun W hW => ?_) ?_; rotate_left; (go_simp; first | done | with_reducible rfl); simp only [Act.put, List.setIfInBounds_toArray, List.set_cons_zero, List.set_cons_succ]); (refine m_q 26 (v := ?_) (by kernel_rfl) rfl rfl (fun W hW => ?_) ?_; rotate_left; (go_simp; first | done | with_reducible rfl); simp only [Act.put, List.setIfInBounds_toArray, List.set_cons_zero, List.set_cons_succ])
  (refine m_yes 27 (v := ?_) (by kernel_rfl) rfl (by rfl) (fun W hW => ?_) ?_; rotate_left; (have z0 := onB hW y0; have z1 := onB hW y1; go_simp; first | done | with_reducible rfl); simp only [Act.put, List.setIfInBounds_toArray, List.set_cons_zero, List.set_cons_succ]); (refine m_yes 28 (v := ?_) (by kernel_rfl) rfl (by rfl) (fun W hW => ?_) ?_; rotate_left; (have z0 := onB hW y0; have z1 := onB hW y1; go_simp; first | done | with_reducible rfl); simp only [Act.put, List.setIfInBounds_toArray, List.set_cons_zero, List.set_cons_succ]); (refine m_yes 29 (v := ?_) (by kernel_rfl) rfl (by rfl) (fun W hW => ?_) ?_; rotate_left; (have z0 := onB hW y0; have z1 := onB hW y1; go_simp; first | done | with_reducible rfl); simp only [Act.put, List.setIfInBounds_toArray, List.set_cons_zero, List.set_cons_succ]); (refine m_yes 31 (v := ?_) (by kernel_rfl) rfl (by rfl) (fun W hW => ?_) ?_; rotate_left; (have z0 := onB hW y0; have z1 := onB hW y1; go_simp; first | done | with_reducible rfl); simp only [Act.put, List.setIfInBounds_toArray, List.set_cons_zero, List.set_cons_succ]); (refine m_yes 32 (v := ?_) (by kernel_rfl) rfl (by rfl) (fun W hW => ?_) ?_; rotate_left; (have z0 := onB hW y0; have z1 := onB hW y1; go_simp; first | done | with_reducible rfl); simp only [Act.put, List.setIfInBounds_toArray, List.set_cons_zero, List.set_cons_succ]); (refine m_yes 33 (v := ?_) (by kernel_rfl) rfl (by rfl) (fun W hW => ?_) ?_; rotate_left; (have z0 := onB hW y0; have z1 := onB hW y1; go_simp; first | done | with_reducible rfl); simp only [Act.put, List.setIfInBounds_toArray, List.set_cons_zero, List.set_cons_succ])
  have HH := hasm_any q C (nsOf C M) x y v3 (hm4.below k3)
  rw [mhas_nsOf _ _ (by omega)] at HH
  have HH := hideC HH
  refine m_s1 30 (by kernel_rfl) rfl ?_
  go_wp2_with fail
  refine HH.out.mono ?_
  rintro e v4 ⟨rfl, d4⟩
  have k4 := k3.trans (d4.mono k3.size)
  have HHR := hideC (hasr_any C A2 c2 M x y v4 (hI4.below k4))
  go_wp2_with fail
  refine m_next d4 ?_
  refine m_s1 34 (by kernel_rfl) rfl ?_
  go_wp2_with fail
  refine HHR.out.mono ?_
  rintro e v5 ⟨rfl, d5⟩
  have k5 := k4.trans (d5.mono k4.size)
  have hn4 : (hasR C M x y != hasR C M x y) = false := by simp
  go_wp2_with fail
  refine m_next d5 ?_
  (refine m_yes 35 (v := ?_) (by kernel_rfl) rfl (by rfl) (fun W hW => ?_) ?_; rotate_left; (go_simp; first | done | with_reducible rfl); simp only [Act.put, List.setIfInBounds_toArray, List.set_cons_zero, List.set_cons_succ])
  clear hn4
  (refine m_q 36 (v := ?_) (by kernel_rfl) rfl rfl (fun W hW => ?_) ?_; rotate_left; (go_simp; first | done | with_reducible rfl); simp only [Act.put, List.setIfInBounds_toArray, List.set_cons_zero, List.set_cons_succ])
  refine m_end (by kernel_rfl) ?_
  clear hn1 hn2 HR HCc HON HSM y0 y1
  go_wp2_with fail
  have hY5 := hY4.below k5 hY4.lt
  have hm5 := hm4.below k5
  have hI5 := hI4.below k5
  have hT5 := hT4.below k5
  have b5 := b4.trans (k5.mono b4.size)
  clear hY4 hm4 hI4 hT4 b4 k1 k2 k3 k4 k5 d1 d2 d3 d23 d4 d5 hbq hT
  go_loopw [9] (fun i wr => ∃ n : Nat, n ≤ 8 ∧ i = .int .i64 ((n : Int) - 1) ∧ Below v5.heap.size v5 wr) (fun i _ => (7 - intOf i).toNat)
  case atStart => exact ⟨0, by omega, rfl, Below.refl _ _⟩
  case round =>
    obtain ⟨n, hn, rfl, hbel⟩ := hrel
    have hY := hY5.below hbel hY5.lt
    have y0 := hY.cell 0
    have y1 := hY.cell 1
    by_cases hlt : n < 8
    · have hl1 : ((n : Int) - 1) < 7 := by omega
      obtain ⟨i, hi⟩ : ∃ i, i = (n : Int) - 1 := ⟨_, rfl⟩
      have HI := Lib.hid hi
      rw [← hi] at hl1 ⊢
      have hl0 : -1 ≤ i := by omega
      clear hi
      go_wp2_with fail
      obtain ⟨wq, hwq⟩ : ∃ wq, wq = wr.drew := ⟨_, rfl⟩
      have hbq : Below wr.heap.size wr wq := by rw [hwq]; exact (Below.refl _ _).drew
      have g0 := hbel.trans (hbq.mono hbel.size)
      have HR1 := hideC (row_any q C (nsOf C M) i wq (hm5.below g0))
      refine wp_mix (fun V => Below wr.heap.size wr V) 20 (by kernel_rfl) (by kernel_rfl) (Below.refl _ _).drew ?_
      rw [← hwq]
      clear hwq
      (refine m_q 0 (v := ?_) (by kernel_rfl) rfl rfl (fun W hW => ?_) ?_; rotate_left; (have z0 := onB hW y0; have z1 := onB hW y1; go_simp; first | done | with_reducible rfl); simp only [Act.put, List.setIfInBounds_toArray, List.set_cons_zero, List.set_cons_succ]); (refine m_q 1 (v := ?_) (by kernel_rfl) rfl rfl (fun W hW => ?_) ?_; rotate_left; (have z0 := onB hW y0; have z1 := onB hW y1; go_simp; first | done | with_reducible rfl); simp only [Act.put, List.setIfInBounds_toArray, List.set_cons_zero, List.set_cons_succ]); (refine m_q 4 (v := ?_) (by kernel_rfl) rfl rfl (fun W hW => ?_) ?_; rotate_left; (have z0 := onB hW y0; have z1 := onB hW y1; go_simp; first | done | with_reducible rfl); simp only [Act.put, List.setIfInBounds_toArray, List.set_cons_zero, List.set_cons_succ]); (refine m_q 5 (v := ?_) (by kernel_rfl) rfl rfl (fun W hW => ?_) ?_; rotate_left; (have z0 := onB hW y0; have z1 := onB hW y1; go_simp; first | done | with_reducible rfl); simp only [Act.put, List.setIfInBounds_toArray, List.set_cons_zero, List.set_cons_succ])
      refine m_s1 2 (by kernel_rfl) rfl ?_
      go_wp2_with fail
      refine HR1.out.mono ?_
      rintro e u1 ⟨r1, rfl, hs1, d1⟩
      have g1 := g0.trans (d1.mono g0.size)
      have HL1 := list_any r1 _ u1 hs1 (hT5.below g1)
      rw [mrow_list (by omega)] at HL1
      have HL1 := hideC HL1
      go_wp2_with fail
      refine m_next (hbq.trans (d1.mono hbq.size)) ?_
      refine m_s1 3 (by kernel_rfl) rfl ?_
      go_wp2_with fail
      refine HL1.out.mono ?_
      rintro e u2 ⟨A3, c3, rfl, hc3, _, hrow3, d2⟩
      have g2 := g1.trans (d2.mono g1.size)
      have HR2 := hideC (rowr_any C A2 c2 M i u2 (hI5.below g2))
      go_wp2_with fail
      refine m_next d2 ?_
      refine m_s1 6 (by kernel_rfl) rfl ?_
      go_wp2_with fail
      refine HR2.out.mono ?_
      rintro e u3 ⟨B4, d4, rfl, hd4, hrow4, d3⟩
      have g3 := g2.trans (d3.mono g2.size)
      have hl3 := rowTo_len C M i C
      have HQ1 := hideC (seq_same A3 B4 c3 d4 (rowTo C M i C) u3 (hrow3.below d3) hrow4 (by omega))
      go_wp2_with fail
      refine m_next d3 ?_
      refine m_s1 7 (by kernel_rfl) rfl ?_
      go_wp2_with fail
      refine HQ1.out.mono ?_
      rintro e u4 ⟨rfl, d5⟩
      have g4 := g3.trans (d5.mono g3.size)
      go_wp2_with fail
      refine m_next d5 ?_
      have hYb := hY5.below g4 hY5.lt
      have y0 := hYb.cell 0
      have y1 := hYb.cell 1
      (refine m_q 8 (v := ?_) (by kernel_rfl) rfl rfl (fun W hW => ?_) ?_; rotate_left; (go_simp; first | done | with_reducible rfl); simp only [Act.put, List.setIfInBounds_toArray, List.set_cons_zero, List.set_cons_succ]); (refine m_q 9 (v := ?_) (by kernel_rfl) rfl rfl (fun W hW => ?_) ?_; rotate_left; (go_simp; first | done | with_reducible rfl); simp only [Act.put, List.setIfInBounds_toArray, List.set_cons_zero, List.set_cons_succ])
      (refine m_yes 10 (v := ?_) (by kernel_rfl) rfl (by rfl) (fun W hW => ?_) ?_; rotate_left; (have z0 := onB hW y0; have z1 := onB hW y1; go_simp; first | done | with_reducible rfl); simp only [Act.put, List.setIfInBounds_toArray, List.set_cons_zero, List.set_cons_succ]); (refine m_yes 11 (v := ?_) (by kernel_rfl) rfl (by rfl) (fun W hW => ?_) ?_; rotate_left; (have z0 := onB hW y0; have z1 := onB hW y1; go_simp; first | done | with_reducible rfl); simp only [Act.put, List.setIfInBounds_toArray, List.set_cons_zero, List.set_cons_succ]); (refine m_yes 14 (v := ?_) (by kernel_rfl) rfl (by rfl) (fun W hW => ?_) ?_; rotate_left; (have z0 := onB hW y0; have z1 := onB hW y1; go_simp; first | done | with_reducible rfl); simp only [Act.put, List.setIfInBounds_toArray, List.set_cons_zero, List.set_cons_succ]); (refine m_yes 15 (v := ?_) (by kernel_rfl) rfl (by rfl) (fun W hW => ?_) ?_; rotate_left; (have z0 := onB hW y0; have z1 := onB hW y1; go_simp; first | done | with_reducible rfl); simp only [Act.put, List.setIfInBounds_toArray, List.set_cons_zero, List.set_cons_succ])
      have HR3 := hideC (col_any q C (nsOf C M) i u4 (hm5.below g4))
      refine m_s1 12 (by kernel_rfl) rfl ?_
      go_wp2_with fail
      refine HR3.out.mono ?_
      rintro e u5 ⟨r5, rfl, hs5, d6⟩
      have g5 := g4.trans (d6.mono g4.size)
      have HL2 := list_any r5 _ u5 hs5 (hT5.below g5)
      rw [mcol_list (by omega) (by omega)] at HL2
      have HL2 := hideC HL2
      go_wp2_with fail
      refine m_next d6 ?_
      refine m_s1 13 (by kernel_rfl) rfl ?_
      go_wp2_with fail
      refine HL2.out.mono ?_
      rintro e u6' ⟨A7, c7, rfl, hc7, _, hrow7, d7⟩
      have g6 := g5.trans (d7.mono g5.size)
      have HR4 := hideC (colr_any C A2 c2 M i u6' (hI5.below g6))
      go_wp2_with fail
      refine m_next d7 ?_
      refine m_s1 16 (by kernel_rfl) rfl ?_
      go_wp2_with fail
      refine HR4.out.mono ?_
      rintro e u7 ⟨B8, d8, rfl, hd8, hrow8, d9⟩
      have g7 := g6.trans (d9.mono g6.size)
      have hl7 := colR_len C M i M.length
      have HQ2 := hideC (seq_same A7 B8 c7 d8 (colR C M i M.length) u7 (hrow7.below d9) hrow8 (by omega))
      go_wp2_with fail
      refine m_next d9 ?_
      refine m_s1 17 (by kernel_rfl) rfl ?_
      go_wp2_with fail
      refine HQ2.out.mono ?_
      rintro e u8 ⟨rfl, d10⟩
      have g8 := g7.trans (d10.mono g7.size)
      go_wp2_with fail
      refine m_next d10 ?_
      (refine m_yes 18 (v := ?_) (by kernel_rfl) rfl (by rfl) (fun W hW => ?_) ?_; rotate_left; (go_simp; first | done | with_reducible rfl); simp only [Act.put, List.setIfInBounds_toArray, List.set_cons_zero, List.set_cons_succ])
      (refine m_q 19 (v := ?_) (by kernel_rfl) rfl rfl (fun W hW => ?_) ?_; rotate_left; (go_simp; first | done | with_reducible rfl); simp only [Act.put, List.setIfInBounds_toArray, List.set_cons_zero, List.set_cons_succ])
      refine m_end (by kernel_rfl) ?_
      go_wp2_with fail
      exact ⟨⟨n + 1, by omega, by rw [HI.out]; go_num, g8⟩, by rw [HI.out]; simp [intOf]; omega⟩
    · obtain rfl : n = 8 := by omega
      have h7 : ((8 : Nat) : Int) - 1 = 7 := by decide
      rw [h7]
      go_wp2_with fail
      obtain ⟨wq, hwq⟩ : ∃ wq, wq = wr.drew := ⟨_, rfl⟩
      have hbq : Below wr.heap.size wr wq := by rw [hwq]; exact (Below.refl _ _).drew
      have g0 := hbel.trans (hbq.mono hbel.size)
      have HR1 := hideC (row_any q C (nsOf C M) x wq (hm5.below g0))
      refine wp_mix (fun V => Below wr.heap.size wr V) 19 (by kernel_rfl) (by kernel_rfl) (Below.refl _ _).drew ?_
      rw [← hwq]
      clear hwq
      (refine m_q 0 (v := ?_) (by kernel_rfl) rfl rfl (fun W hW => ?_) ?_; rotate_left; (have z0 := onB hW y0; have z1 := onB hW y1; go_simp; first | done | with_reducible rfl); simp only [Act.put, List.setIfInBounds_toArray, List.set_cons_zero, List.set_cons_succ]); (refine m_q 1 (v := ?_) (by kernel_rfl) rfl rfl (fun W hW => ?_) ?_; rotate_left; (have z0 := onB hW y0; have z1 := onB hW y1; go_simp; first | done | with_reducible rfl); simp only [Act.put, List.setIfInBounds_toArray, List.set_cons_zero, List.set_cons_succ]); (refine m_q 4 (v := ?_) (by kernel_rfl) rfl rfl (fun W hW => ?_) ?_; rotate_left; (have z0 := onB hW y0; have z1 := onB hW y1; go_simp; first | done | with_reducible rfl); simp only [Act.put, List.setIfInBounds_toArray, List.set_cons_zero, List.set_cons_succ]); (refine m_q 5 (v := ?_) (by kernel_rfl) rfl rfl (fun W hW => ?_) ?_; rotate_left; (have z0 := onB hW y0; have z1 := onB hW y1; go_simp; first | done | with_reducible rfl); simp only [Act.put, List.setIfInBounds_toArray, List.set_cons_zero, List.set_cons_succ])
      refine m_s1 2 (by kernel_rfl) rfl ?_
      go_wp2_with fail
      refine HR1.out.mono ?_
      rintro e u1 ⟨r1, rfl, hs1, d1⟩
      have g1 := g0.trans (d1.mono g0.size)
      have HL1 := list_any r1 _ u1 hs1 (hT5.below g1)
      rw [mrow_list (by omega)] at HL1
      have HL1 := hideC HL1
      go_wp2_with fail
      refine m_next (hbq.trans (d1.mono hbq.size)) ?_
      refine m_s1 3 (by kernel_rfl) rfl ?_
      go_wp2_with fail
      refine HL1.out.mono ?_
      rintro e u2 ⟨A3, c3, rfl, hc3, _, hrow3, d2⟩
      have g2 := g1.trans (d2.mono g1.size)
      have HR2 := hideC (rowr_any C A2 c2 M x u2 (hI5.below g2))
      go_wp2_with fail
      refine m_next d2 ?_
      refine m_s1 6 (by kernel_rfl) rfl ?_
      go_wp2_with fail
      refine HR2.out.mono ?_
      rintro e u3 ⟨B4, d4, rfl, hd4, hrow4, d3⟩
      have g3 := g2.trans (d3.mono g2.size)
      have hl3 := rowTo_len C M x C
      have HQ1 := hideC (seq_same A3 B4 c3 d4 (rowTo C M x C) u3 (hrow3.below d3) hrow4 (by omega))
      go_wp2_with fail
      refine m_next d3 ?_
      refine m_s1 7 (by kernel_rfl) rfl ?_
      go_wp2_with fail
      refine HQ1.out.mono ?_
      rintro e u4 ⟨rfl, d5⟩
      have g4 := g3.trans (d5.mono g3.size)
      go_wp2_with fail
      refine m_next d5 ?_
      have hYb := hY5.below g4 hY5.lt
      have y0 := hYb.cell 0
      have y1 := hYb.cell 1
      (refine m_q 8 (v := ?_) (by kernel_rfl) rfl rfl (fun W hW => ?_) ?_; rotate_left; (go_simp; first | done | with_reducible rfl); simp only [Act.put, List.setIfInBounds_toArray, List.set_cons_zero, List.set_cons_succ])
      (refine m_yes 9 (v := ?_) (by kernel_rfl) rfl (by rfl) (fun W hW => ?_) ?_; rotate_left; (have z0 := onB hW y0; have z1 := onB hW y1; go_simp; first | done | with_reducible rfl); simp only [Act.put, List.setIfInBounds_toArray, List.set_cons_zero, List.set_cons_succ]); (refine m_yes 10 (v := ?_) (by kernel_rfl) rfl (by rfl) (fun W hW => ?_) ?_; rotate_left; (have z0 := onB hW y0; have z1 := onB hW y1; go_simp; first | done | with_reducible rfl); simp only [Act.put, List.setIfInBounds_toArray, List.set_cons_zero, List.set_cons_succ]); (refine m_yes 13 (v := ?_) (by kernel_rfl) rfl (by rfl) (fun W hW => ?_) ?_; rotate_left; (have z0 := onB hW y0; have z1 := onB hW y1; go_simp; first | done | with_reducible rfl); simp only [Act.put, List.setIfInBounds_toArray, List.set_cons_zero, List.set_cons_succ]); (refine m_yes 14 (v := ?_) (by kernel_rfl) rfl (by rfl) (fun W hW => ?_) ?_; rotate_left; (have z0 := onB hW y0; have z1 := onB hW y1; go_simp; first | done | with_reducible rfl); simp only [Act.put, List.setIfInBounds_toArray, List.set_cons_zero, List.set_cons_succ])
      have HR3 := hideC (col_any q C (nsOf C M) y u4 (hm5.below g4))
      refine m_s1 11 (by kernel_rfl) rfl ?_
      go_wp2_with fail
      refine HR3.out.mono ?_
      rintro e u5 ⟨r5, rfl, hs5, d6⟩
      have g5 := g4.trans (d6.mono g4.size)
      have HL2 := list_any r5 _ u5 hs5 (hT5.below g5)
      rw [mcol_list (by omega) (by omega)] at HL2
      have HL2 := hideC HL2
      go_wp2_with fail
      refine m_next d6 ?_
      refine m_s1 12 (by kernel_rfl) rfl ?_
      go_wp2_with fail
      refine HL2.out.mono ?_
      rintro e u6' ⟨A7, c7, rfl, hc7, _, hrow7, d7⟩
      have g6 := g5.trans (d7.mono g5.size)
      have HR4 := hideC (colr_any C A2 c2 M y u6' (hI5.below g6))
      go_wp2_with fail
      refine m_next d7 ?_
      refine m_s1 15 (by kernel_rfl) rfl ?_
      go_wp2_with fail
      refine HR4.out.mono ?_
      rintro e u7 ⟨B8, d8, rfl, hd8, hrow8, d9⟩
      have g7 := g6.trans (d9.mono g6.size)
      have hl7 := colR_len C M y M.length
      have HQ2 := hideC (seq_same A7 B8 c7 d8 (colR C M y M.length) u7 (hrow7.below d9) hrow8 (by omega))
      go_wp2_with fail
      refine m_next d9 ?_
      refine m_s1 16 (by kernel_rfl) rfl ?_
      go_wp2_with fail
      refine HQ2.out.mono ?_
      rintro e u8 ⟨rfl, d10⟩
      have g8 := g7.trans (d10.mono g7.size)
      go_wp2_with fail
      refine m_next d10 ?_
      (refine m_q 17 (v := ?_) (by kernel_rfl) rfl rfl (fun W hW => ?_) ?_; rotate_left; (go_simp; first | done | with_reducible rfl); simp only [Act.put, List.setIfInBounds_toArray, List.set_cons_zero, List.set_cons_succ]); (refine m_q 18 (v := ?_) (by kernel_rfl) rfl rfl (fun W hW => ?_) ?_; rotate_left; (go_simp; first | done | with_reducible rfl); simp only [Act.put, List.setIfInBounds_toArray, List.set_cons_zero, List.set_cons_succ])
      refine m_end (by kernel_rfl) ?_
      go_wp2_with fail
      go_ret
      exact ⟨rfl, b5.trans (g8.mono b5.size)⟩
end Go.Proofs.YtjlcnbfkblmoeaaDoor
