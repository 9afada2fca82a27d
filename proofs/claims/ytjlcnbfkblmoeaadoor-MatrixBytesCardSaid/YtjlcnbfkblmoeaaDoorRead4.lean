import Derived.Test.YtjlcnbfkblmoeaaDoorRead3
namespace Go.Proofs.YtjlcnbfkblmoeaaDoor
open Go.RowKit

theorem wordsOf_byte (N b k L : Nat) (hb : b < 256) : (wordsOf N L).setIfInBounds (k / 8) (u64 (wd N (k / 8) ||| b <<< (8 * (k % 8)))) = wordsOf (N ||| b <<< (8 * k)) L := by
  have hlt : b <<< (8 * (k % 8)) < 2 ^ 64 := by
    rw [Nat.shiftLeft_eq]
    calc b * 2 ^ (8 * (k % 8)) ≤ b * 2 ^ 56 := Nat.mul_le_mul_left _ (Nat.pow_le_pow_right (by omega) (by omega))
      _ < 2 ^ 64 := by omega
  have hsh : b <<< (8 * k) = (b <<< (8 * (k % 8))) <<< (64 * (k / 8)) := by
    rw [← Nat.shiftLeft_add]; congr 1; omega
  apply Array.ext_getElem?
  intro j
  rw [Array.getElem?_setIfInBounds, wordsOf_size]
  by_cases hj : j < L
  · rw [wordsOf_get hj, wordsOf_get hj, wd_or, hsh, wd_shl _ _ _ hlt]
    by_cases h : k / 8 = j
    · subst h; simp [hj]
    · rw [if_neg h, if_neg (Ne.symm h), Nat.or_zero]
  · have h1 : ∀ N, (wordsOf N L)[j]? = none := fun N => Array.getElem?_eq_none (by rw [wordsOf_size]; omega)
    rw [h1, h1]
    by_cases h : k / 8 = j
    · rw [if_pos h, if_neg (by omega)]
    · rw [if_neg h]
theorem nw_bytes {l : List Nat} (hl : ∀ b ∈ l, b < 256) (h : fine l = true) : nw (bytesNat l) = (l.length + 7) / 8 := by
  by_cases h0 : l = []
  · subst h0; rfl
  · obtain ⟨h1, h2⟩ := bytesNat_log hl h h0
    rw [nw, if_neg h1]; omega
theorem fine_of {l : List Nat} {b : Nat} (_hp : 0 < l.length) (hb : l[l.length - 1]? = some b) : fine l = (b != 0) := by
  unfold fine
  rw [List.getLast?_eq_getElem?, hb, Bool.eq_iff_iff]
  simp
set_option maxRecDepth 100000 in
set_option maxHeartbeats 4000000 in
theorem read_bits (A : Option Addr) (c : Nat) (ys : List Nat) (w : World) (h : IsBy w A c ys) (hl : ∀ y ∈ ys, y < 256) (hy : ys.length ≤ 512) :
    Calls Tryd.prog 108 #[.slice A ys.length c] w fun x w' => Below w.heap.size w w' ∧ ((fine ys = true ∧ ∃ r, x = .returned (.tuple #[.agg #[r], .int .i64 0]) ∧ IsSet w' r (bytesNat ys)) ∨ (fine ys = false ∧ x = .returned (.tuple #[.agg #[.slice none 0 0], .int .i64 6]))) := by
  have hlen : decide ((512 : Int) < (ys.length : Int)) = false := by simp; omega
  obtain ⟨L, hL⟩ : ∃ L, L = (ys.length + 7) / 8 := ⟨_, rfl⟩
  have hL64 : L ≤ 64 := by omega
  have eL : ((ys.length : Int) + 7) / 8 = (L : Int) := by omega
  have HLE := Lib.hid hL
  have hmk := make_u64 L (by omega)
  by_cases hf : fine ys = true
  · have hlast : ys.length = 0 ∨ ∃ g off b, 0 < ys.length ∧ A = some ⟨g, off, none⟩ ∧ g < w.heap.size ∧ w.cell? ⟨g, off + (ys.length - 1), none⟩ = some (enc8 ((b : Nat) : Int)) ∧ ((b : Int) == 0) = false := by
      by_cases h0 : ys.length = 0
      · exact .inl h0
      · obtain ⟨g, off, hA, hg, hc⟩ := h.cell (show ys.length - 1 < ys.length by omega)
        refine .inr ⟨g, off, _, by omega, hA, hg, hc, ?_⟩
        have := fine_of (by omega) (List.getElem?_eq_getElem (show ys.length - 1 < ys.length by omega))
        rw [hf] at this
        have := this.symm
        simp at this ⊢
        omega
    have HNW := Lib.hid (nw_bytes hl hf)
    have HF := Lib.hid hf
    clear hf hL
    go_enter Tryd.func108, Tryd.ntmps108
    rcases hlast with h0 | ⟨g, off, b, hp, hA, hg, hc, hb0⟩
    · have h0' : decide (0 < ys.length) = false := decide_eq_false (by omega)
      have HH := hideC h
      clear h0 h
      go_wp2_with fail
      have h := HH.out
      clear h0' HH
      refine abs2 fun W0 hR hW hbel0 hz => ?_
      have HZ := Lib.hid hz
      rw [wordsOf_zero] at hW
      clear hmk eL hlen hz
      go_loopw [32] (fun i wr => ∃ k : Nat, k ≤ ys.length ∧ i = .int .i64 k ∧ Blk wr (w.heap.size + 1) 105 (wordsOf (bytesNat (ys.take k)) L) ∧ Below (w.heap.size + 1) W0 wr) (fun i _ => ys.length - (intOf i).toNat)
      case atStart => exact ⟨0, Nat.zero_le _, rfl, hW, Below.refl _ _⟩
      case round =>
        obtain ⟨k, hk, rfl, hb, hbel⟩ := hrel
        by_cases hlt : k < ys.length
        · obtain ⟨g', off', hA, hg', hc'⟩ := h.cell hlt
          cases hA
          have hc1 := (hbel.cell (p := ⟨g', off' + k, none⟩) (by simp; omega)).trans (onB hbel0 hc')
          have hy256 : ys[k] < 256 := hl _ (List.getElem_mem hlt)
          have hN : bytesNat (ys.take (k + 1)) = bytesNat (ys.take k) ||| ys[k] <<< (8 * k) := by
            rw [List.take_succ_eq_append_getElem hlt, bytesNat_or _ _ (fun c hc => hl c (List.mem_of_mem_take hc)), List.length_take, Nat.min_eq_left hk]
          have HN := Lib.hid hN
          clear hN hc'
          generalize bytesNat (ys.take k) = N at *
          have HB := Lib.hid (wordsOf_byte N ys[k] k L hy256)
          have hsl : ys[k] <<< (8 * (k % 8)) < 2 ^ 64 := by
            rw [Nat.shiftLeft_eq]
            calc ys[k] * 2 ^ (8 * (k % 8)) ≤ ys[k] * 2 ^ 56 := Nat.mul_le_mul_left _ (Nat.pow_le_pow_right (by omega) (by omega))
              _ < 2 ^ 64 := by omega
          have hsh : IntKind.u64.wrap ((ys[k] : Int) * 2 ^ (8 * (k % 8))) = ((ys[k] <<< (8 * (k % 8)) : Nat) : Int) := by
            rw [← u64_wrap_nat _ hsl]
            congr 1
            rw [Nat.shiftLeft_eq]; simp
          have hor := u64_or_nat (wd N (k / 8)) (ys[k] <<< (8 * (k % 8))) (wd_lt _ _) hsl
          clear hsl
          generalize ys[k] <<< (8 * (k % 8)) = sh at *
          generalize ys[k] = y at *
          have hkL : k / 8 < L := by have := HLE.out; omega
          have cW := hb.cell (k / 8)
          have fW := hb.frozen (k / 8)
          rw [wordsOf_get hkL] at cW
          clear h
          go_wp2_with fail
          have q1 := i64w (x := (k : Int) / 8) (by omega)
          have q2 : (k : Int).tmod 8 = (k : Int) % 8 := Int.tmod_eq_emod_of_nonneg (by omega)
          have q3 : (0 : Int) ≤ (k : Int) / 8 := by omega
          have q4 : (k : Int) / 8 < (L : Int) := by omega
          have q5 : ((k : Int) / 8).toNat = k / 8 := by omega
          have q6 : ((8 : Int) * ((k : Int) % 8)).toNat = 8 * (k % 8) := by omega
          have q7 : (0 : Int) ≤ 8 * ((k : Int) % 8) := by omega
          have q8 : (8 : Int) * ((k : Int) % 8) < 64 := by omega
          have q9 := i64w (x := 8 * ((k : Int) % 8)) (by omega)
          refine wp_spine (fun W => Below wr.heap.size wr W) [0, 1, 2, 3, 4, 5, 6, 7, 8, 9, 10, 11, 12] [13] (by kernel_rfl) (by kernel_rfl) ?_
          iterate 13 (refine wpE_op (v := ?_) rfl rfl (fun W hW => ?_) ?_; rotate_left; (have c1 := onB hW cW; go_simp; first | done | with_reducible rfl); simp only [Act.put, List.setIfInBounds_toArray, List.set_cons_zero, List.set_cons_succ])
          refine wpE_nil ⟨fun h => (by cases h), wpSp_op rfl (Below.refl _ _).drew ?_⟩
          go_wp2_with fail
          refine nxt_nil ?_
          go_wp2_with fail
          have hb2 := hb.drew.set_ (k / 8) (u64 (wd N (k / 8) ||| sh))
          rw [HB.out] at hb2
          exact ⟨⟨k + 1, by omega, by go_num, by rw [HN.out]; exact hb2, hbel.drew.setCell (by simp) _⟩, by simp [intOf]; omega⟩
        · obtain rfl : k = ys.length := by omega
          rw [List.take_length] at hb
          have hR' := hR.below hbel (by omega)
          have cR := hR'.cell 0
          have fR := hR'.frozen 0
          have hbw : Below w.heap.size w wr := hbel0.trans (hbel.mono (by omega))
          clear h
          go_wp2_with fail
          have hX := hR'.set_ 0 (.slice (some ⟨w.heap.size + 1, 0, none⟩) L L)
          have cX := hX.cell 0
          refine bodyPost_ret (v := .tuple #[.agg #[.slice (some ⟨w.heap.size + 1, 0, none⟩) L L], .int .i64 0]) (by simp [results, Tryd.results108, go_sem, cX]) rfl ⟨hbw.setCell (by simp) _, .inl ⟨HF.out, _, rfl, ?_⟩⟩
          have hs := IsSet.mk_ (N := bytesNat ys) (c := L) (hb.far (p := ⟨w.heap.size, 0, none⟩) (by simp) (.slice (some ⟨w.heap.size + 1, 0, none⟩) L L)) (by rw [HNW.out]; omega) (by rw [HNW.out, ← HLE.out]; exact Nat.le_refl _) (le64 hL64) (fun j hj => wordsOf_get (by rw [HNW.out, ← HLE.out] at hj; exact hj))
          rw [HNW.out, ← HLE.out] at hs
          exact hs
    · subst hA
      go_wp2_with fail
      clear hb0 hc hg hp
      refine abs2 fun W0 hR hW hbel0 hz => ?_
      have HZ := Lib.hid hz
      rw [wordsOf_zero] at hW
      clear hmk eL hlen hz
      go_loopw [32] (fun i wr => ∃ k : Nat, k ≤ ys.length ∧ i = .int .i64 k ∧ Blk wr (w.heap.size + 1) 105 (wordsOf (bytesNat (ys.take k)) L) ∧ Below (w.heap.size + 1) W0 wr) (fun i _ => ys.length - (intOf i).toNat)
      case atStart => exact ⟨0, Nat.zero_le _, rfl, hW, Below.refl _ _⟩
      case round =>
        obtain ⟨k, hk, rfl, hb, hbel⟩ := hrel
        by_cases hlt : k < ys.length
        · obtain ⟨g', off', hA, hg', hc'⟩ := h.cell hlt
          cases hA
          have hc1 := (hbel.cell (p := ⟨g, off + k, none⟩) (by simp; omega)).trans (onB hbel0 hc')
          have hy256 : ys[k] < 256 := hl _ (List.getElem_mem hlt)
          have hN : bytesNat (ys.take (k + 1)) = bytesNat (ys.take k) ||| ys[k] <<< (8 * k) := by
            rw [List.take_succ_eq_append_getElem hlt, bytesNat_or _ _ (fun c hc => hl c (List.mem_of_mem_take hc)), List.length_take, Nat.min_eq_left hk]
          have HN := Lib.hid hN
          clear hN hc'
          generalize bytesNat (ys.take k) = N at *
          have HB := Lib.hid (wordsOf_byte N ys[k] k L hy256)
          have hsl : ys[k] <<< (8 * (k % 8)) < 2 ^ 64 := by
            rw [Nat.shiftLeft_eq]
            calc ys[k] * 2 ^ (8 * (k % 8)) ≤ ys[k] * 2 ^ 56 := Nat.mul_le_mul_left _ (Nat.pow_le_pow_right (by omega) (by omega))
              _ < 2 ^ 64 := by omega
          have hsh : IntKind.u64.wrap ((ys[k] : Int) * 2 ^ (8 * (k % 8))) = ((ys[k] <<< (8 * (k % 8)) : Nat) : Int) := by
            rw [← u64_wrap_nat _ hsl]
            congr 1
            rw [Nat.shiftLeft_eq]; simp
          have hor := u64_or_nat (wd N (k / 8)) (ys[k] <<< (8 * (k % 8))) (wd_lt _ _) hsl
          clear hsl
          generalize ys[k] <<< (8 * (k % 8)) = sh at *
          generalize ys[k] = y at *
          have hkL : k / 8 < L := by have := HLE.out; omega
          have cW := hb.cell (k / 8)
          have fW := hb.frozen (k / 8)
          rw [wordsOf_get hkL] at cW
          clear h
          go_wp2_with fail
          have q1 := i64w (x := (k : Int) / 8) (by omega)
          have q2 : (k : Int).tmod 8 = (k : Int) % 8 := Int.tmod_eq_emod_of_nonneg (by omega)
          have q3 : (0 : Int) ≤ (k : Int) / 8 := by omega
          have q4 : (k : Int) / 8 < (L : Int) := by omega
          have q5 : ((k : Int) / 8).toNat = k / 8 := by omega
          have q6 : ((8 : Int) * ((k : Int) % 8)).toNat = 8 * (k % 8) := by omega
          have q7 : (0 : Int) ≤ 8 * ((k : Int) % 8) := by omega
          have q8 : (8 : Int) * ((k : Int) % 8) < 64 := by omega
          have q9 := i64w (x := 8 * ((k : Int) % 8)) (by omega)
          refine wp_spine (fun W => Below wr.heap.size wr W) [0, 1, 2, 3, 4, 5, 6, 7, 8, 9, 10, 11, 12] [13] (by kernel_rfl) (by kernel_rfl) ?_
          iterate 13 (refine wpE_op (v := ?_) rfl rfl (fun W hW => ?_) ?_; rotate_left; (have c1 := onB hW cW; go_simp; first | done | with_reducible rfl); simp only [Act.put, List.setIfInBounds_toArray, List.set_cons_zero, List.set_cons_succ])
          refine wpE_nil ⟨fun h => (by cases h), wpSp_op rfl (Below.refl _ _).drew ?_⟩
          go_wp2_with fail
          refine nxt_nil ?_
          go_wp2_with fail
          have hb2 := hb.drew.set_ (k / 8) (u64 (wd N (k / 8) ||| sh))
          rw [HB.out] at hb2
          exact ⟨⟨k + 1, by omega, by go_num, by rw [HN.out]; exact hb2, hbel.drew.setCell (by simp) _⟩, by simp [intOf]; omega⟩
        · obtain rfl : k = ys.length := by omega
          rw [List.take_length] at hb
          have hR' := hR.below hbel (by omega)
          have cR := hR'.cell 0
          have fR := hR'.frozen 0
          have hbw : Below w.heap.size w wr := hbel0.trans (hbel.mono (by omega))
          clear h
          go_wp2_with fail
          have hX := hR'.set_ 0 (.slice (some ⟨w.heap.size + 1, 0, none⟩) L L)
          have cX := hX.cell 0
          refine bodyPost_ret (v := .tuple #[.agg #[.slice (some ⟨w.heap.size + 1, 0, none⟩) L L], .int .i64 0]) (by simp [results, Tryd.results108, go_sem, cX]) rfl ⟨hbw.setCell (by simp) _, .inl ⟨HF.out, _, rfl, ?_⟩⟩
          have hs := IsSet.mk_ (N := bytesNat ys) (c := L) (hb.far (p := ⟨w.heap.size, 0, none⟩) (by simp) (.slice (some ⟨w.heap.size + 1, 0, none⟩) L L)) (by rw [HNW.out]; omega) (by rw [HNW.out, ← HLE.out]; exact Nat.le_refl _) (le64 hL64) (fun j hj => wordsOf_get (by rw [HNW.out, ← HLE.out] at hj; exact hj))
          rw [HNW.out, ← HLE.out] at hs
          exact hs
  · have hf : fine ys = false := by simpa using hf
    have hp : 0 < ys.length := by
      apply Nat.pos_of_ne_zero
      intro e
      rw [List.eq_nil_of_length_eq_zero e] at hf
      simp [fine] at hf
    obtain ⟨g, off, rfl, hg, hc⟩ := h.cell (show ys.length - 1 < ys.length by omega)
    have hz := fine_of hp (List.getElem?_eq_getElem (show ys.length - 1 < ys.length by omega))
    rw [hf] at hz
    have hz0 : ys[ys.length - 1] = 0 := by simpa using hz.symm
    rw [hz0] at hc
    clear hz hz0 hmk hL eL
    go_enter Tryd.func108, Tryd.ntmps108
    go_wp2_with fail
    exact bodyPost_ret (v := .tuple #[.agg #[.slice none 0 0], .int .i64 6]) (by simp [results, Tryd.results108, go_sem]) rfl ⟨(Below.refl _ _).alloc (Nat.le_refl _) _, .inr ⟨hf, rfl⟩⟩
end Go.Proofs.YtjlcnbfkblmoeaaDoor
