import Derived.Test.YtjlcnbfkblmoeaaDoorOf
import Derived.Laws.CopyOwn
namespace Go.Proofs.YtjlcnbfkblmoeaaDoor
open Go.RowKit
theorem size_u64 : (Tryd.prog.info? 105).map (·.size) = some 1 := by kernel_rfl
/-- What bits.Set.With makes. -/
def withB (N : Nat) (i : Int) : Nat := if 0 ≤ i ∧ i ≤ 4095 then N ||| 2 ^ i.toNat else N
theorem wordsOf_toList (N L : Nat) : (wordsOf N L).toList = (List.range L).map fun j => u64 (wd N j) := by simp [wordsOf]
theorem splice_words (N L : Nat) (h : nw N ≤ L) : (splice (wordsOf 0 L).toList 0 (wordsOf N (nw N)).toList).toArray = wordsOf N L := by
  apply Array.ext_getElem?
  intro i
  rw [List.getElem?_toArray]
  unfold splice
  simp only [List.take_zero, List.nil_append, Nat.zero_add]
  have hl : (wordsOf N (nw N)).toList.length = nw N := by simp [wordsOf]
  by_cases hi : i < nw N
  · rw [List.getElem?_append_left (by rw [hl]; exact hi), Array.getElem?_toList, wordsOf_get hi, wordsOf_get (by omega)]
  · rw [List.getElem?_append_right (by rw [hl]; omega), hl, List.getElem?_drop, show nw N + (i - nw N) = i by omega, Array.getElem?_toList]
    by_cases hj : i < L
    · rw [wordsOf_get hj, wordsOf_get hj, wd_zero, wd_ge (by omega)]
    · rw [Array.getElem?_eq_none (by rw [wordsOf_size]; omega), Array.getElem?_eq_none (by rw [wordsOf_size]; omega)]
set_option maxRecDepth 100000 in
set_option maxHeartbeats 400000 in
theorem with_out (v : Value) (N : Nat) (i : Int) (w : World) (hs : IsSet w v N) (hi : i < 0 ∨ 4095 < i) :
    Calls Tryd.prog 69 #[.agg #[v], .int .i64 i] w fun e w' => ∃ r, e = .returned (.agg #[r]) ∧ IsSet w' r N ∧ Below w.heap.size w w' := by
  obtain ⟨A, c, rfl, hN, _⟩ := id hs
  have hs1 := (hs.keep (KeepW.alloc w (.cells #[Value.slice A (nw N) c] 65)))
  have hs2 := hs1.keep (KeepW.alloc _ (.cells #[Value.slice A (nw N) c] 65))
  rcases hi with h | h
  · go_enter Tryd.func69, Tryd.ntmps69
    go_wp2
    refine bodyPost_ret (v := .agg #[.slice A (nw N) c]) (by simp [results, Tryd.results69, go_sem]) rfl ⟨_, rfl, ?_, ?_⟩
    · exact hs2
    · exact ((Below.refl _ _).alloc (Nat.le_refl _) _).alloc (by simp) _
  · have h0 : ¬ i < 0 := by omega
    go_enter Tryd.func69, Tryd.ntmps69
    go_wp2
    refine bodyPost_ret (v := .agg #[.slice A (nw N) c]) (by simp [results, Tryd.results69, go_sem]) rfl ⟨_, rfl, ?_, ?_⟩
    · exact hs2
    · exact ((Below.refl _ _).alloc (Nat.le_refl _) _).alloc (by simp) _
set_option maxRecDepth 100000 in
set_option maxHeartbeats 400000 in
theorem with_had (v : Value) (N I : Nat) (w : World) (hs : IsSet w v N) (hI : I ≤ 4095) (ht : N.testBit I = true) :
    Calls Tryd.prog 69 #[.agg #[v], .int .i64 I] w fun e w' => ∃ r, e = .returned (.agg #[r]) ∧ IsSet w' r N ∧ Below w.heap.size w w' := by
  obtain ⟨A, c, rfl, hN, _⟩ := id hs
  have h0 : ¬ (I : Int) < 0 := by omega
  have h1 : ¬ (4095 : Int) < (I : Int) := by omega
  go_enter Tryd.func69, Tryd.ntmps69
  go_wp2_with fail
  refine absC2 fun W0 hA0 hR0 hbel0 hz => ?_
  refine (has_in _ N I _ (hs.below hbel0) hI).mono ?_
  rintro e w1 ⟨rfl, hb1⟩
  have hA1 := hA0.below hb1 hA0.lt
  have hR1 := hR0.below hb1 hR0.lt
  have cA := hA1.cell 0
  have cR := hR1.cell 0
  have fR := hR1.frozen 0
  go_wp2
  have cX := (hR1.set_ 0 (.slice A (nw N) c)).cell 0
  refine bodyPost_ret (v := .agg #[.slice A (nw N) c]) (by simp [results, Tryd.results69, go_sem, cX]) rfl ⟨_, rfl, ?_, (hbel0.trans (hb1.mono hbel0.size)).setCell (by simp) _⟩
  exact ((hs.below hbel0).below hb1).keep (KeepW.setCell (t := 65) hR1 (by decide) _)
set_option maxRecDepth 100000 in
set_option maxHeartbeats 400000 in
theorem with_new (v : Value) (N I : Nat) (w : World) (hs : IsSet w v N) (hI : I ≤ 4095) (ht : N.testBit I = false) :
    Calls Tryd.prog 69 #[.agg #[v], .int .i64 I] w fun e w' => ∃ r, e = .returned (.agg #[r]) ∧ IsSet w' r (N ||| 2 ^ I) ∧ Below w.heap.size w w' := by
  obtain ⟨A, c, rfl, hN, _, _, h4⟩ := id hs
  have hmx : (if (nw N : Int) < (I : Int) / 64 + 1 then (I : Int) / 64 + 1 else (nw N : Int)) = (max (nw N) (I / 64 + 1) : Nat) := by split <;> omega
  obtain ⟨L, hLe⟩ : ∃ L, L = max (nw N) (I / 64 + 1) := ⟨_, rfl⟩
  rw [← hLe] at hmx
  have hL : L ≤ 64 := by omega
  have hL1 : nw N ≤ L := by omega
  have hL2 : I / 64 < L := by omega
  have hnw : nw (N ||| 2 ^ I) = L := by rw [nw_or, nw_pow, hLe]
  have HNW := Lib.hid hnw; clear hnw
  have HLe := Lib.hid hLe; clear hLe
  have hmk := make_u64 L (by omega)
  have h0 : ¬ (I : Int) < 0 := by omega
  have h1 : ¬ (4095 : Int) < (I : Int) := by omega
  go_enter Tryd.func69, Tryd.ntmps69
  go_wp2_with fail
  refine absC2 fun W0 hA0 hR0 hbel0 hz => ?_
  refine (has_in _ N I _ (hs.below hbel0) hI).mono ?_
  rintro e w1 ⟨rfl, hb1⟩
  have hA1 := hA0.below hb1 hA0.lt
  have hR1 := hR0.below hb1 hR0.lt
  have cA := hA1.cell 0
  have hsrc : 0 < nw N → ∃ g, A = some ⟨g, 0, none⟩ ∧ g < w1.heap.size ∧ ∀ k, k < nw N → w1.cell? ⟨g, k, none⟩ = some (u64 (wd N k)) := fun hp => by
    obtain ⟨g, cs, hA, hb, hc⟩ := h4 hp
    have hb' := (hb.below hbel0 hb.lt).below hb1 (Nat.lt_of_lt_of_le hb.lt hbel0.size)
    exact ⟨g, hA, hb'.lt, fun k hk => (hb'.cell k).trans (hc k hk)⟩
  have HSRC := Lib.hid hsrc; clear hsrc h4
  have hl1 := hA1.lt
  go_wp2_with (with_reducible refine wpList_copy_splice rfl (.tmp 26) (.tmp 28) 63 63 rfl 105 Tryd.underlying63 size_u64 (some ⟨w1.heap.size, 0, none⟩) A L L (nw N) c rfl rfl w1.heap.size 0 (wordsOf 0 L).toList 105 ?hg (wordsOf N (nw N)).toList ?hn ?hpos ?hfit ?h1 w1.heap.size w1 ?hb (Nat.le_refl _) ?_)
  case hg => rw [← wordsOf_zero]; exact heap_alloc_new _ _
  case hn => rw [show (nw N).min L = nw N from Nat.min_eq_left hL1]; simp [wordsOf]
  case hpos =>
    intro hp
    have hp' : 0 < nw N := by simpa [wordsOf] using hp
    obtain ⟨g, hA, hg, hc⟩ := HSRC.out hp'
    refine ⟨⟨g, 0, none⟩, hA, fun j u hu => ?_⟩
    have hj : j < nw N := by have := (Array.getElem?_eq_some_iff.1 hu).1; simpa [wordsOf] using this
    rw [wordsOf_get hj] at hu
    cases hu
    have e : (⟨g, 0, none⟩ : Addr).add j = ⟨g, j, none⟩ := by unfold Addr.add; split <;> simp_all
    rw [e]
    exact (World.cell?_alloc_lt _ _ _ hg).trans (hc j hj)
  case hfit => simp [wordsOf]; omega
  case h1 => intro u hu; simp [wordsOf] at hu; obtain ⟨k, _, rfl⟩ := hu; rfl
  case hb => exact (Below.refl _ _).alloc (Nat.le_refl _) _
  intro w2 hg2 hb2
  have hg3 : Blk w2 w1.heap.size 105 (wordsOf N L) := by
    have := hg2.out
    rw [splice_words N L hL1] at this
    exact this
  clear hg2
  have h64 : I % 64 < 64 := Nat.mod_lt _ (by omega)
  have cW := hg3.cell (I / 64)
  have fW := hg3.frozen (I / 64)
  rw [wordsOf_get hL2] at cW
  have hsh := shl_form (I % 64) h64
  have hof := or_form N I
  go_wp2_with fail
  have q1 := i64w (x := (I : Int) / 64) (by omega)
  have q2 : (I : Int).tmod 64 = (I : Int) % 64 := Int.tmod_eq_emod_of_nonneg (by omega)
  have q3 : (0 : Int) ≤ (I : Int) / 64 := by omega
  have q4 : (I : Int) / 64 < (L : Int) := by omega
  have q5 : ((I : Int) / 64).toNat = I / 64 := by omega
  have q6 : ((I : Int) % 64).toNat = I % 64 := by omega
  have q7 : (0 : Int) ≤ (I : Int) % 64 := by omega
  have q8 : (I : Int) % 64 < 64 := by omega
  refine wp_spine (fun W => Below w2.heap.size w2 W) [0, 1, 2, 3, 4, 5, 6, 7, 8, 9] [10] (by kernel_rfl) (by kernel_rfl) ?_
  iterate 10 (refine wpE_op (v := ?_) rfl rfl (fun W hW => ?_) ?_; rotate_left; (have c1 := onB hW cW; go_simp; first | done | with_reducible rfl); simp only [Act.put, List.setIfInBounds_toArray, List.set_cons_zero, List.set_cons_succ])
  refine wpE_nil ⟨fun h => (by cases h), wpSp_op rfl (Below.refl _ _).drew ?_⟩
  clear q1 q2 q3 q4 q5 q6 q7 q8
  go_wp2_with fail
  refine nxt_nil ?_
  have hb3 := hg3.set_ (I / 64) (u64 (wd N (I / 64) ||| 2 ^ (I % 64)))
  rw [wordsOf_with] at hb3
  have hR2 := (hR1.below hb2 hR1.lt).far (p := ⟨w1.heap.size, I / 64, none⟩) (by have := hR1.lt; simp; omega) (u64 (wd N (I / 64) ||| 2 ^ (I % 64)))
  have hbel : Below w.heap.size w (w2.setCell ⟨w1.heap.size, I / 64, none⟩ (u64 (wd N (I / 64) ||| 2 ^ (I % 64)))) :=
    (((hbel0.trans (hb1.mono hbel0.size)).trans (hb2.mono (Nat.le_trans hbel0.size hb1.size)))).setCell (by simp; omega) _
  have cR2 := hR2.cell 0
  have fR2 := hR2.frozen 0
  have hne : w1.heap.size ≠ w.heap.size + 1 := by have := hR1.lt; omega
  go_wp2_with fail
  have cX := (hR2.set_ 0 (.slice (some ⟨w1.heap.size, 0, none⟩) L L)).cell 0
  refine bodyPost_ret (v := .agg #[.slice (some ⟨w1.heap.size, 0, none⟩) L L]) (by simp [results, Tryd.results69, go_sem, cX]) rfl ⟨_, rfl, ?_, hbel.drew.setCell (by simp) _⟩
  have e := HNW.out
  rw [← e] at hb3 hL ⊢
  exact IsSet.mk_ (hb3.drew.far (p := ⟨w.heap.size + 1, 0, none⟩) (by simpa using hne) _) hL (Nat.le_refl _) hL (fun k hk => wordsOf_get hk)
theorem with_any (v : Value) (N : Nat) (i : Int) (w : World) (hs : IsSet w v N) :
    Calls Tryd.prog 69 #[.agg #[v], .int .i64 i] w fun e w' => ∃ r, e = .returned (.agg #[r]) ∧ IsSet w' r (withB N i) ∧ Below w.heap.size w w' := by
  unfold withB
  by_cases h : 0 ≤ i ∧ i ≤ 4095
  · rw [if_pos h]
    obtain ⟨I, rfl⟩ := Int.eq_ofNat_of_zero_le h.1
    rw [Int.toNat_natCast]
    by_cases ht : N.testBit I = true
    · have e : N ||| 2 ^ I = N := by
        apply Nat.eq_of_testBit_eq; intro j
        rw [Nat.testBit_or, Nat.testBit_two_pow]
        by_cases hj : I = j
        · subst hj; simp [ht]
        · simp [hj]
      rw [e]
      exact with_had v N I w hs (by omega) ht
    · exact with_new v N I w hs (by omega) (by simpa using ht)
  · rw [if_neg h]
    exact with_out v N i w hs (by omega)
end Go.Proofs.YtjlcnbfkblmoeaaDoor
