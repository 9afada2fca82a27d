import Derived.Test.YtjlcnbfkblmoeaaDoorSet
import Derived.Test.YtjlcnbfkblmoeaaDoorRegion
namespace Go.Proofs.YtjlcnbfkblmoeaaDoor
open Go.RowKit
theorem info_u64 : (Tryd.prog.info? 105).map (fun i => (i.zero, i.size, i.bytes)) = some (some (.int .u64 0), 1, 8) := by kernel_rfl
theorem make_u64 (n : Nat) (hn : n ≤ 65536) (w : World) :
    (Instr.makeSlice 63 (.int .i64 (n : Int)) (.int .i64 (n : Int))).run Tryd.prog w = .ok (.slice (some ⟨w.heap.size, 0, none⟩) n n) (w.alloc (.cells (zeros (.int .u64 0) n) 105)) :=
  make_run 63 105 _ 8 Tryd.underlying63 info_u64 rfl n (by omega) hn w

set_option maxRecDepth 100000 in
set_option maxHeartbeats 400000 in
theorem or_any (v u : Value) (N M : Nat) (w : World) (hs : IsSet w v N) (ho : IsSet w u M) :
    Calls Tryd.prog 63 #[.agg #[v], .agg #[u]] w fun e w' => ∃ r, e = .returned (.agg #[r]) ∧ IsSet w' r (N ||| M) ∧ Below w.heap.size w w' := by
  obtain ⟨A, c, rfl, hN, _⟩ := id hs
  obtain ⟨A', c', rfl, hM, _⟩ := id ho
  have hL : nw (N ||| M) ≤ 64 := by rw [nw_or]; omega
  have hmx : (if nw N < nw M then (nw M : Int) else (nw N : Int)) = (nw (N ||| M) : Int) := by rw [nw_or]; split <;> omega
  obtain ⟨L, hLe⟩ : ∃ L, L = nw (N ||| M) := ⟨_, rfl⟩
  rw [← hLe] at hL hmx
  have HL := Lib.hid hLe; clear hLe
  have hmk := make_u64 L (by omega)
  go_enter Tryd.func63, Tryd.ntmps63
  go_wp2_with fail
  refine abs4 fun W0 hA0 hB0 hR0 hW0 hbel0 hz => ?_
  have hw0 := hW0.fill0 (fun j => u64 (wd N j ||| wd M j))
  have hs1 := hs.below hbel0
  have ho1 := ho.below hbel0
  have HZ := Lib.hid hz; clear hz
  go_loopw [17] (fun i wr => ∃ k : Nat, k ≤ L ∧ i = .int .i64 k ∧ Blk wr (w.heap.size + 3) 105 (filled (.int .u64 0) (fun j => u64 (wd N j ||| wd M j)) k L) ∧ Below (w.heap.size + 3) W0 wr)
    (fun i _ => L - (intOf i).toNat)
  case atStart => exact ⟨0, Nat.zero_le _, rfl, hw0, Below.refl _ _⟩
  case round =>
    obtain ⟨k, hk, rfl, hb, hbel⟩ := hrel
    have cA := (hA0.below hbel (by omega)).cell 0
    have cB := (hB0.below hbel (by omega)).cell 0
    have hbw : Below w.heap.size w wr := hbel0.trans (hbel.mono (by omega))
    have hs1 := hs.below hbw
    have ho1 := ho.below hbw
    by_cases hlt : k < L
    · have cW := hb.cell k
      have fW := hb.frozen k
      rw [filled_get _ _ hlt, if_neg (by omega)] at cW
      have hor := u64_or_nat (wd N k) (wd M k) (wd_lt N k) (wd_lt M k)
      have hset := filled_set (.int .u64 0) (fun j => u64 (wd N j ||| wd M j)) hlt
      have HSET := Lib.hid hset; clear hset
      go_wp2_with fail
      refine wp_spine (fun W => W.cell? ⟨w.heap.size, 0, none⟩ = some (.slice A (nw N) c) ∧ W.cell? ⟨w.heap.size + 1, 0, none⟩ = some (.slice A' (nw M) c') ∧ Below wr.heap.size wr W) [0, 1, 2, 3, 5, 6] [4, 7, 8, 9, 10] (by kernel_rfl) (by kernel_rfl) ?_
      iterate 6 (refine wpE_op (v := ?_) rfl rfl (fun W hW => ?_) ?_; rotate_left; (go_simp; first | done | with_reducible rfl); simp only [Act.put, List.setIfInBounds_toArray, List.set_cons_zero, List.set_cons_succ])
      refine wpE_nil ⟨fun h => (by cases h), wpSp_op rfl ⟨cA, cB, (Below.refl _ _).drew⟩ ?_⟩
      go_wp2_with fail
      refine (word_any _ N k _ (hs1.below (Below.refl _ _).drew)).mono ?_
      rintro e w1 ⟨rfl, hb1⟩
      have hB1 : Below wr.heap.size wr w1 := (Below.refl _ _).drew.trans hb1
      go_wp2_with fail
      refine nxt_op rfl ⟨onB hB1 cA, onB hB1 cB, hB1⟩ ?_
      go_wp2_with fail
      refine (word_any _ M k _ (ho1.below hB1)).mono ?_
      rintro e w2 ⟨rfl, hb2⟩
      have hB2 : Below wr.heap.size wr w2 := hB1.trans (hb2.mono hB1.size)
      go_wp2_with fail
      refine nxt_op rfl ⟨onB hB2 cA, onB hB2 cB, hB2⟩ ?_
      go_wp2_with fail
      refine nxt_op rfl ⟨onB hB2 cA, onB hB2 cB, hB2⟩ ?_
      go_wp2_with fail
      refine nxt_op rfl ⟨onB hB2 cA, onB hB2 cB, hB2⟩ ?_
      have cW2 := onB hB2 cW
      have fW2 : w2.frozen? ⟨w.heap.size + 3, k, none⟩ = false := onFrozen hB2 cW fW
      go_wp2_with fail
      refine nxt_nil ?_
      go_wp2_with fail
      have hb2 := ((hb.below hB2 hb.lt).set_ k (u64 (wd N k ||| wd M k)))
      rw [HSET.out] at hb2
      exact ⟨⟨k + 1, by omega, by go_num, hb2, (hbel.trans (hB2.mono (by have := hbel.size; have := HZ.out; omega))).setCell (by simp) _⟩, by simp [intOf]; omega⟩
    · obtain rfl : k = L := by omega
      have cR := (hR0.below hbel (by omega)).cell 0
      have fR := (hR0.below hbel (by omega)).frozen 0
      go_wp2_with fail
      have cX := ((hR0.below hbel (by omega)).set_ 0 (.slice (some ⟨w.heap.size + 3, 0, none⟩) k k)).cell 0
      refine bodyPost_ret (v := .agg #[.slice (some ⟨w.heap.size + 3, 0, none⟩) k k]) (by simp [results, Tryd.results63, go_sem, cX]) rfl ⟨_, rfl, ?_, (hbel0.trans (hbel.mono (by omega))).setCell (by simp; omega) _⟩
      have hk' := HL.out
      rw [hk'] at hb hL ⊢
      exact IsSet.mk_ (hb.far (by simp) _) hL (Nat.le_refl _) hL (fun j hj => by rw [filled_get _ _ hj, if_pos hj, wd_or])
end Go.Proofs.YtjlcnbfkblmoeaaDoor
