import Derived.Test.YtjlcnbfkblmoeaaDoorOr
import Derived.Test.YtjlcnbfkblmoeaaDoorTrim
namespace Go.Proofs.YtjlcnbfkblmoeaaDoor
open Go.RowKit
theorem nw_and (N M : Nat) : nw (N &&& M) ≤ min (nw N) (nw M) := by
  rw [Nat.le_min, nw_le_iff, nw_le_iff]
  have h1 := (nw_le_iff N _).1 (Nat.le_refl _)
  have h2 := (nw_le_iff M _).1 (Nat.le_refl _)
  exact ⟨Nat.lt_of_le_of_lt Nat.and_le_left h1, Nat.lt_of_le_of_lt Nat.and_le_right h2⟩
set_option maxRecDepth 100000 in
set_option maxHeartbeats 400000 in
theorem and_any (v u : Value) (N M : Nat) (w : World) (hs : IsSet w v N) (ho : IsSet w u M) :
    Calls Tryd.prog 74 #[.agg #[v], .agg #[u]] w fun e w' => ∃ r, e = .returned (.agg #[r]) ∧ IsSet w' r (N &&& M) ∧ Below w.heap.size w w' := by
  obtain ⟨A, c, rfl, hN, _, _, h4⟩ := id hs
  obtain ⟨A', c', rfl, hM, _, _, h4'⟩ := id ho
  have hL : min (nw N) (nw M) ≤ 64 := by omega
  have hmx : (if nw M < nw N then (nw M : Int) else (nw N : Int)) = (min (nw N) (nw M) : Nat) := by split <;> omega
  obtain ⟨L, hLe⟩ : ∃ L, L = min (nw N) (nw M) := ⟨_, rfl⟩
  rw [← hLe] at hL hmx
  have HL := Lib.hid hLe; clear hLe
  have hmk := make_u64 L (by omega)
  go_enter Tryd.func74, Tryd.ntmps74
  go_wp2_with fail
  refine abs4 fun W0 hA0 hB0 hR0 hW0 hbel0 hz => ?_
  have hw0 := hW0.fill0 (fun j => u64 (wd N j &&& wd M j))
  have HZ := Lib.hid hz; clear hz
  go_loopw [17] (fun i wr => ∃ k : Nat, k ≤ L ∧ i = .int .i64 k ∧ Blk wr (w.heap.size + 3) 105 (filled (.int .u64 0) (fun j => u64 (wd N j &&& wd M j)) k L) ∧ Below (w.heap.size + 3) W0 wr)
    (fun i _ => L - (intOf i).toNat)
  case atStart => exact ⟨0, Nat.zero_le _, rfl, hw0, Below.refl _ _⟩
  case round =>
    obtain ⟨k, hk, rfl, hb, hbel⟩ := hrel
    have cA := (hA0.below hbel (by omega)).cell 0
    have cB := (hB0.below hbel (by omega)).cell 0
    have hbw : Below w.heap.size w wr := hbel0.trans (hbel.mono (by omega))
    by_cases hlt : k < L
    · have cW := hb.cell k
      have fW := hb.frozen k
      rw [filled_get _ _ hlt, if_neg (by omega)] at cW
      have hor := u64_and_nat (wd N k) (wd M k) (wd_lt N k) (wd_lt M k)
      have hset := filled_set (.int .u64 0) (fun j => u64 (wd N j &&& wd M j)) hlt
      have HSET := Lib.hid hset; clear hset
      have hk2 := HL.out
      obtain ⟨g, cs, rfl, hg, hcs⟩ := h4 (by omega)
      obtain ⟨g', cs', rfl, hg', hcs'⟩ := h4' (by omega)
      have kN : k < nw N := by omega
      have kM : k < nw M := by omega
      have cN := ((hg.below hbw hg.lt).cell k).trans (hcs k kN)
      have cM := ((hg'.below hbw hg'.lt).cell k).trans (hcs' k kM)
      clear hcs hcs' h4 h4' hk2
      go_wp2_with fail
      refine wp_spine (fun W => Below wr.heap.size wr W) [0, 1, 2, 3, 4, 5, 6, 7, 8, 9, 10, 11, 12, 13] [14] (by kernel_rfl) (by kernel_rfl) ?_
      iterate 14 (refine wpE_op (v := ?_) rfl rfl (fun W hW => ?_) ?_; rotate_left; (have c1 := onB hW cA; have c2 := onB hW cB; have c3 := onB hW cN; have c4 := onB hW cM; go_simp; first | done | with_reducible rfl); simp only [Act.put, List.setIfInBounds_toArray, List.set_cons_zero, List.set_cons_succ])
      refine wpE_nil ⟨fun h => (by cases h), wpSp_op rfl (Below.refl _ _).drew ?_⟩
      go_wp2_with fail
      refine nxt_nil ?_
      go_wp2_with fail
      have hb2 := ((hb.drew).set_ k (u64 (wd N k &&& wd M k)))
      rw [HSET.out] at hb2
      exact ⟨⟨k + 1, by omega, by go_num, hb2, hbel.drew.setCell (by simp) _⟩, by simp [intOf]; omega⟩
    · obtain rfl : k = L := by omega
      have hR := hR0.below hbel (by omega)
      have cR := hR.cell 0
      have fR := hR.frozen 0
      have hw : Words wr (some ⟨w.heap.size + 1 + 1 + 1, 0, none⟩) k (N &&& M) := ⟨fun _ => ⟨_, _, rfl, hb, fun j hj => by rw [filled_get _ _ hj, if_pos hj, wd_and]⟩, fun j hj => wd_ge (by have := nw_and N M; have := HL.out; omega)⟩
      go_wp2_with fail
      refine (trim_any _ k k _ _ hw hL (Nat.le_refl _) hL).mono ?_
      rintro e w1 ⟨r, rfl, hr, hb1⟩
      obtain ⟨A1, c1, rfl, _⟩ := id hr
      have hr1 := onB hb1 cR
      have fr1 := onFrozen hb1 cR fR
      go_wp2_with fail
      have hX := (hR.below hb1 hR.lt).set_ 0 (.slice A1 (nw (N &&& M)) c1)
      have cX := hX.cell 0
      refine bodyPost_ret (v := .agg #[.slice A1 (nw (N &&& M)) c1]) (by simp [results, Tryd.results74, go_sem, cX]) rfl ⟨_, rfl, ?_, ((hbw.trans (hb1.mono (by have := hbel.size; have := HZ.out; omega)))).setCell (by simp; omega) _⟩
      exact hr.keep (KeepW.setCell (t := 65) (hR.below hb1 hR.lt) (by decide) _)
end Go.Proofs.YtjlcnbfkblmoeaaDoor
