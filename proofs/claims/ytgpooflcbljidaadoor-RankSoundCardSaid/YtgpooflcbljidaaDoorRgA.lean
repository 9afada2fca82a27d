import Derived.Test.YtgpooflcbljidaaDoorCloA
import Derived.Test.YtgpooflcbljidaaDoorMinus
import Derived.Test.YtgpooflcbljidaaDoorRkA
import Derived.Test.YtgpooflcbljidaaDoorMix2
import Derived.Test.YtgpooflcbljidaaDoorSortL
import Derived.Test.YtgpooflcbljidaaDoorLoop
/-
  The lectic order of the program: its answer, and a world behind it that is the old one but for draws and new blocks.
-/
namespace Go.Proofs.YtgpooflcbljidaaDoor
open Go.RowKit

/-- Draws are not taken back. -/
def Dn (w w' : World) : Prop := w.drawn ≤ w'.drawn
theorem Dn.refl (w : World) : Dn w w := Nat.le_refl _
theorem Dn.trans {a b c : World} (h : Dn a b) (k : Dn b c) : Dn a c := Nat.le_trans h k
theorem Dn.drew {a b : World} (h : Dn a b) : Dn a b.drew := Nat.le_trans h (Nat.le_succ _)
theorem Dn.alloc {a b : World} (h : Dn a b) (o : Obj) : Dn a (b.alloc o) := h
theorem Dn.setCell {a b : World} (h : Dn a b) (p : Addr) (v : Value) : Dn a (b.setCell p v) := h
theorem Gw.dn {w w' : World} (h : Gw w w') : Dn w w' := by
  obtain ⟨q, os, rfl⟩ := h
  exact Nat.le_add_right _ _
theorem Gw.of {w w' : World} (hb : Below w.heap.size w w') (hd : Dn w w') : Gw w w' := by
  refine ⟨w'.drawn - w.drawn, w'.heap.extract w.heap.size w'.heap.size, ?_⟩
  obtain ⟨h1, h2, h3, h4, h5⟩ := hb
  have hd' : w.drawn + (w'.drawn - w.drawn) = w'.drawn := Nat.add_sub_cancel' hd
  have hh : w.heap ++ w'.heap.extract w.heap.size w'.heap.size = w'.heap := by
    apply Array.ext_getElem?
    intro i
    by_cases hi : i < w.heap.size
    · rw [Array.getElem?_append_left hi, h5 i hi]
    · rw [Array.getElem?_append_right (by omega), Array.getElem?_extract]
      by_cases hj : i < w'.heap.size
      · rw [if_pos (by omega), show w.heap.size + (i - w.heap.size) = i by omega]
      · rw [if_neg (by omega), Array.getElem?_eq_none (by omega)]
  unfold Go.Sort.grow World.drewN
  dsimp only
  rw [hh, hd']
  cases w; cases w'
  simp_all
section
variable {P : Program} {c : Code} {Q : Exit → Act → World → Prop} {a : Act} {w : World}
theorem dabs1 {c1 : Array Value} {t1 : TypeId} (h : ∀ W, Blk W w.heap.size t1 c1 → Below w.heap.size w W → W.heap.size = w.heap.size + 1 → Dn w W → c.wp P Q a W) : c.wp P Q a (w.alloc (.cells c1 t1)) :=
  h _ (Blk.new _ _ _) ((Below.refl _ _).alloc (Nat.le_refl _) _) (by simp) (Dn.refl _)
theorem dabsC1 {f : FuncId} {args : Array Value} {R : Ending → World → Prop} {c1 : Array Value} {t1 : TypeId} (h : ∀ W, Blk W w.heap.size t1 c1 → Below w.heap.size w W → W.heap.size = w.heap.size + 1 → Dn w W → Calls P f args W R) : Calls P f args (w.alloc (.cells c1 t1)) R :=
  h _ (Blk.new _ _ _) ((Below.refl _ _).alloc (Nat.le_refl _) _) (by simp) (Dn.refl _)
theorem dabs2 {c1 c2 : Array Value} {t1 t2 : TypeId} (h : ∀ W, Blk W w.heap.size t1 c1 → Blk W (w.heap.size + 1) t2 c2 → Below w.heap.size w W → Dn w W → c.wp P Q a W) : c.wp P Q a ((w.alloc (.cells c1 t1)).alloc (.cells c2 t2)) :=
  h _ ((Blk.new _ _ _).alloc _) (Blk.new_ (by simp) _ _) (((Below.refl _ _).alloc (Nat.le_refl _) _).alloc (by simp) _) (Dn.refl _)
theorem dabs4 {c1 c2 c3 c4 : Array Value} {t1 t2 t3 t4 : TypeId} (h : ∀ W, Blk W w.heap.size t1 c1 → Blk W (w.heap.size + 1) t2 c2 → Blk W (w.heap.size + 2) t3 c3 → Blk W (w.heap.size + 3) t4 c4 → Below w.heap.size w W → W.heap.size = w.heap.size + 4 → Dn w W → c.wp P Q a W) :
    c.wp P Q a ((((w.alloc (.cells c1 t1)).alloc (.cells c2 t2)).alloc (.cells c3 t3)).alloc (.cells c4 t4)) :=
  h _ ((((Blk.new _ _ _).alloc _).alloc _).alloc _) (((Blk.new_ (by simp) _ _).alloc _).alloc _) ((Blk.new_ (by simp) _ _).alloc _) (Blk.new_ (by simp) _ _) (((((Below.refl _ _).alloc (Nat.le_refl _) _).alloc (by simp) _).alloc (by simp; omega) _).alloc (by simp; omega) _) (by simp) (Dn.refl _)
end
set_option maxRecDepth 100000 in
set_option maxHeartbeats 400000 in
theorem trim_g (A : Option Addr) (n c N : Nat) (w : World) (hw : Words w A n N) (_hn : n ≤ 64) (hc : n ≤ c) (hc' : c ≤ maxLen) :
    Calls Tryd.prog 76 #[.slice A n c] w fun e w' => ∃ r, e = .returned (.agg #[r]) ∧ IsSet w' r N ∧ Below w.heap.size w w' ∧ Dn w w' := by
  go_enter Tryd.func76, Tryd.ntmps76
  go_wp2_with fail
  refine dabs1 fun W0 hA0 hbel0 hz hdn => ?_
  have hw0 := hw.below hbel0
  have cR := hA0.cell 0
  have fR := hA0.frozen 0
  go_loop [0] (fun s => ∃ m : Nat, m ≤ n ∧ s = .slice A m c ∧ Words W0 A m N) (fun s => slen s)
  case atStart => exact ⟨n, Nat.le_refl _, rfl, hw0⟩
  case round =>
    obtain ⟨m, hm, rfl, hwm⟩ := hrel
    by_cases h0 : 0 < m
    · obtain ⟨g, cs, rfl, hB, hcs⟩ := hwm.1 h0
      have cW := (hB.cell (m - 1)).trans (hcs (m - 1) (by omega))
      by_cases hzz : wd N (m - 1) = 0
      · have e0 : ((wd N (m - 1) : Int) == 0) = true := by simp [hzz]
        have hz2 : ∀ k, m - 1 ≤ k → wd N k = 0 := fun k hk => by
          by_cases hkm : k = m - 1
          · rw [hkm]; exact hzz
          · exact hwm.2 k (by omega)
        have HZ2 := Lib.hid hz2; clear hz2
        have HZZ := Lib.hid hzz; clear hzz
        clear hw
        have HCS := Lib.hid hcs; clear hcs
        go_wp2
        exact ⟨⟨m - 1, by omega, rfl, fun hm0 => ⟨g, cs, rfl, hB, fun k hk => HCS.out k (by omega)⟩, HZ2.out⟩, by simp [slen]; omega⟩
      · have e0 : ((wd N (m - 1) : Int) == 0) = false := by simp [hzz]
        have hm2 : m = nw N := (nw_of_top hwm.2 (.inr hzz)).symm
        have HZZ := Lib.hid hzz; clear hzz
        have HM := Lib.hid hm2; clear hm2
        clear hw
        have HCS := Lib.hid hcs; clear hcs
        go_wp2
        have cX := (hA0.set_ 0 (.slice (some ⟨g, 0, none⟩) m c)).cell 0
        refine bodyPost_ret (v := .agg #[.slice (some ⟨g, 0, none⟩) m c]) (by simp [results, Tryd.results76, go_sem, cX]) rfl ⟨_, rfl, ?_, hbel0.setCell (by simp) _, hdn.setCell _ _⟩
        have e := HM.out; subst e
        exact IsSet.mk_ (hB.far (p := ⟨w.heap.size, 0, none⟩) (hB.ne_ hA0 (by decide)) _) (by omega) (by omega) hc' HCS.out
    · obtain rfl : m = 0 := by omega
      have hN : N = 0 := wd_ext fun k => by rw [hwm.2 k (by omega), wd_zero]
      subst hN
      clear hw
      go_wp2
      have cX := (hA0.set_ 0 (.slice A 0 c)).cell 0
      refine bodyPost_ret (v := .agg #[.slice A 0 c]) (by simp [results, Tryd.results76, go_sem, cX]) rfl ⟨_, rfl, ⟨A, c, rfl, by decide, by simp [nw_zero], hc', fun h => absurd h (by decide)⟩, hbel0.setCell (by simp) _, hdn.setCell _ _⟩
set_option maxRecDepth 100000 in
set_option maxHeartbeats 1000000 in
theorem minus_g (v u : Value) (N M : Nat) (w : World) (hs : IsSet w v N) (ho : IsSet w u M) :
    Calls Tryd.prog 97 #[.agg #[v], .agg #[u]] w fun e w' => ∃ r, e = .returned (.agg #[r]) ∧ IsSet w' r (minusN N M) ∧ Below w.heap.size w w' ∧ Dn w w' := by
  obtain ⟨A, c, rfl, hN, _, _, h4⟩ := id hs
  obtain ⟨A', c', rfl, hM, _, _, _⟩ := id ho
  obtain ⟨L, hLe⟩ : ∃ L, L = nw N := ⟨_, rfl⟩
  have hL : L ≤ 64 := by omega
  have HL := Lib.hid hLe
  have hmk := make_u64 L (by omega)
  have hwz : ∀ k, L ≤ k → wd (minusN N M) k = 0 := fun k hk => minusN_ge (by omega)
  have HWZ := Lib.hid hwz
  clear hwz
  rw [← hLe]
  clear hLe
  go_enter Tryd.func97, Tryd.ntmps97
  go_wp2_with fail
  refine dabs4 fun W0 hA0 hB0 hR0 hW0 hbel0 hz hdn => ?_
  have hw0 := hW0.fill0 (fun j => u64 (wd (minusN N M) j))
  have HZ := Lib.hid hz; clear hz
  go_loopw [13] (fun i wr => ∃ k : Nat, k ≤ L ∧ i = .int .i64 k ∧ Blk wr (w.heap.size + 3) 72 (filled (.int .u64 0) (fun j => u64 (wd (minusN N M) j)) k L) ∧ Below (w.heap.size + 3) W0 wr ∧ Dn w wr)
    (fun i _ => L - (intOf i).toNat)
  case atStart => exact ⟨0, Nat.zero_le _, rfl, hw0, Below.refl _ _, hdn⟩
  case round =>
    obtain ⟨k, hk, rfl, hb, hbel, hdr⟩ := hrel
    have cA := (hA0.below hbel (by omega)).cell 0
    have cB := (hB0.below hbel (by omega)).cell 0
    have hbw : Below w.heap.size w wr := hbel0.trans (hbel.mono (by omega))
    by_cases hlt : k < L
    · have cW := hb.cell k
      have fW := hb.frozen k
      rw [filled_get _ _ hlt, if_neg (by omega)] at cW
      have hor := minus_form N M k
      have hset := filled_set (.int .u64 0) (fun j => u64 (wd (minusN N M) j)) hlt
      have HSET := Lib.hid hset; clear hset
      obtain ⟨g, cs, rfl, hg, hcs⟩ := h4 (by have := HL.out; omega)
      have cN := ((hg.below hbw hg.lt).cell k).trans (hcs k (by have := HL.out; omega))
      have HW := hideC (fun W hW => word_g (.slice A' (nw M) c') M k W (ho.below (w' := W) hW))
      clear hcs h4
      go_wp2_with fail
      refine wp_spine (fun W => Below wr.heap.size wr W) [0, 1, 2, 3, 4, 5, 6, 7, 8] [9, 10, 11, 12] (by kernel_rfl) (by kernel_rfl) ?_
      iterate 9 (refine wpE_op (v := ?_) rfl rfl (fun W hW => ?_) ?_; rotate_left; (have c1 := onB hW cA; have c2 := onB hW cB; have c3 := onB hW cN; go_simp; first | done | with_reducible rfl); simp only [Act.put, List.setIfInBounds_toArray, List.set_cons_zero, List.set_cons_succ])
      refine wpE_nil ⟨fun h => (by cases h), wpSp_op rfl (Below.refl _ _).drew ?_⟩
      go_wp2_with fail
      refine (HW.out _ (hbw.trans ((Below.refl wr.heap.size wr).drew.mono hbw.size))).mono ?_
      rintro e w2 ⟨rfl, hg2⟩
      have hb2 := hg2.below
      have hk2 : Below wr.heap.size wr w2 := (Below.refl _ _).drew.trans hb2
      have cW2 := onB hk2 cW
      have fW2 := onFrozen hk2 cW fW
      go_wp2_with fail
      refine nxt_op rfl hk2 ?_
      go_wp2_with fail
      refine nxt_op rfl hk2 ?_
      go_wp2_with fail
      refine nxt_op rfl hk2 ?_
      go_wp2_with fail
      refine nxt_nil ?_
      go_wp2_with fail
      have hb3 := ((hb.below hk2 hb.lt).set_ k (u64 (wd (minusN N M) k)))
      rw [HSET.out] at hb3
      exact ⟨⟨k + 1, by omega, by go_num, hb3, (hbel.trans (hk2.mono (by have := hbel.size; have := HZ.out; omega))).setCell (by simp) _, (hdr.drew.trans hg2.dn).setCell _ _⟩, by simp [intOf]; omega⟩
    · obtain rfl : k = L := by omega
      have hR := hR0.below hbel (by omega)
      have cR := hR.cell 0
      have fR := hR.frozen 0
      have hw : Words wr (some ⟨w.heap.size + 1 + 1 + 1, 0, none⟩) k (minusN N M) := ⟨fun _ => ⟨_, _, rfl, hb, fun j hj => by rw [filled_get _ _ hj, if_pos hj]⟩, fun j hj => HWZ.out j hj⟩
      clear h4
      go_wp2_with fail
      refine (trim_g _ k k _ _ hw hL (Nat.le_refl _) (le64 hL)).mono ?_
      rintro e w1 ⟨r, rfl, hr, hb1, hd1⟩
      obtain ⟨A1, c1, rfl, _⟩ := id hr
      have hr1 := onB hb1 cR
      have fr1 := onFrozen hb1 cR fR
      go_wp2_with fail
      have hX := (hR.below hb1 hR.lt).set_ 0 (.slice A1 (nw (minusN N M)) c1)
      have cX := hX.cell 0
      refine bodyPost_ret (v := .agg #[.slice A1 (nw (minusN N M)) c1]) (by simp [results, Tryd.results97, go_sem, cX]) rfl ⟨_, rfl, ?_, ((hbw.trans (hb1.mono (by have := hbel.size; have := HZ.out; omega)))).setCell (by simp; omega) _, (hdr.trans hd1).setCell _ _⟩
      exact hr.keep (KeepW.setCell (t := 66) (hR.below hb1 hR.lt) (by decide) _)
set_option maxRecDepth 100000 in
set_option maxHeartbeats 400000 in
theorem or_g (v u : Value) (N M : Nat) (w : World) (hs : IsSet w v N) (ho : IsSet w u M) :
    Calls Tryd.prog 104 #[.agg #[v], .agg #[u]] w fun e w' => ∃ r, e = .returned (.agg #[r]) ∧ IsSet w' r (N ||| M) ∧ Below w.heap.size w w' ∧ Dn w w' := by
  obtain ⟨A, c, rfl, hN, _⟩ := id hs
  obtain ⟨A', c', rfl, hM, _⟩ := id ho
  have hL : nw (N ||| M) ≤ 64 := by rw [nw_or]; omega
  have hmx : (if nw N < nw M then (nw M : Int) else (nw N : Int)) = (nw (N ||| M) : Int) := by rw [nw_or]; split <;> omega
  have hmx2 : max (nw N : Int) (nw M : Int) = (nw (N ||| M) : Int) := by rw [nw_or]; omega
  obtain ⟨L, hLe⟩ : ∃ L, L = nw (N ||| M) := ⟨_, rfl⟩
  rw [← hLe] at hL hmx hmx2
  clear hmx
  have HL := Lib.hid hLe; clear hLe
  have hmk := make_u64 L (by omega)
  go_enter Tryd.func104, Tryd.ntmps104
  go_wp2_with fail
  refine dabs4 fun W0 hA0 hB0 hR0 hW0 hbel0 hz hdn => ?_
  have hw0 := hW0.fill0 (fun j => u64 (wd N j ||| wd M j))
  have hs1 := hs.below hbel0
  have ho1 := ho.below hbel0
  have HZ := Lib.hid hz; clear hz
  go_loopw [17] (fun i wr => ∃ k : Nat, k ≤ L ∧ i = .int .i64 k ∧ Blk wr (w.heap.size + 3) 72 (filled (.int .u64 0) (fun j => u64 (wd N j ||| wd M j)) k L) ∧ Below (w.heap.size + 3) W0 wr ∧ Dn w wr)
    (fun i _ => L - (intOf i).toNat)
  case atStart => exact ⟨0, Nat.zero_le _, rfl, hw0, Below.refl _ _, hdn⟩
  case round =>
    obtain ⟨k, hk, rfl, hb, hbel, hdr⟩ := hrel
    have cA := (hA0.below hbel (by omega)).cell 0
    have cB := (hB0.below hbel (by omega)).cell 0
    have hbw : Below w.heap.size w wr := hbel0.trans (hbel.mono (by omega))
    have hs1 := hs.below hbw
    have ho1 := ho.below hbw
    by_cases hlt : k < L
    · have cW := hb.cell k
      have fW := hb.frozen k
      rw [filled_get _ _ hlt, if_neg (by omega)] at cW
      have hor := u64_or_nat (wd N k) (wd M k) (wd_lt N k) (wd_lt M k)
      have hset := filled_set (.int .u64 0) (fun j => u64 (wd N j ||| wd M j)) hlt
      have HSET := Lib.hid hset; clear hset
      go_wp2_with fail
      refine wp_spine (fun W => W.cell? ⟨w.heap.size, 0, none⟩ = some (.slice A (nw N) c) ∧ W.cell? ⟨w.heap.size + 1, 0, none⟩ = some (.slice A' (nw M) c') ∧ Below wr.heap.size wr W) [0, 1, 2, 3, 5, 6] [4, 7, 8, 9, 10] (by kernel_rfl) (by kernel_rfl) ?_
      iterate 6 (refine wpE_op (v := ?_) rfl rfl (fun W hW => ?_) ?_; rotate_left; (go_simp; first | done | with_reducible rfl); simp only [Act.put, List.setIfInBounds_toArray, List.set_cons_zero, List.set_cons_succ])
      refine wpE_nil ⟨fun h => (by cases h), wpSp_op rfl ⟨cA, cB, (Below.refl _ _).drew⟩ ?_⟩
      go_wp2_with fail
      refine (word_g _ N k _ (hs1.below (Below.refl _ _).drew)).mono ?_
      rintro e w1 ⟨rfl, hg1⟩
      have hb1 := hg1.below
      have hB1 : Below wr.heap.size wr w1 := (Below.refl _ _).drew.trans hb1
      go_wp2_with fail
      refine nxt_op rfl ⟨onB hB1 cA, onB hB1 cB, hB1⟩ ?_
      go_wp2_with fail
      refine (word_g _ M k _ (ho1.below hB1)).mono ?_
      rintro e w2 ⟨rfl, hg2⟩
      have hb2 := hg2.below
      have hB2 : Below wr.heap.size wr w2 := hB1.trans (hb2.mono hB1.size)
      go_wp2_with fail
      refine nxt_op rfl ⟨onB hB2 cA, onB hB2 cB, hB2⟩ ?_
      go_wp2_with fail
      refine nxt_op rfl ⟨onB hB2 cA, onB hB2 cB, hB2⟩ ?_
      go_wp2_with fail
      refine nxt_op rfl ⟨onB hB2 cA, onB hB2 cB, hB2⟩ ?_
      have cW2 := onB hB2 cW
      have fW2 : w2.frozen? ⟨w.heap.size + 3, k, none⟩ = false := onFrozen hB2 cW fW
      go_wp2_with fail
      refine nxt_nil ?_
      go_wp2_with fail
      have hb2 := ((hb.below hB2 hb.lt).set_ k (u64 (wd N k ||| wd M k)))
      rw [HSET.out] at hb2
      exact ⟨⟨k + 1, by omega, by go_num, hb2, (hbel.trans (hB2.mono (by have := hbel.size; have := HZ.out; omega))).setCell (by simp) _, ((hdr.drew.trans hg1.dn).trans hg2.dn).setCell _ _⟩, by simp [intOf]; omega⟩
    · obtain rfl : k = L := by omega
      have cR := (hR0.below hbel (by omega)).cell 0
      have fR := (hR0.below hbel (by omega)).frozen 0
      go_wp2_with fail
      have cX := ((hR0.below hbel (by omega)).set_ 0 (.slice (some ⟨w.heap.size + 3, 0, none⟩) k k)).cell 0
      refine bodyPost_ret (v := .agg #[.slice (some ⟨w.heap.size + 3, 0, none⟩) k k]) (by simp [results, Tryd.results104, go_sem, cX]) rfl ⟨_, rfl, ?_, (hbel0.trans (hbel.mono (by omega))).setCell (by simp; omega) _, hdr.setCell _ _⟩
      have hk' := HL.out
      rw [hk'] at hb hL ⊢
      exact IsSet.mk_ (hb.far (by simp) _) hL (Nat.le_refl _) (le64 hL) (fun j hj => by rw [filled_get _ _ hj, if_pos hj, wd_or])
end Go.Proofs.YtgpooflcbljidaaDoor

/-
  bits.Set.Least, and rank.lectic: the answers; behind them the world is the old one but for draws and new blocks.
-/
namespace Go.Proofs.YtgpooflcbljidaaDoor
open Go.RowKit

theorem wd_all {N : Nat} (h : ∀ i, i < nw N → wd N i = 0) : N = 0 := wd_ext fun k => by
  rw [wd_zero]
  by_cases hk : k < nw N
  · exact h k hk
  · exact wd_ge (by omega)
set_option maxRecDepth 100000 in
set_option maxHeartbeats 2000000 in
theorem least_no (v : Value) (w : World) (hs : IsSet w v 0) :
    Calls Tryd.prog 105 #[.agg #[v]] w fun e w' => e = .returned (.tuple #[.int .i64 0, .bool false]) ∧ Below w.heap.size w w' ∧ Dn w w' := by
  obtain ⟨A, c, rfl, hN, _⟩ := id hs
  rw [nw_zero]
  go_enter Tryd.func105, Tryd.ntmps105
  go_wp2_with fail
  refine wp_loopF (β := Unit) (fun _ f => #[f 0, f 1, f 2, f 3, f 4, f 5, f 6, .slice A 0 c, .int .i64 0, .int .i64 0, f 10, f 11, f 12, f 13, f 14, f 15, f 16, f 17, f 18, f 19, f 20, f 21])
    (fun _ ds wr => ds = [] ∧ Below w.heap.size w wr ∧ Dn w wr) (fun _ => 0) () rfl ⟨rfl, (Below.refl _ _).alloc (Nat.le_refl _) _, Dn.refl _⟩ ?_
  rintro _ f ds wr ⟨rfl, hb, hd⟩
  dsimp only
  go_wp2_with fail
  go_ret2
  exact ⟨rfl, hb, hd⟩
set_option maxRecDepth 100000 in
set_option maxHeartbeats 2000000 in
theorem least_yes (v : Value) (N L : Nat) (w : World) (hs : IsSet w v N) (hL : N.testBit L = true) (hlo : ∀ j, j < L → N.testBit j = false) (hT : Tab w) :
    Calls Tryd.prog 105 #[.agg #[v]] w fun e w' => e = .returned (.tuple #[.int .i64 L, .bool true]) ∧ Below w.heap.size w w' ∧ Dn w w' := by
  obtain ⟨A, c, rfl, hN, hNc, _, h4⟩ := id hs
  have hN0 : N ≠ 0 := by rintro rfl; simp at hL
  have hLl : L < 64 * nw N := by
    by_cases h : L < 64 * nw N
    · exact h
    · rw [testBit_ge (Nat.le_refl _) (by omega)] at hL; cases hL
  have hn0 : 0 < nw N := by omega
  obtain ⟨g, cs, rfl, hg, hcs⟩ := h4 hn0
  clear h4
  go_enter Tryd.func105, Tryd.ntmps105
  go_wp2_with fail
  refine wp_loopF (β := Nat) (fun k f => #[f 0, f 1, f 2, f 3, f 4, f 5, f 6, .slice (some ⟨g, 0, none⟩) (nw N) c, .int .i64 (nw N : Int), .int .i64 (k : Int), f 10, f 11, f 12, f 13, f 14, f 15, f 16, f 17, f 18, f 19, f 20, f 21])
    (fun k ds wr => k ≤ nw N ∧ ds = [] ∧ Below w.heap.size w wr ∧ Dn w wr ∧ ∀ i, i < k → wd N i = 0) (fun k => nw N - k) 0 rfl ⟨Nat.zero_le _, rfl, (Below.refl _ _).alloc (Nat.le_refl _) _, Dn.refl _, fun i hi => by omega⟩ ?_
  rintro k f ds wr ⟨hk, rfl, hb, hd, hz⟩
  dsimp only at hk ⊢
  have HZ := Lib.hid hz; clear hz
  by_cases hlt : k < nw N
  · have cN := ((hg.below hb hg.lt).cell k).trans (hcs k hlt)
    have lg := (hg.below hb hg.lt).lt
    by_cases h0 : wd N k = 0
    · have e0 : ((wd N k : Int) != 0) = false := by simp [h0]
      have H0 := Lib.hid h0
      clear h0 hcs
      go_wp2_with fail
      exact ⟨k + 1, rfl, ⟨by omega, by first | rfl | trivial, hb, hd, fun i hi => by
        by_cases e : i = k
        · subst e; exact H0.out
        · exact HZ.out i (by omega)⟩, by omega⟩
    · obtain ⟨b, hbe, hb64, hbt, hblow, _⟩ := ctz_spec (wd N k) h0 (wd_lt N k)
      have htz := tz_any (wd N k) h0 (wd_lt N k) wr (fun j hj => onB hb (hT j hj))
      rw [hbe] at htz
      have hLe : 64 * k + b = L := by
        have h1 : N.testBit (64 * k + b) = true := by
          have := hbt; rw [testBit_wd] at this; simp at this; exact this.2
        rcases Nat.lt_trichotomy (64 * k + b) L with h | h | h
        · rw [hlo _ h] at h1; cases h1
        · exact h
        · -- L lies below: its word is zero, or the bit below b
          exfalso
          have hq : (wd N (L / 64)).testBit (L % 64) = true := by
            rw [testBit_wd, show 64 * (L / 64) + L % 64 = L by omega, hL]; simp; omega
          by_cases hlk : L / 64 < k
          · rw [HZ.out _ hlk] at hq; simp at hq
          · have e : L / 64 = k := by omega
            rw [e, hblow _ (by omega)] at hq; cases hq
      have e0 : ((wd N k : Int) != 0) = true := by rw [bne_iff_ne]; omega
      have HTZ := hideC htz
      have HLE := Lib.hid hLe
      clear h0 hcs htz hbt hblow hbe hlo hL hLe
      go_wp2_with fail
      refine HTZ.out.mono ?_
      rintro e w1 ⟨rfl, rfl⟩
      have e9 : (64 : Int) * (k : Int) + (b : Int) = (L : Int) := by have := HLE.out; omega
      go_wp2_with fail
      go_ret2
      exact ⟨by first | rfl | rw [e9], hb, hd⟩
  · obtain rfl : k = nw N := by omega
    exact absurd (wd_all HZ.out) hN0
/-! The order of the program. -/
def lecN (N M : Nat) : Int := if N = M then 0 else if lecR N M = true then -1 else 1
theorem lecN_lt (N M : Nat) : decide (lecN N M < 0) = lecR N M := by
  unfold lecN
  by_cases h : N = M
  · subst h; simp [lecR_irrefl]
  · rw [if_neg h]; cases lecR N M <;> simp
def symD (N M : Nat) : Nat := minusN N M ||| minusN M N
theorem testBit_symD (N M i : Nat) : (symD N M).testBit i = (N.testBit i != M.testBit i) := by
  unfold symD
  rw [Nat.testBit_or, testBit_minusN, testBit_minusN]
  cases N.testBit i <;> cases M.testBit i <;> rfl
theorem symD_yes {N M L : Nat} (h : (symD N M).testBit L = true) : N.testBit L = !M.testBit L := by
  rw [testBit_symD] at h
  cases h1 : N.testBit L <;> cases h2 : M.testBit L <;> rw [h1, h2] at h <;> first | rfl | cases h
theorem symD_same {N M j : Nat} (h : (symD N M).testBit j = false) : N.testBit j = M.testBit j := by
  rw [testBit_symD] at h
  cases h1 : N.testBit j <;> cases h2 : M.testBit j <;> rw [h1, h2] at h <;> first | rfl | cases h
theorem symD_self (N : Nat) : symD N N = 0 := Nat.eq_of_testBit_eq fun i => by rw [testBit_symD]; simp
theorem symD_low {N M : Nat} (h : N ≠ M) : ∃ L, (symD N M).testBit L = true ∧ ∀ j, j < L → (symD N M).testBit j = false := by
  have h0 : symD N M ≠ 0 := fun e => h (Nat.eq_of_testBit_eq fun i => by
    have := testBit_symD N M i
    rw [e, Nat.zero_testBit] at this
    cases h1 : N.testBit i <;> cases h2 : M.testBit i <;> simp_all)
  obtain ⟨L, h1, h2⟩ := least_ex (p := fun i => (symD N M).testBit i = true) _ (Nat.testBit_log2 h0)
  refine ⟨L, h1, fun j hj => ?_⟩
  cases hb : (symD N M).testBit j with
  | false => rfl
  | true => have := h2 j hb; omega
namespace Mix2
set_option maxRecDepth 100000 in
set_option maxHeartbeats 4000000 in
theorem lectic_b (v u : Value) (N M : Nat) (w : World) (hs : IsSet w v N) (ho : IsSet w u M) (hT : Tab w) :
    Calls Tryd.prog 67 #[.agg #[v], .agg #[u]] w fun e w' => e = .returned (.int .i64 (lecN N M)) ∧ Below w.heap.size w w' ∧ Dn w w' := by
  obtain ⟨A, c, rfl, _⟩ := id hs
  obtain ⟨A', c', rfl, _⟩ := id ho
  go_enter Tryd.func67, Tryd.ntmps67
  go_wp2_with fail
  refine dabs2 fun W0 hA hB hb0 hd0 => ?_
  have a0 := hA.cell 0
  have b0 := hB.cell 0
  refine wp_mix (fun V => Below W0.heap.size W0 V) 13 (by kernel_rfl) (by kernel_rfl) (Below.refl _ _).drew ?_
  have hr : Below W0.heap.size W0 W0.drew := (Below.refl _ _).drew
  have hd : Dn w W0.drew := hd0.drew
  obtain ⟨w1, hw⟩ : ∃ V, V = W0.drew := ⟨_, rfl⟩
  rw [← hw] at hr hd ⊢
  clear hw
  have k := hb0.trans (hr.mono hb0.size)
  (refine m_q 0 (v := ?_) (by kernel_rfl) rfl rfl (fun W hW => ?_) ?_; rotate_left; (have z0 := onB hW a0; have z1 := onB hW b0; go_simp; first | done | with_reducible rfl); simp only [Act.put, List.setIfInBounds_toArray, List.set_cons_zero, List.set_cons_succ]); (refine m_q 1 (v := ?_) (by kernel_rfl) rfl rfl (fun W hW => ?_) ?_; rotate_left; (have z0 := onB hW a0; have z1 := onB hW b0; go_simp; first | done | with_reducible rfl); simp only [Act.put, List.setIfInBounds_toArray, List.set_cons_zero, List.set_cons_succ]); (refine m_q 3 (v := ?_) (by kernel_rfl) rfl rfl (fun W hW => ?_) ?_; rotate_left; (have z0 := onB hW a0; have z1 := onB hW b0; go_simp; first | done | with_reducible rfl); simp only [Act.put, List.setIfInBounds_toArray, List.set_cons_zero, List.set_cons_succ]); (refine m_q 4 (v := ?_) (by kernel_rfl) rfl rfl (fun W hW => ?_) ?_; rotate_left; (have z0 := onB hW a0; have z1 := onB hW b0; go_simp; first | done | with_reducible rfl); simp only [Act.put, List.setIfInBounds_toArray, List.set_cons_zero, List.set_cons_succ])
  refine m_s1 2 (by kernel_rfl) rfl ?_
  go_wp2_with fail
  refine (minus_g _ _ N M _ (hs.below k) (ho.below k)).mono ?_
  rintro e w2 ⟨r1, rfl, s1, hb, hd2⟩
  obtain ⟨A1, c1, rfl, _⟩ := id s1
  replace hr := hr.trans (hb.mono hr.size); replace k := k.trans (hb.mono k.size); replace hd := hd.trans hd2
  go_wp2_with fail
  refine m_keep hr ?_
  refine m_s1 5 (by kernel_rfl) rfl ?_
  go_wp2_with fail
  refine (minus_g _ _ M N _ (ho.below k) (hs.below k)).mono ?_
  rintro e w3 ⟨r2, rfl, s2, hb, hd2⟩
  obtain ⟨A2, c2, rfl, _⟩ := id s2
  replace s1 := s1.below hb
  replace hr := hr.trans (hb.mono hr.size); replace k := k.trans (hb.mono k.size); replace hd := hd.trans hd2
  go_wp2_with fail
  refine m_keep hr ?_
  refine m_s1 6 (by kernel_rfl) rfl ?_
  go_wp2_with fail
  refine (or_g _ _ (minusN N M) (minusN M N) _ s1 s2).mono ?_
  rintro e w4 ⟨r3, rfl, s3, hb, hd2⟩
  obtain ⟨A3, c3, rfl, _⟩ := id s3
  replace hr := hr.trans (hb.mono hr.size); replace k := k.trans (hb.mono k.size); replace hd := hd.trans hd2
  go_wp2_with fail
  refine m_keep hr ?_
  have hT4 := hT.below k
  by_cases hne : N = M
  · subst hne
    have e3 : minusN N N ||| minusN N N = 0 := symD_self N
    rw [e3] at s3 ⊢
    refine m_s1 7 (by kernel_rfl) rfl ?_
    go_wp2_with fail
    refine (least_no _ _ s3).mono ?_
    rintro e w5 ⟨rfl, hb, hd2⟩
    replace hr := hr.trans (hb.mono hr.size); replace k := k.trans (hb.mono k.size); replace hd := hd.trans hd2
    go_wp2_with fail
    refine m_keep hr ?_
    (refine m_q 8 (v := ?_) (by kernel_rfl) rfl rfl (fun W hW => ?_) ?_; rotate_left; (go_simp; first | done | with_reducible rfl); simp only [Act.put, List.setIfInBounds_toArray, List.set_cons_zero, List.set_cons_succ]); (refine m_q 9 (v := ?_) (by kernel_rfl) rfl rfl (fun W hW => ?_) ?_; rotate_left; (go_simp; first | done | with_reducible rfl); simp only [Act.put, List.setIfInBounds_toArray, List.set_cons_zero, List.set_cons_succ]); (refine m_q 10 (v := ?_) (by kernel_rfl) rfl rfl (fun W hW => ?_) ?_; rotate_left; (go_simp; first | done | with_reducible rfl); simp only [Act.put, List.setIfInBounds_toArray, List.set_cons_zero, List.set_cons_succ]); (refine m_q 11 (v := ?_) (by kernel_rfl) rfl rfl (fun W hW => ?_) ?_; rotate_left; (go_simp; first | done | with_reducible rfl); simp only [Act.put, List.setIfInBounds_toArray, List.set_cons_zero, List.set_cons_succ]); (refine m_q 12 (v := ?_) (by kernel_rfl) rfl rfl (fun W hW => ?_) ?_; rotate_left; (go_simp; first | done | with_reducible rfl); simp only [Act.put, List.setIfInBounds_toArray, List.set_cons_zero, List.set_cons_succ])
    refine m_end (by kernel_rfl) ?_
    go_wp2_with fail
    go_ret
    exact ⟨ret_int (by unfold lecN; rw [if_pos rfl]), k, hd⟩
  · obtain ⟨L, hL, hlo⟩ := symD_low hne
    have HLL := Lib.hid hL; have HLO := Lib.hid hlo
    have hL4 : L ≤ 4095 := by
      by_cases h : L ≤ 4095
      · exact h
      · obtain ⟨_, _, _, hn, _⟩ := id s3
        rw [symD, testBit_big hn (by omega)] at hL; cases hL
    clear hL hlo
    refine m_s1 7 (by kernel_rfl) rfl ?_
    go_wp2_with fail
    refine (least_yes _ _ L _ s3 HLL.out HLO.out hT4).mono ?_
    rintro e w5 ⟨rfl, hb, hd2⟩
    replace hr := hr.trans (hb.mono hr.size); replace k := k.trans (hb.mono k.size); replace hd := hd.trans hd2
    go_wp2_with fail
    refine m_keep hr ?_
    (refine m_q 8 (v := ?_) (by kernel_rfl) rfl rfl (fun W hW => ?_) ?_; rotate_left; (go_simp; first | done | with_reducible rfl); simp only [Act.put, List.setIfInBounds_toArray, List.set_cons_zero, List.set_cons_succ]); (refine m_q 9 (v := ?_) (by kernel_rfl) rfl rfl (fun W hW => ?_) ?_; rotate_left; (go_simp; first | done | with_reducible rfl); simp only [Act.put, List.setIfInBounds_toArray, List.set_cons_zero, List.set_cons_succ]); (refine m_q 10 (v := ?_) (by kernel_rfl) rfl rfl (fun W hW => ?_) ?_; rotate_left; (go_simp; first | done | with_reducible rfl); simp only [Act.put, List.setIfInBounds_toArray, List.set_cons_zero, List.set_cons_succ]); (refine m_q 11 (v := ?_) (by kernel_rfl) rfl rfl (fun W hW => ?_) ?_; rotate_left; (go_simp; first | done | with_reducible rfl); simp only [Act.put, List.setIfInBounds_toArray, List.set_cons_zero, List.set_cons_succ]); (refine m_q 12 (v := ?_) (by kernel_rfl) rfl rfl (fun W hW => ?_) ?_; rotate_left; (go_simp; first | done | with_reducible rfl); simp only [Act.put, List.setIfInBounds_toArray, List.set_cons_zero, List.set_cons_succ])
    refine m_end (by kernel_rfl) ?_
    have c0 := onB hr b0
    have hho := ho.below k
    cases hm : M.testBit L with
    | true =>
      have HM := Lib.hid hm
      have hh := has_g _ M L w5 hho hL4
      rw [hm] at hh
      have HH := hideC hh
      clear hm hh
      go_wp2_with fail
      refine HH.out.mono ?_
      rintro e w6 ⟨rfl, hg6⟩
      go_wp2_with fail
      go_ret
      exact ⟨ret_int (by
        have hn : N.testBit L = false := by rw [symD_yes HLL.out, HM.out]; rfl
        have hj : ∀ j, j < L → N.testBit j = M.testBit j := fun j hj => symD_same (HLO.out j hj)
        unfold lecN
        rw [if_neg hne, if_pos (lecR_at L N M hj hn HM.out)]), k.trans (hg6.below.mono k.size), hd.trans hg6.dn⟩
    | false =>
      have HM := Lib.hid hm
      have hh := has_g _ M L w5 hho hL4
      rw [hm] at hh
      have HH := hideC hh
      clear hm hh
      go_wp2_with fail
      refine HH.out.mono ?_
      rintro e w6 ⟨rfl, hg6⟩
      go_wp2_with fail
      go_ret
      exact ⟨ret_int (by
        have hn : N.testBit L = true := by rw [symD_yes HLL.out, HM.out]; rfl
        have hj : ∀ j, j < L → M.testBit j = N.testBit j := fun j hj => (symD_same (HLO.out j hj)).symm
        unfold lecN
        rw [if_neg hne, if_neg (by rw [lecR_asymm _ _ (lecR_at L M N hj HM.out hn)]; simp)]), k.trans (hg6.below.mono k.size), hd.trans hg6.dn⟩
end Mix2
theorem lectic_g (v u : Value) (N M : Nat) (w : World) (hs : IsSet w v N) (ho : IsSet w u M) (hT : Tab w) :
    Calls Tryd.prog 67 #[.agg #[v], .agg #[u]] w fun e w' => e = .returned (.int .i64 (lecN N M)) ∧ Gw w w' := by
  refine (Mix2.lectic_b v u N M w hs ho hT).mono ?_
  rintro e w' ⟨rfl, hb, hd⟩
  exact ⟨rfl, Gw.of hb hd⟩
end Go.Proofs.YtgpooflcbljidaaDoor

/-
  slices.SortFunc over rank.lectic: a row of sets, in lectic order.
-/
namespace Go.Proofs.YtgpooflcbljidaaDoor
open Go.RowKit

/-- A set of the world w. -/
abbrev SetIn (w : World) := { x : Value × Nat // IsSet w x.1 x.2 }
@[reducible] def setInh (w : World) : Inhabited (SetIn w) := ⟨⟨(.slice none 0 0, 0), IsSet.empty w⟩⟩
def encS (w : World) (x : SetIn w) : List Value := [x.1.1]
def cmpS (w : World) (x y : SetIn w) : Int := lecN x.1.2 y.1.2
theorem ltOf_S (w : World) (x y : SetIn w) : Go.Proofs.ltOf (cmpS w) x y = lecR x.1.2 y.1.2 := by
  unfold Go.Proofs.ltOf cmpS
  exact lecN_lt _ _
theorem swo_S (w : World) : Go.Sort.SWO (Go.Proofs.ltOf (cmpS w)) where
  irrefl x := by rw [ltOf_S]; exact lecR_irrefl _
  trans x y z h1 h2 := by rw [ltOf_S] at *; exact lecR_trans _ _ _ h1 h2
  ntrans x y z h1 h2 := by
    rw [ltOf_S] at *
    cases h : lecR x.1.2 z.1.2
    · rfl
    · by_cases e1 : x.1.2 = y.1.2
      · rw [e1, h2] at h; cases h
      · have a := lecR_total _ _ e1 h1
        by_cases e2 : y.1.2 = z.1.2
        · rw [e2] at a; rw [lecR_asymm _ _ a] at h; cases h
        · have b := lecR_total _ _ e2 h2
          have c := lecR_trans _ _ _ b a
          rw [lecR_asymm _ _ c] at h; cases h
section
variable {α : Type} [Inhabited α]
/-- A world of the sort's: blocks but the row's are as they were. -/
theorem sortWorld_heap (enc : α → List Value) (k : Nat) (w : World) (blk off m : Nat) (d : Array α) (os : Array Obj) {g : Nat} (hg : g < w.heap.size) (hne : g ≠ blk) : (Go.Proofs.sortWorldK enc k w blk off m d os).heap[g]? = w.heap[g]? := by
  unfold Go.Proofs.sortWorldK
  rw [Go.Sort.heap_grow_old _ _ (by simpa [Go.Sort.putRowK, Go.Sort.putRow, Go.Sort.mapBlock, Go.Sort.ahead] using hg)]
  unfold Go.Sort.putRowK Go.Sort.putRow Go.Sort.mapBlock Go.Sort.ahead
  dsimp only
  rw [Array.getElem?_modify, if_neg (fun e => hne e.symm)]
theorem sortWorld_size (enc : α → List Value) (k : Nat) (w : World) (blk off m : Nat) (d : Array α) (os : Array Obj) : w.heap.size ≤ (Go.Proofs.sortWorldK enc k w blk off m d os).heap.size := by
  simp [Go.Proofs.sortWorldK, Go.Sort.putRowK, Go.Sort.putRow, Go.Sort.mapBlock, Go.Sort.ahead, Go.Sort.grow]
theorem sortWorld_keep (enc : α → List Value) (k : Nat) (w : World) (blk off m : Nat) (d : Array α) (os : Array Obj) {t : TypeId} {cs : Array Value} (hB : Blk w blk t cs) (ht : 72 ≠ t) : KeepW w (Go.Proofs.sortWorldK enc k w blk off m d os) :=
  ⟨sortWorld_size enc k w blk off m d os, fun _ _ h => (sortWorld_heap enc k w blk off m d os h.lt (h.ne_ hB ht)).trans h⟩
theorem sortWorld_below (enc : α → List Value) (k : Nat) (w : World) (blk off m : Nat) (d : Array α) (os : Array Obj) (hb : blk < w.heap.size) : Below blk w (Go.Proofs.sortWorldK enc k w blk off m d os) :=
  ⟨rfl, rfl, rfl, sortWorld_size enc k w blk off m d os, fun g hg => sortWorld_heap enc k w blk off m d os (by omega) (by omega)⟩
end
theorem isAggS (W : World) : (isAgg 66).run Tryd.prog W = .ok true W := by kernel_rfl
theorem sizeOfS (W : World) : (Go.sizeOf 66).run Tryd.prog W = .ok 1 W := by kernel_rfl
theorem cmpLays_S (w : World) (blk size : Nat) {t : TypeId} {cs : Array Value} (hB : Blk w blk t cs) (ht : 72 ≠ t) (ht2 : blk ≠ 0) (hT : Tab w) : letI := setInh w; Go.Proofs.CmpLays Tryd.prog 67 #[] (encS w) 1 (cmpS w) blk 0 size w := by
  letI := setInh w
  intro m os dk hs x y
  have hk := sortWorld_keep (encS w) 1 w blk 0 m dk os hB ht
  have hT' : Tab (Go.Proofs.sortWorldK (encS w) 1 w blk 0 m dk os) := fun j hj => by
    have h := hT j hj
    exact (World.cell?_of_block (sortWorld_heap (encS w) 1 w blk 0 m dk os (cell_lt h) (Ne.symm ht2))).trans h
  exact lectic_g x.1.1 y.1.1 x.1.2 y.1.2 _ (x.2.keep hk) (y.2.keep hk) hT'
/-- A row of sets, sorted. -/
theorem sort_sets (g : Nat) (cs : Array Value) (vs : List Value) (Ns : List Nat) (cap : Nat) (w : World) (hB : Blk w g 66 cs) (hv : ∀ (k : Nat) u, vs[k]? = some u → cs[k]? = some u) (hs : Sets w vs Ns) (hT : Tab w) (hsz : vs.length < 4611686018427387904) (hg : g ≠ 0) :
    Calls Tryd.prog 66 #[.slice (some ⟨g, 0, none⟩) vs.length cap, .func (.func 67) #[] #[]] w fun e w' => e = .returned (.tuple #[]) ∧
      ∃ vs' Ns', Ns'.Perm Ns ∧ Ns'.Pairwise (fun a b => lecR b a = false) ∧ vs'.length = vs.length ∧ Row w' (some ⟨g, 0, none⟩) vs' ∧ Sets w' vs' Ns' ∧ Below g w w' ∧ KeepW w w' := by
  letI := setInh w
  have hl := hs.1
  have hset : ∀ k, (h : k < vs.length) → IsSet w vs[k] (Ns[k]'(by omega)) := fun k h => hs.2 k _ _ (List.getElem?_eq_getElem h) (List.getElem?_eq_getElem (by omega))
  let d : Array (SetIn w) := Array.ofFn (n := vs.length) fun k => ⟨(vs[k.1], Ns[k.1]'(by have := k.2; omega)), hset k.1 k.2⟩
  have hd : d.size = vs.length := by simp [d]
  have hdv : d.toList.map (fun x => x.1.1) = vs := by
    apply List.ext_getElem
    · simp [d]
    · intro i h1 h2; simp [d]
  have hdN : d.toList.map (fun x => x.1.2) = Ns := by
    apply List.ext_getElem
    · simp [d, hl]
    · intro i h1 h2; simp [d]
  have hH : Go.Sort.HoldsK (encS w) 1 w g 0 d := by
    intro j hj
    rw [Go.Sort.size_flatK] at hj
    have hj' : j < vs.length := by omega
    refine ⟨?_, hB.frozen _⟩
    rw [Go.Sort.get_flatK _ _ _ _ hj, Nat.zero_add, hB.cell, Nat.div_one, Nat.mod_one]
    have h1 := hv j _ (List.getElem?_eq_getElem hj')
    rw [h1]
    show some _ = some (id ([d[j]!.1.1][0]!))
    rw [getElem!_pos d j (by omega)]
    simp [d]
  clear_value d
  have hcon := AnyQ.slices_SortFunc Tryd.sortSet 1 isAggS sizeOfS (encS w) (fun _ => rfl) (fun x v hx => by
    obtain ⟨A, c, e, _⟩ := x.2
    simp only [encS, List.mem_singleton] at hx
    rw [hx, e]; rfl) (cmpS w) (swo_S w) 67 #[] g 0 cap d w (enters_of Tryd.func67 (by kernel_rfl) rfl) (cmpLays_S w g d.size hB (by decide) hg hT) hH hB.lt (by omega)
  rw [hd] at hcon
  refine Calls.mono hcon ?_
  rintro e w' ⟨rfl, d', n', os, ⟨hps, _, hperm⟩, hsort, rfl⟩
  have hk := sortWorld_keep (encS w) 1 w g 0 n' d' os hB (by decide)
  have hp : d'.toList.Perm d.toList := by
    have e1 : d'.extract 0 vs.length = d' := by rw [← hd, ← hps]; simp
    have e2 : d.extract 0 vs.length = d := by rw [← hd]; simp
    rwa [e1, e2] at hperm
  refine ⟨rfl, d'.toList.map (fun x => x.1.1), d'.toList.map (fun x => x.1.2), by rw [← hdN]; exact hp.map _, ?_, by simp [hps, hd], ?_, ?_, sortWorld_below _ _ _ _ _ _ _ _ hB.lt, hk⟩
  · rw [List.pairwise_map, List.pairwise_iff_getElem]
    intro i j hi hj hij
    rw [Array.length_toList] at hi hj
    have := hsort i j (Nat.zero_le _) hij (by omega)
    rw [ltOf_S, getElem!_pos d' i hi, getElem!_pos d' j hj] at this
    simpa using this
  · intro hn
    refine ⟨g, 0, rfl, Nat.lt_of_lt_of_le hB.lt (sortWorld_size _ _ _ _ _ _ _ _), fun k u hu => ?_⟩
    rw [List.getElem?_map] at hu
    obtain ⟨x, hx, rfl⟩ := Option.map_eq_some_iff.1 hu
    have hkd : k < d'.size := by have := (List.getElem?_eq_some_iff.1 hx).1; rwa [Array.length_toList] at this
    have hc := Go.Sort.cell?_putRow id (Go.Sort.ahead w n') g 0 (Go.Sort.flatK (encS w) 1 d) (Go.Sort.flatK (encS w) 1 d') (fun j hj => hH j hj) (by rw [Go.Sort.size_flatK, Go.Sort.size_flatK, hps]) k (by rw [Go.Sort.size_flatK]; omega)
    unfold Go.Proofs.sortWorldK
    rw [Go.Sort.cell?_grow _ _ _ (by simpa [Go.Sort.putRowK, Go.Sort.putRow, Go.Sort.mapBlock, Go.Sort.ahead] using hB.lt)]
    unfold Go.Sort.putRowK
    rw [hc, Go.Sort.get_flatK _ _ _ _ (by omega), Nat.div_one, Nat.mod_one, getElem!_pos d' k hkd]
    have e : d'[k] = x := by
      have := (List.getElem?_eq_some_iff.1 hx).2
      rw [← this]; simp
    rw [e]; rfl
  · refine ⟨by simp, fun k v N hv' hN => ?_⟩
    rw [List.getElem?_map] at hv' hN
    obtain ⟨x, hx, rfl⟩ := Option.map_eq_some_iff.1 hv'
    rw [hx] at hN
    cases hN
    exact x.2.keep hk
end Go.Proofs.YtgpooflcbljidaaDoor

/-
  rank.Concepts: the concepts that contain a cell, in lectic order.
-/
namespace Go.Proofs.YtgpooflcbljidaaDoor
open Go.RowKit

theorem bit_form (n i : Nat) (hn : n < 2 ^ 62) : (bits .and .i64 ((n : Int) / 2 ^ i) 1 == 1) = n.testBit i := by
  have e : ((n : Int) / 2 ^ i) = ((n / 2 ^ i : Nat) : Int) := by simp
  have hx : n / 2 ^ i < 2 ^ 63 := Nat.lt_of_le_of_lt (Nat.div_le_self _ _) (by omega)
  have e2 : bits .and .i64 ((n / 2 ^ i : Nat) : Int) 1 = ((n / 2 ^ i % 2 : Nat) : Int) := by
    generalize n / 2 ^ i = x at hx
    show IntKind.i64.wrap ((BitVec.ofInt 64 (x : Int) &&& BitVec.ofInt 64 1).toNat : Int) = _
    rw [BitVec.toNat_and, show (BitVec.ofInt 64 1).toNat = 2 ^ 1 - 1 by decide, Nat.and_two_pow_sub_one_eq_mod, IntKind.wrap_i64]
    have : (BitVec.ofInt 64 (x : Int)).toNat = x := by
      rw [BitVec.toNat_ofInt]; omega
    rw [this]
    omega
  rw [e, e2, Bool.eq_iff_iff, ← testBit_mod]
  simp only [beq_iff_eq]
  omega
/-- What the program makes of the concepts: nothing where the cell is no one, or its row has more than 12 ones. -/
def conP (C : Nat) (Ns : List Nat) (i j : Int) : List Nat := if mhas C Ns i j = true ∧ card (mrow Ns i) ≤ 12 then conL C Ns i.toNat j.toNat else []
/-- The sets that the program tries: the column j and the n-th subset of the others. -/
def tryS (j : Nat) (K n : Nat) : Nat := 2 ^ j ||| subN (mems K) n
def candL (C : Nat) (Ns : List Nat) (j K : Nat) (n : Nat) : List Nat := ((List.range n).map (tryS j K)).filter fun s => decide (cloN C Ns s = s &&& lowN C)
theorem candL_succ (C : Nat) (Ns : List Nat) (j K n : Nat) : candL C Ns j K (n + 1) = if cloN C Ns (tryS j K n) = tryS j K n &&& lowN C then candL C Ns j K n ++ [tryS j K n] else candL C Ns j K n := by
  unfold candL
  rw [List.range_succ, List.map_append, List.filter_append]
  by_cases h : cloN C Ns (tryS j K n) = tryS j K n &&& lowN C
  · rw [if_pos h]; simp [h]
  · rw [if_neg h]; simp [h]
theorem candL_le (C : Nat) (Ns : List Nat) (j K n : Nat) : (candL C Ns j K n).length ≤ n := by
  unfold candL; exact Nat.le_trans (List.length_filter_le _ _) (by simp)
theorem tryS_bit (j K n x : Nat) : (tryS j K n).testBit x = true ↔ x = j ∨ (subN (mems K) n).testBit x = true := by
  unfold tryS
  rw [Nat.testBit_or, Bool.or_eq_true, Nat.testBit_two_pow, decide_eq_true_eq]
  constructor <;> rintro (h | h) <;> simp [h]
section
variable {C : Nat} {Ns : List Nat} {i j D K : Nat}
theorem tryS_inj (hK : K.testBit j = false) {n m : Nat} (hn : n < 2 ^ (mems K).length) (hm : m < 2 ^ (mems K).length) (h : tryS j K n = tryS j K m) : n = m := by
  have key : ∀ x, (subN (mems K) x).testBit j = false := fun x => by
    cases hb : (subN (mems K) x).testBit j with
    | false => rfl
    | true => have := subN_mems K x hb; rw [hK] at this; cases this
  refine subN_inj hn hm (nat_ext fun y => ?_)
  have h1 := tryS_bit j K n y
  rw [h, tryS_bit] at h1
  by_cases e : y = j
  · subst e; rw [key, key]
  · simp only [e, false_or] at h1; exact h1.symm
theorem candL_nodup (hK : K.testBit j = false) : (candL C Ns j K (2 ^ (mems K).length)).Nodup := by
  unfold candL
  refine List.Pairwise.filter _ ?_
  rw [List.pairwise_map]
  have h : (List.range (2 ^ (mems K).length)).Pairwise (fun a b => a < b) := List.pairwise_lt_range
  refine h.imp_of_mem fun {a b} ha hb hab e => ?_
  have := tryS_inj hK (List.mem_range.1 ha) (List.mem_range.1 hb) e
  omega
/-- All of them are tried. -/
theorem mem_candL (hl : Ns.length ≤ 4096) (hi : i < Ns.length) (hD : ∀ x, D.testBit x = true ↔ (Ns.getD i 0).testBit x = true) (hDC : ∀ x, D.testBit x = true → x < C) (hj : D.testBit j = true) (hK : ∀ x, K.testBit x = true ↔ D.testBit x = true ∧ x ≠ j) (s : Nat) :
    s ∈ candL C Ns j K (2 ^ (mems K).length) ↔ s ∈ conL C Ns i j := by
  have hin : ∀ s, (∀ x, s.testBit x = true → x < C) → ((havN C Ns s).testBit i = true ↔ ∀ x, s.testBit x = true → D.testBit x = true) := fun s hs => by
    rw [testBit_havN C Ns hl]
    exact ⟨fun h x hx => (hD x).2 (h.2 x hx (hs x hx)), fun h => ⟨hi, fun x hx _ => (hD x).1 (h x hx)⟩⟩
  have hlow : ∀ s, (∀ x, s.testBit x = true → x < C) → s &&& lowN C = s := fun s hs => nat_ext fun x => by
    rw [Nat.testBit_and, testBit_lowN, Bool.and_eq_true, decide_eq_true_eq]
    exact ⟨fun h => h.1, fun h => ⟨h, hs x h⟩⟩
  rw [mem_conL]
  unfold candL inC
  rw [List.mem_filter, List.mem_map, decide_eq_true_eq, Bool.and_eq_true, Bool.and_eq_true, decide_eq_true_eq]
  constructor
  · rintro ⟨⟨n, hn, rfl⟩, hc⟩
    have hsub : ∀ x, (tryS j K n).testBit x = true → D.testBit x = true := fun x hx => by
      rcases (tryS_bit j K n x).1 hx with rfl | h
      · exact hj
      · exact ((hK x).1 (subN_mems K n h)).1
    have hsc : ∀ x, (tryS j K n).testBit x = true → x < C := fun x hx => hDC x (hsub x hx)
    rw [hlow _ hsc] at hc
    exact ⟨⟨hc, (tryS_bit j K n j).2 (Or.inl rfl)⟩, (hin _ hsc).2 hsub⟩
  · rintro ⟨⟨hc, hjs⟩, hi'⟩
    have hsc : ∀ x, s.testBit x = true → x < C := fun x hx => comN_lt (by rw [cloN] at hc; rw [hc]; exact hx)
    have hsub := (hin s hsc).1 hi'
    refine ⟨?_, by rw [hlow _ hsc]; exact hc⟩
    obtain ⟨n, hn, e⟩ := subN_onto (K := K) (S := s &&& K) fun x hx => by rw [Nat.testBit_and, Bool.and_eq_true] at hx; exact hx.2
    refine ⟨n, List.mem_range.2 hn, nat_ext fun x => ?_⟩
    rw [tryS_bit, e, Nat.testBit_and, Bool.and_eq_true]
    constructor
    · rintro (rfl | h)
      · exact hjs
      · exact h.1
    · intro hx
      by_cases ex : x = j
      · exact Or.inl ex
      · exact Or.inr ⟨hx, (hK x).2 ⟨hsub x hx, ex⟩⟩
end
theorem lec_of {Ls K : List Nat} (hp : Ls.Perm K) (hK : K.Nodup) (h : Ls.Pairwise (fun a b => lecR b a = false)) : Lec Ls := by
  have hn : Ls.Pairwise (· ≠ ·) := hp.nodup_iff.2 hK
  exact (hn.and h).imp fun {a b} hab => lecR_total b a (Ne.symm hab.1) hab.2
theorem mhas_parts {C : Nat} {Ns : List Nat} {i j : Int} (h : mhas C Ns i j = true) : ∃ a b : Nat, i = a ∧ j = b ∧ a < Ns.length ∧ b < C ∧ (Ns.getD a 0).testBit b = true := by
  unfold mhas insideB at h
  rw [Bool.and_eq_true, decide_eq_true_eq] at h
  exact ⟨i.toNat, j.toNat, by omega, by omega, by omega, by omega, h.2⟩
theorem res3 {P : Program} {f : FuncId} {args : Array Value} {w : World} {N N' : Nat} (hN : N = N') (h : Calls P f args w fun e w' => ∃ r, e = .returned (.agg #[r]) ∧ IsSet w' r N ∧ Below w.heap.size w w') :
    Calls P f args w fun e w' => ∃ A n c, e = .returned (.agg #[.slice A n c]) ∧ IsSet w' (.slice A n c) N' ∧ Below w.heap.size w w' := by
  refine h.mono ?_
  rintro e w' ⟨r, rfl, hr, hb⟩
  obtain ⟨A, c, rfl, _⟩ := id hr
  rw [← hN]
  exact ⟨_, _, _, rfl, hr, hb⟩
theorem has_v {w : World} {m : Option Addr} {C : Nat} {Ns : List Nat} (h : IsMV w m C Ns) (i j : Int) :
    Calls Tryd.prog 23 #[.pointer m, .int .i64 i, .int .i64 j] w fun e w' => e = .returned (.bool (mhas C Ns i j)) ∧ Below w.heap.size w w' := by
  rcases h with ⟨rfl, rfl, rfl⟩ | ⟨p, rfl, h⟩
  · refine (hasm_nil i j w).mono ?_
    rintro e w' ⟨rfl, rfl⟩
    refine ⟨ret_bool ?_, Below.refl _ _⟩
    rw [eq_comm]; unfold mhas insideB; rw [decide_eq_false (by simp)]; rfl
  · exact hasm_any p C Ns i j w h
set_option maxRecDepth 100000 in
set_option maxHeartbeats 2000000 in
theorem conc_no (m : Option Addr) (C : Nat) (Ns : List Nat) (i j : Int) (w : World) (h : IsMV w m C Ns) (hn : ¬ (mhas C Ns i j = true ∧ card (mrow Ns i) ≤ 12)) :
    Calls Tryd.prog 22 #[.pointer m, .int .i64 i, .int .i64 j] w fun e w' => e = .returned (.slice none 0 0) ∧ Below w.heap.size w w' := by
  have HH := hideC (has_v h i j)
  go_enter Tryd.func22, Tryd.ntmps22
  go_wp2_with fail
  refine HH.out.mono ?_
  cases hm : mhas C Ns i j with
  | false =>
    rintro e w1 ⟨rfl, hb⟩
    go_wp2_with fail
    go_ret
    exact ⟨rfl, hb⟩
  | true =>
    rw [hm] at hn
    have hc : 12 < card (mrow Ns i) := by simpa using hn
    obtain ⟨a, b, rfl, rfl, ha, hb', _⟩ := mhas_parts hm
    rintro e w1 ⟨rfl, hb⟩
    have hrow := row_v (h.below hb) ha
    rw [mrow, if_pos (by omega), Int.toNat_natCast] at hc
    generalize Ns.getD a 0 = D at hrow hc
    have HR := hideC hrow
    clear hm hn hrow
    go_wp2_with fail
    refine HR.out.mono ?_
    rintro e w2 ⟨r, rfl, hr, hb2⟩
    have HL := hideC (len_any _ _ w2 hr)
    obtain ⟨cd, hcd⟩ : ∃ x, x = card D := ⟨_, rfl⟩
    rw [← hcd] at HL hc
    clear hcd
    obtain ⟨A, c, rfl, _⟩ := id hr
    have b2 := hb.trans (hb2.mono hb.size)
    go_wp2_with fail
    refine HL.out.mono ?_
    rintro e w3 ⟨rfl, hb3⟩
    go_wp2_with fail
    go_ret
    exact ⟨rfl, b2.trans (hb3.mono b2.size)⟩
theorem card_mem_le (K x : Nat) (h : K.testBit x = true) (w : World) (A : Option Addr) (n c : Nat) (hs : IsSet w (.slice A n c) K) : x ≤ 4095 := by
  by_cases hh : x ≤ 4095
  · exact hh
  · obtain ⟨_, _, _, hnk, _⟩ := id hs
    rw [testBit_big hnk (by omega)] at h; cases h
set_option maxRecDepth 100000 in
set_option maxHeartbeats 8000000 in
theorem conc_yes (p C : Nat) (Ns : List Nat) (i j : Nat) (w : World) (h : IsMat w p C Ns) (hin : rowsIn C Ns) (hi : i < Ns.length) (hj : j < C) (hbit : (Ns.getD i 0).testBit j = true) (hc : card (Ns.getD i 0) ≤ 12) (hT : Tab w) :
    Calls Tryd.prog 22 #[ptr p, .int .i64 i, .int .i64 j] w fun e w' => ∃ A n c vs, e = .returned (.slice A n c) ∧ n = (conL C Ns i j).length ∧ Row w' A vs ∧ Sets w' vs (conL C Ns i j) ∧ Below w.heap.size w w' := by
  have hlN : Ns.length ≤ 4096 := h.2.1
  have hC4 : C ≤ 4096 := h.1
  have hhas := hasm_any p C Ns i j w h
  rw [mhas_at hi hj, hbit] at hhas
  have hrow : ∀ W, Below w.heap.size w W → _ := fun W hb => row_any p C Ns i W (h.below hb)
  rw [mrow, if_pos (by omega), Int.toNat_natCast] at hrow
  have hDC : ∀ x, (Ns.getD i 0).testBit x = true → x < C := fun x hx => by
    have := hin i hi
    rw [← this, Nat.testBit_and, testBit_lowN, Bool.and_eq_true, decide_eq_true_eq] at hx
    exact hx.2
  have hDe : ∀ x, (Ns.getD i 0).testBit x = true ↔ (Ns.getD i 0).testBit x = true := fun _ => Iff.rfl
  have hmc := fun K hK => mem_candL (C := C) (D := Ns.getD i 0) (K := K) hlN hi hDe hDC hbit hK
  generalize Ns.getD i 0 = D at hhas hrow hDC hmc hbit hc
  have hwo : withoutB D (j : Int) = D ^^^ 2 ^ j := by unfold withoutB hasB; simp [hbit]
  have hKb : ∀ x, (D ^^^ 2 ^ j).testBit x = true ↔ D.testBit x = true ∧ x ≠ j := fun x => by rw [testBit_without hbit, Bool.and_eq_true, decide_eq_true_eq]
  obtain ⟨K, hK⟩ : ∃ K, K = D ^^^ 2 ^ j := ⟨_, rfl⟩
  rw [← hK] at hwo hKb
  have hKj : K.testBit j = false := by
    cases hb : K.testBit j with
    | false => rfl
    | true => exact absurd rfl ((hKb j).1 hb).2
  have hcK : card K ≤ 12 := by
    rw [← mems_len] at hc ⊢
    exact Nat.le_trans (List.Nodup.length_le_of_subset (mems_nodup K) fun x hx => mem_mems.2 ((hKb x).1 (mem_mems.1 hx)).1) hc
  have HMC := Lib.hid (hmc K hKb)
  have HKJ := Lib.hid hKj
  have HWO := Lib.hid hwo
  have HH := hideC hhas
  have HR := Lib.hid hrow
  have HLC := hideC (fun W r hr => len_any r D W hr)
  obtain ⟨cd, hcd⟩ : ∃ x, x = card D := ⟨_, rfl⟩
  rw [← hcd] at HLC hc
  clear hhas hrow hDC hDe hmc hbit hwo hKb hKj hcd hK
  obtain ⟨i0, hi0, hz0, hz1, hz2⟩ := info_parts info_set
  go_enter Tryd.func22, Tryd.ntmps22
  go_wp2_with fail
  refine HH.out.mono ?_
  rintro e w1 ⟨rfl, b1⟩
  go_wp2_with fail
  refine (res3 rfl (HR.out w1 b1)).mono ?_
  rintro e w2 ⟨A2, n2, c2, rfl, s2, hb⟩
  have b2 := b1.trans (hb.mono b1.size)
  go_wp2_with fail
  refine (HLC.out w2 _ s2).mono ?_
  rintro e w3 ⟨rfl, hb⟩
  have b3 := b2.trans (hb.mono b2.size)
  go_wp2_with fail
  refine (res3 rfl (HR.out w3 b3)).mono ?_
  rintro e w4 ⟨A4, n4, c4, rfl, s4, hb⟩
  have b4 := b3.trans (hb.mono b3.size)
  go_wp2_with fail
  refine (res3 HWO.out (without_any _ D (j : Int) w4 s4)).mono ?_
  rintro e w5 ⟨A5, n5, c5, rfl, s5, hb⟩
  have b5 := b4.trans (hb.mono b4.size)
  go_wp2_with fail
  refine (list_any _ K w5 s5 (hT.below b5)).mono ?_
  rintro e w6 ⟨AL, cL, rfl, hLc, hLm, hrL, hb⟩
  have b6 := b5.trans (hb.mono b5.size)
  have hlen : (mems K).length ≤ 12 := by rw [mems_len]; exact hcK
  obtain ⟨l, hl⟩ : ∃ l, l = (mems K).length := ⟨_, rfl⟩
  rw [← hl] at hLc hlen ⊢
  have HL := Lib.hid hl
  clear hl
  obtain ⟨E, hE⟩ : ∃ E : Nat, E = 2 ^ l := ⟨_, rfl⟩
  have hE2 : E ≤ 4096 := by rw [hE]; exact Nat.le_trans (Nat.pow_le_pow_right (by omega) hlen) (by decide)
  have e2 : wrap64 ((2 : Int) ^ l) = (E : Int) := by
    have : ((2 : Int) ^ l) = (E : Int) := by rw [hE]; simp
    rw [this]
    exact IntWalk.wrap64_in _ ⟨by omega, by omega⟩
  have HEE := Lib.hid hE
  have HS5 := Lib.hid s5
  clear hE hb s2 s4 s5 b1 b2 b3 b4 b5 HH HR HLC HWO hLm hLc
  have hm6 := h.below b6
  have hT6 := hT.below b6
  go_wp2_with fail
  rw [e2]
  clear e2
  refine wp_loopF (β := Nat × Value) (fun s f => #[ptr p, f 1, .int .i64 (j : Int), f 3, f 4, f 5, f 6, .slice AL l cL, s.2, f 9, f 10, f 11, f 12, f 13, f 14, f 15, f 16, f 17, f 18, f 19, f 20, f 21, f 22, f 23, f 24, f 25, f 26, f 27, f 28, f 29, f 30, f 31, f 32, .int .i64 (E : Int), .int .i64 (s.1 : Int), f 35, f 36, f 37, f 38, f 39, f 40, f 41, f 42, f 43, f 44, f 45, f 46, f 47, f 48, f 49, f 50, f 51, f 52, f 53, f 54, f 55, f 56, f 57, f 58, f 59, f 60, f 61, f 62, f 63, f 64, f 65, f 66])
    (fun s ds wr => s.1 ≤ E ∧ ds = [] ∧ Below w6.heap.size w6 wr ∧ ∃ vs, wr.ownsRow w6.heap.size 66 1 s.2 (candL C Ns j K s.1).length vs ∧ Sets wr vs (candL C Ns j K s.1)) (fun s => E - s.1) (0, .slice none 0 0) rfl
    ⟨Nat.zero_le _, rfl, Below.refl _ _, [], World.ownsRow_nil _ _ _ _, Sets.nil _⟩ ?_
  rintro ⟨n, v8⟩ f ds wr ⟨hnE, rfl, hbr, vs, hown, hsets⟩
  dsimp only at hnE hown hsets ⊢
  by_cases hlt : n < E
  · go_wp2_with fail
    refine absC1 fun w7 hB7 hb7 hz7 => ?_
    have hof := of_any (some ⟨wr.heap.size, 0, none⟩) 1 [(j : Int)] w7 (Row.of_blk hB7 fun k u hu => by rw [List.map_cons, List.map_nil] at hu; rw [List.getElem?_toArray]; exact hu) (by simp)
    have hsj : setOf [(j : Int)] = 2 ^ j := nat_ext fun x => by
      rw [testBit_setOf, Nat.testBit_two_pow, decide_eq_true_eq, decide_eq_true_eq]
      simp only [List.mem_singleton]
      omega
    have HOF := hideC (res3 hsj hof)
    clear hof hsj
    refine HOF.out.mono ?_
    rintro e w8 ⟨A8, n8, c8, rfl, s8, hb8⟩
    have hb78 := hb7.trans (hb8.mono hb7.size)
    have hbr8 := hbr.trans (hb78.mono hbr.size)
    have hown8 := own_below hown hb78
    have hsets8 := hsets.below hb78
    clear HOF hB7 hz7 hb7 hb8
    go_wp2_with fail
    refine abs1 fun W7 hG hb9 hz9 => ?_
    have hb67 := hbr8.trans (hb9.mono hbr8.size)
    have hown7 := own_below hown8 hb9
    have hsets7 := hsets8.below hb9
    have s9 := s8.below hb9
    have lG := hG.lt
    obtain ⟨g, hg⟩ : ∃ g, g = w8.heap.size := ⟨_, rfl⟩
    have hgr : wr.heap.size ≤ g := by rw [hg]; exact hb78.size
    have hg6 : w6.heap.size ≤ g := by rw [hg]; exact hbr8.size
    rw [← hg] at hG lG hz9 ⊢
    clear hg hb9 hb78 s8 hown8 hsets8 hbr8
    refine wp_loopF (β := Nat) (fun q f => #[ptr p, f 1, .int .i64 (j : Int), f 3, f 4, f 5, f 6, .slice AL l cL, v8, .int .i64 (n : Int), .pointer (some ⟨g, 0, none⟩), f 11, f 12, f 13, f 14, f 15, f 16, f 17, f 18, f 19, f 20, f 21, f 22, f 23, f 24, f 25, f 26, f 27, f 28, f 29, f 30, f 31, f 32, .int .i64 (E : Int), .int .i64 (n : Int), f 35, f 36, f 37, f 38, f 39, .slice AL l cL, .int .i64 (l : Int), .int .i64 (q : Int), f 43, f 44, f 45, f 46, f 47, f 48, f 49, f 50, f 51, f 52, f 53, f 54, f 55, f 56, f 57, f 58, f 59, f 60, f 61, f 62, f 63, f 64, f 65, f 66])
      (fun q ds wi => q ≤ l ∧ ds = [] ∧ But (some g) W7 wi ∧ Below w6.heap.size w6 wi ∧ KeepW W7 wi ∧ ∃ v10, Blk wi g 66 #[v10] ∧ IsSet wi v10 (2 ^ j ||| subTo (mems K) n q)) (fun q => l - q) 0 rfl
      ⟨Nat.zero_le _, rfl, But.refl _ _, hb67, KeepW.refl _, _, hG, by show IsSet W7 _ (2 ^ j ||| 0); rw [Nat.or_zero]; exact s9⟩ ?_
    rintro q f ds wi ⟨hil, rfl, hbut, hbi, hki, v10, hG2, hs11⟩
    dsimp only
    by_cases hq : q < l
    · obtain ⟨g0, off0, rfl, hg0, hcell⟩ := hrL (by rw [List.length_map, ← HL.out]; omega)
      have hjm : q < (mems K).length := by rw [← HL.out]; exact hq
      obtain ⟨x, hx⟩ : ∃ x, (mems K)[q]? = some x := ⟨_, List.getElem?_eq_getElem hjm⟩
      have d0 := onB hbi (hcell q (i64 x) (by rw [List.getElem?_map, hx]; rfl))
      have hgd : (mems K).getD q 0 = x := by rw [List.getD_eq_getElem?_getD, hx]; rfl
      have hstep : 2 ^ j ||| subTo (mems K) n (q + 1) = if n.testBit q = true then (2 ^ j ||| subTo (mems K) n q) ||| 2 ^ x else 2 ^ j ||| subTo (mems K) n q := by
        rw [subTo, hgd]
        split
        · rw [Nat.or_assoc]
        · rfl
      have ebit := bit_form n q (by omega)
      have hx4 : x ≤ 4095 := by
        by_cases hh : x ≤ 4095
        · exact hh
        · have := card_mem_le K x (mem_mems.1 (List.mem_of_getElem? hx)) w5 A5 n5 c5 HS5.out
          omega
      obtain ⟨st, hst⟩ : ∃ s, s = 2 ^ j ||| subTo (mems K) n q := ⟨_, rfl⟩
      rw [← hst] at hs11 hstep
      obtain ⟨A9, c9, rfl, _⟩ := id hs11
      have cG := hG2.cell 0
      have fG := hG2.frozen 0
      have lG2 := hG2.lt
      clear hst hx hgd hjm hcell
      by_cases hb : n.testBit q = true
      · rw [if_pos hb] at hstep
        rw [hb] at ebit
        have HST := Lib.hid hstep
        have hwi := with_any _ st (x : Int) wi hs11
        rw [withB, if_pos ⟨by omega, by omega⟩, Int.toNat_natCast] at hwi
        have HWI := hideC hwi
        clear hstep hb hwi
        go_wp2_with fail
        refine HWI.out.mono ?_
        rintro e wj ⟨r, rfl, hr, hbj⟩
        obtain ⟨A10, c10, rfl, _⟩ := id hr
        have hG3 := hG2.below hbj hG2.lt
        have cG3 := hG3.cell 0
        have fG3 := hG3.frozen 0
        have lG3 := hG3.lt
        clear cG fG lG2
        go_wp2_with fail
        exact ⟨q + 1, rfl, ⟨by omega, by first | rfl | trivial, (hbut.below hbj).trans (But.setCell _ _ _), (hbi.trans (hbj.mono hbi.size)).setCell (p := ⟨g, 0, none⟩) hg6 (.slice A10 (nw (st ||| 2 ^ x)) c10), (hki.trans (KeepW.of_below hbj)).trans (KeepW.setCell (p := ⟨g, 0, none⟩) hG3 (by decide) (.slice A10 (nw (st ||| 2 ^ x)) c10)), _, hG3.set_ 0 (.slice A10 (nw (st ||| 2 ^ x)) c10), by rw [HST.out]; exact hr.put hG3 (by decide) 0 _⟩, by omega⟩
      · rw [if_neg hb] at hstep
        rw [Bool.not_eq_true] at hb
        rw [hb] at ebit
        have HST := Lib.hid hstep
        clear hstep hb
        go_wp2_with fail
        exact ⟨q + 1, rfl, ⟨by omega, by first | rfl | trivial, hbut, hbi, hki, _, hG2, by rw [HST.out]; exact hs11⟩, by omega⟩
    · have hss : 2 ^ j ||| subTo (mems K) n q = tryS j K n := by rw [show q = l by omega, HL.out]; rfl
      rw [hss] at hs11
      have hms := candL_succ C Ns j K n
      obtain ⟨sn, hsn⟩ : ∃ s, s = tryS j K n := ⟨_, rfl⟩
      rw [← hsn] at hs11 hms
      obtain ⟨A9, c9, rfl, _⟩ := id hs11
      have cG := hG2.cell 0
      have hmvi := hm6.below hbi
      have hTi := hT6.below hbi
      have hcl := closed_any p C Ns _ sn wi hmvi hs11 hTi
      have hownI := own_but hown7 hbut fun g' hg' => by have := (hown.lt g' hg').2; simp; omega
      have hsetsI := hsets7.keep hki
      by_cases hyes : cloN C Ns sn = sn &&& lowN C
      · rw [decide_eq_true hyes] at hcl
        rw [if_pos hyes] at hms
        have HCL := hideC hcl
        have HMS := Lib.hid hms
        clear hcl hms hyes hsn hss
        go_wp2_with fail
        refine HCL.out.mono ?_
        rintro e wc ⟨rfl, hbc⟩
        have hownC := own_below hownI hbc
        have hsetsC := hsetsI.below hbc
        have hbC := hbi.trans (hbc.mono hbi.size)
        have hsC := hs11.below hbc
        have cGc := onB hbc cG
        have lGc := cell_lt cGc
        have hbCs := hbC.size
        have hloc := own_below hownC ((Below.refl wc.heap.size wc).alloc (Nat.le_refl _) (.cells #[.slice A9 (nw sn) c9] 66))
        have hml := candL_le C Ns j K n
        clear cG
        go_wp2_with (at_builtin; refine wpList_append_own _ rfl _ _ 61 rfl (w6.heap.size) 66 i0 (.agg #[.slice none 0 0]) 1 24 Tryd.underlying61 hi0 hz0 hz1 hz2 rfl (by decide) _ _ _ rfl (hloc) ⟨wc.heap.size, 0, none⟩ 1 1 [.slice A9 (nw sn) c9] rfl rfl (cell_one_new _ _ _) (by simp [Value.oneCell']) (by unfold maxLen; omega) (by omega) (by simp; omega) ?_; intro v' w3 hown' hgrow _)
        have hb3 := (hbC.alloc hbC.size (.cells #[.slice A9 (nw sn) c9] 66)).grown hgrow (by simp; omega) (fun q hq => (hloc.lt q hq).1)
        have hs3 := ((hsetsC.snoc hsC).below ((Below.refl wc.heap.size wc).alloc (Nat.le_refl _) (.cells #[.slice A9 (nw sn) c9] 66))).keep (KeepW.grown hgrow hloc (by decide))
        exact ⟨(n + 1, v'), rfl, ⟨by show n + 1 ≤ E; omega, by first | rfl | trivial, hb3, _, by show w3.ownsRow _ _ _ v' (candL C Ns j K (n + 1)).length _; rw [HMS.out, List.length_append]; exact hown', by show Sets _ _ (candL C Ns j K (n + 1)); rw [HMS.out]; exact hs3⟩, by show E - (n + 1) < E - n; omega⟩
      · rw [decide_eq_false hyes] at hcl
        rw [if_neg hyes] at hms
        have HCL := hideC hcl
        have HMS := Lib.hid hms
        clear hcl hms hyes hsn hss
        go_wp2_with fail
        refine HCL.out.mono ?_
        rintro e wc ⟨rfl, hbc⟩
        go_wp2_with fail
        exact ⟨(n + 1, v8), rfl, ⟨by show n + 1 ≤ E; omega, by first | rfl | trivial, hbi.trans (hbc.mono hbi.size), vs, by show wc.ownsRow _ _ _ v8 (candL C Ns j K (n + 1)).length _; rw [HMS.out]; exact own_below hownI hbc, by show Sets _ _ (candL C Ns j K (n + 1)); rw [HMS.out]; exact hsetsI.below hbc⟩, by show E - (n + 1) < E - n; omega⟩
  · have hnE2 : n = E := by omega
    have hcand : candL C Ns j K n = candL C Ns j K (2 ^ (mems K).length) := by rw [hnE2, HEE.out, HL.out]
    rw [hcand] at hown hsets
    have hml := candL_le C Ns j K n
    rw [hcand] at hml
    have hnd := candL_nodup (C := C) (Ns := Ns) HKJ.out
    have hTw := hT6.below hbr
    have hpos : 0 < w6.heap.size := cell_lt (hT6 0 (by decide))
    have hb9 := b6.trans (hbr.mono b6.size)
    obtain ⟨KL, hKL⟩ : ∃ l, l = candL C Ns j K (2 ^ (mems K).length) := ⟨_, rfl⟩
    have HM2 := Lib.hid (fun s => by rw [hKL]; exact HMC.out s : ∀ s, s ∈ KL ↔ s ∈ conL C Ns i j)
    rw [← hKL] at hown hsets hml hnd
    clear hKL hcand HMC
    have hfin : ∀ Ls : List Nat, Ls.Perm KL → Ls.Pairwise (fun a b => lecR b a = false) → Ls = conL C Ns i j := fun Ls hp hpw =>
      Lec.ext (lec_of hp hnd hpw) (conL_lec C Ns i j) fun s => by rw [hp.mem_iff]; exact HM2.out s
    have HFIN := Lib.hid hfin
    clear hfin
    rcases id hown.2 with ⟨hv9, hlen0⟩ | ⟨g, cap, cur, hv9, hg, hB, hc1, hc2, hsz, htk⟩
    · subst hv9
      have hnil : KL = [] := List.eq_nil_of_length_eq_zero hlen0
      subst hnil
      have hem : ([] : List Nat) = conL C Ns i j := HFIN.out [] (List.Perm.refl _) List.Pairwise.nil
      have HEM := Lib.hid hem
      have HCON := hideC (AnyF.slices_SortFunc_none Tryd.sortSet none 0 (.func (.func 67) #[] #[]) wr)
      clear hml hem hnd
      go_wp2_with fail
      refine Calls.mono HCON.out ?_
      rintro e w9 ⟨rfl, rfl⟩
      go_wp2_with fail
      go_ret
      exact ⟨none, 0, 0, [], rfl, by rw [← HEM.out]; rfl, Row.empty _ _, by rw [← HEM.out]; exact Sets.nil _, hb9⟩
    · subst hv9
      obtain ⟨N9, hN9⟩ : ∃ N, N = KL.length := ⟨_, rfl⟩
      have hvl : vs.length = N9 := by rw [hsets.1, hN9]
      have hcon := sort_sets g cur vs KL cap wr hB (fun k u hu => by
        have hk : k < vs.length := (List.getElem?_eq_some_iff.1 hu).1
        rw [← htk, List.getElem?_take_of_lt (by rw [Nat.mul_one, ← hN9, ← hvl]; exact hk), Array.getElem?_toList] at hu
        exact hu) hsets hTw (by rw [hvl]; omega) (by omega)
      rw [hvl] at hcon
      rw [← hN9]
      have HCON := hideC hcon
      have HN9 := Lib.hid hN9
      clear hcon hml hN9 hvl hnd
      go_wp2_with fail
      refine HCON.out.mono ?_
      rintro e w9 ⟨rfl, vs', Ls, hperm, hpw, hvl', hrow, hsets', hbb, _⟩
      have hlen9 : N9 = Ls.length := by rw [HN9.out, hperm.length_eq]
      have hLs := HFIN.out Ls hperm hpw
      have hb10 := hb9.trans (hbb.mono (by have := b6.size; omega))
      have HLEN9 := Lib.hid hlen9
      have HLS := Lib.hid hLs
      clear hlen9 hLs
      go_wp2_with fail
      go_ret
      exact ⟨_, _, _, vs', rfl, by rw [HLEN9.out, HLS.out], hrow, by rw [← HLS.out]; exact hsets', hb10⟩
/-- rank.Concepts at every matrix, nil too. -/
theorem conc_any (m : Option Addr) (C : Nat) (Ns : List Nat) (i j : Int) (w : World) (h : IsMV w m C Ns) (hin : rowsIn C Ns) (hT : Tab w) :
    Calls Tryd.prog 22 #[.pointer m, .int .i64 i, .int .i64 j] w fun e w' => ∃ A n c vs, e = .returned (.slice A n c) ∧ n = (conP C Ns i j).length ∧ Row w' A vs ∧ Sets w' vs (conP C Ns i j) ∧ Below w.heap.size w w' := by
  by_cases hy : mhas C Ns i j = true ∧ card (mrow Ns i) ≤ 12
  · unfold conP
    rw [if_pos hy]
    obtain ⟨a, b, rfl, rfl, ha, hb, hbit⟩ := mhas_parts hy.1
    have hc := hy.2
    rw [mrow, if_pos (by omega), Int.toNat_natCast] at hc
    rw [Int.toNat_natCast, Int.toNat_natCast]
    rcases h with ⟨rfl, rfl, rfl⟩ | ⟨p, rfl, h⟩
    · simp at ha
    · exact conc_yes p C Ns a b w h hin ha hb hbit hc hT
  · unfold conP
    rw [if_neg hy]
    refine (conc_no m C Ns i j w h hy).mono ?_
    rintro e w' ⟨rfl, hb⟩
    exact ⟨none, 0, 0, [], rfl, rfl, Row.empty _ _, Sets.nil _, hb⟩
end Go.Proofs.YtgpooflcbljidaaDoor
