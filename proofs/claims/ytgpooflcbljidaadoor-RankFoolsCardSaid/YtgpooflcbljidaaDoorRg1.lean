/-
  The lectic order of the program: its answer, and a world behind it that is the old one but for draws and new blocks.
-/
import Derived.Test.YtgpooflcbljidaaDoorClo7
import Derived.Test.YtgpooflcbljidaaDoorMinus
import Derived.Test.YtgpooflcbljidaaDoorRk1
namespace Go.Proofs.YtgpooflcbljidaaDoor
open Go.RowKit

/-- Draws are not taken back. -/
def Dn (w w' : World) : Prop := w.drawn ≤ w'.drawn
theorem Dn.refl (w : World) : Dn w w := Nat.le_refl _
theorem Dn.trans {a b c : World} (h : Dn a b) (k : Dn b c) : Dn a c := Nat.le_trans h k
theorem Dn.drew {a b : World} (h : Dn a b) : Dn a b.drew := Nat.le_trans h (Nat.le_succ _)
theorem Dn.alloc {a b : World} (h : Dn a b) (o : Obj) : Dn a (b.alloc o) := h
theorem Dn.setCell {a b : World} (h : Dn a b) (p : Addr) (v : Value) : Dn a (b.setCell p v) := h
theorem Gw.dn {w w' : World} (h : Gw w w') : Dn w w' := by
  obtain ⟨q, os, rfl⟩ := h
  exact Nat.le_add_right _ _
theorem Gw.of {w w' : World} (hb : Below w.heap.size w w') (hd : Dn w w') : Gw w w' := by
  refine ⟨w'.drawn - w.drawn, w'.heap.extract w.heap.size w'.heap.size, ?_⟩
  obtain ⟨h1, h2, h3, h4, h5⟩ := hb
  have hd' : w.drawn + (w'.drawn - w.drawn) = w'.drawn := Nat.add_sub_cancel' hd
  have hh : w.heap ++ w'.heap.extract w.heap.size w'.heap.size = w'.heap := by
    apply Array.ext_getElem?
    intro i
    by_cases hi : i < w.heap.size
    · rw [Array.getElem?_append_left hi, h5 i hi]
    · rw [Array.getElem?_append_right (by omega), Array.getElem?_extract]
      by_cases hj : i < w'.heap.size
      · rw [if_pos (by omega), show w.heap.size + (i - w.heap.size) = i by omega]
      · rw [if_neg (by omega), Array.getElem?_eq_none (by omega)]
  unfold Go.Sort.grow World.drewN
  dsimp only
  rw [hh, hd']
  cases w; cases w'
  simp_all
section
variable {P : Program} {c : Code} {Q : Exit → Act → World → Prop} {a : Act} {w : World}
theorem dabs1 {c1 : Array Value} {t1 : TypeId} (h : ∀ W, Blk W w.heap.size t1 c1 → Below w.heap.size w W → W.heap.size = w.heap.size + 1 → Dn w W → c.wp P Q a W) : c.wp P Q a (w.alloc (.cells c1 t1)) :=
  h _ (Blk.new _ _ _) ((Below.refl _ _).alloc (Nat.le_refl _) _) (by simp) (Dn.refl _)
theorem dabsC1 {f : FuncId} {args : Array Value} {R : Ending → World → Prop} {c1 : Array Value} {t1 : TypeId} (h : ∀ W, Blk W w.heap.size t1 c1 → Below w.heap.size w W → W.heap.size = w.heap.size + 1 → Dn w W → Calls P f args W R) : Calls P f args (w.alloc (.cells c1 t1)) R :=
  h _ (Blk.new _ _ _) ((Below.refl _ _).alloc (Nat.le_refl _) _) (by simp) (Dn.refl _)
theorem dabs2 {c1 c2 : Array Value} {t1 t2 : TypeId} (h : ∀ W, Blk W w.heap.size t1 c1 → Blk W (w.heap.size + 1) t2 c2 → Below w.heap.size w W → Dn w W → c.wp P Q a W) : c.wp P Q a ((w.alloc (.cells c1 t1)).alloc (.cells c2 t2)) :=
  h _ ((Blk.new _ _ _).alloc _) (Blk.new_ (by simp) _ _) (((Below.refl _ _).alloc (Nat.le_refl _) _).alloc (by simp) _) (Dn.refl _)
theorem dabs4 {c1 c2 c3 c4 : Array Value} {t1 t2 t3 t4 : TypeId} (h : ∀ W, Blk W w.heap.size t1 c1 → Blk W (w.heap.size + 1) t2 c2 → Blk W (w.heap.size + 2) t3 c3 → Blk W (w.heap.size + 3) t4 c4 → Below w.heap.size w W → W.heap.size = w.heap.size + 4 → Dn w W → c.wp P Q a W) :
    c.wp P Q a ((((w.alloc (.cells c1 t1)).alloc (.cells c2 t2)).alloc (.cells c3 t3)).alloc (.cells c4 t4)) :=
  h _ ((((Blk.new _ _ _).alloc _).alloc _).alloc _) (((Blk.new_ (by simp) _ _).alloc _).alloc _) ((Blk.new_ (by simp) _ _).alloc _) (Blk.new_ (by simp) _ _) (((((Below.refl _ _).alloc (Nat.le_refl _) _).alloc (by simp) _).alloc (by simp; omega) _).alloc (by simp; omega) _) (by simp) (Dn.refl _)
end
set_option maxRecDepth 100000 in
set_option maxHeartbeats 400000 in
theorem trim_g (A : Option Addr) (n c N : Nat) (w : World) (hw : Words w A n N) (_hn : n ≤ 64) (hc : n ≤ c) (hc' : c ≤ maxLen) :
    Calls Tryd.prog 76 #[.slice A n c] w fun e w' => ∃ r, e = .returned (.agg #[r]) ∧ IsSet w' r N ∧ Below w.heap.size w w' ∧ Dn w w' := by
  go_enter Tryd.func76, Tryd.ntmps76
  go_wp2_with fail
  refine dabs1 fun W0 hA0 hbel0 hz hdn => ?_
  have hw0 := hw.below hbel0
  have cR := hA0.cell 0
  have fR := hA0.frozen 0
  go_loop [0] (fun s => ∃ m : Nat, m ≤ n ∧ s = .slice A m c ∧ Words W0 A m N) (fun s => slen s)
  case atStart => exact ⟨n, Nat.le_refl _, rfl, hw0⟩
  case round =>
    obtain ⟨m, hm, rfl, hwm⟩ := hrel
    by_cases h0 : 0 < m
    · obtain ⟨g, cs, rfl, hB, hcs⟩ := hwm.1 h0
      have cW := (hB.cell (m - 1)).trans (hcs (m - 1) (by omega))
      by_cases hzz : wd N (m - 1) = 0
      · have e0 : ((wd N (m - 1) : Int) == 0) = true := by simp [hzz]
        have hz2 : ∀ k, m - 1 ≤ k → wd N k = 0 := fun k hk => by
          by_cases hkm : k = m - 1
          · rw [hkm]; exact hzz
          · exact hwm.2 k (by omega)
        have HZ2 := Lib.hid hz2; clear hz2
        have HZZ := Lib.hid hzz; clear hzz
        clear hw
        have HCS := Lib.hid hcs; clear hcs
        go_wp2
        exact ⟨⟨m - 1, by omega, rfl, fun hm0 => ⟨g, cs, rfl, hB, fun k hk => HCS.out k (by omega)⟩, HZ2.out⟩, by simp [slen]; omega⟩
      · have e0 : ((wd N (m - 1) : Int) == 0) = false := by simp [hzz]
        have hm2 : m = nw N := (nw_of_top hwm.2 (.inr hzz)).symm
        have HZZ := Lib.hid hzz; clear hzz
        have HM := Lib.hid hm2; clear hm2
        clear hw
        have HCS := Lib.hid hcs; clear hcs
        go_wp2
        have cX := (hA0.set_ 0 (.slice (some ⟨g, 0, none⟩) m c)).cell 0
        refine bodyPost_ret (v := .agg #[.slice (some ⟨g, 0, none⟩) m c]) (by simp [results, Tryd.results76, go_sem, cX]) rfl ⟨_, rfl, ?_, hbel0.setCell (by simp) _, hdn.setCell _ _⟩
        have e := HM.out; subst e
        exact IsSet.mk_ (hB.far (p := ⟨w.heap.size, 0, none⟩) (hB.ne_ hA0 (by decide)) _) (by omega) (by omega) hc' HCS.out
    · obtain rfl : m = 0 := by omega
      have hN : N = 0 := wd_ext fun k => by rw [hwm.2 k (by omega), wd_zero]
      subst hN
      clear hw
      go_wp2
      have cX := (hA0.set_ 0 (.slice A 0 c)).cell 0
      refine bodyPost_ret (v := .agg #[.slice A 0 c]) (by simp [results, Tryd.results76, go_sem, cX]) rfl ⟨_, rfl, ⟨A, c, rfl, by decide, by simp [nw_zero], hc', fun h => absurd h (by decide)⟩, hbel0.setCell (by simp) _, hdn.setCell _ _⟩
set_option maxRecDepth 100000 in
set_option maxHeartbeats 1000000 in
theorem minus_g (v u : Value) (N M : Nat) (w : World) (hs : IsSet w v N) (ho : IsSet w u M) :
    Calls Tryd.prog 97 #[.agg #[v], .agg #[u]] w fun e w' => ∃ r, e = .returned (.agg #[r]) ∧ IsSet w' r (minusN N M) ∧ Below w.heap.size w w' ∧ Dn w w' := by
  obtain ⟨A, c, rfl, hN, _, _, h4⟩ := id hs
  obtain ⟨A', c', rfl, hM, _, _, _⟩ := id ho
  obtain ⟨L, hLe⟩ : ∃ L, L = nw N := ⟨_, rfl⟩
  have hL : L ≤ 64 := by omega
  have HL := Lib.hid hLe
  have hmk := make_u64 L (by omega)
  have hwz : ∀ k, L ≤ k → wd (minusN N M) k = 0 := fun k hk => minusN_ge (by omega)
  have HWZ := Lib.hid hwz
  clear hwz
  rw [← hLe]
  clear hLe
  go_enter Tryd.func97, Tryd.ntmps97
  go_wp2_with fail
  refine dabs4 fun W0 hA0 hB0 hR0 hW0 hbel0 hz hdn => ?_
  have hw0 := hW0.fill0 (fun j => u64 (wd (minusN N M) j))
  have HZ := Lib.hid hz; clear hz
  go_loopw [13] (fun i wr => ∃ k : Nat, k ≤ L ∧ i = .int .i64 k ∧ Blk wr (w.heap.size + 3) 72 (filled (.int .u64 0) (fun j => u64 (wd (minusN N M) j)) k L) ∧ Below (w.heap.size + 3) W0 wr ∧ Dn w wr)
    (fun i _ => L - (intOf i).toNat)
  case atStart => exact ⟨0, Nat.zero_le _, rfl, hw0, Below.refl _ _, hdn⟩
  case round =>
    obtain ⟨k, hk, rfl, hb, hbel, hdr⟩ := hrel
    have cA := (hA0.below hbel (by omega)).cell 0
    have cB := (hB0.below hbel (by omega)).cell 0
    have hbw : Below w.heap.size w wr := hbel0.trans (hbel.mono (by omega))
    by_cases hlt : k < L
    · have cW := hb.cell k
      have fW := hb.frozen k
      rw [filled_get _ _ hlt, if_neg (by omega)] at cW
      have hor := minus_form N M k
      have hset := filled_set (.int .u64 0) (fun j => u64 (wd (minusN N M) j)) hlt
      have HSET := Lib.hid hset; clear hset
      obtain ⟨g, cs, rfl, hg, hcs⟩ := h4 (by have := HL.out; omega)
      have cN := ((hg.below hbw hg.lt).cell k).trans (hcs k (by have := HL.out; omega))
      have HW := hideC (fun W hW => word_g (.slice A' (nw M) c') M k W (ho.below (w' := W) hW))
      clear hcs h4
      go_wp2_with fail
      refine wp_spine (fun W => Below wr.heap.size wr W) [0, 1, 2, 3, 4, 5, 6, 7, 8] [9, 10, 11, 12] (by kernel_rfl) (by kernel_rfl) ?_
      iterate 9 (refine wpE_op (v := ?_) rfl rfl (fun W hW => ?_) ?_; rotate_left; (have c1 := onB hW cA; have c2 := onB hW cB; have c3 := onB hW cN; go_simp; first | done | with_reducible rfl); simp only [Act.put, List.setIfInBounds_toArray, List.set_cons_zero, List.set_cons_succ])
      refine wpE_nil ⟨fun h => (by cases h), wpSp_op rfl (Below.refl _ _).drew ?_⟩
      go_wp2_with fail
      refine (HW.out _ (hbw.trans ((Below.refl wr.heap.size wr).drew.mono hbw.size))).mono ?_
      rintro e w2 ⟨rfl, hg2⟩
      have hb2 := hg2.below
      have hk2 : Below wr.heap.size wr w2 := (Below.refl _ _).drew.trans hb2
      have cW2 := onB hk2 cW
      have fW2 := onFrozen hk2 cW fW
      go_wp2_with fail
      refine nxt_op rfl hk2 ?_
      go_wp2_with fail
      refine nxt_op rfl hk2 ?_
      go_wp2_with fail
      refine nxt_op rfl hk2 ?_
      go_wp2_with fail
      refine nxt_nil ?_
      go_wp2_with fail
      have hb3 := ((hb.below hk2 hb.lt).set_ k (u64 (wd (minusN N M) k)))
      rw [HSET.out] at hb3
      exact ⟨⟨k + 1, by omega, by go_num, hb3, (hbel.trans (hk2.mono (by have := hbel.size; have := HZ.out; omega))).setCell (by simp) _, (hdr.drew.trans hg2.dn).setCell _ _⟩, by simp [intOf]; omega⟩
    · obtain rfl : k = L := by omega
      have hR := hR0.below hbel (by omega)
      have cR := hR.cell 0
      have fR := hR.frozen 0
      have hw : Words wr (some ⟨w.heap.size + 1 + 1 + 1, 0, none⟩) k (minusN N M) := ⟨fun _ => ⟨_, _, rfl, hb, fun j hj => by rw [filled_get _ _ hj, if_pos hj]⟩, fun j hj => HWZ.out j hj⟩
      clear h4
      go_wp2_with fail
      refine (trim_g _ k k _ _ hw hL (Nat.le_refl _) (le64 hL)).mono ?_
      rintro e w1 ⟨r, rfl, hr, hb1, hd1⟩
      obtain ⟨A1, c1, rfl, _⟩ := id hr
      have hr1 := onB hb1 cR
      have fr1 := onFrozen hb1 cR fR
      go_wp2_with fail
      have hX := (hR.below hb1 hR.lt).set_ 0 (.slice A1 (nw (minusN N M)) c1)
      have cX := hX.cell 0
      refine bodyPost_ret (v := .agg #[.slice A1 (nw (minusN N M)) c1]) (by simp [results, Tryd.results97, go_sem, cX]) rfl ⟨_, rfl, ?_, ((hbw.trans (hb1.mono (by have := hbel.size; have := HZ.out; omega)))).setCell (by simp; omega) _, (hdr.trans hd1).setCell _ _⟩
      exact hr.keep (KeepW.setCell (t := 66) (hR.below hb1 hR.lt) (by decide) _)
set_option maxRecDepth 100000 in
set_option maxHeartbeats 400000 in
theorem or_g (v u : Value) (N M : Nat) (w : World) (hs : IsSet w v N) (ho : IsSet w u M) :
    Calls Tryd.prog 104 #[.agg #[v], .agg #[u]] w fun e w' => ∃ r, e = .returned (.agg #[r]) ∧ IsSet w' r (N ||| M) ∧ Below w.heap.size w w' ∧ Dn w w' := by
  obtain ⟨A, c, rfl, hN, _⟩ := id hs
  obtain ⟨A', c', rfl, hM, _⟩ := id ho
  have hL : nw (N ||| M) ≤ 64 := by rw [nw_or]; omega
  have hmx : (if nw N < nw M then (nw M : Int) else (nw N : Int)) = (nw (N ||| M) : Int) := by rw [nw_or]; split <;> omega
  have hmx2 : max (nw N : Int) (nw M : Int) = (nw (N ||| M) : Int) := by rw [nw_or]; omega
  obtain ⟨L, hLe⟩ : ∃ L, L = nw (N ||| M) := ⟨_, rfl⟩
  rw [← hLe] at hL hmx hmx2
  clear hmx
  have HL := Lib.hid hLe; clear hLe
  have hmk := make_u64 L (by omega)
  go_enter Tryd.func104, Tryd.ntmps104
  go_wp2_with fail
  refine dabs4 fun W0 hA0 hB0 hR0 hW0 hbel0 hz hdn => ?_
  have hw0 := hW0.fill0 (fun j => u64 (wd N j ||| wd M j))
  have hs1 := hs.below hbel0
  have ho1 := ho.below hbel0
  have HZ := Lib.hid hz; clear hz
  go_loopw [17] (fun i wr => ∃ k : Nat, k ≤ L ∧ i = .int .i64 k ∧ Blk wr (w.heap.size + 3) 72 (filled (.int .u64 0) (fun j => u64 (wd N j ||| wd M j)) k L) ∧ Below (w.heap.size + 3) W0 wr ∧ Dn w wr)
    (fun i _ => L - (intOf i).toNat)
  case atStart => exact ⟨0, Nat.zero_le _, rfl, hw0, Below.refl _ _, hdn⟩
  case round =>
    obtain ⟨k, hk, rfl, hb, hbel, hdr⟩ := hrel
    have cA := (hA0.below hbel (by omega)).cell 0
    have cB := (hB0.below hbel (by omega)).cell 0
    have hbw : Below w.heap.size w wr := hbel0.trans (hbel.mono (by omega))
    have hs1 := hs.below hbw
    have ho1 := ho.below hbw
    by_cases hlt : k < L
    · have cW := hb.cell k
      have fW := hb.frozen k
      rw [filled_get _ _ hlt, if_neg (by omega)] at cW
      have hor := u64_or_nat (wd N k) (wd M k) (wd_lt N k) (wd_lt M k)
      have hset := filled_set (.int .u64 0) (fun j => u64 (wd N j ||| wd M j)) hlt
      have HSET := Lib.hid hset; clear hset
      go_wp2_with fail
      refine wp_spine (fun W => W.cell? ⟨w.heap.size, 0, none⟩ = some (.slice A (nw N) c) ∧ W.cell? ⟨w.heap.size + 1, 0, none⟩ = some (.slice A' (nw M) c') ∧ Below wr.heap.size wr W) [0, 1, 2, 3, 5, 6] [4, 7, 8, 9, 10] (by kernel_rfl) (by kernel_rfl) ?_
      iterate 6 (refine wpE_op (v := ?_) rfl rfl (fun W hW => ?_) ?_; rotate_left; (go_simp; first | done | with_reducible rfl); simp only [Act.put, List.setIfInBounds_toArray, List.set_cons_zero, List.set_cons_succ])
      refine wpE_nil ⟨fun h => (by cases h), wpSp_op rfl ⟨cA, cB, (Below.refl _ _).drew⟩ ?_⟩
      go_wp2_with fail
      refine (word_g _ N k _ (hs1.below (Below.refl _ _).drew)).mono ?_
      rintro e w1 ⟨rfl, hg1⟩
      have hb1 := hg1.below
      have hB1 : Below wr.heap.size wr w1 := (Below.refl _ _).drew.trans hb1
      go_wp2_with fail
      refine nxt_op rfl ⟨onB hB1 cA, onB hB1 cB, hB1⟩ ?_
      go_wp2_with fail
      refine (word_g _ M k _ (ho1.below hB1)).mono ?_
      rintro e w2 ⟨rfl, hg2⟩
      have hb2 := hg2.below
      have hB2 : Below wr.heap.size wr w2 := hB1.trans (hb2.mono hB1.size)
      go_wp2_with fail
      refine nxt_op rfl ⟨onB hB2 cA, onB hB2 cB, hB2⟩ ?_
      go_wp2_with fail
      refine nxt_op rfl ⟨onB hB2 cA, onB hB2 cB, hB2⟩ ?_
      go_wp2_with fail
      refine nxt_op rfl ⟨onB hB2 cA, onB hB2 cB, hB2⟩ ?_
      have cW2 := onB hB2 cW
      have fW2 : w2.frozen? ⟨w.heap.size + 3, k, none⟩ = false := onFrozen hB2 cW fW
      go_wp2_with fail
      refine nxt_nil ?_
      go_wp2_with fail
      have hb2 := ((hb.below hB2 hb.lt).set_ k (u64 (wd N k ||| wd M k)))
      rw [HSET.out] at hb2
      exact ⟨⟨k + 1, by omega, by go_num, hb2, (hbel.trans (hB2.mono (by have := hbel.size; have := HZ.out; omega))).setCell (by simp) _, ((hdr.drew.trans hg1.dn).trans hg2.dn).setCell _ _⟩, by simp [intOf]; omega⟩
    · obtain rfl : k = L := by omega
      have cR := (hR0.below hbel (by omega)).cell 0
      have fR := (hR0.below hbel (by omega)).frozen 0
      go_wp2_with fail
      have cX := ((hR0.below hbel (by omega)).set_ 0 (.slice (some ⟨w.heap.size + 3, 0, none⟩) k k)).cell 0
      refine bodyPost_ret (v := .agg #[.slice (some ⟨w.heap.size + 3, 0, none⟩) k k]) (by simp [results, Tryd.results104, go_sem, cX]) rfl ⟨_, rfl, ?_, (hbel0.trans (hbel.mono (by omega))).setCell (by simp; omega) _, hdr.setCell _ _⟩
      have hk' := HL.out
      rw [hk'] at hb hL ⊢
      exact IsSet.mk_ (hb.far (by simp) _) hL (Nat.le_refl _) (le64 hL) (fun j hj => by rw [filled_get _ _ hj, if_pos hj, wd_or])
end Go.Proofs.YtgpooflcbljidaaDoor
