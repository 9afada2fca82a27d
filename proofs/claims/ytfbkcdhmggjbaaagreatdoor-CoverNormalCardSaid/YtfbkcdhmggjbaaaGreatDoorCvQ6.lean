import Derived.Test.YtfbkcdhmggjbaaaGreatDoorMatx
import Derived.Test.YtfbkcdhmggjbaaaGreatDoorCvQ2
import Derived.Test.YtfbkcdhmggjbaaaGreatDoorCvD
/-
  matrix.Of and Transposed once more: the rows lie in a block of sets of their own.
-/
namespace Go.Proofs.YtfbkcdhmggjbaaaGreatDoor
open Go.RowKit

/-- A matrix whose rows lie in a block of sets. -/
def IsMO (w : World) (q C : Nat) (Ns : List Nat) : Prop := ∃ rv vs, Bld 0 q C Ns w rv vs ∧ C ≤ 4096 ∧ Ns.length ≤ 4096
theorem IsMO.mat {w : World} {q C : Nat} {Ns : List Nat} (h : IsMO w q C Ns) : IsMat w q C Ns := by
  obtain ⟨rv, vs, hb, h1, h2⟩ := h
  exact hb.mat h1 h2
theorem IsMO.below {w w' : World} {q C : Nat} {Ns : List Nat} (h : IsMO w q C Ns) (hb : Below w.heap.size w w') : IsMO w' q C Ns := by
  obtain ⟨rv, vs, h0, h1, h2⟩ := h
  exact ⟨rv, vs, h0.below hb, h1, h2⟩
/-- It stays where a block of another type is written. -/
theorem IsMO.put {w : World} {q C g i : Nat} {Ns : List Nat} {t : TypeId} {cs : Array Value} (h : IsMO w q C Ns) (hB : Blk w g t cs) (h1 : 103 ≠ t) (h2 : t ≠ 74) (h3 : 158 ≠ t) (u : Value) : IsMO (w.setCell ⟨g, i, none⟩ u) q C Ns := by
  obtain ⟨rv, vs, ⟨k1, k2, k3⟩, k4, k5⟩ := h
  exact ⟨rv, vs, ⟨k1.far (p := ⟨g, i, none⟩) (k1.ne_ hB h1) u, ownsRow_setCell_other k2 (a := ⟨g, i, none⟩) (fun e => own_ne k2 hB h2 e.symm) u, k3.keep (KeepW.setCell (p := ⟨g, i, none⟩) hB h3 u)⟩, k4, k5⟩
theorem own_low0 {w : World} {base : Nat} {e : TypeId} {size : Nat} {v : Value} {n : Nat} {xs : List Value} (h : w.ownsRow base e size v n xs) : w.ownsRow 0 e size v n xs :=
  ⟨h.1, h.2.imp id fun ⟨g, cap, cur, hv, _, r⟩ => ⟨g, cap, cur, hv, Nat.zero_le _, r⟩⟩
theorem le64_ {n : Nat} (h : n ≤ 256) : n ≤ maxLen := by unfold maxLen; omega
theorem filled_sizeO (z : Value) (f : Nat → Value) (k n : Nat) : (filled z f k n).size = n := by unfold filled; simp
set_option maxRecDepth 100000 in
set_option maxHeartbeats 1000000 in
theorem ofm_own (A : Option Addr) (c C : Nat) (vs : List Value) (Ns : List Nat) (w : World) (hr : Row w A vs) (hs : Sets w vs Ns) (hC : C ≤ 256) (hn : Ns.length ≤ 256) :
    Calls Tryz.prog 36 #[.int .i64 C, .slice A Ns.length c] w fun e w' => (e = pair (.pointer none) 2 ∧ ¬ rowsIn C Ns ∧ Below w.heap.size w w') ∨ (∃ q, e = pair (ptr q) 0 ∧ rowsIn C Ns ∧ IsMO w' q C Ns ∧ w.heap.size ≤ q ∧ Below w.heap.size w w') := by
  have HN := hideC (new_yes Ns.length C w hn hC)
  go_enter Tryz.func36, Tryz.ntmps36
  go_wp2_with fail
  refine HN.out.mono ?_
  rintro e w1 ⟨rfl, hw1⟩
  have hb := (Blk.new w 74 (zeros (.slice none 0 0) Ns.length)).alloc (.cells #[.int .i64 (C : Int), .slice (some ⟨w.heap.size, 0, none⟩) Ns.length Ns.length] 103)
  have hm := Blk.new_ (n := w.heap.size + 1) (w := w.alloc (.cells (zeros (.slice none 0 0) Ns.length) 74)) (by simp) 103 #[.int .i64 (C : Int), .slice (some ⟨w.heap.size, 0, none⟩) Ns.length Ns.length]
  have hbl : Below w.heap.size w w1 := by rw [hw1]; exact ((Below.refl _ _).alloc (Nat.le_refl _) _).alloc (by simp) _
  have hz1 : w1.heap.size = w.heap.size + 2 := by rw [hw1]; simp
  rw [← hw1] at hb hm
  clear hw1
  have HZ1 := Lib.hid hz1; clear hz1
  go_wp2_with fail
  go_loopw [22] (fun i wr => ∃ k : Nat, k ≤ Ns.length ∧ i = .int .i64 k ∧ (∀ j, j < k → Ns.getD j 0 &&& lowN C = Ns.getD j 0) ∧ Blk wr (w.heap.size + 1) 103 #[.int .i64 (C : Int), .slice (some ⟨w.heap.size, 0, none⟩) Ns.length Ns.length] ∧
      Blk wr w.heap.size 74 (filled (.slice none 0 0) (fun j => vs.getD j undef) k Ns.length) ∧ Below w.heap.size w wr) (fun i _ => Ns.length - (intOf i).toNat)
  case atStart => exact ⟨0, Nat.zero_le _, rfl, fun j hj => absurd hj (by omega), hm, hb.fill0 _, hbl⟩
  case round =>
    obtain ⟨k, hk, rfl, heq, hmb, hrb, hbel⟩ := hrel
    have HEQ := Lib.hid heq; clear heq
    by_cases hlt : k < Ns.length
    · obtain ⟨A1, c1, hv, hset⟩ := hs.at_ hlt
      obtain ⟨g, off, rfl, hg, hcell⟩ := hr (by rw [hs.1]; omega)
      have cv := onB hbel (hcell k _ hv)
      have hf := filled_set (.slice none 0 0) (fun j => vs.getD j undef) hlt
      have hvD : vs.getD k undef = .slice A1 (nw Ns[k]) c1 := by rw [List.getD_eq_getElem?_getD, hv]; rfl
      rw [hvD] at hf
      have HF := Lib.hid hf; clear hf hvD
      clear hcell hr hs hv hb hm
      have hsb := hset.below hbel
      go_wp2_with fail
      refine abs1 fun W1 hX hbx hz1 => ?_
      have cX := hX.cell 0
      have HZ := Lib.hid hz1; clear hz1
      have hbel1 := hbel.trans (hbx.mono hbel.size)
      have hbe := below_any (C : Int) W1.drew
      rw [clamp_nat (by omega)] at hbe
      have HB := hideC hbe; clear hbe
      by_cases he : Ns[k] &&& lowN C = Ns[k]
      · have HE := Lib.hid he; clear he
        refine wp_spine (fun W => Below W1.heap.size W1 W) [0, 1] [2, 3, 4] (by kernel_rfl) (by kernel_rfl) ?_
        iterate 2 (refine wpE_op (v := ?_) rfl rfl (fun W hW => ?_) ?_; rotate_left; (have x1 := onB hW cX; go_simp; first | done | with_reducible rfl); simp only [Act.put, List.setIfInBounds_toArray, List.set_cons_zero, List.set_cons_succ])
        refine wpE_nil ⟨fun h => (by cases h), wpSp_op rfl (Below.refl _ _).drew ?_⟩
        go_wp2_with fail
        refine HB.out.mono ?_
        rintro e w2 ⟨r, rfl, hset2, hb2⟩
        obtain ⟨A2, c2, rfl, _⟩ := id hset2
        have hb3 : Below W1.heap.size W1 w2 := (Below.refl _ _).drew.trans hb2
        have hcall := within_any _ _ _ _ w2 ((hsb.below hbx).below hb3) hset2
        rw [decide_eq_true HE.out] at hcall
        have HC := hideC hcall; clear hcall
        go_wp2_with fail
        refine nxt_op rfl hb3 ?_
        go_wp2_with fail
        refine HC.out.mono ?_
        rintro e w3 ⟨rfl, hb4⟩
        have hb5 : Below W1.heap.size W1 w3 := hb3.trans (hb4.mono hb3.size)
        go_wp2_with fail
        refine nxt_op rfl hb5 ?_
        go_wp2_with fail
        refine nxt_nil ?_
        have hm3 := (hmb.below hbx hmb.lt).below hb5 (Blk.lt (hmb.below hbx hmb.lt))
        have hr3 := (hrb.below hbx hrb.lt).below hb5 (Blk.lt (hrb.below hbx hrb.lt))
        have cX3 := onB hb5 cX
        have cm3 := hm3.cell 1
        have cr3 := (hr3.cell k).trans (filled_get _ _ hlt)
        have fr3 := hr3.frozen k
        go_wp2_with fail
        refine wp_spine (fun W => Below w3.heap.size w3 W) [0, 1, 2, 3, 4, 5, 6] [7] (by kernel_rfl) (by kernel_rfl) ?_
        iterate 7 (refine wpE_op (v := ?_) rfl rfl (fun W hW => ?_) ?_; rotate_left; (have x1 := onB hW cX3; have x2 := onB hW cm3; go_simp; first | done | with_reducible rfl); simp only [Act.put, List.setIfInBounds_toArray, List.set_cons_zero, List.set_cons_succ])
        refine wpE_nil ⟨fun h => (by cases h), wpSp_op rfl (Below.refl _ _).drew ?_⟩
        go_wp2_with fail
        refine nxt_nil ?_
        go_wp2_with fail
        have hr4 := hr3.drew.set_ k (.slice A1 (nw Ns[k]) c1)
        rw [HF.out] at hr4
        have hne : w.heap.size + 1 ≠ w.heap.size := by omega
        exact ⟨⟨k + 1, by omega, by go_num, fun j hj => by
          by_cases h : j = k
          · rw [h, getD_at hlt]; exact HE.out
          · exact HEQ.out j (by omega), hm3.drew.far (p := ⟨w.heap.size, k, none⟩) hne _, hr4, ((hbel1.trans (hb5.mono hbel1.size)).drew).setCell (Nat.le_refl _) _⟩, by simp [intOf]; omega⟩
      · have HE := Lib.hid he; clear he
        refine wp_spine (fun W => Below W1.heap.size W1 W) [0, 1] [2, 3, 4] (by kernel_rfl) (by kernel_rfl) ?_
        iterate 2 (refine wpE_op (v := ?_) rfl rfl (fun W hW => ?_) ?_; rotate_left; (have x1 := onB hW cX; go_simp; first | done | with_reducible rfl); simp only [Act.put, List.setIfInBounds_toArray, List.set_cons_zero, List.set_cons_succ])
        refine wpE_nil ⟨fun h => (by cases h), wpSp_op rfl (Below.refl _ _).drew ?_⟩
        go_wp2_with fail
        refine HB.out.mono ?_
        rintro e w2 ⟨r, rfl, hset2, hb2⟩
        obtain ⟨A2, c2, rfl, _⟩ := id hset2
        have hb3 : Below W1.heap.size W1 w2 := (Below.refl _ _).drew.trans hb2
        have hcall := within_any _ _ _ _ w2 ((hsb.below hbx).below hb3) hset2
        rw [decide_eq_false HE.out] at hcall
        have HC := hideC hcall; clear hcall
        go_wp2_with fail
        refine nxt_op rfl hb3 ?_
        go_wp2_with fail
        refine HC.out.mono ?_
        rintro e w3 ⟨rfl, hb4⟩
        have hb5 : Below W1.heap.size W1 w3 := hb3.trans (hb4.mono hb3.size)
        go_wp2_with fail
        refine nxt_op rfl hb5 ?_
        go_wp2_with fail
        refine nxt_nil ?_
        go_wp2_with fail
        go_ret2
        exact .inl ⟨rfl, fun h => HE.out (by have := h k hlt; rwa [getD_at hlt] at this), hbel1.trans (hb5.mono hbel1.size)⟩
    · obtain rfl : k = Ns.length := by omega
      go_wp2
      go_ret2
      refine .inr ⟨_, rfl, HEQ.out, ⟨_, vs, ⟨hmb, ?_, hs.below hbel⟩, by omega, by omega⟩, by omega, hbel⟩
      refine ⟨by rw [hs.1]; omega, .inr ⟨w.heap.size, Ns.length, _, rfl, Nat.zero_le _, hrb, Nat.le_refl _, le64_ hn, by rw [filled_sizeO]; omega, ?_⟩⟩
      refine List.ext_getElem? fun j => ?_
      rw [Nat.mul_one, List.getElem?_take, Array.getElem?_toList]
      by_cases hj : j < Ns.length
      · rw [if_pos hj, filled_get _ _ hj, if_pos hj]
        have hv : j < vs.length := by rw [hs.1]; exact hj
        rw [List.getD_eq_getElem?_getD, List.getElem?_eq_getElem hv]; rfl
      · rw [if_neg hj, List.getElem?_eq_none (by rw [hs.1]; omega)]
set_option maxRecDepth 100000 in
set_option maxHeartbeats 1000000 in
theorem trans_own (p C : Nat) (Ns : List Nat) (w : World) (h : IsMat w p C Ns) :
    Calls Tryz.prog 28 #[ptr p] w fun e w' => ∃ q, e = .returned (ptr q) ∧ IsMO w' q Ns.length (mtrans C Ns C) ∧ Below w.heap.size w w' := by
  obtain ⟨i0, hi0, hz0, hz1, hz2⟩ := info_parts info_set
  obtain ⟨h1, h2, A, c, vs, hB, hc, hr, hs⟩ := id h
  have m0 := hB.cell 0
  have m1 := hB.cell 1
  have lB := hB.lt
  clear hB hr hs
  go_enter Tryz.func28, Tryz.ntmps28
  go_wp2_with fail
  refine abs1 fun W0 hQ0 hbel0 hz => ?_
  have HZ := Lib.hid hz; clear hz
  go_loopw [18] (fun i wr => ∃ k : Nat, k ≤ C ∧ i = .int .i64 k ∧ (∃ rv us, Bld w.heap.size w.heap.size Ns.length (mtrans C Ns k) wr rv us) ∧ Below w.heap.size w wr) (fun i _ => C - (intOf i).toNat)
  case atStart => exact ⟨0, Nat.zero_le _, rfl, ⟨_, _, Bld.start _ _ _ _ hQ0⟩, hbel0⟩
  case round =>
    obtain ⟨k, hk, rfl, ⟨rv, us, hbld⟩, hbel⟩ := hrel
    by_cases hlt : k < C
    · have q1 := hbld.1.cell 1
      have n1 := hbld.ne
      have hc0 := col_any p C Ns (k : Nat) wr.drew ((h.below hbel).below (Below.refl _ _).drew)
      have HC := hideC hc0; clear hc0
      go_wp2_with fail
      refine wp_spine (fun W => But rv.ownBlock wr W) [0, 1, 2, 3, 4, 5, 6] [7, 8, 9, 10, 11, 12] (by kernel_rfl) (by kernel_rfl) ?_
      iterate 7 (refine wpE_op (v := ?_) rfl rfl (fun W hW => ?_) ?_; rotate_left; (have x1 := hW.on q1 n1; go_simp; first | done | with_reducible rfl); simp only [Act.put, List.setIfInBounds_toArray, List.set_cons_zero, List.set_cons_succ])
      refine wpE_nil ⟨fun h => (by cases h), wpSp_op rfl ((But.refl _ _).below (Below.refl _ _).drew) ?_⟩
      go_wp2_with fail
      refine HC.out.mono ?_
      rintro e w2 ⟨r, rfl, hset, hb2⟩
      obtain ⟨A2, c2, rfl, _⟩ := id hset
      have hb3 : Below wr.heap.size wr w2 := (Below.refl _ _).drew.trans hb2
      go_wp2_with fail
      refine nxt_op rfl (.of_below hb3) ?_
      go_wp2_with fail
      have hb4 := hb3.alloc hb3.size (.cells #[.slice A2 (nw (mcol C Ns (k : Nat))) c2] 74)
      have hbld4 := hbld.below hb4
      have hset4 := hset.keep (KeepW.alloc _ (.cells #[.slice A2 (nw (mcol C Ns (k : Nat))) c2] 74))
      have hln := mtrans_len C Ns k
      have hsz := hbel.size
      have hsz2 := hb3.size
      refine nxt_op rfl (.of_below hb4) ?_
      go_wp2_with (at_builtin; refine wpList_append_own _ rfl _ _ 71 rfl (w.heap.size) 74 i0 (.agg #[.slice none 0 0]) 1 24 Tryz.underlying71 hi0 hz0 hz1 hz2 rfl (by decide) _ _ _ rfl (hbld4.2.1) ⟨w2.heap.size, 0, none⟩ 1 1 [.slice A2 (nw (mcol C Ns (k : Nat))) c2] rfl rfl (cell_one_new _ _ _) (by simp [Value.oneCell']) (by unfold maxLen; omega) (by omega) (by simp; omega) ?_; intro v' w3 hown' hgrow _)
      obtain ⟨g', cap', rfl⟩ := ownsRow_succ hown'
      have hbut := (But.of_below hb4).trans (But.grown hgrow)
      have hbel3 := (hbel.trans (hb4.mono hbel.size)).grown hgrow (by simp; omega) (fun q hq => (hbld4.2.1.lt q hq).1)
      have q3 := hbut.on q1 n1
      have f3 := hbut.frozen q1 (hbld.1.frozen 1) n1
      obtain ⟨hbld5, _⟩ := hbld4.push hset4 rfl rfl hown' hgrow
      rw [hln] at hbld5
      refine nxt_op rfl hbut ?_
      go_wp2_with fail
      refine nxt_op rfl hbut ?_
      go_wp2_with fail
      refine nxt_op rfl hbut ?_
      go_wp2_with fail
      refine nxt_nil ?_
      go_wp2_with fail
      exact ⟨⟨k + 1, by omega, by go_num, ⟨_, _, by rw [mtrans_succ]; exact hbld5⟩, hbel3.setCell (by simp) _⟩, by simp [intOf]; omega⟩
    · obtain rfl : k = C := by omega
      have hm : IsMO wr w.heap.size Ns.length (mtrans k Ns k) := ⟨rv, us, ⟨hbld.1, own_low0 hbld.2.1, hbld.2.2⟩, h2, by rw [mtrans_len]; omega⟩
      go_wp2
      go_ret
      exact ⟨_, rfl, hm, hbel⟩
end Go.Proofs.YtfbkcdhmggjbaaaGreatDoor

/-
  package cover: build, the roles of a list of concepts.
-/
namespace Go.Proofs.YtfbkcdhmggjbaaaGreatDoor
open Go.RowKit

theorem rowsIn_hav {C : Nat} {Ns : List Nat} (hl : Ns.length ≤ 4096) (M : List Nat) : rowsIn Ns.length (M.map (havN C Ns)) := fun i hi => by
  rw [List.length_map] at hi
  rw [List.getD_eq_getElem?_getD, List.getElem?_map, List.getElem?_eq_getElem hi]
  refine Nat.eq_of_testBit_eq fun x => ?_
  show (havN C Ns M[i] &&& lowN Ns.length).testBit x = (havN C Ns M[i]).testBit x
  rw [Nat.testBit_and, testBit_lowN]
  cases hx : (havN C Ns M[i]).testBit x with
  | false => rfl
  | true => rw [decide_eq_true (havN_lt hl hx)]; rfl
theorem rowsIn_clo {C : Nat} {Ns M : List Nat} (h : ∀ s ∈ M, cloN C Ns s = s) : rowsIn C M := fun i hi => by
  have hm : M.getD i 0 ∈ M := by rw [List.getD_eq_getElem?_getD, List.getElem?_eq_getElem hi]; exact List.getElem_mem _
  refine Nat.eq_of_testBit_eq fun x => ?_
  rw [Nat.testBit_and, testBit_lowN]
  cases hx : (M.getD i 0).testBit x with
  | false => rfl
  | true =>
    rw [← h _ hm] at hx
    rw [decide_eq_true (comN_lt hx)]; rfl
/-- The users of some concepts, as rows. -/
def usersN (C : Nat) (Ns M : List Nat) : List Nat := mtrans Ns.length (M.map (havN C Ns)) Ns.length
set_option maxRecDepth 100000 in
set_option maxHeartbeats 16000000 in
theorem build_any (base : Nat) (v : Value) (C : Nat) (Ns M : List Nat) (w : World) (hK : OwnK w base v C Ns M) (hM : M.length ≤ 256) (hR : Ns.length ≤ 256) (hC : C ≤ 256) (hcl : ∀ s ∈ M, cloN C Ns s = s) :
    Calls Tryz.prog 39 #[.int .i64 Ns.length, .int .i64 C, v] w fun e w' => ∃ u p, e = .returned (.tuple #[.agg #[ptr u, ptr p], .int .i64 0]) ∧ IsMO w' u M.length (usersN C Ns M) ∧ IsMO w' p C M ∧ Below w.heap.size w w' := by
  obtain ⟨i0, hi0, hz0, hz1, hz2⟩ := info_parts info_set
  have hl : Ns.length ≤ 4096 := by omega
  obtain ⟨A, c, rfl⟩ := hK.val
  have HK := Lib.hid hK
  have HR1 := Lib.hid (rowsIn_hav (C := C) hl M)
  have HR2 := Lib.hid (rowsIn_clo hcl)
  clear hK hcl
  go_enter Tryz.func39, Tryz.ntmps39
  go_upto_region 2 with fail
  refine abs1 fun W0 h6 hb0 hz => ?_
  clear hz
  obtain ⟨g6, hg6⟩ : ∃ x, x = w.heap.size := ⟨_, rfl⟩
  have hgw : w.heap.size ≤ g6 := by omega
  rw [← hg6] at h6 ⊢
  clear hg6
  go_wp2_with fail
  refine wp_loopF (β := Nat × Value × Value) (fun x f => #[.int .i64 (Ns.length : Int), .int .i64 (C : Int), f 2, f 3, f 4, f 5, ptr g6, .int .i64 0, x.2.1, x.2.2, f 10, f 11, f 12, f 13, f 14, .slice A M.length c, .int .i64 (M.length : Int), .int .i64 (x.1 : Int), f 18, f 19, f 20, f 21, f 22, f 23, f 24, f 25, f 26, f 27, f 28, f 29, f 30, f 31, f 32, f 33, f 34, f 35, f 36, f 37, f 38, f 39, f 40, f 41, f 42, f 43, f 44, f 45, f 46, f 47, f 48, f 49, f 50, f 51, f 52, f 53, f 54, f 55])
    (fun x ds W => ds = [] ∧ x.1 ≤ M.length ∧ Below w.heap.size w W ∧ Blk W g6 34 #[.pointer none, .pointer none] ∧ OwnO W w.heap.size x.2.1 ((M.take x.1).map (havN C Ns)) ∧ OwnO W w.heap.size x.2.2 (M.take x.1) ∧ ∀ g, x.2.1.ownBlock = some g → x.2.2.ownBlock ≠ some g) (fun x => M.length - x.1) (0, .slice none 0 0, .slice none 0 0) rfl
    ⟨rfl, Nat.zero_le _, hb0, h6, OwnO.nil _ _, OwnO.nil _ _, fun g hg => (by cases hg)⟩ ?_
  rintro ⟨k, v8, v9⟩ f ds W ⟨rfl, hk, hb, k6, hU, hP, hne⟩
  dsimp only at hk hU hP hne ⊢
  by_cases hlt : k < M.length
  · obtain ⟨s, hs⟩ : ∃ s, M[k]? = some s := ⟨_, List.getElem?_eq_getElem hlt⟩
    obtain ⟨gr, off, A1, c1, A2, c2, rfl, hgr, d0, d1, s1, s2⟩ := ((HK.out.below hb).isK (by omega)).at hs
    obtain ⟨X, hX⟩ : ∃ X, X = havN C Ns s := ⟨_, rfl⟩
    rw [← hX] at d0 s1
    have htk : M.take (k + 1) = M.take k ++ [s] := by rw [List.take_add_one, hs]; rfl
    have htm : (M.take (k + 1)).map (havN C Ns) = (M.take k).map (havN C Ns) ++ [X] := by rw [htk, List.map_append, hX]; rfl
    have htl : (M.take k).length = k := by rw [List.length_take]; omega
    obtain ⟨vu, hU0, hUs⟩ := hU
    obtain ⟨vp, hP0, hPs⟩ := hP
    rw [List.length_map, htl] at hU0
    rw [htl] at hP0
    have HTK := Lib.hid htk; have HTM := Lib.hid htm; have HTL := Lib.hid htl; have HUS := Lib.hid hUs; have HPS := Lib.hid hPs
    clear htk htm htl hUs hPs hs hX
    go_upto_region 5 with fail
    refine abs1 fun W1 h11 hb1 hz => ?_
    clear hz
    have b1 := hb.trans (hb1.mono hb.size)
    obtain ⟨g11, hg11⟩ : ∃ x, x = W.heap.size := ⟨_, rfl⟩
    rw [← hg11] at h11 ⊢
    clear hg11
    have c0 := h11.cell 0
    have k61 := k6.below hb1 k6.lt
    obtain ⟨A8, c8, rfl, -⟩ := RowN.of_own hU0
    obtain ⟨A9, c9, rfl, -⟩ := RowN.of_own hP0
    have hba : Below W1.heap.size W1 (W1.alloc (.cells #[.slice A1 (nw X) c1] 74)) := (Below.refl _ _).alloc (Nat.le_refl _) _
    have hU1 := own_below (own_below hU0 hb1) hba
    have hP1 := own_below (own_below hP0 hb1) hba
    have hb1a := hb1.trans (hba.mono hb1.size)
    have s1a := s1.below hb1a
    have s2a := s2.below hb1a
    have b2 := b1.trans (hba.mono b1.size)
    have k62 := k61.below hba k61.lt
    have h112 := h11.below hba h11.lt
    have HUS1 := Lib.hid (HUS.out.below hb1a)
    have HPS1 := Lib.hid (HPS.out.below hb1a)
    have hsz := b1.size
    have hgP : ∀ g, (Value.slice A9 k c9).ownBlock = some g → g < W1.heap.size := fun g hg => by
      obtain ⟨cs, hB⟩ := own_kind (own_below hP0 hb1) g hg
      exact hB.lt
    clear hU0 hP0 d0 d1 s1 s2 k6 k61 hb1 hb hb1a
    go_wp2_with (at_builtin; refine wpList_append_lies _ rfl _ _ 71 rfl w.heap.size 74 i0 (.agg #[.slice none 0 0]) 1 24 Tryz.underlying71 hi0 hz0 hz1 hz2 rfl (by decide) _ _ _ rfl hU1 ⟨W1.heap.size, 0, none⟩ 1 1 [.slice A1 (nw X) c1] rfl rfl (World.news_of_block (Blk.new _ _ _)) (by simp [Value.oneCell']) (by omega) (by unfold maxLen; omega) (by omega) (by first | omega | (simp; omega)) _ rfl ?_)
    intro gu cu w5 hU5 hgrow5 hlies5 hlt5
    have hgu : gu < w5.heap.size ∧ (Value.slice A9 k c9).ownBlock ≠ some gu := by
      refine ⟨?_, ?_⟩
      · obtain ⟨cs, hB⟩ := own_kind hU5 gu rfl
        exact hB.lt
      · rcases hlies5 with h | h
        · exact hne gu h
        · intro e
          have h1 := hgP gu e
          have h2 := hba.size
          omega
    have hP5 := own_but hP1 (But.grown hgrow5) (fun g hg e => hne g e.symm hg)
    have hkw5 := KeepW.grown hgrow5 hU1 (by decide)
    have h115 := h112.grown hgrow5 (own_ne hU1 h112 (by decide))
    have k65 := k62.grown hgrow5 (own_ne hU1 k62 (by decide))
    have b5 := b2.grown hgrow5 b2.size (fun q hq => (hU1.lt q hq).1)
    have hgP5 : ∀ g, (Value.slice A9 k c9).ownBlock = some g → g < w5.heap.size := fun g hg => Nat.lt_of_lt_of_le (hgP g hg) (Nat.le_trans hba.size hgrow5.size)
    have s1b := s1a.keep hkw5
    have s2b := s2a.keep hkw5
    have HUS5 := Lib.hid (HUS1.out.keep hkw5)
    have HPS5 := Lib.hid (HPS1.out.keep hkw5)
    have hba2 : Below w5.heap.size w5 (w5.alloc (.cells #[.slice A2 (nw s) c2] 74)) := (Below.refl _ _).alloc (Nat.le_refl _) _
    have hP6 := own_below hP5 hba2
    have hU6 := own_below hU5 hba2
    have b6 := b5.trans (hba2.mono b5.size)
    have k66 := k65.below hba2 k65.lt
    have HGU := Lib.hid hgu
    have c1' := h115.cell 1
    have n115 := h115.lt
    have hsz5 := b5.size
    clear hgrow5 hlies5 hlt5 hU1 hP1 s1a s2a k62 h112 b2 hgu hkw5 hba hne hgP c0
    go_wp2_with (at_builtin; refine wpList_append_lies _ rfl _ _ 71 rfl w.heap.size 74 i0 (.agg #[.slice none 0 0]) 1 24 Tryz.underlying71 hi0 hz0 hz1 hz2 rfl (by decide) _ _ _ rfl hP6 ⟨w5.heap.size, 0, none⟩ 1 1 [.slice A2 (nw s) c2] rfl rfl (World.news_of_block (Blk.new _ _ _)) (by simp [Value.oneCell']) (by omega) (by unfold maxLen; omega) (by omega) (by first | omega | (simp; omega)) _ rfl ?_)
    intro gp cp w7 hP7 hgrow7 hlies7 hlt7
    have hgp : gu ≠ gp := fun e => by
      subst e
      rcases hlies7 with h | h
      · exact HGU.out.2 h
      · have := HGU.out.1
        have h2 := hba2.size
        omega
    have hU7 := own_but hU6 (But.grown hgrow7) (fun g hg e => by
      cases hg
      exact HGU.out.2 e.symm)
    have hkw7 := (KeepW.of_below hba2).trans (KeepW.grown hgrow7 hP6 (by decide))
    have k67 := k66.grown hgrow7 (own_ne hP6 k66 (by decide))
    have b7 := b6.grown hgrow7 b6.size (fun q hq => (hP6.lt q hq).1)
    have s1c := s1b.keep hkw7
    have s2c := s2b.keep hkw7
    have hus7 := (HUS5.out.keep hkw7).snoc s1c
    have hps7 := (HPS5.out.keep hkw7).snoc s2c
    rw [← HTM.out] at hus7
    rw [← HTK.out] at hps7
    have hlu : ((M.take (k + 1)).map (havN C Ns)).length = k + 1 := by rw [List.length_map, List.length_take]; omega
    have hlp : (M.take (k + 1)).length = k + 1 := by rw [List.length_take]; omega
    go_wp2_with fail
    exact ⟨(k + 1, .slice (some ⟨gu, 0, none⟩) (k + 1) cu, .slice (some ⟨gp, 0, none⟩) (k + 1) cp), rfl, ⟨by first | rfl | trivial, by show k + 1 ≤ M.length; omega, b7, k67, ⟨_, by rw [hlu]; exact hU7, hus7⟩, ⟨_, by rw [hlp]; exact hP7, hps7⟩, fun g hg e => hgp (by
      have h1 : gu = g := Option.some.inj hg
      have h2 : gp = g := Option.some.inj e
      omega)⟩, by show M.length - (k + 1) < M.length - k; omega⟩
  · obtain rfl : k = M.length := by omega
    rw [List.take_length] at hU hP
    obtain ⟨vu, hU0, hUs⟩ := hU
    obtain ⟨vp, hP0, hPs⟩ := hP
    obtain ⟨A8, c8, rfl, hru, -⟩ := RowN.of_own hU0
    obtain ⟨A9, c9, rfl, hrp, -⟩ := RowN.of_own hP0
    rw [List.length_map] at hU0
    have hof := ofm_own A8 c8 Ns.length vu (M.map (havN C Ns)) W hru hUs hR (by rw [List.length_map]; exact hM)
    rw [List.length_map] at hof
    have HOF := hideC hof
    have hml : (List.map (havN C Ns) M).length = M.length := List.length_map ..
    rw [hml]
    clear hof hne hml
    go_wp2_with fail
    with_reducible refine HOF.out.mono ?_
    rintro e W1 (⟨rfl, hno, _⟩ | ⟨q, rfl, -, hq, -, hb1⟩)
    · exact absurd HR1.out hno
    have b1 := hb.trans (hb1.mono hb.size)
    have k61 := k6.below hb1 k6.lt
    have HOG := hideC (ofm_own A9 c9 C vp M W1 (hrp.below hb1) (hPs.below hb1) hC hM)
    clear HOF
    go_wp2_with fail
    with_reducible refine HOG.out.mono ?_
    rintro e W2 (⟨rfl, hno, _⟩ | ⟨p, rfl, -, hp, -, hb2⟩)
    · exact absurd HR2.out hno
    have b2 := b1.trans (hb2.mono b1.size)
    have k62 := k61.below hb2 k61.lt
    have HTR := hideC (trans_own q Ns.length (M.map (havN C Ns)) W2 (hq.mat.below hb2))
    clear HOG
    go_wp2_with fail
    with_reducible refine HTR.out.mono ?_
    rintro e W3 ⟨u, rfl, hu, hb3⟩
    rw [List.length_map] at hu
    have b3 := b2.trans (hb3.mono b2.size)
    have k63 := k62.below hb3 k62.lt
    have f0 := k63.frozen 0
    have f1 := k63.frozen 1
    have c0 := k63.cell 0
    have c1 := k63.cell 1
    have l6 := k63.lt
    go_wp2_with fail
    have hf := (k63.set_ 0 (ptr u)).set_ 1 (ptr p)
    have cX := hf.cell 0
    have cY := hf.cell 1
    have kk : ∀ (r D : Nat) (Ms : List Nat), IsMO W3 r D Ms → IsMO ((W3.setCell ⟨g6, 0, none⟩ (ptr u)).setCell ⟨g6, 1, none⟩ (ptr p)) r D Ms := fun r D Ms h => (h.put (i := 0) k63 (by decide) (by decide) (by decide) (ptr u)).put (i := 1) (k63.set_ 0 (ptr u)) (by decide) (by decide) (by decide) (ptr p)
    refine bodyPost_ret (v := .tuple #[.agg #[ptr u, ptr p], .int .i64 0]) (by simp [results, Tryz.results39, go_sem, cX, cY]) rfl ⟨u, p, rfl, kk _ _ _ hu, kk _ _ _ (hp.below hb3), (b3.setCell (p := ⟨g6, 0, none⟩) hgw _).setCell (p := ⟨g6, 1, none⟩) hgw _⟩
end Go.Proofs.YtfbkcdhmggjbaaaGreatDoor

/-
  package cover: Minimal.
-/
namespace Go.Proofs.YtfbkcdhmggjbaaaGreatDoor
open Go.RowKit

def sumT : Nat → Nat
  | 0 => 0
  | b + 1 => sumT b + callsT b
theorem sumT_mono : ∀ {a b : Nat}, a ≤ b → sumT a ≤ sumT b
  | a, 0, h => by rw [Nat.le_zero.1 h]; exact Nat.le_refl _
  | a, b + 1, h => by
    by_cases e : a = b + 1
    · rw [e]; exact Nat.le_refl _
    · have := sumT_mono (a := a) (b := b) (by omega)
      rw [sumT]; omega
/-- The least number of concepts that cover, tried up to b. -/
def sizeF (C : Nat) (Ns L : List Nat) (o : List (Nat × Nat)) : Nat → Nat → Nat
  | 0, b => b
  | n + 1, b => if covK C Ns L 0 b o = true then b else sizeF C Ns L o n (b + 1)
def sizeM (C : Nat) (Ns : List Nat) : Nat := sizeF C Ns (allL C Ns) (cellsOf Ns) Ns.length 0
/-- The least one of the shortest lists. -/
def minK (C : Nat) (Ns : List Nat) : List Nat := leastK C Ns (allL C Ns) (allL C Ns).length 0 (sizeM C Ns) (cellsOf Ns)
def minC (C : Nat) (Ns : List Nat) : List Nat := atL (allL C Ns) (minK C Ns)
section
variable {C : Nat} {Ns L : List Nat}
theorem allL_clo : ∀ s ∈ allL C Ns, cloN C Ns s = s := fun s hs => by
  have h := ((mem_allTo (2 ^ C)).1 hs).2.2
  unfold oneS at h
  rw [Bool.and_eq_true, decide_eq_true_eq] at h
  exact h.1
theorem allL_nd (C : Nat) (Ns : List Nat) : (allL C Ns).Nodup := (allTo_lec C Ns (2 ^ C)).imp fun {x y} h e => by subst e; rw [lecR_irrefl] at h; cases h
theorem allL_nil (C : Nat) : allL C [] = [] := List.eq_nil_iff_forall_not_mem.2 fun s hs => by
  have h := ((mem_allTo (2 ^ C)).1 hs).2.2
  unfold oneS at h
  simp only [Bool.and_eq_true, decide_eq_true_eq, Bool.not_eq_true', decide_eq_false_iff_not] at h
  refine h.2 (Nat.eq_of_testBit_eq fun x => ?_)
  rw [Nat.zero_testBit]
  cases hx : (havN C [] s).testBit x with
  | false => rfl
  | true => have := havN_lt (by simp) hx; simp at this
theorem row_clo (hl : Ns.length ≤ 4096) (hin : rowsIn C Ns) {i : Nat} (hi : i < Ns.length) : cloN C Ns (Ns.getD i 0) = Ns.getD i 0 := by
  refine Nat.eq_of_testBit_eq fun j => ?_
  have hC : ∀ j, (Ns.getD i 0).testBit j = true → j < C := fun j hj => by
    rw [← hin i hi, Nat.testBit_and, testBit_lowN, Bool.and_eq_true, decide_eq_true_eq] at hj; exact hj.2
  cases hj : (Ns.getD i 0).testBit j with
  | true => exact clo_sup hl (hC j hj) hj
  | false =>
    cases hc : (cloN C Ns (Ns.getD i 0)).testBit j with
    | false => rfl
    | true =>
      unfold cloN comN comTo at hc
      rw [testBit_comGo] at hc
      have := hc.2 i (mem_mems.2 ((testBit_havN C Ns hl _ _).2 ⟨hi, fun x hx _ => hx⟩)) hi
      rw [this] at hj; cases hj
/-- The rows themselves cover. -/
theorem cov_rows (hl : Ns.length ≤ 4096) (hin : rowsIn C Ns) : CovK C Ns (allL C Ns) 0 Ns.length (cellsOf Ns) := by
  have key : ∀ n, n ≤ Ns.length → ∃ ks : List Nat, ks.length ≤ n ∧ (∀ k ∈ ks, 0 ≤ k ∧ k < (allL C Ns).length) ∧ ∀ c ∈ cellsOf Ns, c.1 < n → ∃ k ∈ ks, inS C Ns ((allL C Ns).getD k 0) c = true := by
    intro n
    induction n with
    | zero => intro _; exact ⟨[], by simp, by simp, fun c _ h => by omega⟩
    | succ n ih =>
      intro hn
      obtain ⟨ks, h1, h2, h3⟩ := ih (by omega)
      by_cases h0 : Ns.getD n 0 = 0
      · refine ⟨ks, by omega, h2, fun c hc hlt => ?_⟩
        by_cases e : c.1 = n
        · have := (mem_cellsOf.1 hc).2
          rw [e, h0] at this; simp at this
        · exact h3 c hc (by omega)
      · have hcl := row_clo (C := C) hl hin (i := n) (by omega)
        have hav : (havN C Ns (Ns.getD n 0)).testBit n = true := (testBit_havN C Ns hl _ _).2 ⟨by omega, fun x hx _ => hx⟩
        have hm : Ns.getD n 0 ∈ allL C Ns := by
          refine (mem_allTo (2 ^ C)).2 ⟨by have := clo_lt C Ns (Ns.getD n 0); omega, h0, ?_⟩
          unfold oneS
          rw [Bool.and_eq_true]
          refine ⟨decide_eq_true hcl, ?_⟩
          rw [Bool.not_eq_true', decide_eq_false_iff_not]
          intro e; rw [e] at hav; simp at hav
        obtain ⟨k, hk⟩ := List.mem_iff_getElem?.1 hm
        refine ⟨k :: ks, by rw [List.length_cons]; omega, fun k' hk' => ?_, fun c hc hlt => ?_⟩
        · rcases List.mem_cons.1 hk' with rfl | hk'
          · exact ⟨Nat.zero_le _, (List.getElem?_eq_some_iff.1 hk).1⟩
          · exact h2 k' hk'
        · by_cases e : c.1 = n
          · refine ⟨k, .head _, ?_⟩
            rw [List.getD_eq_getElem?_getD, hk]
            show inS C Ns (Ns.getD n 0) c = true
            unfold inS
            rw [e, hav, Bool.and_true]
            have := (mem_cellsOf.1 hc).2
            rwa [e] at this
          · obtain ⟨k', hk', he⟩ := h3 c hc (by omega)
            exact ⟨k', .tail _ hk', he⟩
  obtain ⟨ks, h1, h2, h3⟩ := key Ns.length (Nat.le_refl _)
  exact ⟨ks, h1, h2, fun c hc => h3 c hc (mem_cellsOf.1 hc).1⟩
theorem sizeF_spec {o : List (Nat × Nat)} : ∀ {n b : Nat}, CovK C Ns L 0 (b + n) o → b ≤ sizeF C Ns L o n b ∧ sizeF C Ns L o n b ≤ b + n ∧ CovK C Ns L 0 (sizeF C Ns L o n b) o ∧ ∀ b', b ≤ b' → b' < sizeF C Ns L o n b → ¬ CovK C Ns L 0 b' o
  | 0, b, h => ⟨Nat.le_refl _, Nat.le_refl _, h, fun b' h1 h2 => by rw [sizeF] at h2; omega⟩
  | n + 1, b, h => by
    rw [sizeF]
    by_cases hc : covK C Ns L 0 b o = true
    · rw [if_pos hc]
      exact ⟨Nat.le_refl _, by omega, (covK_iff b o).1 hc, fun b' h1 h2 => by omega⟩
    · rw [if_neg hc]
      obtain ⟨h1, h2, h3, h4⟩ := sizeF_spec (n := n) (b := b + 1) (by rw [show b + 1 + n = b + (n + 1) by omega]; exact h)
      refine ⟨by omega, by omega, h3, fun b' h5 h6 => ?_⟩
      by_cases e : b' = b
      · rw [e]; exact fun h => hc ((covK_iff b o).2 h)
      · exact h4 b' (by omega) h6
theorem leastK_lt : ∀ {n k b : Nat} {o : List (Nat × Nat)}, (leastK C Ns L n k b o).length ≤ n ∧ ∀ j ∈ leastK C Ns L n k b o, k ≤ j ∧ j < k + n
  | 0, k, b, o => by rw [leastK]; simp
  | n + 1, k, b, o => by
    rw [leastK]
    split
    · simp
    · split
      · obtain ⟨h1, h2⟩ := leastK_lt (n := n) (k := k + 1) (b := b - 1) (o := lessL C Ns o (L.getD k 0))
        refine ⟨by rw [List.length_cons]; omega, fun j hj => ?_⟩
        rcases List.mem_cons.1 hj with rfl | hj
        · omega
        · have := h2 j hj; omega
      · obtain ⟨h1, h2⟩ := leastK_lt (n := n) (k := k + 1) (b := b) (o := o)
        exact ⟨by omega, fun j hj => by have := h2 j hj; omega⟩
theorem minK_lt (C : Nat) (Ns : List Nat) : ∀ k ∈ minK C Ns, k < (allL C Ns).length := fun k hk => by have := (leastK_lt.2 k hk).2; omega
theorem minC_clo : ∀ s ∈ minC C Ns, cloN C Ns s = s := fun s hs => by
  obtain ⟨k, hk, rfl⟩ := List.mem_map.1 hs
  have hlt := minK_lt C Ns k hk
  refine allL_clo _ ?_
  rw [List.getD_eq_getElem?_getD, List.getElem?_eq_getElem hlt]
  exact List.getElem_mem _
theorem allL_len (hC : C ≤ 5) : (allL C Ns).length ≤ 32 := Nat.le_trans (allTo_len C Ns (2 ^ C)) (Nat.le_trans (Nat.pow_le_pow_right (by omega) hC) (by decide))
theorem minC_len (hC : C ≤ 5) : (minC C Ns).length ≤ 32 := by
  unfold minC atL minK
  rw [List.length_map]
  exact Nat.le_trans leastK_lt.1 (allL_len hC)
theorem sizeM_le (hl : Ns.length ≤ 4096) (hin : rowsIn C Ns) : sizeM C Ns ≤ Ns.length := by
  have := (sizeF_spec (n := Ns.length) (b := 0) (by rw [Nat.zero_add]; exact cov_rows hl hin)).2.1
  unfold sizeM; omega
theorem sizeM_no (hl : Ns.length ≤ 4096) (hin : rowsIn C Ns) {b : Nat} (h : b < sizeM C Ns) : ¬ CovK C Ns (allL C Ns) 0 b (cellsOf Ns) :=
  (sizeF_spec (n := Ns.length) (b := 0) (by rw [Nat.zero_add]; exact cov_rows hl hin)).2.2.2 b (Nat.zero_le _) h
theorem under_self (Ns : List Nat) : Under Ns Ns := ⟨rfl, fun _ _ _ h => h⟩
end
theorem min_ar1 {b nd : Nat} (hb : b ≤ 5) (h : nd ≤ sumT b) : nd + callsT b ≤ 1000000 := by
  have h1 : sumT b ≤ sumT 5 := sumT_mono hb
  have h2 : callsT b ≤ callsT 5 := callsT_mono hb
  have h3 : sumT 5 = 5349 := by decide
  have h4 : callsT 5 = 37449 := by decide
  omega
theorem min_ar2 {b nd K : Nat} (hb : b ≤ 5) (h : nd ≤ sumT (b + 1)) (hK : K ≤ 32) : nd + K * callsT (b - 1) ≤ 300000 := by
  have h1 : sumT (b + 1) ≤ sumT 6 := sumT_mono (by omega)
  have h2 : callsT (b - 1) ≤ callsT 4 := callsT_mono (by omega)
  have h3 : sumT 6 = 42798 := by decide
  have h4 : callsT 4 = 4681 := by decide
  have h5 : K * callsT (b - 1) ≤ 32 * 4681 := Nat.mul_le_mul hK (by omega)
  omega
theorem min_ar3 {b nd : Nat} (hb : b ≤ 4) (h : nd ≤ 300000) : nd + callsT b ≤ 400000 ∧ 0 + callsT b ≤ 5000 := by
  have h2 : callsT b ≤ callsT 4 := callsT_mono hb
  have h4 : callsT 4 = 4681 := by decide
  omega
theorem big_no {nd : Nat} (h : nd ≤ 1000000) : decide ((1000000 : Int) < (nd : Int)) = false ∧ decide ((nd : Int) ≤ 1000000) = true := ⟨decide_eq_false (by omega), decide_eq_true (by omega)⟩
theorem big_len {n : Nat} (h : n ≤ 5000) : decide ((5000 : Int) < (n : Int)) = false := decide_eq_false (by omega)
end Go.Proofs.YtfbkcdhmggjbaaaGreatDoor
