import Derived.Test.YtjlcnbfkblmoeaaDoorMat4
namespace Go.Proofs.YtjlcnbfkblmoeaaDoor
open Go.RowKit

/-- Each row is within the columns. -/
def rowsIn (C : Nat) (Ns : List Nat) : Prop := ∀ k, k < Ns.length → Ns.getD k 0 &&& lowN C = Ns.getD k 0
theorem getD_at {Ns : List Nat} {k : Nat} (h : k < Ns.length) : Ns.getD k 0 = Ns[k] := by rw [List.getD_eq_getElem?_getD, List.getElem?_eq_getElem h, Option.getD_some]

set_option maxRecDepth 100000 in
set_option maxHeartbeats 1000000 in
theorem ofm_arg (A : Option Addr) (n c : Nat) (C : Int) (w : World) (h : C < 0 ∨ C > 256 ∨ n > 256) :
    Calls Tryd.prog 44 #[.int .i64 C, .slice A n c] w fun e w' => e = pair (.pointer none) 1 ∧ w = w' := by
  have HN := hideC (new_no n C w (by omega))
  go_enter Tryd.func44, Tryd.ntmps44
  go_wp2_with (go_at_call 41; refine HN.out.mono ?_; rintro e w1 ⟨rfl, rfl⟩)
  go_ret2
  exact ⟨rfl, rfl⟩

/-- What Of leaves: the matrix, or the error. -/
def OfPost (w : World) (C : Nat) (Ns : List Nat) (e : Ending) (w' : World) : Prop :=
  (e = pair (.pointer none) 2 ∧ ¬ rowsIn C Ns ∧ Below w.heap.size w w') ∨ (∃ q, e = pair (ptr q) 0 ∧ rowsIn C Ns ∧ IsMat w' q C Ns ∧ w.heap.size ≤ q ∧ Below w.heap.size w w')

set_option maxRecDepth 100000 in
set_option maxHeartbeats 1000000 in
theorem ofm_any (A : Option Addr) (c C : Nat) (vs : List Value) (Ns : List Nat) (w : World) (hr : Row w A vs) (hs : Sets w vs Ns) (hC : C ≤ 256) (hn : Ns.length ≤ 256) :
    Calls Tryd.prog 44 #[.int .i64 C, .slice A Ns.length c] w (OfPost w C Ns) := by
  have HN := hideC (new_yes Ns.length C w hn hC)
  go_enter Tryd.func44, Tryd.ntmps44
  go_wp2_with fail
  refine HN.out.mono ?_
  rintro e w1 ⟨rfl, hw1⟩
  have hb := (Blk.new w 65 (zeros (.slice none 0 0) Ns.length)).alloc (.cells #[.int .i64 (C : Int), .slice (some ⟨w.heap.size, 0, none⟩) Ns.length Ns.length] 86)
  have hm := Blk.new_ (n := w.heap.size + 1) (w := w.alloc (.cells (zeros (.slice none 0 0) Ns.length) 65)) (by simp) 86 #[.int .i64 (C : Int), .slice (some ⟨w.heap.size, 0, none⟩) Ns.length Ns.length]
  have hbl : Below w.heap.size w w1 := by rw [hw1]; exact ((Below.refl _ _).alloc (Nat.le_refl _) _).alloc (by simp) _
  have hz1 : w1.heap.size = w.heap.size + 2 := by rw [hw1]; simp
  rw [← hw1] at hb hm
  clear hw1
  have HZ1 := Lib.hid hz1; clear hz1
  go_wp2_with fail
  go_loopw [22] (fun i wr => ∃ k : Nat, k ≤ Ns.length ∧ i = .int .i64 k ∧ (∀ j, j < k → Ns.getD j 0 &&& lowN C = Ns.getD j 0) ∧ Blk wr (w.heap.size + 1) 86 #[.int .i64 (C : Int), .slice (some ⟨w.heap.size, 0, none⟩) Ns.length Ns.length] ∧
      Blk wr w.heap.size 65 (filled (.slice none 0 0) (fun j => vs.getD j undef) k Ns.length) ∧ Below w.heap.size w wr) (fun i _ => Ns.length - (intOf i).toNat)
  case atStart => exact ⟨0, Nat.zero_le _, rfl, fun j hj => absurd hj (by omega), hm, hb.fill0 _, hbl⟩
  case round =>
    obtain ⟨k, hk, rfl, heq, hmb, hrb, hbel⟩ := hrel
    have HEQ := Lib.hid heq; clear heq
    by_cases hlt : k < Ns.length
    · obtain ⟨A1, c1, hv, hset⟩ := hs.at_ hlt
      obtain ⟨g, off, rfl, hg, hcell⟩ := hr (by rw [hs.1]; omega)
      have cv := onB hbel (hcell k _ hv)
      have hf := filled_set (.slice none 0 0) (fun j => vs.getD j undef) hlt
      have hvD : vs.getD k undef = .slice A1 (nw Ns[k]) c1 := by rw [List.getD_eq_getElem?_getD, hv]; rfl
      rw [hvD] at hf
      have HF := Lib.hid hf; clear hf hvD
      clear hcell hr hs hv hb hm
      have hsb := hset.below hbel
      go_wp2_with fail
      refine abs1 fun W1 hX hbx hz1 => ?_
      have cX := hX.cell 0
      have HZ := Lib.hid hz1; clear hz1
      have hbel1 := hbel.trans (hbx.mono hbel.size)
      have hbe := below_any (C : Int) W1.drew
      rw [clamp_nat (by omega)] at hbe
      have HB := hideC hbe; clear hbe
      by_cases he : Ns[k] &&& lowN C = Ns[k]
      · have HE := Lib.hid he; clear he
        refine wp_spine (fun W => Below W1.heap.size W1 W) [0, 1] [2, 3, 4] (by kernel_rfl) (by kernel_rfl) ?_
        iterate 2 (refine wpE_op (v := ?_) rfl rfl (fun W hW => ?_) ?_; rotate_left; (have x1 := onB hW cX; go_simp; first | done | with_reducible rfl); simp only [Act.put, List.setIfInBounds_toArray, List.set_cons_zero, List.set_cons_succ])
        refine wpE_nil ⟨fun h => (by cases h), wpSp_op rfl (Below.refl _ _).drew ?_⟩
        go_wp2_with fail
        refine HB.out.mono ?_
        rintro e w2 ⟨r, rfl, hset2, hb2⟩
        obtain ⟨A2, c2, rfl, _⟩ := id hset2
        have hb3 : Below W1.heap.size W1 w2 := (Below.refl _ _).drew.trans hb2
        have hcall := within_any _ _ _ _ w2 ((hsb.below hbx).below hb3) hset2
        rw [decide_eq_true HE.out] at hcall
        have HC := hideC hcall; clear hcall
        go_wp2_with fail
        refine nxt_op rfl hb3 ?_
        go_wp2_with fail
        refine HC.out.mono ?_
        rintro e w3 ⟨rfl, hb4⟩
        have hb5 : Below W1.heap.size W1 w3 := hb3.trans (hb4.mono hb3.size)
        go_wp2_with fail
        refine nxt_op rfl hb5 ?_
        go_wp2_with fail
        refine nxt_nil ?_
        have hm3 := (hmb.below hbx hmb.lt).below hb5 (Blk.lt (hmb.below hbx hmb.lt))
        have hr3 := (hrb.below hbx hrb.lt).below hb5 (Blk.lt (hrb.below hbx hrb.lt))
        have cX3 := onB hb5 cX
        have cm3 := hm3.cell 1
        have cr3 := (hr3.cell k).trans (filled_get _ _ hlt)
        have fr3 := hr3.frozen k
        go_wp2_with fail
        refine wp_spine (fun W => Below w3.heap.size w3 W) [0, 1, 2, 3, 4, 5, 6] [7] (by kernel_rfl) (by kernel_rfl) ?_
        iterate 7 (refine wpE_op (v := ?_) rfl rfl (fun W hW => ?_) ?_; rotate_left; (have x1 := onB hW cX3; have x2 := onB hW cm3; go_simp; first | done | with_reducible rfl); simp only [Act.put, List.setIfInBounds_toArray, List.set_cons_zero, List.set_cons_succ])
        refine wpE_nil ⟨fun h => (by cases h), wpSp_op rfl (Below.refl _ _).drew ?_⟩
        go_wp2_with fail
        refine nxt_nil ?_
        go_wp2_with fail
        have hr4 := hr3.drew.set_ k (.slice A1 (nw Ns[k]) c1)
        rw [HF.out] at hr4
        have hne : w.heap.size + 1 ≠ w.heap.size := by omega
        exact ⟨⟨k + 1, by omega, by go_num, fun j hj => by
          by_cases h : j = k
          · rw [h, getD_at hlt]; exact HE.out
          · exact HEQ.out j (by omega), hm3.drew.far (p := ⟨w.heap.size, k, none⟩) hne _, hr4, ((hbel1.trans (hb5.mono hbel1.size)).drew).setCell (Nat.le_refl _) _⟩, by simp [intOf]; omega⟩
      · have HE := Lib.hid he; clear he
        refine wp_spine (fun W => Below W1.heap.size W1 W) [0, 1] [2, 3, 4] (by kernel_rfl) (by kernel_rfl) ?_
        iterate 2 (refine wpE_op (v := ?_) rfl rfl (fun W hW => ?_) ?_; rotate_left; (have x1 := onB hW cX; go_simp; first | done | with_reducible rfl); simp only [Act.put, List.setIfInBounds_toArray, List.set_cons_zero, List.set_cons_succ])
        refine wpE_nil ⟨fun h => (by cases h), wpSp_op rfl (Below.refl _ _).drew ?_⟩
        go_wp2_with fail
        refine HB.out.mono ?_
        rintro e w2 ⟨r, rfl, hset2, hb2⟩
        obtain ⟨A2, c2, rfl, _⟩ := id hset2
        have hb3 : Below W1.heap.size W1 w2 := (Below.refl _ _).drew.trans hb2
        have hcall := within_any _ _ _ _ w2 ((hsb.below hbx).below hb3) hset2
        rw [decide_eq_false HE.out] at hcall
        have HC := hideC hcall; clear hcall
        go_wp2_with fail
        refine nxt_op rfl hb3 ?_
        go_wp2_with fail
        refine HC.out.mono ?_
        rintro e w3 ⟨rfl, hb4⟩
        have hb5 : Below W1.heap.size W1 w3 := hb3.trans (hb4.mono hb3.size)
        go_wp2_with fail
        refine nxt_op rfl hb5 ?_
        go_wp2_with fail
        refine nxt_nil ?_
        go_wp2_with fail
        go_ret2
        exact .inl ⟨rfl, fun h => HE.out (by have := h k hlt; rwa [getD_at hlt] at this), hbel1.trans (hb5.mono hbel1.size)⟩
    · obtain rfl : k = Ns.length := by omega
      go_wp2
      go_ret2
      refine .inr ⟨_, rfl, HEQ.out, ⟨by omega, by omega, some ⟨w.heap.size, 0, none⟩, Ns.length, vs, hmb, Nat.le_refl _, Row.of_blk hrb fun j u hu => ?_, hs.below hbel⟩, by omega, hbel⟩
      have hj : j < Ns.length := by
        rcases Nat.lt_or_ge j vs.length with h | h
        · rw [← hs.1]; exact h
        · rw [List.getElem?_eq_none h] at hu; cases hu
      rw [filled_get _ _ hj, if_pos hj, List.getD_eq_getElem?_getD, hu]; rfl
end Go.Proofs.YtjlcnbfkblmoeaaDoor
