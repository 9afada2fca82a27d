import Derived.Test.YtjlcnbfkblmoeaaDoorLaw
import Derived.Test.YtjlcnbfkblmoeaaDoorSets
namespace Go.Proofs.YtjlcnbfkblmoeaaDoor
open Go.RowKit

set_option maxRecDepth 100000 in
set_option maxHeartbeats 1000000 in
theorem col_nil (j : Int) (w : World) :
    Calls Tryd.prog 51 #[.pointer none, .int .i64 j] w fun e w' => ∃ r, e = .returned (.agg #[r]) ∧ IsSet w' r 0 ∧ Below w.heap.size w w' := by
  go_enter Tryd.func51, Tryd.ntmps51
  go_wp2_with fail
  refine absC1 fun W0 hR0 hbel0 hz => ?_
  have HZ := Lib.hid hz; clear hz
  have HR := hideC (rows_nil W0)
  refine HR.out.mono ?_
  rintro e w1 ⟨rfl, rfl⟩
  go_wp2_with fail
  go_loopw [5, 9] (fun l i wr => l = .slice none 0 0 ∧ i = .int .i64 0 ∧ wr = W0) (fun _ _ _ => 0)
  case atStart => exact ⟨rfl, rfl, rfl⟩
  case round =>
    obtain ⟨rfl, rfl, rfl⟩ := hrel
    have cR := hR0.cell 0
    have fR := hR0.frozen 0
    have HC := hideC (of_any none 0 [] wr (Row.empty _ _) (by simp))
    go_wp2_with fail
    refine HC.out.mono ?_
    rintro e w2 ⟨r, rfl, hr, hb2⟩
    obtain ⟨A1, c1, rfl, _⟩ := id hr
    have hR2 := hR0.below hb2 hR0.lt
    have cR2 := hR2.cell 0
    have fR2 := hR2.frozen 0
    go_wp2_with fail
    have cX := (hR2.set_ 0 (.slice A1 (nw (setOf [])) c1)).cell 0
    refine bodyPost_ret (v := .agg #[.slice A1 (nw (setOf [])) c1]) (by simp [results, Tryd.results51, go_sem, cX]) rfl ⟨_, rfl, ?_, (hbel0.trans (hb2.mono hbel0.size)).setCell (by simp) _⟩
    exact hr.keep (KeepW.setCell (t := 65) hR2 (by decide) _)
set_option maxRecDepth 100000 in
set_option maxHeartbeats 1000000 in
theorem text_nil (w : World) :
    Calls Tryd.prog 24 #[.pointer none] w fun e w' => e = .returned (.string ⟨#[]⟩) ∧ Below w.heap.size w w' := by
  go_enter Tryd.func24, Tryd.ntmps24
  go_wp2_with fail
  have hfresh := Lib.fresh_isBuilder 96 5 w
  refine absC1 fun W0 hb0 hbel0 hz => ?_
  have hIs : IsB w.heap.size w.heap.size (Lib.byteCells []) W0 := .inl ⟨Nat.le_refl _, .slice none 0 0, hb0, World.ownsRow_nil _ _ _ _, by simp [Value.ownBlock]⟩
  have HR := hideC (rows_nil W0)
  refine HR.out.mono ?_
  rintro e w1 ⟨rfl, rfl⟩
  clear hz hfresh
  go_wp2_with fail
  go_loopw [8] (fun i wr => i = .int .i64 0 ∧ wr = W0) (fun _ _ => 0)
  case atStart => exact ⟨rfl, rfl⟩
  case round =>
    obtain ⟨rfl, rfl⟩ := hrel
    go_wp2_with fail
    refine (Tryd.Builder_String_any w.heap.size w.heap.size _ _ hIs hbel0.size).mono ?_
    rintro e w3 ⟨rfl, hb3⟩
    go_wp2_with fail
    go_ret
    exact ⟨rfl, hbel0.trans hb3⟩
set_option maxRecDepth 100000 in
set_option maxHeartbeats 40000000 in
theorem nil_walk (v : Value) (R C : Nat) (zs : List Int) (x y : Int) (w : World) (hT : Tab w) (h : IsRaw w v R C zs) :
    Calls Tryd.prog 11 #[v, .int .i64 x, .int .i64 y] w fun e w' => e = .returned (.bool true) ∧ Below w.heap.size w w' := by
  have hbd := h.bd
  obtain ⟨r, c, A0, d0, hv, _⟩ := id h
  subst hv
  have HIN := hideC h; clear h
  go_enter Tryd.func11, Tryd.ntmps11
  go_wp2_with fail
  refine absC1 fun W0 hX hbel0 hz => ?_
  have HZ := Lib.hid hz; clear hz
  refine (awake_any W0 (hT.below hbel0)).mono ?_
  rintro e w1 ⟨rfl, hb1⟩
  have b1 := hbel0.trans (hb1.mono hbel0.size)
  have hX1 := hX.below hb1 hX.lt
  have x0 := hX1.cell 0
  have x1 := hX1.cell 1
  have x2 := hX1.cell 2
  have HM := hideC (make_raw _ R C zs w1 (HIN.out.below b1))
  go_wp2_with fail
  refine HM.out.mono ?_
  rintro e w2 ⟨A2, c2, rfl, hI2, hb2⟩
  have b2 := b1.trans (hb2.mono b1.size)
  have HMM := hideC (matrix_raw C R A2 c2 _ w2 hI2 (by omega) (by omega))
  go_wp2_with fail
  refine HMM.out.mono ?_
  rintro e w4 ⟨q, rfl, hm4, _, hb4⟩
  have b4 := b2.trans (hb4.mono b2.size)
  obtain ⟨Ns, hNs⟩ : ∃ Ns, Ns = nsOf C (mat R C (rawF C zs)) := ⟨_, rfl⟩
  rw [← hNs] at hm4
  clear hNs x0 x1 x2 hX hX1 HM HMM HIN hI2 hb1 hb2 hb4 b1 b2 hbel0
  have k := Below.refl w4.heap.size w4
  have S := hideC (setm_nil x y true w4)
  go_wp2_with fail
  refine S.out.mono ?_
  rintro e w' ⟨rfl, rfl⟩
  have S := hideC (prod_nil (some ⟨q, 0, none⟩) w4)
  go_wp2_with fail
  refine S.out.mono ?_
  rintro e u2 ⟨rfl, hb⟩
  replace k := k.trans (hb.mono k.size)
  clear hb S
  have S := hideC (prod_nil2 q u2)
  go_wp2_with fail
  refine S.out.mono ?_
  rintro e u3 ⟨rfl, hb⟩
  replace k := k.trans (hb.mono k.size)
  clear hb S
  have S := hideC (orm_no _ _ u3 (fits_nil2 q u3))
  go_wp2_with fail
  refine S.out.mono ?_
  rintro e u4 ⟨rfl, hb⟩
  replace k := k.trans (hb.mono k.size)
  clear hb S
  have S := hideC (andm_no _ _ u4 (fits_nil (ptr q) u4))
  go_wp2_with fail
  refine S.out.mono ?_
  rintro e u5 ⟨rfl, hb⟩
  replace k := k.trans (hb.mono k.size)
  clear hb S
  have S := hideC (dist_nil u5)
  go_wp2_with fail
  refine S.out.mono ?_
  rintro e w' ⟨rfl, rfl⟩
  have S := hideC (rows_nil u5)
  go_wp2_with fail
  refine S.out.mono ?_
  rintro e w' ⟨rfl, rfl⟩
  have S := hideC (cols_nil u5)
  go_wp2_with fail
  refine S.out.mono ?_
  rintro e w' ⟨rfl, rfl⟩
  have S := hideC (hasm_nil x y u5)
  go_wp2_with fail
  refine S.out.mono ?_
  rintro e w' ⟨rfl, rfl⟩
  have S := hideC (row_nil x u5)
  go_wp2_with fail
  refine S.out.mono ?_
  rintro e u10 ⟨r, rfl, hset, hb⟩
  replace k := k.trans (hb.mono k.size)
  clear hb S
  have S := hideC (empty_any r 0 u10 hset)
  go_wp2_with fail
  refine S.out.mono ?_
  rintro e u11 ⟨rfl, hb⟩
  replace k := k.trans (hb.mono k.size)
  clear hb S
  have S := hideC (col_nil y u11)
  go_wp2_with fail
  refine S.out.mono ?_
  rintro e u12 ⟨r, rfl, hset, hb⟩
  replace k := k.trans (hb.mono k.size)
  clear hb S
  have S := hideC (empty_any r 0 u12 hset)
  go_wp2_with fail
  refine S.out.mono ?_
  rintro e u13 ⟨rfl, hb⟩
  replace k := k.trans (hb.mono k.size)
  clear hb S
  have S := hideC (onesm_nil u13)
  go_wp2_with fail
  refine S.out.mono ?_
  rintro e u14 ⟨rfl, hb⟩
  replace k := k.trans (hb.mono k.size)
  clear hb S
  have S := hideC (trans_nil u14)
  go_wp2_with fail
  refine S.out.mono ?_
  rintro e w' ⟨rfl, rfl⟩
  have S := hideC (equalm_nil u14)
  go_wp2_with fail
  refine S.out.mono ?_
  rintro e w' ⟨rfl, rfl⟩
  have S := hideC (equalm_nil1 q u14)
  go_wp2_with fail
  refine S.out.mono ?_
  rintro e w' ⟨rfl, rfl⟩
  have S := hideC (equalm_nil2 q u14)
  go_wp2_with fail
  refine S.out.mono ?_
  rintro e w' ⟨rfl, rfl⟩
  have S := hideC (withinm_core _ _ u14 (fits_nil (ptr q) u14))
  go_wp2_with fail
  refine S.out.mono ?_
  rintro e u19 ⟨rfl, hb⟩
  replace k := k.trans (hb.mono k.size)
  clear hb S
  have S := hideC (withinm_core _ _ u19 (fits_nil2 q u19))
  go_wp2_with fail
  refine S.out.mono ?_
  rintro e u20 ⟨rfl, hb⟩
  replace k := k.trans (hb.mono k.size)
  clear hb S
  have S := hideC (text_nil u20)
  go_wp2_with fail
  refine S.out.mono ?_
  rintro e u21 ⟨rfl, hb⟩
  replace k := k.trans (hb.mono k.size)
  clear hb S
  have S := hideC (mbytes_nil u21)
  go_wp2_with fail
  refine S.out.mono ?_
  rintro e w' ⟨rfl, rfl⟩
  go_wp2_with fail
  go_ret
  exact ⟨rfl, b4.trans (k.mono b4.size)⟩
end Go.Proofs.YtjlcnbfkblmoeaaDoor
