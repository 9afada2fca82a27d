/-
  The law RankFools.
-/
import Derived.Test.YtgpooflcbljidaaDoorRn7
import Derived.Test.YtgpooflcbljidaaDoorRr4
import Derived.Test.YtgpooflcbljidaaDoorRl0
import Derived.Test.YtgpooflcbljidaaDoorMix2
import Derived.Test.YtgpooflcbljidaaDoorJoin
import Derived.Deep.DeepCutAuto
import Derived.Deep.CutBlock
namespace Go.Proofs.YtgpooflcbljidaaDoor
open Go.RowKit
theorem fool_is {q C : Nat} {Ns : List Nat} {v : Value} {l : List (Int × Int)} {w : World} {x : Bool} (hx : foolP C Ns l = x) (h : IsMat w q C Ns) (hp : IsPairs w v l) :
    Calls Tryd.prog 34 #[ptr q, v] w fun e w' => e = .returned (.bool x) ∧ Below w.heap.size w w' := by
  have := fool_any q C Ns v l w h hp
  rwa [hx] at this
theorem foolr_is {C : Nat} {R : Option Addr} {rc : Nat} {M : List (List Bool)} {v : Value} {l : List (Int × Int)} {w : World} {x : Bool} (hx : foolR C M l = x) (h : IsRef w C R M) (hp : IsPairs w v l) :
    Calls Tryd.prog 35 #[refV C R M.length rc, v] w fun e w' => e = .returned (.bool x) ∧ Below w.heap.size w w' := by
  have := foolr_any C R rc M v l w h hp
  rwa [hx] at this
theorem fool_none (C : Nat) (Ns : List Nat) : foolP C Ns [] = true := by simp [foolP, apartB]
/-- The cell of a pair of bytes. -/
def octC (c : Nat × Nat) : Int × Int := ((c.1 : Int) % 7 - 1, (c.2 : Int) % 7 - 1)
namespace Mix2
set_option maxRecDepth 100000 in
set_option maxHeartbeats 8000000 in
theorem fools_walk (v : Value) (R C : Nat) (zs : List Int) (vl : Value) (l : List (Nat × Nat)) (w : World) (hT : Tab w) (h : IsRaw w v R C zs) (hv2 : IsOcts w vl l) :
    Calls Tryd.prog 8 #[v, vl] w fun e w' => e = .returned (.bool true) ∧ Below w.heap.size w w' := by
  obtain ⟨AL, cL, rfl, hLrow, hLc, hLm, hLb⟩ := hv2
  have hbd := h.bd
  obtain ⟨r, c, A0, d0, hv, _⟩ := id h
  subst hv
  have HIN := hideC h; clear h
  go_enter Tryd.func8, Tryd.ntmps8
  go_wp2_with fail
  refine absC1 fun W0 hX hbel0 hz => ?_
  clear hz
  refine (awake_any47 W0 (hT.below hbel0)).mono ?_
  rintro e w1 ⟨rfl, hb1⟩
  have b1 := hbel0.trans (hb1.mono hbel0.size)
  replace hX := hX.below hb1 hX.lt
  have x0 := hX.cell 0
  have x1 := hX.cell 1
  have x2 := hX.cell 2
  have HM := hideC (make_raw _ R C zs w1 (HIN.out.below b1))
  go_wp2_with fail
  refine HM.out.mono ?_
  rintro e w2 ⟨A2, c2, rfl, hI, hb2⟩
  have b2 := b1.trans (hb2.mono b1.size)
  obtain ⟨M, hMd⟩ : ∃ M, M = rawM R C zs := ⟨_, rfl⟩
  have hML : M.length = R := by rw [hMd, mat_len]
  rw [← hMd] at hI
  subst hML
  obtain ⟨hR5, hC5⟩ := hbd
  have hl : (nsOf C M).length ≤ 4096 := by rw [nsTo_len]; omega
  have hin := rowsIn_nsOf C M (by omega)
  clear hMd HM HIN hbel0 hb1 hb2 b1 x0 x1 x2
  replace hT := hT.below b2
  clear hX
  go_wp2_with fail
  refine abs1 fun w3 hY hb hz => ?_
  clear hz
  replace hI := hI.below hb; replace hT := hT.below hb; replace b2 := b2.trans (hb.mono b2.size)
  clear hb
  obtain ⟨i0, hi0, hz0, hz1, hz2⟩ := info_parts info_pair
  obtain ⟨k7, hk7⟩ : ∃ k, k = min l.length 7 := ⟨_, rfl⟩
  have e1 : min (l.length : Int) 7 = (k7 : Int) := by omega
  have hk : k7 ≤ l.length ∧ k7 ≤ 7 := by omega
  rw [e1, Int.toNat_natCast, show max ((k7 : Nat) : Int) 0 = (k7 : Int) by omega]
  clear e1
  obtain ⟨gY, hgY⟩ : ∃ g, g = w2.heap.size := ⟨_, rfl⟩
  rw [← hgY] at hY ⊢
  clear hgY
  obtain ⟨L, hL⟩ : ∃ L, L = l.map octC := ⟨_, rfl⟩
  have hLl : L.length = l.length := by rw [hL, List.length_map]
  have HL := Lib.hid hL; have HLl := Lib.hid hLl; have HK7 := Lib.hid hk7
  clear hL hLl hk7
  refine wp_loopF (β := Nat × Value) (fun x f => #[f 0, f 1, f 2, f 3, .bool false, .pointer (some ⟨gY, 0, none⟩), x.2, f 7, f 8, f 9, f 10, f 11, f 12, f 13, f 14, f 15, f 16, .slice AL k7 cL, .int .i64 (k7 : Int), .int .i64 (x.1 : Int), f 20, f 21, f 22, f 23, f 24, f 25, f 26, f 27, f 28, f 29, f 30, f 31, f 32, f 33, f 34, f 35, f 36, f 37, f 38, f 39, f 40, f 41, f 42, f 43, f 44, f 45, f 46, f 47, f 48, f 49, f 50, f 51, f 52, f 53, f 54, f 55])
    (fun x ds W => x.1 ≤ k7 ∧ ds = [] ∧ Below w3.heap.size w3 W ∧ OwnP W w3.heap.size x.2 (L.take x.1)) (fun x => k7 - x.1) (0, .slice none 0 0) rfl
    ⟨Nat.zero_le _, rfl, Below.refl _ _, OwnP.nil _ _⟩ ?_
  rintro ⟨i, v6⟩ f ds W ⟨hi, rfl, hbW, hown⟩
  dsimp only at hi hown ⊢
  have bW := b2.trans (hbW.mono b2.size)
  by_cases hlt : i < k7
  · obtain ⟨x, hx⟩ : ∃ x, l[i]? = some x := ⟨_, List.getElem?_eq_getElem (by omega)⟩
    obtain ⟨hx1, hx2⟩ := hLb x (List.mem_of_getElem? hx)
    obtain ⟨g1, o1, rfl, hg1, c0, c1⟩ := row_octs (hLrow.below bW) hx
    go_upto_region 8 with fail
    refine abs1 fun W1 hB hb hz => ?_
    clear hz
    have bW1 := bW.trans (hb.mono bW.size)
    have hbW1 := hbW.trans (hb.mono hbW.size)
    have hown1 := hown.below hb
    have p0 := hB.cell 0
    have p1 := hB.cell 1
    have lB := hB.lt
    have hsz := hbW1.size
    have hlen : (L.take i).length ≤ 7 := by rw [List.length_take]; omega
    have hsn : L.take (i + 1) = L.take i ++ [octC x] := by rw [List.take_add_one, HL.out, List.getElem?_map, hx]; rfl
    have HSN := Lib.hid hsn
    have HX := Lib.hid hx
    clear hsn hx hown hb c0 c1
    obtain ⟨y, hy⟩ : ∃ y, y = octC x := ⟨_, rfl⟩
    have hlocs := hown1.below ((Below.refl W1.heap.size W1).alloc (Nat.le_refl _) (.cells #[.int .i64 y.1, .int .i64 y.2] 55))
    have HSN2 := Lib.hid (hy ▸ HSN.out)
    have e3 : (x.1 : Int) % 7 - 1 = y.1 := by rw [hy]; rfl
    have e4 : (x.2 : Int) % 7 - 1 = y.2 := by rw [hy]; rfl
    clear hy HSN
    generalize L.take i = T at hlocs HSN2 hown1 hlen
    go_wp2_with (at_builtin; refine wpList_append_own _ rfl _ _ 52 rfl (w3.heap.size) 55 i0 (.agg #[.int .i64 0, .int .i64 0]) 2 16 Tryd.underlying52 hi0 hz0 hz1 hz2 rfl (by decide) _ _ _ rfl (hlocs) ⟨W1.heap.size, 0, none⟩ 1 1 [.int .i64 (y.1), .int .i64 (y.2)] rfl rfl (World.news_of_block (Blk.new _ _ _)) (by simp [Value.oneCell']) (by unfold maxLen; omega) (by omega) (by simp; omega) ?_; intro v' w3 hown' hgrow _)
    have hbw := (hbW1.alloc hbW1.size (.cells #[.int .i64 y.1, .int .i64 y.2] 55)).grown hgrow (by simp; omega) (fun p hp => (hlocs.lt p hp).1)
    exact ⟨(i + 1, v'), rfl, ⟨by show i + 1 ≤ k7; omega, by first | rfl | trivial, hbw, by dsimp only; rw [HSN2.out]; exact OwnP.mk_ hown' (cellsP_snoc T y).symm⟩, by show k7 - (i + 1) < k7 - i; omega⟩
  · obtain rfl : i = k7 := by omega
    have hP := hown.pairs (by rw [List.length_take]; omega)
    obtain ⟨y, hy⟩ : ∃ y, y = foolR C M (L.take i) := ⟨_, rfl⟩
    have H1 := Lib.hid (show foolP C (nsOf C M) (L.take i) = y by rw [hy, foolP_ref (by omega)]; rfl)
    have H2 := Lib.hid hy.symm
    clear hy hown bW
    have hb := hbW
    replace hI := hI.below hb; replace hT := hT.below hb; replace b2 := b2.trans (hb.mono b2.size); replace hY := hY.below hb hY.lt
    clear hb hbW
    go_wp2_with fail
    refine wp_mix (fun V => Below W.heap.size W V) 19 (by kernel_rfl) (by kernel_rfl) (Below.refl _ _).drew ?_
    have hr : Below W.heap.size W W.drew := (Below.refl _ _).drew
    obtain ⟨u1, hw⟩ : ∃ V, V = W.drew := ⟨_, rfl⟩
    rw [← hw] at hr ⊢; clear hw
    have hb := hr
    have y0 := hY.cell 0
    have y1 := hY.cell 1
    replace hI := hI.below hb; replace hT := hT.below hb; replace b2 := b2.trans (hb.mono b2.size); replace hY := hY.below hb hY.lt; replace hP := hP.below hb
    clear hb
    (refine m_q 0 (v := ?_) (by kernel_rfl) rfl rfl (fun W hW => ?_) ?_; rotate_left; (have zy0 := onB hW y0; have zy1 := onB hW y1; go_simp; first | done | with_reducible rfl); simp only [Act.put, List.setIfInBounds_toArray, List.set_cons_zero, List.set_cons_succ]); (refine m_q 2 (v := ?_) (by kernel_rfl) rfl rfl (fun W hW => ?_) ?_; rotate_left; (have zy0 := onB hW y0; have zy1 := onB hW y1; go_simp; first | done | with_reducible rfl); simp only [Act.put, List.setIfInBounds_toArray, List.set_cons_zero, List.set_cons_succ])
    (refine m_q 4 (v := ?_) (by kernel_rfl) rfl rfl (fun W hW => ?_) ?_; rotate_left; (have zy0 := onB hW y0; have zy1 := onB hW y1; go_simp; first | done | with_reducible rfl); simp only [Act.put, List.setIfInBounds_toArray, List.set_cons_zero, List.set_cons_succ]); (refine m_q 5 (v := ?_) (by kernel_rfl) rfl rfl (fun W hW => ?_) ?_; rotate_left; (have zy0 := onB hW y0; have zy1 := onB hW y1; go_simp; first | done | with_reducible rfl); simp only [Act.put, List.setIfInBounds_toArray, List.set_cons_zero, List.set_cons_succ])
    refine m_s1 1 (by kernel_rfl) rfl ?_
    go_wp2_with fail
    refine (matrixl_any C A2 c2 M _ hI (by omega) (by omega)).mono ?_
    rintro e u2 ⟨q1, rfl, m1, _, hb⟩
    replace hI := hI.below hb; replace hT := hT.below hb; replace b2 := b2.trans (hb.mono b2.size); replace hY := hY.below hb hY.lt; replace hP := hP.below hb; replace hr := hr.trans (hb.mono hr.size)
    clear hb
    go_wp2_with fail
    refine m_keep hr ?_
    refine m_s1 3 (by kernel_rfl) rfl ?_
    go_wp2_with fail
    refine (fool_is H1.out m1 hP).mono ?_
    rintro e u3 ⟨rfl, hb⟩
    replace hI := hI.below hb; replace hT := hT.below hb; replace b2 := b2.trans (hb.mono b2.size); replace hY := hY.below hb hY.lt; replace hP := hP.below hb; replace hr := hr.trans (hb.mono hr.size); replace m1 := m1.below hb
    clear hb
    go_wp2_with fail
    refine m_keep hr ?_
    refine m_s1 6 (by kernel_rfl) rfl ?_
    go_wp2_with fail
    refine (foolr_is H2.out hI hP).mono ?_
    rintro e u4 ⟨rfl, hb⟩
    replace hI := hI.below hb; replace hT := hT.below hb; replace b2 := b2.trans (hb.mono b2.size); replace hY := hY.below hb hY.lt; replace hP := hP.below hb; replace hr := hr.trans (hb.mono hr.size); replace m1 := m1.below hb
    clear hb
    go_wp2_with fail
    refine m_keep hr ?_
    (refine m_q 7 (v := ?_) (by kernel_rfl) rfl rfl (fun W hW => ?_) ?_; rotate_left; (go_simp; first | done | with_reducible rfl); simp only [Act.put, List.setIfInBounds_toArray, List.set_cons_zero, List.set_cons_succ]); (refine m_q 8 (v := ?_) (by kernel_rfl) rfl rfl (fun W hW => ?_) ?_; rotate_left; (go_simp; first | done | with_reducible rfl); simp only [Act.put, List.setIfInBounds_toArray, List.set_cons_zero, List.set_cons_succ])
    (refine m_yes 9 (v := ?_) (by kernel_rfl) rfl (by rfl) (fun W hW => ?_) ?_; rotate_left; (go_simp; first | done | with_reducible rfl); simp only [Act.put, List.setIfInBounds_toArray, List.set_cons_zero, List.set_cons_succ])
    refine m_s1 10 (by kernel_rfl) rfl ?_
    go_wp2_with fail
    refine (fool_nil _ _).mono ?_
    rintro e u5 ⟨rfl, hb⟩
    replace hI := hI.below hb; replace hT := hT.below hb; replace b2 := b2.trans (hb.mono b2.size); replace hY := hY.below hb hY.lt; replace hP := hP.below hb; replace hr := hr.trans (hb.mono hr.size); replace m1 := m1.below hb
    clear hb
    go_wp2_with fail
    refine m_keep hr ?_
    (refine m_yes 11 (v := ?_) (by kernel_rfl) rfl (by rfl) (fun W hW => ?_) ?_; rotate_left; (go_simp; first | done | with_reducible rfl); simp only [Act.put, List.setIfInBounds_toArray, List.set_cons_zero, List.set_cons_succ])
    (refine m_q 12 (v := ?_) (by kernel_rfl) rfl rfl (fun W hW => ?_) ?_; rotate_left; (go_simp; first | done | with_reducible rfl); simp only [Act.put, List.setIfInBounds_toArray, List.set_cons_zero, List.set_cons_succ]); (refine m_q 13 (v := ?_) (by kernel_rfl) rfl rfl (fun W hW => ?_) ?_; rotate_left; (go_simp; first | done | with_reducible rfl); simp only [Act.put, List.setIfInBounds_toArray, List.set_cons_zero, List.set_cons_succ])
    (refine m_yes 14 (v := ?_) (by kernel_rfl) rfl (by rfl) (fun W hW => ?_) ?_; rotate_left; (have zy0 := onB hW y0; have zy1 := onB hW y1; go_simp; first | done | with_reducible rfl); simp only [Act.put, List.setIfInBounds_toArray, List.set_cons_zero, List.set_cons_succ])
    refine m_s1 15 (by kernel_rfl) rfl ?_
    go_wp2_with fail
    refine (matrixl_any C A2 c2 M _ hI (by omega) (by omega)).mono ?_
    rintro e u6 ⟨q2, rfl, m2, _, hb⟩
    replace hI := hI.below hb; replace hT := hT.below hb; replace b2 := b2.trans (hb.mono b2.size); replace hY := hY.below hb hY.lt; replace hP := hP.below hb; replace hr := hr.trans (hb.mono hr.size); replace m1 := m1.below hb
    clear hb
    go_wp2_with fail
    refine m_keep hr ?_
    refine m_s1 16 (by kernel_rfl) rfl ?_
    go_wp2_with fail
    refine (fool_is (fool_none C _) m2 ⟨none, 0, rfl, Row.empty _ _, Nat.le_refl _, by decide⟩).mono ?_
    rintro e u7 ⟨rfl, hb⟩
    replace hI := hI.below hb; replace hT := hT.below hb; replace b2 := b2.trans (hb.mono b2.size); replace hY := hY.below hb hY.lt; replace hP := hP.below hb; replace hr := hr.trans (hb.mono hr.size); replace m1 := m1.below hb; replace m2 := m2.below hb
    clear hb
    go_wp2_with fail
    refine m_keep hr ?_
    (refine m_q 17 (v := ?_) (by kernel_rfl) rfl rfl (fun W hW => ?_) ?_; rotate_left; (go_simp; first | done | with_reducible rfl); simp only [Act.put, List.setIfInBounds_toArray, List.set_cons_zero, List.set_cons_succ]); (refine m_q 18 (v := ?_) (by kernel_rfl) rfl rfl (fun W hW => ?_) ?_; rotate_left; (go_simp; first | done | with_reducible rfl); simp only [Act.put, List.setIfInBounds_toArray, List.set_cons_zero, List.set_cons_succ])
    refine m_end (by kernel_rfl) ?_
    clear y0 y1
    go_wp2_with fail
    go_ret
    exact ⟨rfl, b2⟩
end Mix2
end Go.Proofs.YtgpooflcbljidaaDoor

