import Derived.Test.YtjlcnbfkblmoeaaDoorRef8
namespace Go.Proofs.YtjlcnbfkblmoeaaDoor
open Go.RowKit

/-- The last row below q that is r; -1: none. -/
def fnd (D : List (List Bool)) (r : List Bool) (q : Nat) : Int := (List.range q).foldl (fun f k => if D.getD k [] = r then (k : Int) else f) (-1)
theorem fnd_succ (D : List (List Bool)) (r : List Bool) (q : Nat) : fnd D r (q + 1) = if D.getD q [] = r then (q : Int) else fnd D r q := by
  unfold fnd; rw [List.range_succ, List.foldl_append]; rfl
theorem fnd_bd (D : List (List Bool)) (r : List Bool) : ∀ q, -1 ≤ fnd D r q ∧ fnd D r q < q
  | 0 => by simp [fnd]
  | q + 1 => by
    have := fnd_bd D r q
    rw [fnd_succ]; split <;> omega
def rdStep (st : List (List Bool) × List Int) (r : List Bool) : List (List Bool) × List Int :=
  if fnd st.1 r st.1.length < 0 then (st.1 ++ [r], st.2 ++ [(st.1.length : Int)]) else (st.1, st.2 ++ [fnd st.1 r st.1.length])
/-- The different rows of the first k, and where each went. -/
def rdist (M : List (List Bool)) (k : Nat) : List (List Bool) × List Int := (M.take k).foldl rdStep ([], [])
theorem rdist_succ {M : List (List Bool)} {k : Nat} (h : k < M.length) : rdist M (k + 1) = rdStep (rdist M k) M[k] := by
  unfold rdist
  rw [List.take_add_one, List.getElem?_eq_getElem h, Option.toList_some, List.foldl_append]; rfl
theorem rdist_len (M : List (List Bool)) : ∀ k, k ≤ M.length → (rdist M k).1.length ≤ k ∧ (rdist M k).2.length = k
  | 0, _ => by simp [rdist]
  | k + 1, h => by
    have := rdist_len M k (by omega)
    rw [rdist_succ (by omega)]
    unfold rdStep
    split <;> simp <;> omega

/-- The slice v reads as the row r. -/
def Hdr (w : World) (C : Nat) (v : Value) (r : List Bool) : Prop := r.length = C ∧ ∃ B d, v = .slice B C d ∧ Row w B (r.map .bool)
def Hdrs (w : World) (C : Nat) (hs : List Value) (D : List (List Bool)) : Prop := hs.length = D.length ∧ ∀ (i : Nat) r, D[i]? = some r → ∃ v, hs[i]? = some v ∧ Hdr w C v r
theorem Hdr.below {w w' : World} {C : Nat} {v : Value} {r : List Bool} (h : Hdr w C v r) (hb : Below w.heap.size w w') : Hdr w' C v r := by
  obtain ⟨h1, B, d, h2, h3⟩ := h
  exact ⟨h1, B, d, h2, h3.below hb⟩
theorem Hdrs.below {w w' : World} {C : Nat} {hs : List Value} {D : List (List Bool)} (h : Hdrs w C hs D) (hb : Below w.heap.size w w') : Hdrs w' C hs D :=
  ⟨h.1, fun i r hr => by obtain ⟨v, h1, h2⟩ := h.2 i r hr; exact ⟨v, h1, h2.below hb⟩⟩
theorem Hdrs.nil (w : World) (C : Nat) : Hdrs w C [] [] := ⟨rfl, fun i r h => by simp at h⟩
theorem Hdrs.snoc {w : World} {C : Nat} {hs : List Value} {D : List (List Bool)} {v : Value} {r : List Bool} (h : Hdrs w C hs D) (hv : Hdr w C v r) : Hdrs w C (hs ++ [v]) (D ++ [r]) := by
  refine ⟨by simp [h.1], fun i q hq => ?_⟩
  by_cases hi : i < D.length
  · rw [List.getElem?_append_left hi] at hq
    obtain ⟨u, h1, h2⟩ := h.2 i q hq
    exact ⟨u, by rw [List.getElem?_append_left (by rw [h.1]; exact hi)]; exact h1, h2⟩
  · rw [List.getElem?_append_right (by omega)] at hq
    have : i = D.length := by
      have := (List.getElem?_eq_some_iff.1 hq).1
      simp at this; omega
    subst this
    rw [Nat.sub_self] at hq
    simp at hq
    subst hq
    exact ⟨v, by rw [← h.1, List.getElem?_append_right (Nat.le_refl _), Nat.sub_self]; rfl, hv⟩
theorem Hdrs.ref {w : World} {C : Nat} {A : Option Addr} {hs : List Value} {D : List (List Bool)} (h : Hdrs w C hs D) (hr : Row w A hs) (hC : C ≤ 4096) (hD : D.length ≤ 4096) : IsRef w C A D :=
  ⟨hC, hD, hs, h.1, hr, fun i r hq => by
    obtain ⟨v, h1, h2, B, d, rfl, h4⟩ := h.2 i r hq
    exact ⟨h2, B, d, h1, h4⟩⟩
/-- Are the first n elements alike? -/
def eqTo (r o : List Bool) (n : Nat) : Bool := decide (∀ j, j < n → r.getD j false = o.getD j false)
theorem eqTo_zero (r o : List Bool) : eqTo r o 0 = true := by unfold eqTo; rw [decide_eq_true_eq]; intro j hj; omega
theorem eqTo_same {r o : List Bool} {n : Nat} (h : r.getD n false = o.getD n false) : eqTo r o (n + 1) = eqTo r o n := by
  unfold eqTo
  rw [Bool.eq_iff_iff, decide_eq_true_eq, decide_eq_true_eq]
  constructor
  · intro hh j hj; exact hh j (by omega)
  · intro hh j hj
    by_cases e : j = n
    · subst e; exact h
    · exact hh j (by omega)
theorem eqTo_diff {r o : List Bool} {n : Nat} (h : r.getD n false ≠ o.getD n false) : eqTo r o (n + 1) = false := by
  unfold eqTo
  rw [decide_eq_false_iff_not]
  intro hh
  exact h (hh n (by omega))
theorem eqTo_full {r o : List Bool} {C : Nat} (hr : r.length = C) (ho : o.length = C) : eqTo r o C = decide (o = r) := by
  unfold eqTo
  rw [Bool.eq_iff_iff, decide_eq_true_eq, decide_eq_true_eq]
  constructor
  · intro hh
    apply List.ext_getElem (by omega)
    intro j h1 h2
    have := hh j (by omega)
    rw [List.getD_eq_getElem?_getD, List.getD_eq_getElem?_getD, List.getElem?_eq_getElem h1, List.getElem?_eq_getElem h2] at this
    exact this.symm
  · intro hh j _; rw [hh]
theorem Hdr.cell {w : World} {C : Nat} {v : Value} {r : List Bool} (h : Hdr w C v r) {j : Nat} (hj : j < C) : ∃ g off d, v = .slice (some ⟨g, off, none⟩) C d ∧ g < w.heap.size ∧ w.cell? ⟨g, off + j, none⟩ = some (.bool (r.getD j false)) := by
  obtain ⟨h1, B, d, h2, h3⟩ := h
  obtain ⟨g, off, rfl, hg, hc⟩ := h3 (by rw [List.length_map]; omega)
  refine ⟨g, off, d, h2, hg, hc j _ ?_⟩
  rw [List.getElem?_map, List.getElem?_eq_getElem (by omega), List.getD_eq_getElem?_getD, List.getElem?_eq_getElem (by omega)]; rfl

set_option maxRecDepth 100000 in
set_option maxHeartbeats 4000000 in
theorem distr_any (C : Nat) (A : Option Addr) (c : Nat) (M : List (List Bool)) (w : World) (h : IsRef w C A M) :
    Calls Tryd.prog 17 #[refV C A M.length c] w fun e w' => ∃ A' c' B d, e = .returned (.tuple #[refV C A' (rdist M M.length).1.length c', .slice B M.length d]) ∧ IsRef w' C A' (rdist M M.length).1 ∧ M.length ≤ d ∧ Row w' B ((rdist M M.length).2.map (.int .i64)) ∧ Below w.heap.size w w' := by
  have hR : M.length ≤ 4096 := h.2.1
  have hC : C ≤ 4096 := h.1
  go_enter Tryd.func17, Tryd.ntmps17
  go_wp2_with fail
  refine abs3 fun W0 hX0 hY0 hQ0 hbel0 hz => ?_
  have HZ := Lib.hid hz; clear hz
  have x1 := hX0.cell 1
  go_loopw [5, 19] (fun a i wr => ∃ k : Nat, k ≤ M.length ∧ i = .int .i64 k ∧ wr.ownsRow w.heap.size 3 1 a k ((rdist M k).2.map (.int .i64)) ∧
    Blk wr (w.heap.size + 1) 28 #[.int .i64 0, .slice none 0 0] ∧
    (∃ rv hs, Blk wr (w.heap.size + 1 + 1) 28 #[.int .i64 (C : Int), rv] ∧ wr.ownsRow w.heap.size 84 1 rv (rdist M k).1.length hs ∧ Hdrs w C hs (rdist M k).1) ∧ Below w.heap.size w wr) (fun _ i _ => M.length - (intOf i).toNat)
  case atStart => exact ⟨0, Nat.zero_le _, rfl, World.ownsRow_nil _ _ _ _, hY0, ⟨_, [], hQ0, World.ownsRow_nil _ _ _ _, Hdrs.nil _ _⟩, hbel0⟩
  case round =>
    obtain ⟨k, hk, rfl, hown, hY, ⟨rv, hs, hQ, hrows, hhd⟩, hbel⟩ := hrel
    obtain ⟨hl1, hl2⟩ := rdist_len M k hk
    by_cases hlt : k < M.length
    · obtain ⟨g, off, B, d, rfl, hg, hcell, hrow, hlen⟩ := h.row hlt
      have cv := onB hbel hcell
      have hr0 : Hdr w C (.slice B C d) M[k] := ⟨hlen, B, d, rfl, hrow⟩
      obtain ⟨Ar, cr, hrv, hr1, hr2, hr3, _⟩ := row_of_own hrows
      subst hrv
      have hstep := rdist_succ hlt
      have q1 := hQ.cell 1
      have lQ := hQ.lt
      generalize M[k] = r at *
      have HSTEP := Lib.hid hstep; clear hstep
      clear h hcell hrow hX0 hY0 hQ0 x1
      go_wp2_with fail
      obtain ⟨wo, rfl⟩ : ∃ wo : World, wo = wr := ⟨_, rfl⟩
      go_loopw [8, 26] (fun f j wq => ∃ q : Nat, q ≤ (rdist M k).1.length ∧ j = .int .i64 q ∧ f = .int .i64 (fnd (rdist M k).1 r q) ∧ Below wo.heap.size wo wq) (fun _ j _ => (rdist M k).1.length - (intOf j).toNat)
      case atStart => exact ⟨0, Nat.zero_le _, rfl, by simp [fnd], Below.refl _ _⟩
      case round =>
        obtain ⟨q, hq, rfl, rfl, hbq⟩ := hrel
        obtain ⟨hf1, hf2⟩ := fnd_bd (rdist M k).1 r q
        by_cases hqlt : q < (rdist M k).1.length
        · obtain ⟨v, hv1, hv2⟩ := hhd.2 q _ (List.getElem?_eq_getElem hqlt)
          obtain ⟨g1, off1, rfl, hg1, hc1⟩ := hr3 (by rw [hhd.1]; omega)
          have cq := onB hbq (hc1 q v hv1)
          have hfs := fnd_succ (rdist M k).1 r q
          rw [List.getD_eq_getElem?_getD, List.getElem?_eq_getElem hqlt, Option.getD_some] at hfs
          generalize (rdist M k).1[q] = o at *
          have HFS := Lib.hid hfs; clear hfs
          obtain ⟨holen, B2, d2, rfl, hB2⟩ := id hv2
          clear hc1 hv1 hB2
          go_wp2_with fail
          obtain ⟨wi, rfl⟩ : ∃ wi : World, wi = wr := ⟨_, rfl⟩
          go_loopw [11, 33] (fun f j wq => ∃ n : Nat, n ≤ C ∧ j = .int .i64 n ∧ f = .bool (eqTo r o n) ∧ Below wo.heap.size wo wq) (fun _ j _ => C - (intOf j).toNat)
          case atStart => exact ⟨0, Nat.zero_le _, rfl, by rw [eqTo_zero], hbq⟩
          case round =>
            clear hbq cq
            obtain ⟨n, hn, rfl, rfl, hbq⟩ := hrel
            by_cases hnC : n < C
            · obtain ⟨ga, oa, da, ea, hga, ha⟩ := hr0.cell hnC
              obtain ⟨gb, ob, db, eb, hgb, hb⟩ := hv2.cell hnC
              cases ea
              cases eb
              have a1 := onB (hbel.trans (hbq.mono hbel.size)) ha
              have b1 := onB (hbel.trans (hbq.mono hbel.size)) hb
              clear ha hb
              have HS : Hid (eqTo r o (n + 1) = if r.getD n false = o.getD n false then eqTo r o n else false) := by
                refine Lib.hid ?_
                split
                · rename_i hh; exact eqTo_same hh
                · rename_i hh; exact eqTo_diff hh
              generalize r.getD n false = x at *
              generalize o.getD n false = y at *
              cases x <;> cases y
              all_goals
                go_wp2_with fail
                refine wp_spine (fun W => Below wr.heap.size wr W) [0, 1, 2, 3, 4, 5, 6, 7, 8] [] (by kernel_rfl) (by kernel_rfl) ?_
                iterate 9 (refine wpE_op (v := ?_) rfl rfl (fun W hW => ?_) ?_; rotate_left; (have y1 := onB hW a1; have y2 := onB hW b1; go_simp; first | done | with_reducible rfl); simp only [Act.put, List.setIfInBounds_toArray, List.set_cons_zero, List.set_cons_succ])
                refine wpE_nil ⟨fun _ => (Below.refl _ _).drew, wpSp_nil ?_⟩
                go_wp2_with fail
                exact ⟨⟨n + 1, by omega, by go_num, by rw [HS.out]; simp, hbq.drew⟩, by simp [intOf]; omega⟩
            · obtain rfl : n = C := by omega
              have he := eqTo_full hlen holen
              by_cases hro : o = r
              · rw [decide_eq_true hro] at he
                have hf := HFS.out
                rw [if_pos hro] at hf
                have HF := Lib.hid hf; clear hf hro HFS
                rw [he]; clear he
                go_wp2_with fail
                exact ⟨⟨q + 1, by omega, by go_num, by rw [HF.out], hbq⟩, by simp [intOf]; omega⟩
              · rw [decide_eq_false hro] at he
                have hf := HFS.out
                rw [if_neg hro] at hf
                have HF := Lib.hid hf; clear hf hro HFS
                rw [he]; clear he
                go_wp2_with fail
                exact ⟨⟨q + 1, by omega, by go_num, by rw [HF.out], hbq⟩, by simp [intOf]; omega⟩
        · obtain rfl : q = (rdist M k).1.length := by omega
          have hQw := hQ.below hbq hQ.lt
          have hYw := hY.below hbq hY.lt
          have hownw := own_below hown hbq
          have hrowsw := own_below hrows hbq
          have hbelw := hbel.trans (hbq.mono hbel.size)
          have hszw := hbelw.size
          have lQw := hQw.lt
          have q1w := hQw.cell 1
          have fq1w := hQw.frozen 1
          by_cases hneg : fnd (rdist M k).1 r (rdist M k).1.length < 0
          · have hst2 : rdStep (rdist M k) r = ((rdist M k).1 ++ [r], (rdist M k).2 ++ [((rdist M k).1.length : Int)]) := by rw [rdStep, if_pos hneg]
            rw [hst2] at HSTEP
            clear hst2 hbq hQ hY hown hrows hbel q1
            obtain ⟨i0, hi0, hz0, hz1, hz2⟩ := info_parts info_bools
            have ha2 := (Below.refl wr.heap.size wr).alloc (Nat.le_refl _) (.cells #[.slice B C d] 84)
            have hrows2 := own_below hrowsw ha2
            go_wp2_with (at_builtin; refine wpList_append_own _ rfl _ _ 26 rfl (w.heap.size) 84 i0 (.slice none 0 0) 1 24 Tryd.underlying26 hi0 hz0 hz1 hz2 rfl (by decide) _ _ _ rfl (hrows2) ⟨wr.heap.size, 0, none⟩ 1 1 [.slice B C d] rfl rfl (cell_one_new _ _ _) (by simp [Value.oneCell']) (by unfold maxLen; omega) (by omega) (by simp; omega) ?_)
            intro v' w5 hown' hgrow _
            obtain ⟨g5, cap5, rfl⟩ := ownsRow_succ hown'
            have nQ := own_ne hrowsw hQw (by decide)
            have nY := own_ne hrowsw hYw (by decide)
            have hbut := (But.of_below ha2).trans (But.grown hgrow)
            have hQ3 := hbut.blk hQw nQ
            have hY3 := hbut.blk hYw nY
            have q13 := hQ3.cell 1
            have fq13 := hQ3.frozen 1
            have hown3 := own_but hownw hbut (fun g hg => by
              obtain ⟨cs, hcs⟩ := own_kind hownw g hg
              exact own_ne hrowsw hcs (by decide))
            have hbel3 := (hbelw.trans (ha2.mono hbelw.size)).grown hgrow (by simp; omega) (fun q hq => (hrowsw.lt q hq).1)
            have hQ4 := hQ3.set_ 1 (.slice (some ⟨g5, 0, none⟩) ((rdist M k).1.length + 1) cap5)
            have hY4 := hY3.far (p := ⟨w.heap.size + 1 + 1, 1, none⟩) (by show w.heap.size + 1 ≠ w.heap.size + 1 + 1; omega) (.slice (some ⟨g5, 0, none⟩) ((rdist M k).1.length + 1) cap5)
            have hbel4 := hbel3.setCell (p := ⟨w.heap.size + 1 + 1, 1, none⟩) (by show w.heap.size ≤ w.heap.size + 1 + 1; omega) (.slice (some ⟨g5, 0, none⟩) ((rdist M k).1.length + 1) cap5)
            have hown4 := ownsRow_setCell_other hown3 (a := ⟨w.heap.size + 1 + 1, 1, none⟩) (fun e => own_ne hown3 hQ3 (by decide) e.symm) (.slice (some ⟨g5, 0, none⟩) ((rdist M k).1.length + 1) cap5)
            have hrows4 := ownsRow_setCell_other hown' (a := ⟨w.heap.size + 1 + 1, 1, none⟩) (fun e => own_ne hown' hQ3 (by decide) e.symm) (.slice (some ⟨g5, 0, none⟩) ((rdist M k).1.length + 1) cap5)
            clear hQw hYw hownw hrowsw hbelw q1w fq1w ha2 hrows2
            obtain ⟨i0, hi0, hz0, hz1, hz2⟩ := info_parts info_int
            have hsz3 := hbel3.size
            have hownA := hown4.alloc (.cells #[.int .i64 (((rdist M k).1.length : Nat) : Int)] 3)
            have haA := (Below.refl _ _).alloc (Nat.le_refl _) (.cells #[.int .i64 (((rdist M k).1.length : Nat) : Int)] 3) (w := w5.setCell ⟨w.heap.size + 1 + 1, 1, none⟩ (.slice (some ⟨g5, 0, none⟩) ((rdist M k).1.length + 1) cap5))
            have hcf := cell_one_new (w5.setCell ⟨w.heap.size + 1 + 1, 1, none⟩ (.slice (some ⟨g5, 0, none⟩) ((rdist M k).1.length + 1) cap5)) (.int .i64 (((rdist M k).1.length : Nat) : Int)) 3
            rw [show (w5.setCell ⟨w.heap.size + 1 + 1, 1, none⟩ (.slice (some ⟨g5, 0, none⟩) ((rdist M k).1.length + 1) cap5)).heap.size = w5.heap.size from by simp] at hcf
            have HCF := hideC hcf; clear hcf
            go_wp2_with (at_builtin; refine wpList_append_own _ rfl _ _ 32 rfl (w.heap.size) 3 i0 (.int .i64 0) 1 8 Tryd.underlying32 hi0 hz0 hz1 hz2 rfl (by decide) _ _ _ rfl (hownA) ⟨w5.heap.size, 0, none⟩ 1 1 [.int .i64 (((rdist M k).1.length : Nat) : Int)] rfl rfl HCF.out (by simp [Value.oneCell']) (by unfold maxLen; omega) (by omega) (by simp; omega) ?_; intro v' w3 hown' hgrow _)
            have hQ5 := hQ4.below haA hQ4.lt
            have hY5 := hY4.below haA hY4.lt
            have hrows5 := own_below hrows4 haA
            have hg5 := But.grown hgrow
            have hrows6 := own_but hrows5 hg5 (fun g hg => by
              obtain ⟨cs, hcs⟩ := own_kind hrows5 g hg
              exact own_ne hownA hcs (by decide))
            have hQ6 := hg5.blk hQ5 (own_ne hownA hQ5 (by decide))
            have hY6 := hg5.blk hY5 (own_ne hownA hY5 (by decide))
            have hbe6 := (hbel4.alloc (by simp; omega) (.cells #[.int .i64 (((rdist M k).1.length : Nat) : Int)] 3)).grown hgrow (by simp; omega) (fun q hq => (hownA.lt q hq).1)
            exact ⟨⟨k + 1, by omega, by go_num, by rw [HSTEP.out]; simpa using hown', hY6, ⟨_, _, hQ6, by rw [HSTEP.out]; simpa using hrows6, by rw [HSTEP.out]; exact hhd.snoc hr0⟩, hbe6⟩, by simp [intOf]; omega⟩
          · have hst2 : rdStep (rdist M k) r = ((rdist M k).1, (rdist M k).2 ++ [fnd (rdist M k).1 r (rdist M k).1.length]) := by rw [rdStep, if_neg hneg]
            rw [hst2] at HSTEP
            obtain ⟨hf1, hf2⟩ := fnd_bd (rdist M k).1 r (rdist M k).1.length
            generalize fnd (rdist M k).1 r (rdist M k).1.length = ix at *
            clear hst2 hbq hQ hY hown hrows hbel q1
            obtain ⟨i0, hi0, hz0, hz1, hz2⟩ := info_parts info_int
            have hownA := hownw.alloc (.cells #[.int .i64 ix] 3)
            have haA := (Below.refl wr.heap.size wr).alloc (Nat.le_refl _) (.cells #[.int .i64 ix] 3)
            go_wp2_with (at_builtin; refine wpList_append_own _ rfl _ _ 32 rfl (w.heap.size) 3 i0 (.int .i64 0) 1 8 Tryd.underlying32 hi0 hz0 hz1 hz2 rfl (by decide) _ _ _ rfl (hownA) ⟨wr.heap.size, 0, none⟩ 1 1 [.int .i64 ix] rfl rfl (cell_one_new _ _ _) (by simp [Value.oneCell']) (by unfold maxLen; omega) (by omega) (by simp; omega) ?_; intro v' w3 hown' hgrow _)
            have hQ5 := hQw.below haA hQw.lt
            have hY5 := hYw.below haA hYw.lt
            have hrows5 := own_below hrowsw haA
            have hg5 := But.grown hgrow
            have hrows6 := own_but hrows5 hg5 (fun g hg => by
              obtain ⟨cs, hcs⟩ := own_kind hrows5 g hg
              exact own_ne hownA hcs (by decide))
            have hQ6 := hg5.blk hQ5 (own_ne hownA hQ5 (by decide))
            have hY6 := hg5.blk hY5 (own_ne hownA hY5 (by decide))
            have hbe6 := (hbelw.alloc (by omega) (.cells #[.int .i64 ix] 3)).grown hgrow (by simp; omega) (fun q hq => (hownA.lt q hq).1)
            exact ⟨⟨k + 1, by omega, by go_num, by rw [HSTEP.out]; simpa using hown', hY6, ⟨_, _, hQ6, by rw [HSTEP.out]; simpa using hrows6, by rw [HSTEP.out]; exact hhd⟩, hbe6⟩, by simp [intOf]; omega⟩
    · obtain rfl : k = M.length := by omega
      obtain ⟨Ar, cr, rfl, _, _, _, _⟩ := row_of_own hrows
      obtain ⟨Ax, cx, rfl, hx1, _, _, _⟩ := row_of_own hown
      have q0 := hQ.cell 0
      have q1 := hQ.cell 1
      have y0 := hY.cell 0
      have y1 := hY.cell 1
      have fy0 := hY.frozen 0
      have fy1 := hY.frozen 1
      have lQ := hQ.lt
      clear h hX0 hY0 hQ0 x1
      go_wp2_with fail
      have hY1 := hY.set_ 0 (.int .i64 (C : Int))
      have hE := hY1.set_ 1 (.slice Ar (rdist M M.length).1.length cr)
      have hrowsA := ownsRow_setCell_other hrows (a := ⟨w.heap.size + 1, 0, none⟩) (fun e => own_ne hrows hY (by decide) e.symm) (.int .i64 (C : Int))
      have hrowsB := ownsRow_setCell_other hrowsA (a := ⟨w.heap.size + 1, 1, none⟩) (fun e => own_ne hrowsA hY1 (by decide) e.symm) (.slice Ar (rdist M M.length).1.length cr)
      have hownA := ownsRow_setCell_other hown (a := ⟨w.heap.size + 1, 0, none⟩) (fun e => own_ne hown hY (by decide) e.symm) (.int .i64 (C : Int))
      have hownB := ownsRow_setCell_other hownA (a := ⟨w.heap.size + 1, 1, none⟩) (fun e => own_ne hownA hY1 (by decide) e.symm) (.slice Ar (rdist M M.length).1.length cr)
      have hbE := (hbel.setCell (p := ⟨w.heap.size + 1, 0, none⟩) (by simp) (.int .i64 (C : Int))).setCell (p := ⟨w.heap.size + 1, 1, none⟩) (by simp) (.slice Ar (rdist M M.length).1.length cr)
      have cX := hE.cell 0
      have cY := hE.cell 1
      obtain ⟨_, _, e1, _, _, r1, _⟩ := row_of_own hrowsB
      obtain ⟨_, _, e2, _, _, r2, _⟩ := row_of_own hownB
      cases e1
      cases e2
      exact bodyPost_ret (v := .tuple #[refV C Ar (rdist M M.length).1.length cr, .slice Ax M.length cx]) (by simp [results, Tryd.results17, go_sem, cX, cY]) rfl ⟨_, _, _, _, rfl, (hhd.below hbE).ref r1 hC (by omega), hx1, r2, hbE⟩
end Go.Proofs.YtjlcnbfkblmoeaaDoor
