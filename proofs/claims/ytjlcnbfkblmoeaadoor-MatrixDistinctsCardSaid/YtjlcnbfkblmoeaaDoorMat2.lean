import Derived.Test.YtjlcnbfkblmoeaaDoorMat
namespace Go.Proofs.YtjlcnbfkblmoeaaDoor
open Go.RowKit

theorem own_below {w w' : World} {base : Nat} {e : TypeId} {size : Nat} {v : Value} {n : Nat} {xs : List Value} (h : w.ownsRow base e size v n xs) (hb : Below w.heap.size w w') : w'.ownsRow base e size v n xs := by
  obtain ⟨hl, h⟩ := h
  refine ⟨hl, ?_⟩
  rcases h with h | ⟨g, cap, cur, hv, hg, hh, r⟩
  · exact .inl h
  · exact .inr ⟨g, cap, cur, hv, hg, (hb.block g (Array.getElem?_eq_some_iff.1 hh).1).trans hh, r⟩

/-- Row i of the rows Ns. -/
def mrow (Ns : List Nat) (i : Int) : Nat := if 0 ≤ i then Ns.getD i.toNat 0 else 0
set_option maxRecDepth 100000 in
set_option maxHeartbeats 400000 in
theorem row_core (m : Value) (R : Nat) (i : Int) (w : World) (hi : i < 0 ∨ R ≤ i) (hr : Calls Tryd.prog 28 #[m] (w.alloc (.cells #[.slice none 0 0] 65)) fun e w' => e = .returned (.int .i64 R) ∧ (w.alloc (.cells #[.slice none 0 0] 65)) = w') :
    Calls Tryd.prog 48 #[m, .int .i64 i] w fun e w' => ∃ r, e = .returned (.agg #[r]) ∧ IsSet w' r 0 ∧ Below w.heap.size w w' := by
  have HR := hideC hr
  clear hr
  by_cases h1 : i < 0
  · go_enter Tryd.func48, Tryd.ntmps48
    go_wp2
    refine bodyPost_ret (v := .agg #[.slice none 0 0]) (by simp [results, Tryd.results48, go_sem]) rfl ⟨_, rfl, IsSet.empty _, (Below.refl _ _).alloc (Nat.le_refl _) _⟩
  · have h2 : (R : Int) ≤ i := by omega
    clear hi
    go_enter Tryd.func48, Tryd.ntmps48
    go_wp2_with (go_at_call 28; refine HR.out.mono ?_; rintro e w' ⟨rfl, rfl⟩)
    refine bodyPost_ret (v := .agg #[.slice none 0 0]) (by simp [results, Tryd.results48, go_sem]) rfl ⟨_, rfl, IsSet.empty _, (Below.refl _ _).alloc (Nat.le_refl _) _⟩
set_option maxRecDepth 100000 in
set_option maxHeartbeats 400000 in
theorem row_any (p C : Nat) (Ns : List Nat) (i : Int) (w : World) (h : IsMat w p C Ns) :
    Calls Tryd.prog 48 #[ptr p, .int .i64 i] w fun e w' => ∃ r, e = .returned (.agg #[r]) ∧ IsSet w' r (mrow Ns i) ∧ Below w.heap.size w w' := by
  have h' := h.below ((Below.refl w.heap.size w).alloc (Nat.le_refl _) (.cells #[.slice none 0 0] 65))
  by_cases hi : 0 ≤ i ∧ i < Ns.length
  · obtain ⟨I, rfl⟩ := Int.eq_ofNat_of_zero_le hi.1
    have aI : I < Ns.length := by omega
    have e : mrow Ns (I : Int) = Ns[I] := by simp [mrow, aI]
    rw [e]
    have h0 : ¬ (I : Int) < 0 := by omega
    have HR := hideC (rows_any p C Ns _ h')
    obtain ⟨h1, h2, A, c, vs, hB, hc, hr, hs⟩ := h
    obtain ⟨A1, c1, hv, hset⟩ := hs.at_ aI
    obtain ⟨g, off, rfl, hg, hcell⟩ := hr (by rw [hs.1]; omega)
    have cv := hcell I _ hv
    have c1' := hB.cell 1
    have lB := hB.lt
    have hset2 := (hset.keep (KeepW.alloc w (.cells #[.slice A1 (nw Ns[I]) c1] 65)))
    clear hB hcell hr hs hv h' hi e
    go_enter Tryd.func48, Tryd.ntmps48
    go_wp2_with (go_at_call 28; refine HR.out.mono ?_; rintro e w' ⟨rfl, rfl⟩)
    refine bodyPost_ret (v := .agg #[.slice A1 (nw Ns[I]) c1]) (by simp [results, Tryd.results48, go_sem]) rfl ⟨_, rfl, hset2, (Below.refl _ _).alloc (Nat.le_refl _) _⟩
  · have e : mrow Ns i = 0 := by
      unfold mrow
      by_cases h0 : 0 ≤ i
      · rw [if_pos h0, List.getD_eq_getElem?_getD, List.getElem?_eq_none (by omega)]; rfl
      · rw [if_neg h0]
    rw [e]
    exact row_core _ Ns.length i w (by omega) (rows_any p C Ns _ h')
theorem row_nil (i : Int) (w : World) :
    Calls Tryd.prog 48 #[.pointer none, .int .i64 i] w fun e w' => ∃ r, e = .returned (.agg #[r]) ∧ IsSet w' r 0 ∧ Below w.heap.size w w' :=
  row_core _ 0 i w (by omega) (rows_nil _)

/-- The rows below k that have column j. -/
def colTo (C : Nat) (Ns : List Nat) (j : Int) (k : Nat) : List Nat := (List.range k).filter fun i => mhas C Ns i j
theorem colTo_yes {C : Nat} {Ns : List Nat} {j : Int} {k : Nat} (h : mhas C Ns k j = true) : colTo C Ns j (k + 1) = colTo C Ns j k ++ [k] := by simp [colTo, List.range_succ, h]
theorem colTo_no {C : Nat} {Ns : List Nat} {j : Int} {k : Nat} (h : mhas C Ns k j = false) : colTo C Ns j (k + 1) = colTo C Ns j k := by simp [colTo, List.range_succ, h]
theorem colTo_len (C : Nat) (Ns : List Nat) (j : Int) (k : Nat) : (colTo C Ns j k).length ≤ k := by unfold colTo; exact Nat.le_trans (List.length_filter_le _ _) (by simp)
/-- Column j, as a set. -/
def mcol (C : Nat) (Ns : List Nat) (j : Int) : Nat := setOf ((colTo C Ns j Ns.length).map Int.ofNat)
theorem testBit_mcol (C : Nat) (Ns : List Nat) (j : Int) (i : Nat) (h : Ns.length ≤ 4096) : (mcol C Ns j).testBit i = mhas C Ns i j := by
  unfold mcol
  rw [testBit_setOf, Bool.eq_iff_iff, decide_eq_true_eq]
  constructor
  · rintro ⟨_, h2⟩
    obtain ⟨x, hx, e⟩ := List.mem_map.1 h2
    have e' : x = i := Int.ofNat.inj e
    subst e'
    exact (List.mem_filter.1 hx).2
  · intro h2
    have hi : i < Ns.length := by
      unfold mhas insideB at h2
      simp at h2; omega
    exact ⟨by omega, List.mem_map.2 ⟨i, List.mem_filter.2 ⟨List.mem_range.2 hi, h2⟩, rfl⟩⟩

set_option maxRecDepth 100000 in
set_option maxHeartbeats 400000 in
theorem col_any (p C : Nat) (Ns : List Nat) (j : Int) (w : World) (h : IsMat w p C Ns) :
    Calls Tryd.prog 51 #[ptr p, .int .i64 j] w fun e w' => ∃ r, e = .returned (.agg #[r]) ∧ IsSet w' r (mcol C Ns j) ∧ Below w.heap.size w w' := by
  have hlen : Ns.length ≤ 4096 := h.2.1
  obtain ⟨i0, hi0, hz0, hz1, hz2⟩ := info_parts info_int
  go_enter Tryd.func51, Tryd.ntmps51
  go_wp2_with fail
  refine absC1 fun W0 hR0 hbel0 hz => ?_
  refine (rows_any p C Ns _ (h.below hbel0)).mono ?_
  rintro e w1 ⟨rfl, rfl⟩
  have HZ := Lib.hid hz; clear hz
  go_wp2_with fail
  go_loopw [5, 9] (fun l i wr => ∃ k : Nat, k ≤ Ns.length ∧ i = .int .i64 k ∧ wr.ownsRow (w.heap.size + 1) 3 1 l (colTo C Ns j k).length ((colTo C Ns j k).map i64) ∧ Below (w.heap.size + 1) W0 wr)
    (fun _ i _ => Ns.length - (intOf i).toNat)
  case atStart => exact ⟨0, Nat.zero_le _, rfl, World.ownsRow_nil _ _ _ _, Below.refl _ _⟩
  case round =>
    obtain ⟨k, hk, rfl, hown, hbel⟩ := hrel
    have hbw : Below w.heap.size w wr := hbel0.trans (hbel.mono (by omega))
    have hcl := colTo_len C Ns j k
    by_cases hlt : k < Ns.length
    · cases hm : mhas C Ns k j with
      | true =>
        have hcall := hasm_any p C Ns k j wr (h.below hbw)
        rw [hm] at hcall
        have HC := hideC hcall; clear hcall
        have HS := Lib.hid (colTo_yes hm); clear hm
        go_wp2_with fail
        refine HC.out.mono ?_
        rintro e w2 ⟨rfl, hb2⟩
        have hown2 := own_below hown hb2
        have hbel2 : Below (w.heap.size + 1) W0 w2 := hbel.trans (hb2.mono (by have := hbel.size; have := HZ.out; omega))
        go_wp2_with (at_builtin; refine wpList_append_own _ rfl _ _ 32 rfl (w.heap.size + 1) 3 i0 (.int .i64 0) 1 8 Tryd.underlying32 hi0 hz0 hz1 hz2 rfl (by decide) _ _ _ rfl (hown2.alloc _) ⟨w2.heap.size, 0, none⟩ 1 1 [.int .i64 k] rfl rfl (cell_one_new _ _ _) (by simp [Value.oneCell']) (by unfold maxLen; omega) (by omega) (by have := hbel2.size; have := HZ.out; simp; omega) ?_; intro v' w3 hown' hgrow _)
        have hb3 := (hbel2.alloc (by have := hbel2.size; have := HZ.out; omega) _).grown hgrow (by have := hbel2.size; have := HZ.out; simp; omega) (fun q hq => (hown2.lt q hq).1)
        exact ⟨⟨k + 1, by omega, by go_num, by rw [HS.out]; simpa using hown', hb3⟩, by simp [intOf]; omega⟩
      | false =>
        have hcall := hasm_any p C Ns k j wr (h.below hbw)
        rw [hm] at hcall
        have HC := hideC hcall; clear hcall
        have HS := Lib.hid (colTo_no hm); clear hm
        go_wp2_with (go_at_call 46; refine HC.out.mono ?_; rintro e w2 ⟨rfl, hb2⟩)
        exact ⟨⟨k + 1, by omega, by go_num, by rw [HS.out]; exact own_below hown hb2, hbel.trans (hb2.mono (by have := hbel.size; have := HZ.out; omega))⟩, by simp [intOf]; omega⟩
    · obtain rfl : k = Ns.length := by omega
      obtain ⟨A, c, rfl, _, _, hrow, _⟩ := row_of_own hown
      have hR := hR0.below hbel (by omega)
      have cR := hR.cell 0
      have fR := hR.frozen 0
      have hof := of_any A c ((colTo C Ns j Ns.length).map Int.ofNat) wr (by rw [List.map_map]; exact hrow) (by rw [List.length_map]; omega)
      rw [List.length_map] at hof
      have hmc : setOf ((colTo C Ns j Ns.length).map Int.ofNat) = mcol C Ns j := rfl
      rw [hmc] at hof
      clear hmc
      have HC := hideC hof; clear hof
      go_wp2_with fail
      refine HC.out.mono ?_
      rintro e w2 ⟨r, rfl, hr, hb2⟩
      obtain ⟨A1, c1, rfl, _⟩ := id hr
      have hR2 := hR.below hb2 hR.lt
      have cR2 := hR2.cell 0
      have fR2 := hR2.frozen 0
      go_wp2_with fail
      have cX := (hR2.set_ 0 (.slice A1 (nw (mcol C Ns j)) c1)).cell 0
      refine bodyPost_ret (v := .agg #[.slice A1 (nw (mcol C Ns j)) c1]) (by simp [results, Tryd.results51, go_sem, cX]) rfl ⟨_, rfl, ?_, (hbw.trans (hb2.mono hbw.size)).setCell (by simp) _⟩
      exact hr.keep (KeepW.setCell (t := 65) hR2 (by decide) _)
end Go.Proofs.YtjlcnbfkblmoeaaDoor
