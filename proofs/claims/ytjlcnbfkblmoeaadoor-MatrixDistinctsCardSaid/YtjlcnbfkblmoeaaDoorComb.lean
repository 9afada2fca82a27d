import Derived.Test.YtjlcnbfkblmoeaaDoorBuild
namespace Go.Proofs.YtjlcnbfkblmoeaaDoor
open Go.RowKit

/-- Row by row, the first k. -/
def mzip (op : Nat → Nat → Nat) (Ns Ms : List Nat) (k : Nat) : List Nat := (List.range k).map fun i => op (Ns.getD i 0) (Ms.getD i 0)
theorem mzip_succ (op : Nat → Nat → Nat) (Ns Ms : List Nat) (k : Nat) : mzip op Ns Ms (k + 1) = mzip op Ns Ms k ++ [op (Ns.getD k 0) (Ms.getD k 0)] := by simp [mzip, List.range_succ]
theorem mzip_len (op : Nat → Nat → Nat) (Ns Ms : List Nat) (k : Nat) : (mzip op Ns Ms k).length = k := by simp [mzip]
/-- What a function on two sets does. -/
def SetOp (f : FuncId) (op : Nat → Nat → Nat) : Prop := ∀ (v u : Value) (N M : Nat) (w : World), IsSet w v N → IsSet w u M →
  Calls Tryd.prog f #[.agg #[v], .agg #[u]] w fun e w' => ∃ r, e = .returned (.agg #[r]) ∧ IsSet w' r (op N M) ∧ Below w.heap.size w w'

set_option maxRecDepth 100000 in
set_option maxHeartbeats 1000000 in
theorem comb_no (m o : Value) (fv : Value) (w : World) (h : Calls Tryd.prog 71 #[m, o] w fun e w' => e = .returned (.bool false) ∧ Below w.heap.size w w') :
    Calls Tryd.prog 73 #[m, o, fv] w fun e w' => e = pair (.pointer none) 1 ∧ Below w.heap.size w w' := by
  have HF := hideC h; clear h
  go_enter Tryd.func73, Tryd.ntmps73
  go_wp2_with (go_at_call 71; refine HF.out.mono ?_; rintro e w' ⟨rfl, hb1⟩)
  go_ret2
  exact ⟨rfl, hb1⟩
set_option maxRecDepth 100000 in
set_option maxHeartbeats 1000000 in
theorem comb_any (f : FuncId) (op : Nat → Nat → Nat) (hf : SetOp f op) (hff : f = 63 ∨ f = 74) (p q C : Nat) (Ns Ms : List Nat) (w : World) (h : IsMat w p C Ns) (h' : IsMat w q C Ms) (hl : Ns.length = Ms.length) :
    Calls Tryd.prog 73 #[ptr p, ptr q, .func (.func f) #[] #[]] w fun e w' => ∃ b, e = pair (ptr b) 0 ∧ IsMat w' b C (mzip op Ns Ms Ns.length) ∧ Below w.heap.size w w' := by
  obtain ⟨i0, hi0, hz0, hz1, hz2⟩ := info_parts info_set
  obtain ⟨h1, h2, A, c, vs, hB, hc, hr, hs⟩ := id h
  obtain ⟨h1', h2', A', c', vs', hB', hc', hr', hs'⟩ := id h'
  have hfit := fits_any p q C C Ns Ms w h h'
  rw [decide_eq_true ⟨rfl, hl⟩] at hfit
  have HF := hideC hfit; clear hfit
  have HL := Lib.hid hl; clear hl
  go_enter Tryd.func73, Tryd.ntmps73
  go_wp2_with fail
  refine HF.out.mono ?_
  rintro e w1 ⟨rfl, hb1⟩
  have m0 := onB hb1 (hB.cell 0)
  have m1 := onB hb1 (hB.cell 1)
  have lB := Nat.lt_of_lt_of_le hB.lt hb1.size
  go_wp2_with fail
  refine abs1 fun W0 hQ0 hbel0 hz => ?_
  have HZ := Lib.hid hz; clear hz
  have hbw0 : Below w.heap.size w W0 := hb1.trans (hbel0.mono hb1.size)
  have m1 := onB hbel0 m1
  go_wp2_with fail
  go_loopw [26] (fun i wr => ∃ k : Nat, k ≤ Ns.length ∧ i = .int .i64 k ∧ (∃ rv us, Bld w.heap.size w1.heap.size C (mzip op Ns Ms k) wr rv us) ∧ Below w.heap.size w wr) (fun i _ => Ns.length - (intOf i).toNat)
  case atStart => exact ⟨0, Nat.zero_le _, rfl, ⟨_, _, Bld.start _ _ _ _ hQ0⟩, hbw0⟩
  case round =>
    obtain ⟨k, hk, rfl, ⟨rv, us, hbld⟩, hbel⟩ := hrel
    by_cases hlt : k < Ns.length
    · have hlt' : k < Ms.length := by have := HL.out; omega
      obtain ⟨A1, c1, hv, hset⟩ := hs.at_ hlt
      obtain ⟨A2, c2, hv', hset'⟩ := hs'.at_ hlt'
      obtain ⟨g, off, rfl, hg, hcell⟩ := hr (by rw [hs.1]; omega)
      obtain ⟨g', off', rfl, hg', hcell'⟩ := hr' (by rw [hs'.1]; omega)
      have cv := onB hbel (hcell k _ hv)
      go_wp2_with fail
      have hln := mzip_len op Ns Ms k
      have hown0 := hbld.2.1
      refine abs1 fun W1 hX hbx hz1 => ?_
      have hbld1 := hbld.below hbx
      have hbel1 := hbel.trans (hbx.mono hbel.size)
      have cX := hX.cell 0
      have nX : some wr.heap.size ≠ rv.ownBlock := fun e => by have := (hown0.lt _ e.symm).2; omega
      have q1 := hbld1.1.cell 1
      have n1 := hbld1.ne
      have b1 := onB hbel1 (hB'.cell 1)
      have nb1 : some q ≠ rv.ownBlock := own_cell hown0 hB'.lt
      have cv' := onB hbel1 (hcell' k _ hv')
      have nv' : some g' ≠ rv.ownBlock := own_cell hown0 hg'
      have hcall := hf _ _ _ _ W1.drew ((hset.below hbel1).below (Below.refl _ _).drew) ((hset'.below hbel1).below (Below.refl _ _).drew)
      have HC := hideC hcall; clear hcall
      have HZ1 := Lib.hid hz1; clear hz1
      clear hB hB' hr hr' hs hs' hv hv' hcell hcell' h h'
      refine wp_spine (fun W => But rv.ownBlock W1 W) [0, 1, 2, 3, 4, 5, 6, 7, 8, 9, 10, 11, 12, 13] [14, 15, 16, 17, 18, 19] (by kernel_rfl) (by kernel_rfl) ?_
      iterate 14 (refine wpE_op (v := ?_) rfl rfl (fun W hW => ?_) ?_; rotate_left; (have x1 := hW.on q1 n1; have x2 := hW.on cX nX; have x3 := hW.on b1 nb1; have x4 := hW.on cv' nv'; go_simp; first | done | with_reducible rfl); simp only [Act.put, List.setIfInBounds_toArray, List.set_cons_zero, List.set_cons_succ])
      refine wpE_nil ⟨fun h => (by cases h), wpSp_op rfl ((But.refl _ _).below (Below.refl _ _).drew) ?_⟩
      rcases hff with rfl | rfl
      all_goals
        go_wp2_with fail
        refine HC.out.mono ?_
        rintro e w2 ⟨r, rfl, hsetr, hb2⟩
        obtain ⟨A3, c3, rfl, _⟩ := id hsetr
        have hb3 : Below W1.heap.size W1 w2 := (Below.refl _ _).drew.trans hb2
        go_wp2_with fail
        refine nxt_op rfl (.of_below hb3) ?_
        go_wp2_with fail
        have hb4 := hb3.alloc hb3.size (.cells #[.slice A3 (nw (op Ns[k] Ms[k])) c3] 65)
        have hbld4 := hbld1.below hb4
        have hset4 := hsetr.keep (KeepW.alloc _ (.cells #[.slice A3 (nw (op Ns[k] Ms[k])) c3] 65))
        have hsz := hbel1.size
        have hsz2 := hb3.size
        refine nxt_op rfl (.of_below hb4) ?_
        go_wp2_with (at_builtin; refine wpList_append_own _ rfl _ _ 62 rfl (w.heap.size) 65 i0 (.agg #[.slice none 0 0]) 1 24 Tryd.underlying62 hi0 hz0 hz1 hz2 rfl (by decide) _ _ _ rfl (hbld4.2.1) ⟨w2.heap.size, 0, none⟩ 1 1 [.slice A3 (nw (op Ns[k] Ms[k])) c3] rfl rfl (cell_one_new _ _ _) (by simp [Value.oneCell']) (by unfold maxLen; omega) (by omega) (by simp; omega) ?_; intro v' w3 hown' hgrow _)
        obtain ⟨g5, cap5, rfl⟩ := ownsRow_succ hown'
        have hbut := (But.of_below hb4).trans (But.grown hgrow)
        have hbel3 := (hbel1.trans (hb4.mono hbel1.size)).grown hgrow (by simp; omega) (fun q hq => (hbld4.2.1.lt q hq).1)
        have q3 := hbut.on q1 n1
        have f3 := hbut.frozen q1 (hbld1.1.frozen 1) n1
        obtain ⟨hbld5, _⟩ := hbld4.push hset4 rfl rfl hown' hgrow
        rw [hln] at hbld5
        refine nxt_op rfl hbut ?_
        go_wp2_with fail
        refine nxt_op rfl hbut ?_
        go_wp2_with fail
        refine nxt_op rfl hbut ?_
        go_wp2_with fail
        refine nxt_nil ?_
        go_wp2_with fail
        exact ⟨⟨k + 1, by omega, by go_num, ⟨_, _, by rw [mzip_succ, getD_at hlt, getD_at hlt']; exact hbld5⟩, hbel3.setCell (by have := hb1.size; simp; omega) _⟩, by simp [intOf]; omega⟩
    · obtain rfl : k = Ns.length := by omega
      have hm := hbld.mat h1 (by rw [mzip_len]; omega)
      go_wp2
      go_ret2
      exact ⟨_, rfl, hm, hbel⟩
theorem or_op : SetOp 63 (· ||| ·) := fun v u N M w h h' => or_any v u N M w h h'
theorem and_op : SetOp 74 (· &&& ·) := fun v u N M w h h' => and_any v u N M w h h'
set_option maxRecDepth 100000 in
theorem orm_any (p q C : Nat) (Ns Ms : List Nat) (w : World) (h : IsMat w p C Ns) (h' : IsMat w q C Ms) (hl : Ns.length = Ms.length) :
    Calls Tryd.prog 36 #[ptr p, ptr q] w fun e w' => ∃ b, e = pair (ptr b) 0 ∧ IsMat w' b C (mzip (· ||| ·) Ns Ms Ns.length) ∧ Below w.heap.size w w' := by
  have HC := hideC (comb_any _ _ or_op (.inl rfl) p q C Ns Ms w h h' hl)
  go_enter Tryd.func36, Tryd.ntmps36
  go_wp2_with fail
  refine HC.out.mono ?_
  rintro e w1 ⟨b, rfl, hm, hb1⟩
  go_wp2
  go_ret2
  exact ⟨_, rfl, hm, hb1⟩
set_option maxRecDepth 100000 in
theorem orm_no (m o : Value) (w : World) (h : Calls Tryd.prog 71 #[m, o] w fun e w' => e = .returned (.bool false) ∧ Below w.heap.size w w') :
    Calls Tryd.prog 36 #[m, o] w fun e w' => e = pair (.pointer none) 1 ∧ Below w.heap.size w w' := by
  have HC := hideC (comb_no m o (.func (.func 63) #[] #[]) w h)
  go_enter Tryd.func36, Tryd.ntmps36
  go_wp2_with fail
  refine HC.out.mono ?_
  rintro e w1 ⟨rfl, hb1⟩
  go_wp2
  go_ret2
  exact ⟨rfl, hb1⟩
set_option maxRecDepth 100000 in
theorem andm_any (p q C : Nat) (Ns Ms : List Nat) (w : World) (h : IsMat w p C Ns) (h' : IsMat w q C Ms) (hl : Ns.length = Ms.length) :
    Calls Tryd.prog 37 #[ptr p, ptr q] w fun e w' => ∃ b, e = pair (ptr b) 0 ∧ IsMat w' b C (mzip (· &&& ·) Ns Ms Ns.length) ∧ Below w.heap.size w w' := by
  have HC := hideC (comb_any _ _ and_op (.inr rfl) p q C Ns Ms w h h' hl)
  go_enter Tryd.func37, Tryd.ntmps37
  go_wp2_with fail
  refine HC.out.mono ?_
  rintro e w1 ⟨b, rfl, hm, hb1⟩
  go_wp2
  go_ret2
  exact ⟨_, rfl, hm, hb1⟩
set_option maxRecDepth 100000 in
theorem andm_no (m o : Value) (w : World) (h : Calls Tryd.prog 71 #[m, o] w fun e w' => e = .returned (.bool false) ∧ Below w.heap.size w w') :
    Calls Tryd.prog 37 #[m, o] w fun e w' => e = pair (.pointer none) 1 ∧ Below w.heap.size w w' := by
  have HC := hideC (comb_no m o (.func (.func 74) #[] #[]) w h)
  go_enter Tryd.func37, Tryd.ntmps37
  go_wp2_with fail
  refine HC.out.mono ?_
  rintro e w1 ⟨rfl, hb1⟩
  go_wp2
  go_ret2
  exact ⟨rfl, hb1⟩
end Go.Proofs.YtjlcnbfkblmoeaaDoor
