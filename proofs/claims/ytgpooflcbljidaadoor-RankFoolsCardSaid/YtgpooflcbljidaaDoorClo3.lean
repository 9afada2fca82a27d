/-
  closure.Common and closure.Having at every matrix, nil too.
-/
import Derived.Test.YtgpooflcbljidaaDoorClo1
namespace Go.Proofs.YtgpooflcbljidaaDoor
open Go.RowKit
attribute [local go_sem] Oper.semAt_some

/-- A matrix, or nil, which is like one without rows and columns. -/
def IsMV (w : World) (m : Option Addr) (C : Nat) (Ns : List Nat) : Prop := (m = none ∧ C = 0 ∧ Ns = []) ∨ ∃ p, m = some ⟨p, 0, none⟩ ∧ IsMat w p C Ns
section
variable {w w' : World} {m : Option Addr} {C : Nat} {Ns : List Nat}
theorem IsMV.below (h : IsMV w m C Ns) (hb : Below w.heap.size w w') : IsMV w' m C Ns := h.imp id fun ⟨p, e, h⟩ => ⟨p, e, h.below hb⟩
theorem IsMV.bd (h : IsMV w m C Ns) : C ≤ 4096 ∧ Ns.length ≤ 4096 := by
  rcases h with ⟨_, rfl, rfl⟩ | ⟨p, _, h⟩
  · simp
  · exact ⟨h.1, h.2.1⟩
theorem rows_v (h : IsMV w m C Ns) : Calls Tryd.prog 53 #[.pointer m] w fun e w' => e = .returned (.int .i64 Ns.length) ∧ w = w' := by
  rcases h with ⟨rfl, rfl, rfl⟩ | ⟨p, rfl, h⟩
  · exact rows_nil w
  · exact rows_any p C Ns w h
theorem cols_v (h : IsMV w m C Ns) : Calls Tryd.prog 72 #[.pointer m] w fun e w' => e = .returned (.int .i64 C) ∧ w = w' := by
  rcases h with ⟨rfl, rfl, rfl⟩ | ⟨p, rfl, h⟩
  · exact cols_nil w
  · exact cols_any p C Ns w h
theorem row_v (h : IsMV w m C Ns) {i : Nat} (hi : i < Ns.length) : Calls Tryd.prog 31 #[.pointer m, .int .i64 i] w fun e w' => ∃ r, e = .returned (.agg #[r]) ∧ IsSet w' r (Ns.getD i 0) ∧ Below w.heap.size w w' := by
  rcases h with ⟨rfl, rfl, rfl⟩ | ⟨p, rfl, h⟩
  · simp at hi
  · have := row_any p C Ns i w h
    rw [mrow, if_pos (by omega), Int.toNat_natCast] at this
    exact this
theorem col_v (h : IsMV w m C Ns) {j : Nat} (hj : j < C) : Calls Tryd.prog 73 #[.pointer m, .int .i64 j] w fun e w' => ∃ r, e = .returned (.agg #[r]) ∧ IsSet w' r (mcol C Ns (j : Nat)) ∧ Below w.heap.size w w' := by
  rcases h with ⟨rfl, rfl, rfl⟩ | ⟨p, rfl, h⟩
  · omega
  · exact col_any p C Ns j w h
end
set_option maxRecDepth 100000 in
set_option maxHeartbeats 4000000 in
theorem common_any (m : Option Addr) (C : Nat) (Ns : List Nat) (v : Value) (S : Nat) (w : World) (h : IsMV w m C Ns) (hs : IsSet w v S) (hT : Tab w) :
    Calls Tryd.prog 74 #[.pointer m, .agg #[v]] w fun e w' => ∃ r, e = .returned (.agg #[r]) ∧ IsSet w' r (comN C Ns S) ∧ Below w.heap.size w w' := by
  obtain ⟨hC, hR⟩ := h.bd
  refine (callsIn_wide (n := 9)).1 (callsIn_of_wp_marks Tryd.func74 rfl trivial (wpIn_wide.2 ?_) rfl)
  simp only [Tryd.ntmps74, List.size_toArray, List.length_cons, List.length_nil, Nat.reduceAdd, Nat.reduceSub, Array.replicate_succ, Array.replicate_zero, List.push_toArray, List.append_toArray, List.nil_append, List.cons_append]
  go_wp2_with fail
  refine absC3 fun W0 hM0 hR0 hO0 hb0 hz0 => ?_
  refine (cols_v (h.below hb0)).mono ?_
  rintro e w1 ⟨rfl, rfl⟩
  have x0 := hM0.cell 0
  go_wp2_with fail
  refine (below_any _ _).mono ?_
  rintro e w2 ⟨r, rfl, hset, hb2⟩
  rw [clamp_nat (by omega)] at hset
  have b2 := hb0.trans (hb2.mono hb0.size)
  have hM2 := hM0.below hb2 hM0.lt
  have hR2 := hR0.below hb2 hR0.lt
  have hO2 := hO0.below hb2 hO0.lt
  have y0 := hR2.cell 0
  obtain ⟨Ar, cr, rfl, _⟩ := id hset
  obtain ⟨Av, cv, rfl, _⟩ := id hs
  have lR := hR2.lt
  clear x0 hM0 hR0 hO0
  go_wp2_with fail
  refine absC1 fun W3 hX3 hb3 hz3 => ?_
  refine (all_any Av (nw S) cv W3).mono ?_
  rintro e w4 ⟨rfl, hw4⟩
  have hY := hw4 ▸ Blk.new W3 66 #[.slice Av (nw S) cv]
  have hb4 : Below W3.heap.size W3 w4 := by rw [hw4]; exact (Below.refl _ _).alloc (Nat.le_refl _) _
  have hb24 := hb3.trans (hb4.mono hb3.size)
  have b4 := b2.trans (hb24.mono b2.size)
  have hM4 := hM2.below hb24 hM2.lt
  have hO4 := hO2.below hb24 hO2.lt
  have hX4 := hX3.below hb4 hX3.lt
  have hset4 := hset.below hb24
  have hs4 := hs.below b4
  have hT4 := hT.below b4
  have hz2 : w.heap.size + 3 ≤ w2.heap.size := by have := hb2.size; omega
  have hsz4 : w4.heap.size = w2.heap.size + 2 := by rw [hw4]; simp [hz3]
  rw [hz3] at hY ⊢
  clear hw4 hX3 hM2 hR2 hO2 hb2 hset y0
  have HSZ := Lib.hid hsz4
  have HZ3 := Lib.hid hz3
  have HZ0 := Lib.hid hz0
  clear hsz4 hz3 hz0
  have hXne : some (w.heap.size) ≠ some w2.heap.size := by simp; omega
  go_wp2_with fail
  refine wp_rangeAll (v := .slice Av (nw S) cv) (N := S) (Bx := w2.heap.size + 1) rfl (hY.cell 0) hs4 hT4 rfl
    (fun pre W => (∃ rv', Blk W w2.heap.size 66 #[rv'] ∧ IsSet W rv' (comTo C Ns pre)) ∧ But (some w2.heap.size) w4 W ∧ Below w.heap.size w W) (fun _ _ _ => False)
    ?hI (fun _ _ _ _ _ hs _ _ => hs) ?h0 ?a1 ?assign ?body ?done (fun _ _ _ _ _ h _ => h.elim)
  case assign =>
    intro l x W K hK
    gi_wp2
    exact hK
  case hI =>
    rintro s W W' row ⟨⟨rv', hb, hsr⟩, hbut, hbl⟩ hg hrow
    have hcells : ∀ (g : Nat) cs t fz, W.heap[g]? = some (Obj.cells cs t fz) → W'.heap[g]? = some (Obj.cells cs t fz) := fun g cs t fz hb => (hg.block g (Array.getElem?_eq_some_iff.1 hb).1 fun e => by
      obtain ⟨_, o, ho, hc⟩ := hrow g e.symm
      rw [ho] at hb; cases hb; cases hc).trans hb
    refine ⟨⟨rv', hcells _ _ _ _ hb, hsr.keep ⟨hg.size, fun g cs h => hcells _ _ _ _ h⟩⟩, ⟨Nat.le_trans hbut.1 hg.size, fun g hg' hne => (hg.block g (Nat.lt_of_lt_of_le hg' hbut.1) fun e => ?_).trans (hbut.2 g hg' hne)⟩, hbl.grown hg hbl.size fun k e => ?_⟩
    · have := (hrow g e.symm).1; omega
    · have := (hrow k e).1; have := b4.size; omega
  case h0 => exact ⟨⟨_, hX4, by simpa [comTo] using hset4⟩, But.refl _ _, b4⟩
  case body =>
    rintro l pre x W hx ⟨⟨rv', hX, hsr⟩, hbut, hbl⟩ hlen hkp
    have cM := hbut.on (hM4.cell 0) hXne
    have cX := hX.cell 0
    have lX := hX.lt
    have lM := cell_lt cM
    have hmv := h.below hbl
    have hd : Below W.heap.size W W.drew := (Below.refl _ _).drew
    have hst : comTo C Ns (pre ++ [x]) = _ := comTo_snoc C Ns pre x
    by_cases hxl : x < Ns.length
    · rw [if_pos hxl] at hst
      have hgt := row_v (hmv.below hd) hxl
      obtain ⟨rx, hrx⟩ : ∃ n, n = Ns.getD x 0 := ⟨_, rfl⟩
      rw [← hrx] at hst hgt
      have HST := Lib.hid hst
      have HC := hideC (rows_v hmv)
      have HR := hideC hgt
      clear hst hrx hgt
      gi_wp2_with (refine ⟨trivial, ?_⟩; gi_at_call 53; refine (CallsIn.inRound l (callsIn_wide.2 HC.out)).mono ?_; rintro e w5 ⟨rfl, rfl⟩)
      refine wpIn_spine (fun V => Below W.heap.size W V) [0, 1, 2] [3, 4, 5] (fun _ => trivial) (by kernel_rfl) (by kernel_rfl) (by kernel_rfl) ?_
      iterate 3 (refine wpE_op (v := ?_) rfl rfl (fun W hW => ?_) ?_; rotate_left; (have x1 := onB hW cX; have x2 := onB hW cM; go_simp; first | done | with_reducible rfl); simp only [Act.put, List.setIfInBounds_toArray, List.set_cons_zero, List.set_cons_succ])
      refine wpE_nil ⟨fun h => (by cases h), wpSpI_op rfl hd ?_⟩
      gi_wp2_with (refine ⟨trivial, ?_⟩; gi_at_call 31; refine (CallsIn.inRound l (callsIn_wide.2 HR.out)).mono ?_; rintro e w6 ⟨r1, rfl, hr1, hb6⟩; obtain ⟨A6, c6, rfl, _⟩ := id hr1)
      have hb6' := hd.trans (hb6.mono hd.size)
      have HA := hideC (and_any _ _ _ _ w6 (hsr.below hb6') hr1)
      refine nxtI_op rfl hb6' ?_
      gi_wp2_with (refine ⟨trivial, ?_⟩; gi_at_call 30; refine (CallsIn.inRound l (callsIn_wide.2 HA.out)).mono ?_; rintro e w7 ⟨r2, rfl, hr2, hb7⟩; obtain ⟨A7, c7, rfl, _⟩ := id hr2)
      have hb7' := hb6'.trans (hb7.mono hb6'.size)
      have hX7 := hX.below hb7' hX.lt
      have cX7 := hX7.cell 0
      have fX7 := hX7.frozen 0
      refine nxtI_op rfl hb7' ?_
      gi_wp2_with fail
      refine nxtI_nil ?_
      gi_wp2_with fail
      have hk8 := (KeepW.of_below hb7').trans (KeepW.setCell (p := ⟨w2.heap.size, 0, none⟩) hX7 (by decide) (.slice A7 (nw (comTo C Ns pre &&& rx)) c7))
      have hb8 := (hb7'.mono hbl.size).setCell (p := ⟨w2.heap.size, 0, none⟩) (by simp; omega) (.slice A7 (nw (comTo C Ns pre &&& rx)) c7)
      exact ⟨((KeepsOthers.of_below hb7').trans (KeepsOthers.setCell _ _ _)).from _, KpA.mk_ hk8 hb8 hT.pos,
        ⟨_, hX7.set_ 0 (.slice A7 (nw (comTo C Ns pre &&& rx)) c7), by rw [HST.out]; exact hr2.keep (KeepW.setCell (p := ⟨w2.heap.size, 0, none⟩) hX7 (by decide) (.slice A7 (nw (comTo C Ns pre &&& rx)) c7))⟩, (hbut.below hb7').trans (But.setCell _ _ _), hbl.trans hb8⟩
    · rw [if_neg hxl] at hst
      have HST := Lib.hid hst
      have HC := hideC (rows_v hmv)
      clear hst
      gi_wp2_with (refine ⟨trivial, ?_⟩; gi_at_call 53; refine (CallsIn.inRound l (callsIn_wide.2 HC.out)).mono ?_; rintro e w5 ⟨rfl, rfl⟩)
      exact ⟨(KeepsOthers.of_below (Below.refl _ _)).from _, KpA.refl _, ⟨_, hX, by rw [HST.out]; exact hsr⟩, hbut, hbl⟩
  case done =>
    rintro D W hD ⟨⟨rv', hX, hsr⟩, hbut, hbl⟩ hK
    obtain ⟨A', c', rfl, _⟩ := id hsr
    have hOW := hbut.blk hO4 (by simp; omega)
    have cX := hX.cell 0
    have cO := hOW.cell 0
    have fO := hOW.frozen 0
    have lO := hOW.lt
    go_wp2_with fail
    have hOX := hOW.set_ 0 (.slice A' (nw (comTo C Ns (mems S))) c')
    have hbX := hbl.setCell (p := ⟨w.heap.size + 1 + 1, 0, none⟩) (by show w.heap.size ≤ w.heap.size + 1 + 1; omega) (.slice A' (nw (comTo C Ns (mems S))) c')
    have hsX := hsr.keep (KeepW.setCell (p := ⟨w.heap.size + 1 + 1, 0, none⟩) hOW (by decide) (.slice A' (nw (comTo C Ns (mems S))) c'))
    have hKX := (KeepsOthers.setCell W ⟨w.heap.size + 1 + 1, 0, none⟩ (.slice A' (nw (comTo C Ns (mems S))) c')).same _ _ hK rfl
    refine leave_marks (n₀ := w.heap.size) [{ target := .collected D, args := #[] }] _ ⟨⟨D, rfl, by have := b4.size; omega, hKX, fun e he => by cases he⟩, trivial⟩ fun W' hW' => ?_
    have hBB : Blk W' (w.heap.size + 1 + 1) 66 _ := hW'.2 _ _ _ _ hOX
    have cX := hBB.cell 0
    exact ⟨_, by simp [results, Tryd.results74, go_sem, cX], _, rfl, hsX.keep hW'.keep, hbX.trans hW'.1⟩
set_option maxRecDepth 100000 in
set_option maxHeartbeats 4000000 in
theorem having_any (m : Option Addr) (C : Nat) (Ns : List Nat) (v : Value) (S : Nat) (w : World) (h : IsMV w m C Ns) (hs : IsSet w v S) (hT : Tab w) :
    Calls Tryd.prog 26 #[.pointer m, .agg #[v]] w fun e w' => ∃ r, e = .returned (.agg #[r]) ∧ IsSet w' r (havN C Ns S) ∧ Below w.heap.size w w' := by
  obtain ⟨hC, hR⟩ := h.bd
  refine (callsIn_wide (n := 9)).1 (callsIn_of_wp_marks Tryd.func26 rfl trivial (wpIn_wide.2 ?_) rfl)
  simp only [Tryd.ntmps26, List.size_toArray, List.length_cons, List.length_nil, Nat.reduceAdd, Nat.reduceSub, Array.replicate_succ, Array.replicate_zero, List.push_toArray, List.append_toArray, List.nil_append, List.cons_append]
  go_wp2_with fail
  refine absC3 fun W0 hM0 hR0 hO0 hb0 hz0 => ?_
  refine (rows_v (h.below hb0)).mono ?_
  rintro e w1 ⟨rfl, rfl⟩
  have x0 := hM0.cell 0
  go_wp2_with fail
  refine (below_any _ _).mono ?_
  rintro e w2 ⟨r, rfl, hset, hb2⟩
  rw [clamp_nat (by omega)] at hset
  have b2 := hb0.trans (hb2.mono hb0.size)
  have hM2 := hM0.below hb2 hM0.lt
  have hR2 := hR0.below hb2 hR0.lt
  have hO2 := hO0.below hb2 hO0.lt
  have y0 := hR2.cell 0
  obtain ⟨Ar, cr, rfl, _⟩ := id hset
  obtain ⟨Av, cv, rfl, _⟩ := id hs
  have lR := hR2.lt
  clear x0 hM0 hR0 hO0
  go_wp2_with fail
  refine absC1 fun W3 hX3 hb3 hz3 => ?_
  refine (all_any Av (nw S) cv W3).mono ?_
  rintro e w4 ⟨rfl, hw4⟩
  have hY := hw4 ▸ Blk.new W3 66 #[.slice Av (nw S) cv]
  have hb4 : Below W3.heap.size W3 w4 := by rw [hw4]; exact (Below.refl _ _).alloc (Nat.le_refl _) _
  have hb24 := hb3.trans (hb4.mono hb3.size)
  have b4 := b2.trans (hb24.mono b2.size)
  have hM4 := hM2.below hb24 hM2.lt
  have hO4 := hO2.below hb24 hO2.lt
  have hX4 := hX3.below hb4 hX3.lt
  have hset4 := hset.below hb24
  have hs4 := hs.below b4
  have hT4 := hT.below b4
  have hz2 : w.heap.size + 3 ≤ w2.heap.size := by have := hb2.size; omega
  have hsz4 : w4.heap.size = w2.heap.size + 2 := by rw [hw4]; simp [hz3]
  rw [hz3] at hY ⊢
  clear hw4 hX3 hM2 hR2 hO2 hb2 hset y0
  have HSZ := Lib.hid hsz4
  have HZ3 := Lib.hid hz3
  have HZ0 := Lib.hid hz0
  clear hsz4 hz3 hz0
  have hXne : some (w.heap.size) ≠ some w2.heap.size := by simp; omega
  go_wp2_with fail
  refine wp_rangeAll (v := .slice Av (nw S) cv) (N := S) (Bx := w2.heap.size + 1) rfl (hY.cell 0) hs4 hT4 rfl
    (fun pre W => (∃ rv', Blk W w2.heap.size 66 #[rv'] ∧ IsSet W rv' (havTo C Ns pre)) ∧ But (some w2.heap.size) w4 W ∧ Below w.heap.size w W) (fun _ _ _ => False)
    ?hI (fun _ _ _ _ _ hs _ _ => hs) ?h0 ?a1 ?assign ?body ?done (fun _ _ _ _ _ h _ => h.elim)
  case assign =>
    intro l x W K hK
    gi_wp2
    exact hK
  case hI =>
    rintro s W W' row ⟨⟨rv', hb, hsr⟩, hbut, hbl⟩ hg hrow
    have hcells : ∀ (g : Nat) cs t fz, W.heap[g]? = some (Obj.cells cs t fz) → W'.heap[g]? = some (Obj.cells cs t fz) := fun g cs t fz hb => (hg.block g (Array.getElem?_eq_some_iff.1 hb).1 fun e => by
      obtain ⟨_, o, ho, hc⟩ := hrow g e.symm
      rw [ho] at hb; cases hb; cases hc).trans hb
    refine ⟨⟨rv', hcells _ _ _ _ hb, hsr.keep ⟨hg.size, fun g cs h => hcells _ _ _ _ h⟩⟩, ⟨Nat.le_trans hbut.1 hg.size, fun g hg' hne => (hg.block g (Nat.lt_of_lt_of_le hg' hbut.1) fun e => ?_).trans (hbut.2 g hg' hne)⟩, hbl.grown hg hbl.size fun k e => ?_⟩
    · have := (hrow g e.symm).1; omega
    · have := (hrow k e).1; have := b4.size; omega
  case h0 => exact ⟨⟨_, hX4, by simpa [havTo] using hset4⟩, But.refl _ _, b4⟩
  case body =>
    rintro l pre x W hx ⟨⟨rv', hX, hsr⟩, hbut, hbl⟩ hlen hkp
    have cM := hbut.on (hM4.cell 0) hXne
    have cX := hX.cell 0
    have lX := hX.lt
    have lM := cell_lt cM
    have hmv := h.below hbl
    have hd : Below W.heap.size W W.drew := (Below.refl _ _).drew
    have hst : havTo C Ns (pre ++ [x]) = _ := havTo_snoc C Ns pre x
    by_cases hxl : x < C
    · rw [if_pos hxl] at hst
      have hgt := col_v (hmv.below hd) hxl
      obtain ⟨rx, hrx⟩ : ∃ n, n = mcol C Ns (x : Nat) := ⟨_, rfl⟩
      rw [← hrx] at hst hgt
      have HST := Lib.hid hst
      have HC := hideC (cols_v hmv)
      have HR := hideC hgt
      clear hst hrx hgt
      gi_wp2_with (refine ⟨trivial, ?_⟩; gi_at_call 72; refine (CallsIn.inRound l (callsIn_wide.2 HC.out)).mono ?_; rintro e w5 ⟨rfl, rfl⟩)
      refine wpIn_spine (fun V => Below W.heap.size W V) [0, 1, 2] [3, 4, 5] (fun _ => trivial) (by kernel_rfl) (by kernel_rfl) (by kernel_rfl) ?_
      iterate 3 (refine wpE_op (v := ?_) rfl rfl (fun W hW => ?_) ?_; rotate_left; (have x1 := onB hW cX; have x2 := onB hW cM; go_simp; first | done | with_reducible rfl); simp only [Act.put, List.setIfInBounds_toArray, List.set_cons_zero, List.set_cons_succ])
      refine wpE_nil ⟨fun h => (by cases h), wpSpI_op rfl hd ?_⟩
      gi_wp2_with (refine ⟨trivial, ?_⟩; gi_at_call 73; refine (CallsIn.inRound l (callsIn_wide.2 HR.out)).mono ?_; rintro e w6 ⟨r1, rfl, hr1, hb6⟩; obtain ⟨A6, c6, rfl, _⟩ := id hr1)
      have hb6' := hd.trans (hb6.mono hd.size)
      have HA := hideC (and_any _ _ _ _ w6 (hsr.below hb6') hr1)
      refine nxtI_op rfl hb6' ?_
      gi_wp2_with (refine ⟨trivial, ?_⟩; gi_at_call 30; refine (CallsIn.inRound l (callsIn_wide.2 HA.out)).mono ?_; rintro e w7 ⟨r2, rfl, hr2, hb7⟩; obtain ⟨A7, c7, rfl, _⟩ := id hr2)
      have hb7' := hb6'.trans (hb7.mono hb6'.size)
      have hX7 := hX.below hb7' hX.lt
      have cX7 := hX7.cell 0
      have fX7 := hX7.frozen 0
      refine nxtI_op rfl hb7' ?_
      gi_wp2_with fail
      refine nxtI_nil ?_
      gi_wp2_with fail
      have hk8 := (KeepW.of_below hb7').trans (KeepW.setCell (p := ⟨w2.heap.size, 0, none⟩) hX7 (by decide) (.slice A7 (nw (havTo C Ns pre &&& rx)) c7))
      have hb8 := (hb7'.mono hbl.size).setCell (p := ⟨w2.heap.size, 0, none⟩) (by simp; omega) (.slice A7 (nw (havTo C Ns pre &&& rx)) c7)
      exact ⟨((KeepsOthers.of_below hb7').trans (KeepsOthers.setCell _ _ _)).from _, KpA.mk_ hk8 hb8 hT.pos,
        ⟨_, hX7.set_ 0 (.slice A7 (nw (havTo C Ns pre &&& rx)) c7), by rw [HST.out]; exact hr2.keep (KeepW.setCell (p := ⟨w2.heap.size, 0, none⟩) hX7 (by decide) (.slice A7 (nw (havTo C Ns pre &&& rx)) c7))⟩, (hbut.below hb7').trans (But.setCell _ _ _), hbl.trans hb8⟩
    · rw [if_neg hxl] at hst
      have HST := Lib.hid hst
      have HC := hideC (cols_v hmv)
      clear hst
      gi_wp2_with (refine ⟨trivial, ?_⟩; gi_at_call 72; refine (CallsIn.inRound l (callsIn_wide.2 HC.out)).mono ?_; rintro e w5 ⟨rfl, rfl⟩)
      exact ⟨(KeepsOthers.of_below (Below.refl _ _)).from _, KpA.refl _, ⟨_, hX, by rw [HST.out]; exact hsr⟩, hbut, hbl⟩
  case done =>
    rintro D W hD ⟨⟨rv', hX, hsr⟩, hbut, hbl⟩ hK
    obtain ⟨A', c', rfl, _⟩ := id hsr
    have hOW := hbut.blk hO4 (by simp; omega)
    have cX := hX.cell 0
    have cO := hOW.cell 0
    have fO := hOW.frozen 0
    have lO := hOW.lt
    go_wp2_with fail
    have hOX := hOW.set_ 0 (.slice A' (nw (havTo C Ns (mems S))) c')
    have hbX := hbl.setCell (p := ⟨w.heap.size + 1 + 1, 0, none⟩) (by show w.heap.size ≤ w.heap.size + 1 + 1; omega) (.slice A' (nw (havTo C Ns (mems S))) c')
    have hsX := hsr.keep (KeepW.setCell (p := ⟨w.heap.size + 1 + 1, 0, none⟩) hOW (by decide) (.slice A' (nw (havTo C Ns (mems S))) c'))
    have hKX := (KeepsOthers.setCell W ⟨w.heap.size + 1 + 1, 0, none⟩ (.slice A' (nw (havTo C Ns (mems S))) c')).same _ _ hK rfl
    refine leave_marks (n₀ := w.heap.size) [{ target := .collected D, args := #[] }] _ ⟨⟨D, rfl, by have := b4.size; omega, hKX, fun e he => by cases he⟩, trivial⟩ fun W' hW' => ?_
    have hBB : Blk W' (w.heap.size + 1 + 1) 66 _ := hW'.2 _ _ _ _ hOX
    have cX := hBB.cell 0
    exact ⟨_, by simp [results, Tryd.results26, go_sem, cX], _, rfl, hsX.keep hW'.keep, hbX.trans hW'.1⟩
end Go.Proofs.YtgpooflcbljidaaDoor
