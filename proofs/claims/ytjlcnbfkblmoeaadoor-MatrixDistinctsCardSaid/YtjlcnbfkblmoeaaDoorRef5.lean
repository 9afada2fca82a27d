import Derived.Test.YtjlcnbfkblmoeaaDoorRef4
namespace Go.Proofs.YtjlcnbfkblmoeaaDoor
open Go.RowKit

theorem OwnRows.but {W W' : World} {base C : Nat} {gs : List Nat} {f : Nat → Nat → Bool} {r : Option Nat} (h : OwnRows W base C gs f) (hb : But r W W') (hr : ∀ g cs, Blk W g 4 cs → some g ≠ r) : OwnRows W' base C gs f :=
  ⟨h.1, h.2.1, fun i g hg => hb.blk (h.2.2 i g hg) (hr g _ (h.2.2 i g hg))⟩
/-- One row more. -/
theorem OwnRows.snoc {W : World} {base C : Nat} {gs : List Nat} {f : Nat → Nat → Bool} {g : Nat} (h : OwnRows W base C gs f) (hg : base ≤ g) (hn : g ∉ gs) (hb : Blk W g 4 ((List.range C).map fun j => Value.bool (f gs.length j)).toArray) : OwnRows W base C (gs ++ [g]) f := by
  refine ⟨?_, fun q hq => ?_, fun i q hq => ?_⟩
  · rw [List.nodup_append]
    refine ⟨h.1, by simp, ?_⟩
    intro a ha b hb2
    rw [List.mem_singleton] at hb2
    subst hb2
    exact fun e => hn (e ▸ ha)
  · rcases List.mem_append.1 hq with h2 | h2
    · exact h.2.1 q h2
    · rw [List.mem_singleton.1 h2]; exact hg
  · by_cases hi : i < gs.length
    · rw [List.getElem?_append_left hi] at hq
      exact h.2.2 i q hq
    · rw [List.getElem?_append_right (by omega)] at hq
      have hi2 : i = gs.length := by
        have := (List.getElem?_eq_some_iff.1 hq).1
        simp at this; omega
      subst hi2
      rw [Nat.sub_self] at hq
      simp at hq
      subst hq
      exact hb
theorem OwnRef.far {W : World} {base C : Nat} {v : Value} {gs : List Nat} {f : Nat → Nat → Bool} (h : OwnRef W base C v gs f) {b : Nat} {t : TypeId} {cs : Array Value} (hB : Blk W b t cs) (h1 : t ≠ 84) (h2 : t ≠ 4) (i : Nat) (u : Value) : OwnRef (W.setCell ⟨b, i, none⟩ u) base C v gs f := by
  refine ⟨?_, h.2.but (But.setCell _ _ _) (fun g cs hb e => by cases e; exact hb.ne_ hB (fun e => h2 e.symm) rfl)⟩
  exact ownsRow_setCell_other h.1 (a := ⟨b, i, none⟩) (fun e => own_ne h.1 hB h1 e.symm) u
theorem zeros_bools (C : Nat) : zeros (.bool false) C = ((List.range C).map fun _ => Value.bool false).toArray := by
  unfold zeros
  apply Array.ext
  · simp
  · intro i h1 h2; simp
theorem hdrs_snoc (C : Nat) (gs : List Nat) (g : Nat) : hdrs C (gs ++ [g]) = hdrs C gs ++ [.slice (some ⟨g, 0, none⟩) C C] := by simp [hdrs]
set_option maxRecDepth 100000 in
set_option maxHeartbeats 2000000 in
theorem newr_any (R C : Nat) (w : World) (hR : R ≤ 4096) (hC : C ≤ 4096) :
    Calls Tryd.prog 57 #[.int .i64 R, .int .i64 C] w fun e w' => ∃ A c gs, e = .returned (refV C A R c) ∧ gs.length = R ∧ OwnRef w' w.heap.size C (.slice A R c) gs (fun _ _ => false) ∧ Below w.heap.size w w' := by
  obtain ⟨i0, hi0, hz0, hz1, hz2⟩ := info_parts info_bools
  have hmk := fun W => make_run (P := Tryd.prog) 84 4 _ 1 Tryd.underlying84 info_bool rfl C (by omega) (by omega) W
  go_enter Tryd.func57, Tryd.ntmps57
  go_wp2_with fail
  refine abs2 fun W0 hX0 hY0 hbel0 hz => ?_
  have HZ := Lib.hid hz; clear hz
  go_loopw [6] (fun i wr => ∃ k : Nat, k ≤ R ∧ i = .int .i64 k ∧ Blk wr w.heap.size 28 #[.int .i64 0, .slice none 0 0] ∧ (∃ v gs, gs.length = k ∧ Blk wr (w.heap.size + 1) 28 #[.int .i64 (C : Int), v] ∧ OwnRef wr w.heap.size C v gs (fun _ _ => false)) ∧ Below w.heap.size w wr) (fun i _ => R - (intOf i).toNat)
  case atStart => exact ⟨0, Nat.zero_le _, rfl, hX0, ⟨_, [], rfl, hY0, World.ownsRow_nil _ _ _ _, List.nodup_nil, fun g h => (by cases h), fun i g h => (by simp at h)⟩, hbel0⟩
  case round =>
    obtain ⟨k, hk, rfl, hX, ⟨v, gs, hgk, hY, hO⟩, hbel⟩ := hrel
    by_cases hlt : k < R
    · have y0 := hY.cell 0
      have y1 := hY.cell 1
      have nY : some (w.heap.size + 1) ≠ v.ownBlock := own_ne hO.1 hY (by decide)
      have hsz := hbel.size
      go_wp2_with fail
      refine wp_spine (fun V => But v.ownBlock wr V) [0, 1, 2] [3, 4, 5, 6, 7] (by kernel_rfl) (by kernel_rfl) ?_
      iterate 3 (refine wpE_op (v := ?_) rfl rfl (fun W hW => ?_) ?_; rotate_left; (have x1 := hW.on y1 nY; go_simp; first | done | with_reducible rfl); simp only [Act.put, List.setIfInBounds_toArray, List.set_cons_zero, List.set_cons_succ])
      refine wpE_nil ⟨fun h => (by cases h), wpSp_op rfl ((But.refl _ _).below (Below.refl _ _).drew) ?_⟩
      go_wp2_with fail
      have ha1 : Below wr.heap.size wr (wr.alloc (.cells (zeros (.bool false) C) 4)).drew := ((Below.refl _ _).alloc (Nat.le_refl _) _).drew
      have hblkN : Blk (wr.alloc (.cells (zeros (.bool false) C) 4)).drew wr.heap.size 4 ((List.range C).map fun _ => Value.bool false).toArray := by rw [← zeros_bools]; exact Blk.new _ _ _
      have hO1 := hO.below ha1
      have hY1 := hY.below ha1 hY.lt
      have hX1 := hX.below ha1 hX.lt
      have hz1' : (wr.alloc (.cells (zeros (.bool false) C) 4)).drew.heap.size = wr.heap.size + 1 := by simp
      obtain ⟨Wa, hWa⟩ : ∃ Wa, Wa = (wr.alloc (.cells (zeros (.bool false) C) 4)).drew := ⟨_, rfl⟩
      rw [← hWa] at ha1 hblkN hO1 hY1 hX1 hz1' ⊢
      clear hWa
      have hza : wr.heap.size ≤ Wa.heap.size := by omega
      clear hz1'
      refine nxt_op rfl (.of_below ha1) ?_
      go_wp2_with fail
      have ha2 := (Below.refl Wa.heap.size Wa).alloc (Nat.le_refl _) (.cells #[.slice (some ⟨wr.heap.size, 0, none⟩) C C] 84)
      have hO2 := hO1.below ha2
      have hY2 := hY1.below ha2 hY1.lt
      have hX2 := hX1.below ha2 hX1.lt
      have hN2 := hblkN.below ha2 hblkN.lt
      have hown2 := hO2.1
      rw [hgk] at hown2
      refine nxt_op rfl ((But.of_below ha1).below ha2) ?_
      go_wp2_with (at_builtin; refine wpList_append_own _ rfl _ _ 26 rfl (w.heap.size) 84 i0 (.slice none 0 0) 1 24 Tryd.underlying26 hi0 hz0 hz1 hz2 rfl (by decide) _ _ _ rfl (hown2) ⟨Wa.heap.size, 0, none⟩ 1 1 [.slice (some ⟨wr.heap.size, 0, none⟩) C C] rfl rfl (cell_one_new _ _ _) (by simp [Value.oneCell']) (by unfold maxLen; omega) (by omega) (by simp; omega) ?_; intro v' w3 hown' hgrow _)
      obtain ⟨g5, cap5, rfl⟩ := ownsRow_succ hown'
      have hbut3 := (But.of_below ha2 (r := v.ownBlock)).trans (But.grown hgrow)
      have hbut5 := (But.of_below ha1).trans hbut3
      have y03 := hbut5.on y0 nY
      have y13 := hbut5.on y1 nY
      have f13 := hbut5.frozen y1 (hY.frozen 1) nY
      have hY3 := hbut5.blk hY nY
      have hX3 := hbut5.blk hX (own_ne hO.1 hX (by decide))
      have hNne : ∀ g cs, Blk (Wa.alloc (.cells #[.slice (some ⟨wr.heap.size, 0, none⟩) C C] 84)) g 4 cs → some g ≠ v.ownBlock := fun g cs hb => own_ne hO2.1 hb (by decide)
      have hR3 := (hO2.2.but (But.grown hgrow) hNne).snoc (g := wr.heap.size) (by omega) (fun hm => by
        obtain ⟨i, hi, e⟩ := List.getElem_of_mem hm
        have := (hO.2.2.2 i wr.heap.size (by rw [← e]; exact List.getElem?_eq_getElem hi)).lt
        omega) ((But.grown hgrow).blk hN2 (hNne _ _ hN2))
      have hbe3 := ((hbel.trans (ha1.mono hbel.size)).trans (ha2.mono (by omega))).grown hgrow (by simp; omega) (fun q hq => (hO2.1.lt q hq).1)
      refine nxt_op rfl hbut5 ?_
      go_wp2_with fail
      refine nxt_op rfl hbut5 ?_
      go_wp2_with fail
      refine nxt_nil ?_
      go_wp2_with fail
      have hne5 := own_ne hown' hY3 (by decide)
      have hown5 := ownsRow_setCell_other hown' (a := ⟨w.heap.size + 1, 1, none⟩) (fun e => hne5 e.symm) (.slice (some ⟨g5, 0, none⟩) (k + 1) cap5)
      have hR5 : OwnRows (w3.setCell ⟨w.heap.size + 1, 1, none⟩ (.slice (some ⟨g5, 0, none⟩) (k + 1) cap5)) w.heap.size C (gs ++ [wr.heap.size]) (fun _ _ => false) :=
        hR3.but (But.setCell _ _ _) (fun g cs hb e => by cases e; exact hb.ne_ hY3 (by decide) rfl)
      refine ⟨⟨k + 1, by omega, by go_num, hX3.far (p := ⟨w.heap.size + 1, 1, none⟩) (by simp) _, ⟨_, gs ++ [wr.heap.size], by simp [hgk], hY3.set_ 1 _, ?_, hR5⟩, hbe3.setCell (by simp) _⟩, by simp [intOf]; omega⟩
      rw [hdrs_snoc]
      simpa [hgk] using hown5
    · obtain rfl : k = R := by omega
      have y0 := hY.cell 0
      have y1 := hY.cell 1
      have x0 := hX.cell 0
      have x1 := hX.cell 1
      have fx0 := hX.frozen 0
      have fx1 := hX.frozen 1
      obtain ⟨A, c, rfl, _, _, _, _⟩ := row_of_own hO.1
      rw [hgk] at hO hY
      go_wp2_with fail
      have hE := (hX.set_ 0 (.int .i64 (C : Int))).set_ 1 (.slice A k c)
      have hOE := (hO.far hX (by decide) (by decide) 0 (.int .i64 (C : Int))).far (hX.set_ 0 (.int .i64 (C : Int))) (by decide) (by decide) 1 (.slice A k c)
      have cX := hE.cell 0
      have cY := hE.cell 1
      refine bodyPost_ret (v := refV C A k c) (by simp [results, Tryd.results57, go_sem, cX, cY]) rfl ⟨A, c, gs, rfl, hgk, hOE, ?_⟩
      exact (hbel.setCell (by simp) _).setCell (by simp) _
end Go.Proofs.YtjlcnbfkblmoeaaDoor
