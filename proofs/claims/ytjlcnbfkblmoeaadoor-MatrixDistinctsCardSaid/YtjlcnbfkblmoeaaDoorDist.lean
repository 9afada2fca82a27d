import Derived.Test.YtjlcnbfkblmoeaaDoorParse
namespace Go.Proofs.YtjlcnbfkblmoeaaDoor
open Go.RowKit

/-- Where N first stands in Ns; -1: nowhere. -/
def idxN (Ns : List Nat) (N : Nat) : Int := match Ns.findIdx? (· == N) with
  | some k => k
  | none => -1

theorem idxN_some {Ns : List Nat} {N k : Nat} (hk : k < Ns.length) (h : Ns[k] = N) (hb : ∀ j, j < k → Ns.getD j 0 ≠ N) : idxN Ns N = k := by
  have : Ns.findIdx? (· == N) = some k := by
    rw [List.findIdx?_eq_some_iff_getElem]
    refine ⟨hk, by simp [h], fun j hj => ?_⟩
    have := hb j hj
    rw [getD_at (by omega)] at this
    simpa using this
  rw [idxN, this]
theorem idxN_none {Ns : List Nat} {N : Nat} (hb : ∀ j, j < Ns.length → Ns.getD j 0 ≠ N) : idxN Ns N = -1 := by
  have : Ns.findIdx? (· == N) = none := by
    rw [List.findIdx?_eq_none_iff]
    intro x hx
    obtain ⟨j, hj, rfl⟩ := List.getElem_of_mem hx
    have := hb j hj
    rw [getD_at hj] at this
    simpa using this
  rw [idxN, this]

set_option maxHeartbeats 1000000 in
set_option maxRecDepth 100000 in
theorem indexFunc_any (A : Option Addr) (c : Nat) (vs : List Value) (Ns : List Nat) (v : Value) (N : Nat) (w : World) (hr : Row w A vs) (hs : Sets w vs Ns) (hv : IsSet w v N) (hn : Ns.length ≤ 4096) :
    Calls Tryd.prog 59 #[.slice A Ns.length c, .func (.func 60) #[.agg #[v]] #[]] w fun e w' => e = .returned (.int .i64 (idxN Ns N)) ∧ Below w.heap.size w w' := by
  go_enter Tryd.func59, Tryd.ntmps59
  go_wp2_with fail
  go_loopw [8] (fun i wr => ∃ k : Nat, k ≤ Ns.length ∧ i = .int .i64 k ∧ (∀ j, j < k → Ns.getD j 0 ≠ N) ∧ Below w.heap.size w wr) (fun i _ => Ns.length - (intOf i).toNat)
  case atStart => exact ⟨0, Nat.zero_le _, rfl, fun j hj => absurd hj (by omega), Below.refl _ _⟩
  case round =>
    obtain ⟨k, hk, rfl, heq, hbel⟩ := hrel
    have HEQ := Lib.hid heq; clear heq
    by_cases hlt : k < Ns.length
    · obtain ⟨A1, c1, hvk, hset⟩ := hs.at_ hlt
      obtain ⟨g, off, rfl, hg, hcell⟩ := hr (by rw [hs.1]; omega)
      have cv := onB hbel (hcell k _ hvk)
      have hcall := equal_any v _ N _ wr (hv.below hbel) (hset.below hbel)
      clear hcell hr hs hvk
      by_cases he : N = Ns[k]
      · rw [decide_eq_true he] at hcall
        have HC := hideC hcall; clear hcall
        have HE := Lib.hid he; clear he
        go_wp2_with fail
        refine HC.out.mono ?_
        rintro e w2 ⟨rfl, hb2⟩
        go_wp2_with fail
        go_ret
        exact ⟨ret_int (idxN_some hlt HE.out.symm HEQ.out).symm, hbel.trans (hb2.mono hbel.size)⟩
      · rw [decide_eq_false he] at hcall
        have HC := hideC hcall; clear hcall
        have HE := Lib.hid he; clear he
        go_wp2_with fail
        refine HC.out.mono ?_
        rintro e w2 ⟨rfl, hb2⟩
        go_wp2_with fail
        exact ⟨⟨k + 1, by omega, by go_num, fun j hj => by
          by_cases h : j = k
          · rw [h, getD_at hlt]; exact fun e => HE.out e.symm
          · exact HEQ.out j (by omega), hbel.trans (hb2.mono hbel.size)⟩, by simp [intOf]; omega⟩
    · obtain rfl : k = Ns.length := by omega
      clear hr hs
      go_wp2_with fail
      go_ret
      exact ⟨ret_int (idxN_none HEQ.out).symm, hbel⟩

/-- One row more: the different rows so far, and where each went. -/
def distStep (st : List Nat × List Int) (N : Nat) : List Nat × List Int :=
  if idxN st.1 N < 0 then (st.1 ++ [N], st.2 ++ [(st.1.length : Int)]) else (st.1, st.2 ++ [idxN st.1 N])
def mdist (Ns : List Nat) (k : Nat) : List Nat × List Int := (Ns.take k).foldl distStep ([], [])
theorem mdist_succ {Ns : List Nat} {k : Nat} (h : k < Ns.length) : mdist Ns (k + 1) = distStep (mdist Ns k) Ns[k] := by
  unfold mdist
  rw [List.take_add_one, List.getElem?_eq_getElem h, List.foldl_append]; rfl
theorem mdist_len (Ns : List Nat) : ∀ k, k ≤ Ns.length → (mdist Ns k).1.length ≤ k ∧ (mdist Ns k).2.length = k
  | 0, _ => by simp [mdist]
  | k + 1, h => by
    have ih := mdist_len Ns k (by omega)
    rw [mdist_succ (by omega), distStep]
    split <;> simp <;> omega
theorem own_but {W W' : World} {base : Nat} {e : TypeId} {size : Nat} {v : Value} {n : Nat} {xs : List Value} {r : Option Nat} (h : W.ownsRow base e size v n xs) (hb : But r W W') (hne : ∀ g, v.ownBlock = some g → some g ≠ r) : W'.ownsRow base e size v n xs := by
  obtain ⟨hl, h2⟩ := h
  refine ⟨hl, ?_⟩
  rcases h2 with h2 | ⟨g, cap, cur, hv, hg, hh, r2⟩
  · exact .inl h2
  · exact .inr ⟨g, cap, cur, hv, hg, (hb.2 g (Array.getElem?_eq_some_iff.1 hh).1 (hne g (by rw [hv]; rfl))).trans hh, r2⟩
set_option maxHeartbeats 2000000 in
set_option maxRecDepth 100000 in
theorem dist_any (p C : Nat) (Ns : List Nat) (w : World) (h : IsMat w p C Ns) :
    Calls Tryd.prog 16 #[ptr p] w fun e w' => ∃ q A c, e = .returned (.tuple #[ptr q, .slice A (mdist Ns Ns.length).2.length c]) ∧ IsMat w' q C (mdist Ns Ns.length).1 ∧ (mdist Ns Ns.length).2.length ≤ c ∧ Row w' A ((mdist Ns Ns.length).2.map (.int .i64)) ∧ Below w.heap.size w w' := by
  obtain ⟨h1, h2, A, c, vs, hB, hc, hr, hs⟩ := id h
  have m0 := hB.cell 0
  have m1 := hB.cell 1
  have lB := hB.lt
  go_enter Tryd.func16, Tryd.ntmps16
  go_wp2_with fail
  refine abs1 fun W0 hQ0 hbel0 hz => ?_
  have HZ := Lib.hid hz; clear hz
  go_loopw [5, 22] (fun a i wr => ∃ k : Nat, k ≤ Ns.length ∧ i = .int .i64 k ∧ wr.ownsRow w.heap.size 3 1 a (mdist Ns k).2.length ((mdist Ns k).2.map (.int .i64)) ∧ (∃ rv us, Bld w.heap.size w.heap.size C (mdist Ns k).1 wr rv us) ∧ Below w.heap.size w wr) (fun _ i _ => Ns.length - (intOf i).toNat)
  case atStart => exact ⟨0, Nat.zero_le _, rfl, World.ownsRow_nil _ _ _ _, ⟨_, _, Bld.start _ _ _ _ hQ0⟩, hbel0⟩
  case round =>
    obtain ⟨k, hk, rfl, hown, ⟨rv, us, hbld⟩, hbel⟩ := hrel
    obtain ⟨hl1, hl2⟩ := mdist_len Ns k hk
    by_cases hlt : k < Ns.length
    · obtain ⟨A1, c1, hv, hset⟩ := hs.at_ hlt
      obtain ⟨g, off, rfl, hg, hcell⟩ := hr (by rw [hs.1]; omega)
      have cv := onB hbel (hcell k _ hv)
      obtain ⟨Ar, cr, hrv, hr1, hr2, hr3, _⟩ := row_of_own hbld.2.1
      subst hrv
      have hstep := mdist_succ hlt
      clear hcell hr hs hv
      go_wp2_with fail
      refine abs1 fun W1 hX hbx hz1 => ?_
      have HZ1 := Lib.hid hz1; clear hz1
      have hbld1 := hbld.below hbx
      have hown1 := own_below hown hbx
      have hbel1 := hbel.trans (hbx.mono hbel.size)
      have cX := hX.cell 0
      have nX : some wr.heap.size ≠ (Value.slice Ar (mdist Ns k).1.length cr).ownBlock := fun e => by have := (hbld.2.1.lt _ e.symm).2; omega
      have q1 := hbld1.1.cell 1
      have n1 := hbld1.ne
      have lX := hX.lt
      have lQ := hbld1.1.lt
      have hidx := indexFunc_any Ar cr us (mdist Ns k).1 (.slice A1 (nw Ns[k]) c1) Ns[k] W1.drew (hr3.below (hbx.trans ((Below.refl _ _).drew.mono hbx.size))) ((hbld1.2.2).below (Below.refl _ _).drew) ((hset.below hbel1).below (Below.refl _ _).drew) (by omega)
      obtain ⟨ix, hix⟩ : ∃ ix, ix = idxN (mdist Ns k).1 Ns[k] := ⟨_, rfl⟩
      rw [← hix] at hidx
      rw [distStep, ← hix] at hstep
      have HI := hideC hidx; clear hidx
      have HIX := Lib.hid hix; clear hix
      have hszL := hl1
      by_cases hneg : ix < 0
      · rw [if_pos hneg] at hstep
        have HST := Lib.hid hstep; clear hstep
        refine wp_spine (fun W => Below W1.heap.size W1 W) [0, 1, 2, 3, 4] [5, 6, 7] (by kernel_rfl) (by kernel_rfl) ?_
        iterate 5 (refine wpE_op (v := ?_) rfl rfl (fun W hW => ?_) ?_; rotate_left; (have x1 := onB hW q1; have x2 := onB hW cX; go_simp; first | done | with_reducible rfl); simp only [Act.put, List.setIfInBounds_toArray, List.set_cons_zero, List.set_cons_succ])
        refine wpE_nil ⟨fun h => (by cases h), wpSp_op rfl (Below.refl _ _).drew ?_⟩
        go_wp2_with fail
        refine nxt_op rfl (Below.refl _ _).drew ?_
        go_wp2_with fail
        refine HI.out.mono ?_
        rintro e w2 ⟨rfl, hb2⟩
        have hb3 : Below W1.heap.size W1 w2 := (Below.refl _ _).drew.trans hb2
        go_wp2_with fail
        refine nxt_op rfl hb3 ?_
        go_wp2_with fail
        refine nxt_nil ?_
        have hbld3 := hbld1.below hb3
        have hown3 := own_below hown1 hb3
        have hbel3 := hbel1.trans (hb3.mono hbel1.size)
        have cX3 := onB hb3 cX
        have q13 := onB hb3 q1
        have hszW := hbel1.size
        have hsz3 := hb3.size
        go_wp2_with fail
        refine wp_spine (fun W => But (Value.slice Ar (mdist Ns k).1.length cr).ownBlock w2 W) [0, 1, 2, 3, 4, 5] [6, 7, 8, 9, 10] (by kernel_rfl) (by kernel_rfl) ?_
        iterate 6 (refine wpE_op (v := ?_) rfl rfl (fun W hW => ?_) ?_; rotate_left; (have x1 := hW.on q13 n1; have x2 := hW.on cX3 nX; go_simp; first | done | with_reducible rfl); simp only [Act.put, List.setIfInBounds_toArray, List.set_cons_zero, List.set_cons_succ])
        obtain ⟨i0, hi0, hz0, hz1, hz2⟩ := info_parts info_set
        refine wpE_nil ⟨fun h => (by cases h), wpSp_op rfl ((But.refl _ _).below (Below.refl _ _).drew) ?_⟩
        go_wp2_with fail
        have hb4 := (Below.refl w2.heap.size w2).drew.alloc (Nat.le_refl _) (.cells #[.slice A1 (nw Ns[k]) c1] 65)
        have hbld4 := hbld3.below hb4
        have hset4 := (hset.below hbel3).below hb4
        refine nxt_op rfl (.of_below hb4) ?_
        go_wp2_with (at_builtin; refine wpList_append_own _ rfl _ _ 62 rfl (w.heap.size) 65 i0 (.agg #[.slice none 0 0]) 1 24 Tryd.underlying62 hi0 hz0 hz1 hz2 rfl (by decide) _ _ _ rfl (hbld4.2.1) ⟨w2.heap.size, 0, none⟩ 1 1 [.slice A1 (nw Ns[k]) c1] rfl rfl (cell_one_new _ _ _) (by simp [Value.oneCell']) (by unfold maxLen; omega) (by omega) (by simp; omega) ?_; intro v' w3 hown' hgrow _)
        obtain ⟨g5, cap5, rfl⟩ := ownsRow_succ hown'
        have hbut5 := (But.of_below hb4).trans (But.grown hgrow)
        have hbel5 := (hbel3.trans (hb4.mono hbel3.size)).grown hgrow (by simp; omega) (fun q hq => (hbld4.2.1.lt q hq).1)
        have q15 := hbut5.on q13 n1
        have f15 := hbut5.frozen q13 (hbld3.1.frozen 1) n1
        have hown5 := own_but hown3 hbut5 (fun g hg => by
          obtain ⟨cs, hcs⟩ := own_kind hown3 g hg
          exact own_ne hbld3.2.1 hcs (by decide))
        obtain ⟨hblE, _⟩ := hbld4.push hset4 rfl rfl hown' hgrow
        refine nxt_op rfl hbut5 ?_
        go_wp2_with fail
        refine nxt_op rfl hbut5 ?_
        go_wp2_with fail
        refine nxt_op rfl hbut5 ?_
        go_wp2_with fail
        refine nxt_nil ?_
        have hownE := ownsRow_setCell_other hown5 (a := ⟨w.heap.size, 1, none⟩) (fun e => by
          obtain ⟨cs, hcs⟩ := own_kind hown5 _ e
          have hq := hbut5.blk hbld3.1 n1
          exact hq.ne_ hcs (by decide) rfl) (.slice (some ⟨g5, 0, none⟩) ((mdist Ns k).1.length + 1) cap5)
        have hbE := hbel5.setCell (p := ⟨w.heap.size, 1, none⟩) (Nat.le_refl _) (.slice (some ⟨g5, 0, none⟩) ((mdist Ns k).1.length + 1) cap5)
        obtain ⟨WE, hWE⟩ : ∃ WE, WE = w3.setCell ⟨w.heap.size, 1, none⟩ (.slice (some ⟨g5, 0, none⟩) ((mdist Ns k).1.length + 1) cap5) := ⟨_, rfl⟩
        rw [← hWE] at hownE hbE hblE ⊢
        clear hWE
        obtain ⟨i0, hi0, hz0, hz1, hz2⟩ := info_parts info_int
        have hszE := hbE.size
        have hownA := hownE.alloc (.cells #[.int .i64 (((mdist Ns k).1.length : Nat) : Int)] 3)
        have hblA := hblE.below ((Below.refl _ _).alloc (Nat.le_refl _) (.cells #[.int .i64 (((mdist Ns k).1.length : Nat) : Int)] 3))
        go_wp2_with (at_builtin; refine wpList_append_own _ rfl _ _ 32 rfl (w.heap.size) 3 i0 (.int .i64 0) 1 8 Tryd.underlying32 hi0 hz0 hz1 hz2 rfl (by decide) _ _ _ rfl (hownA) ⟨WE.heap.size, 0, none⟩ 1 1 [.int .i64 (((mdist Ns k).1.length : Nat) : Int)] rfl rfl (cell_one_new _ _ _) (by simp [Value.oneCell']) (by unfold maxLen; omega) (by omega) (by simp; omega) ?_; intro v' w3 hown' hgrow _)
        have hblZ := hblA.but2 (But.grown hgrow) (own_ne hownA hblA.1 (by decide)) (fun g hg => by
          obtain ⟨cs, hcs⟩ := own_kind hblA.2.1 g hg
          exact own_ne hownA hcs (by decide)) (KeepW.grown hgrow hownA (by decide))
        exact ⟨⟨k + 1, by omega, by go_num, by rw [HST.out]; simpa using hown', ⟨_, _, by rw [HST.out]; exact hblZ⟩, (hbE.alloc hbE.size _).grown hgrow (by simp; omega) (fun q hq => (hownA.lt q hq).1)⟩, by simp [intOf]; omega⟩
      · rw [if_neg hneg] at hstep
        have HST := Lib.hid hstep; clear hstep
        refine wp_spine (fun W => Below W1.heap.size W1 W) [0, 1, 2, 3, 4] [5, 6, 7] (by kernel_rfl) (by kernel_rfl) ?_
        iterate 5 (refine wpE_op (v := ?_) rfl rfl (fun W hW => ?_) ?_; rotate_left; (have x1 := onB hW q1; have x2 := onB hW cX; go_simp; first | done | with_reducible rfl); simp only [Act.put, List.setIfInBounds_toArray, List.set_cons_zero, List.set_cons_succ])
        refine wpE_nil ⟨fun h => (by cases h), wpSp_op rfl (Below.refl _ _).drew ?_⟩
        go_wp2_with fail
        refine nxt_op rfl (Below.refl _ _).drew ?_
        go_wp2_with fail
        refine HI.out.mono ?_
        rintro e WE ⟨rfl, hb2⟩
        have hb3 : Below W1.heap.size W1 WE := (Below.refl _ _).drew.trans hb2
        go_wp2_with fail
        refine nxt_op rfl hb3 ?_
        go_wp2_with fail
        refine nxt_nil ?_
        have hblE := hbld1.below hb3
        have hownE := own_below hown1 hb3
        have hbE := hbel1.trans (hb3.mono hbel1.size)
        obtain ⟨i0, hi0, hz0, hz1, hz2⟩ := info_parts info_int
        have hszE := hbE.size
        have hownA := hownE.alloc (.cells #[.int .i64 (ix : Int)] 3)
        have hblA := hblE.below ((Below.refl _ _).alloc (Nat.le_refl _) (.cells #[.int .i64 (ix : Int)] 3))
        go_wp2_with (at_builtin; refine wpList_append_own _ rfl _ _ 32 rfl (w.heap.size) 3 i0 (.int .i64 0) 1 8 Tryd.underlying32 hi0 hz0 hz1 hz2 rfl (by decide) _ _ _ rfl (hownA) ⟨WE.heap.size, 0, none⟩ 1 1 [.int .i64 (ix : Int)] rfl rfl (cell_one_new _ _ _) (by simp [Value.oneCell']) (by unfold maxLen; omega) (by omega) (by simp; omega) ?_; intro v' w3 hown' hgrow _)
        have hblZ := hblA.but2 (But.grown hgrow) (own_ne hownA hblA.1 (by decide)) (fun g hg => by
          obtain ⟨cs, hcs⟩ := own_kind hblA.2.1 g hg
          exact own_ne hownA hcs (by decide)) (KeepW.grown hgrow hownA (by decide))
        exact ⟨⟨k + 1, by omega, by go_num, by rw [HST.out]; simpa using hown', ⟨_, _, by rw [HST.out]; exact hblZ⟩, (hbE.alloc hbE.size _).grown hgrow (by simp; omega) (fun q hq => (hownA.lt q hq).1)⟩, by simp [intOf]; omega⟩
    · obtain rfl : k = Ns.length := by omega
      have hm := hbld.mat h1 (by omega)
      obtain ⟨Ax, cx, rfl, hx1, _, hx2, _⟩ := row_of_own hown
      go_wp2_with fail
      go_ret2
      exact ⟨_, _, _, rfl, hm, hx1, hx2, hbel⟩
set_option maxRecDepth 100000 in
theorem dist_nil (w : World) :
    Calls Tryd.prog 16 #[.pointer none] w fun e w' => e = .returned (.tuple #[.pointer none, .slice none 0 0]) ∧ w = w' := by
  go_enter Tryd.func16, Tryd.ntmps16
  go_wp2
  go_ret2
  exact ⟨rfl, rfl⟩
end Go.Proofs.YtjlcnbfkblmoeaaDoor
