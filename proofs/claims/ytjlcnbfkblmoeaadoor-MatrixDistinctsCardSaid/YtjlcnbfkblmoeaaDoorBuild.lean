import Derived.Test.YtjlcnbfkblmoeaaDoorMat5
namespace Go.Proofs.YtjlcnbfkblmoeaaDoor
open Go.RowKit

/-- All old blocks but r read as before. -/
def But (r : Option Nat) (w w' : World) : Prop := w.heap.size ≤ w'.heap.size ∧ ∀ g, g < w.heap.size → some g ≠ r → w'.heap[g]? = w.heap[g]?
section
variable {w w' w'' : World} {r : Option Nat}
theorem But.refl (r : Option Nat) (w : World) : But r w w := ⟨Nat.le_refl _, fun _ _ _ => rfl⟩
theorem But.of_below (h : Below w.heap.size w w') : But r w w' := ⟨h.size, fun g hg _ => h.block g hg⟩
theorem But.trans (h : But r w w') (k : But r w' w'') : But r w w'' := ⟨Nat.le_trans h.1 k.1, fun g hg hr => (k.2 g (Nat.lt_of_lt_of_le hg h.1) hr).trans (h.2 g hg hr)⟩
theorem But.below (h : But r w w') (k : Below w'.heap.size w' w'') : But r w w'' := h.trans (.of_below k)
theorem But.grown (h : w.grownBy w' r) : But r w w' := ⟨h.size, fun g hg hr => h.block g hg hr⟩
theorem But.on (h : But r w w') {p : Addr} {v : Value} (hc : w.cell? p = some v) (hne : some p.block ≠ r) : w'.cell? p = some v := (World.cell?_of_block (h.2 p.block (cell_lt hc) hne)).trans hc
theorem But.frozen (h : But r w w') {p : Addr} {v : Value} {b : Bool} (hc : w.cell? p = some v) (hf : w.frozen? p = b) (hne : some p.block ≠ r) : w'.frozen? p = b := (World.frozen?_of_block (h.2 p.block (cell_lt hc) hne)).trans hf
theorem But.blk (h : But r w w') {g : Nat} {t : TypeId} {cs : Array Value} (hb : Blk w g t cs) (hne : some g ≠ r) : Blk w' g t cs := (h.2 g hb.lt hne).trans hb
end

theorem own_ne {W : World} {base : Nat} {e : TypeId} {size : Nat} {v : Value} {n : Nat} {xs : List Value} (h : W.ownsRow base e size v n xs) {q : Nat} {t : TypeId} {cs : Array Value} (hB : Blk W q t cs) (hne : t ≠ e) : some q ≠ v.ownBlock := by
  intro ej
  rcases h.2 with ⟨rfl, _⟩ | ⟨g', cap, cur, rfl, _, hgb, _⟩
  · simp [Value.ownBlock] at ej
  · obtain rfl : q = g' := by simpa [Value.ownBlock] using ej
    exact Blk.ne_ (t := t) (t' := e) hB hgb hne rfl
theorem own_cell {W : World} {base : Nat} {e : TypeId} {size : Nat} {v : Value} {n : Nat} {xs : List Value} (h : W.ownsRow base e size v n xs) {g : Nat} (hg : g < base) : some g ≠ v.ownBlock := by
  intro ej
  have := (h.lt g ej.symm).1
  omega

/-- A matrix that is being built: block q, C columns, so far the rows Ns. -/
def Bld (base q C : Nat) (Ns : List Nat) (W : World) (rv : Value) (vs : List Value) : Prop :=
  Blk W q 86 #[.int .i64 (C : Int), rv] ∧ W.ownsRow base 65 1 rv Ns.length vs ∧ Sets W vs Ns
section
variable {W W' : World} {base q C : Nat} {Ns : List Nat} {rv : Value} {vs : List Value}
theorem Bld.below (h : Bld base q C Ns W rv vs) (hb : Below W.heap.size W W') : Bld base q C Ns W' rv vs :=
  ⟨h.1.below hb h.1.lt, own_below h.2.1 hb, h.2.2.below hb⟩
theorem Bld.start (base q C : Nat) (W : World) (h : Blk W q 86 #[.int .i64 (C : Int), .slice none 0 0]) : Bld base q C [] W (.slice none 0 0) [] :=
  ⟨h, World.ownsRow_nil _ _ _ _, Sets.nil _⟩
theorem Bld.ne (h : Bld base q C Ns W rv vs) : some q ≠ rv.ownBlock := own_ne h.2.1 h.1 (by decide)
/-- One row more: behind the append, with the store. -/
theorem Bld.push (h : Bld base q C Ns W rv vs) {v v' : Value} {N n : Nat} {ys : List Value} (hset : IsSet W v N) (hn : n = Ns.length + 1) (hy : ys = vs ++ [v]) (hown' : W'.ownsRow base 65 1 v' n ys) (hg : W.grownBy W' rv.ownBlock) :
    Bld base q C (Ns ++ [N]) (W'.setCell ⟨q, 1, none⟩ v') v' (vs ++ [v]) ∧ KeepW W (W'.setCell ⟨q, 1, none⟩ v') := by
  subst hn hy
  have hB' := h.1.grown hg h.ne
  have hne' := own_ne hown' hB' (by decide)
  have hk : KeepW W (W'.setCell ⟨q, 1, none⟩ v') := (KeepW.grown hg h.2.1 (by decide)).trans (KeepW.setCell (p := ⟨q, 1, none⟩) hB' (by decide) v')
  refine ⟨⟨hB'.set_ 1 v', ?_, (h.2.2.keep hk).snoc (hset.keep hk)⟩, hk⟩
  have := ownsRow_setCell_other hown' (a := ⟨q, 1, none⟩) (fun e => hne' e.symm) v'
  simpa using this
/-- The matrix is done. -/
theorem Bld.mat (h : Bld base q C Ns W rv vs) (hC : C ≤ 4096) (hn : Ns.length ≤ 4096) : IsMat W q C Ns := by
  obtain ⟨A, c, rfl, h1, _, h2, _⟩ := row_of_own h.2.1
  exact ⟨hC, hn, A, c, vs, h.1, h1, h2, h.2.2⟩
end

/-- The rows and columns exchanged. -/
def mtrans (C : Nat) (Ns : List Nat) (k : Nat) : List Nat := (List.range k).map fun j => mcol C Ns (j : Nat)
theorem mtrans_succ (C : Nat) (Ns : List Nat) (k : Nat) : mtrans C Ns (k + 1) = mtrans C Ns k ++ [mcol C Ns (k : Nat)] := by simp [mtrans, List.range_succ]
theorem mtrans_len (C : Nat) (Ns : List Nat) (k : Nat) : (mtrans C Ns k).length = k := by simp [mtrans]

set_option maxRecDepth 100000 in
set_option maxHeartbeats 1000000 in
theorem trans_any (p C : Nat) (Ns : List Nat) (w : World) (h : IsMat w p C Ns) :
    Calls Tryd.prog 20 #[ptr p] w fun e w' => ∃ q, e = .returned (ptr q) ∧ IsMat w' q Ns.length (mtrans C Ns C) ∧ Below w.heap.size w w' := by
  obtain ⟨i0, hi0, hz0, hz1, hz2⟩ := info_parts info_set
  obtain ⟨h1, h2, A, c, vs, hB, hc, hr, hs⟩ := id h
  have m0 := hB.cell 0
  have m1 := hB.cell 1
  have lB := hB.lt
  clear hB hr hs
  go_enter Tryd.func20, Tryd.ntmps20
  go_wp2_with fail
  refine abs1 fun W0 hQ0 hbel0 hz => ?_
  have HZ := Lib.hid hz; clear hz
  go_loopw [18] (fun i wr => ∃ k : Nat, k ≤ C ∧ i = .int .i64 k ∧ (∃ rv us, Bld w.heap.size w.heap.size Ns.length (mtrans C Ns k) wr rv us) ∧ Below w.heap.size w wr) (fun i _ => C - (intOf i).toNat)
  case atStart => exact ⟨0, Nat.zero_le _, rfl, ⟨_, _, Bld.start _ _ _ _ hQ0⟩, hbel0⟩
  case round =>
    obtain ⟨k, hk, rfl, ⟨rv, us, hbld⟩, hbel⟩ := hrel
    by_cases hlt : k < C
    · have q1 := hbld.1.cell 1
      have n1 := hbld.ne
      have hc0 := col_any p C Ns (k : Nat) wr.drew ((h.below hbel).below (Below.refl _ _).drew)
      have HC := hideC hc0; clear hc0
      go_wp2_with fail
      refine wp_spine (fun W => But rv.ownBlock wr W) [0, 1, 2, 3, 4, 5, 6] [7, 8, 9, 10, 11, 12] (by kernel_rfl) (by kernel_rfl) ?_
      iterate 7 (refine wpE_op (v := ?_) rfl rfl (fun W hW => ?_) ?_; rotate_left; (have x1 := hW.on q1 n1; go_simp; first | done | with_reducible rfl); simp only [Act.put, List.setIfInBounds_toArray, List.set_cons_zero, List.set_cons_succ])
      refine wpE_nil ⟨fun h => (by cases h), wpSp_op rfl ((But.refl _ _).below (Below.refl _ _).drew) ?_⟩
      go_wp2_with fail
      refine HC.out.mono ?_
      rintro e w2 ⟨r, rfl, hset, hb2⟩
      obtain ⟨A2, c2, rfl, _⟩ := id hset
      have hb3 : Below wr.heap.size wr w2 := (Below.refl _ _).drew.trans hb2
      go_wp2_with fail
      refine nxt_op rfl (.of_below hb3) ?_
      go_wp2_with fail
      have hb4 := hb3.alloc hb3.size (.cells #[.slice A2 (nw (mcol C Ns (k : Nat))) c2] 65)
      have hbld4 := hbld.below hb4
      have hset4 := hset.keep (KeepW.alloc _ (.cells #[.slice A2 (nw (mcol C Ns (k : Nat))) c2] 65))
      have hln := mtrans_len C Ns k
      have hsz := hbel.size
      have hsz2 := hb3.size
      refine nxt_op rfl (.of_below hb4) ?_
      go_wp2_with (at_builtin; refine wpList_append_own _ rfl _ _ 62 rfl (w.heap.size) 65 i0 (.agg #[.slice none 0 0]) 1 24 Tryd.underlying62 hi0 hz0 hz1 hz2 rfl (by decide) _ _ _ rfl (hbld4.2.1) ⟨w2.heap.size, 0, none⟩ 1 1 [.slice A2 (nw (mcol C Ns (k : Nat))) c2] rfl rfl (cell_one_new _ _ _) (by simp [Value.oneCell']) (by unfold maxLen; omega) (by omega) (by simp; omega) ?_; intro v' w3 hown' hgrow _)
      obtain ⟨g', cap', rfl⟩ := ownsRow_succ hown'
      have hbut := (But.of_below hb4).trans (But.grown hgrow)
      have hbel3 := (hbel.trans (hb4.mono hbel.size)).grown hgrow (by simp; omega) (fun q hq => (hbld4.2.1.lt q hq).1)
      have q3 := hbut.on q1 n1
      have f3 := hbut.frozen q1 (hbld.1.frozen 1) n1
      obtain ⟨hbld5, _⟩ := hbld4.push hset4 rfl rfl hown' hgrow
      rw [hln] at hbld5
      refine nxt_op rfl hbut ?_
      go_wp2_with fail
      refine nxt_op rfl hbut ?_
      go_wp2_with fail
      refine nxt_op rfl hbut ?_
      go_wp2_with fail
      refine nxt_nil ?_
      go_wp2_with fail
      exact ⟨⟨k + 1, by omega, by go_num, ⟨_, _, by rw [mtrans_succ]; exact hbld5⟩, hbel3.setCell (by simp) _⟩, by simp [intOf]; omega⟩
    · obtain rfl : k = C := by omega
      have hm := hbld.mat h2 (by rw [mtrans_len]; omega)
      go_wp2
      go_ret
      exact ⟨_, rfl, hm, hbel⟩
end Go.Proofs.YtjlcnbfkblmoeaaDoor
