import Derived.Test.YthkjigggfeejdaaDoorMig5
import Derived.Test.YthkjigggfeejdaaDoorMig6
namespace Go.Proofs.YthkjigggfeejdaaDoor
open Go.RowKit
attribute [local go_sem] Oper.semAt_some

theorem abs5 {P : Program} {c : Code} {Q : Exit → Act → World → Prop} {a : Act} {w : World} {c1 c2 c3 c4 c5 : Array Value} {t1 t2 t3 t4 t5 : TypeId} (h : ∀ W, Blk W w.heap.size t1 c1 → Blk W (w.heap.size + 1) t2 c2 → Blk W (w.heap.size + 2) t3 c3 → Blk W (w.heap.size + 3) t4 c4 → Blk W (w.heap.size + 4) t5 c5 → Below w.heap.size w W → W.heap.size = w.heap.size + 5 → c.wp P Q a W) :
    c.wp P Q a (((((w.alloc (.cells c1 t1)).alloc (.cells c2 t2)).alloc (.cells c3 t3)).alloc (.cells c4 t4)).alloc (.cells c5 t5)) :=
  h _ (((((Blk.new _ _ _).alloc _).alloc _).alloc _).alloc _) ((((Blk.new_ (by simp) _ _).alloc _).alloc _).alloc _) (((Blk.new_ (by simp) _ _).alloc _).alloc _) ((Blk.new_ (by simp) _ _).alloc _) (Blk.new_ (by simp) _ _) ((((((Below.refl _ _).alloc (Nat.le_refl _) _).alloc (by simp) _).alloc (by simp; omega) _).alloc (by simp; omega) _).alloc (by simp; omega) _) (by simp)
/-! The joint numbers lie below the number of joint roles. -/
theorem nums_lt (P Q : List (List Bool)) : ∀ r, P.length ≤ (nums P Q r).2 ∧ ∀ k ∈ (nums P Q r).1, k < (nums P Q r).2
  | 0 => ⟨Nat.le_refl _, fun k h => by cases h⟩
  | r + 1 => by
    obtain ⟨h1, h2⟩ := nums_lt P Q r
    rw [nums, nStep]
    cases hf : fk (nums P Q r).1 P Q r P.length with
    | none =>
      refine ⟨by simp; omega, fun k hk => ?_⟩
      simp at hk
      rcases hk with hk | rfl
      · have := h2 k hk; simp; omega
      · simp
    | some x =>
      refine ⟨h1, fun k hk => ?_⟩
      simp at hk
      rcases hk with hk | rfl
      · exact h2 k hk
      · have := fk_lt hf; simp; omega
/-- How many joint roles there are, and the joint numbers. -/
def jn (P Q : List (List Bool)) : Nat := (nums P Q Q.length).2
def jl (P Q : List (List Bool)) : List Nat := (nums P Q Q.length).1
theorem jl_len (P Q : List (List Bool)) : (jl P Q).length = Q.length := (nums_bd P Q Q.length).1
theorem jn_ge (P Q : List (List Bool)) : P.length ≤ jn P Q := (nums_lt P Q Q.length).1
theorem jl_lt (P Q : List (List Bool)) : ∀ k ∈ jl P Q, k < jn P Q := (nums_lt P Q Q.length).2
/-- A configuration over n joint roles, role r at l[r]. -/
def jU (n : Nat) (l : List Nat) (M : List (List Bool)) : List (List Bool) := mat M.length n (ovU M l l.length)
def jP (n D : Nat) (l : List Nat) (P : List (List Bool)) : List (List Bool) := mat n D (ovP P l l.length)
theorem overj_any (u p C D n : Nat) (A : Option Addr) (c R : Nat) (M P : List (List Bool)) (l : List Nat) (w : World) (h : IsCfg w u p C D M P) (hr : Row w A (l.map i64)) (hR : l.length = R) (hl : R = P.length) (hln : ∀ k ∈ l, k < n) (hn : n ≤ 256) (hM : M.length ≤ 256) (hD : D ≤ 256) (hT : Tab w) :
    Calls Tryd.prog 60 #[cfgV u p, .slice A R c, .int .i64 n] w fun e w' => ∃ u' p', e = .returned (.tuple #[cfgV u' p', .int .i64 0]) ∧ IsCfg w' u' p' n D (jU n l M) (jP n D l P) ∧ Below w.heap.size w w' := by
  subst hR
  refine (over_any u p C D n A c M P l w h.users h.perms h.roles hr hl hln hn hM hD hT).mono ?_
  rintro e w' ⟨u', p', rfl, h1, h2, h3, hb⟩
  exact ⟨u', p', rfl, ⟨h1, h2, by rw [jP, mat_len], h3⟩, hb⟩

theorem numj_any (u p u' p' D : Nat) (P Q : List (List Bool)) (w : World) (hp : PM w p D P) (hq : PM w p' D Q) :
    Calls Tryd.prog 59 #[cfgV u p, cfgV u' p'] w fun e w' => ∃ A c, e = .returned (.tuple #[.slice A Q.length c, .int .i64 (jn P Q)]) ∧ Row w' A ((jl P Q).map i64) ∧ Below w.heap.size w w' := numbers_any u p u' p' D P Q w hp hq
/-- What holds in Joint: the variables. -/
structure JI (w W : World) (u p u' p' : Nat) : Prop where
  old : Blk W w.heap.size 38 #[ptr u, ptr p]
  new : Blk W (w.heap.size + 1) 38 #[ptr u', ptr p']
  r1 : Blk W (w.heap.size + 2) 38 #[.pointer none, .pointer none]
  r2 : Blk W (w.heap.size + 3) 38 #[.pointer none, .pointer none]
  lst : Blk W (w.heap.size + 4) 38 #[ptr u, ptr p, ptr u', ptr p']
  below : Below w.heap.size w W
theorem JI.next {w W W' : World} {u p u' p' : Nat} (h : JI w W u p u' p') (hb : Below W.heap.size W W') : JI w W' u p u' p' :=
  ⟨h.old.below hb h.old.lt, h.new.below hb h.new.lt, h.r1.below hb h.r1.lt, h.r2.below hb h.r2.lt, h.lst.below hb h.lst.lt, h.below.trans (hb.mono h.below.size)⟩
/-! A variable of two cells is written. -/
def put2 (W : World) (g : Nat) (c d : Value) : World := (W.setCell ⟨g, 0, none⟩ c).setCell ⟨g, 1, none⟩ d
theorem Blk.putc {W : World} {g : Nat} {t : TypeId} {a b : Value} (h : Blk W g t #[a, b]) (c d : Value) : Blk (put2 W g c d) g t #[c, d] := by
  have := (h.set_ 0 c).set_ 1 d
  simpa [put2] using this
theorem Blk.far2 {W : World} {g g' : Nat} {t : TypeId} {cs : Array Value} (h : Blk W g t cs) (hne : g ≠ g') (c d : Value) : Blk (put2 W g' c d) g t cs := (h.far (p := ⟨g', 0, none⟩) hne c).far (p := ⟨g', 1, none⟩) hne d
theorem below_put2 {B : Nat} {w W : World} {g : Nat} (h : Below B w W) (hg : B ≤ g) (c d : Value) : Below B w (put2 W g c d) := (h.setCell (p := ⟨g, 0, none⟩) hg c).setCell (p := ⟨g, 1, none⟩) hg d
theorem PM.cfg2 {W : World} {q C X : Nat} {M : List (List Bool)} {a b c d : Option Addr} (h : PM W q C M) (hX : Blk W X 38 #[.pointer a, .pointer b]) : PM (put2 W X (.pointer c) (.pointer d)) q C M :=
  (h.cfg hX 0 (.pointer c)).cfg (a := c) (b := b) (by have := hX.set_ 0 (.pointer c); simpa using this) 1 (.pointer d)
theorem IsCfg.cfg2 {W : World} {u p C D X : Nat} {M P : List (List Bool)} {a b c d : Option Addr} (h : IsCfg W u p C D M P) (hX : Blk W X 38 #[.pointer a, .pointer b]) : IsCfg (put2 W X (.pointer c) (.pointer d)) u p C D M P := ⟨h.users.cfg2 hX, h.perms.cfg2 hX, h.roles, h.ne⟩
theorem Row.cfg {W : World} {A : Option Addr} {l : List Nat} {X : Nat} {t : TypeId} {a b : Option Addr} (h : Row W A (l.map i64)) (hX : Blk W X t #[.pointer a, .pointer b]) (i : Nat) (u : Value) : Row (W.setCell ⟨X, i, none⟩ u) A (l.map i64) := fun hn => by
  obtain ⟨g, off, hA, hg, hc⟩ := h hn
  have hne : g ≠ X := by
    rintro rfl
    have h0 := hc 0 ((l.map i64)[0]) (List.getElem?_eq_getElem hn)
    rw [hX.cell, List.getElem_map] at h0
    rcases off with _ | _ | off <;> simp at h0
  exact ⟨g, off, hA, by simpa [World.setCell] using hg, fun k v hv => (World.cell?_of_block (a := ⟨g, off + k, none⟩) (Below.heap_setCell W ⟨X, i, none⟩ u g hne)).trans (hc k v hv)⟩
theorem Row.cfg2 {W : World} {A : Option Addr} {l : List Nat} {X : Nat} {t : TypeId} {a b c d : Option Addr} (h : Row W A (l.map i64)) (hX : Blk W X t #[.pointer a, .pointer b]) : Row (put2 W X (.pointer c) (.pointer d)) A (l.map i64) :=
  (h.cfg hX 0 (.pointer c)).cfg (a := c) (b := b) (by have := hX.set_ 0 (.pointer c); simpa using this) 1 (.pointer d)
set_option maxRecDepth 100000 in
set_option maxHeartbeats 4000000 in
theorem joint_any (u p u' p' C C' D : Nat) (M P M' P' : List (List Bool)) (w : World) (h : IsCfg w u p C D M P) (h' : IsCfg w u' p' C' D M' P') (hl : M.length = M'.length) (hn : jn P P' ≤ 256) (hM : M.length ≤ 256) (hD : D ≤ 256) (hT : Tab w) :
    Calls Tryd.prog 27 #[cfgV u p, cfgV u' p'] w fun e w' => ∃ a1 a2 b1 b2 A c, e = .returned (.tuple #[cfgV a1 a2, cfgV b1 b2, .slice A P'.length c, .int .i64 0]) ∧ IsCfg w' a1 a2 (jn P P') D (jU (jn P P') (List.range P.length) M) (jP (jn P P') D (List.range P.length) P) ∧
      IsCfg w' b1 b2 (jn P P') D (jU (jn P P') (jl P P') M') (jP (jn P P') D (jl P P') P') ∧ Row w' A ((jl P P').map i64) ∧ Below w.heap.size w w' := by
  obtain ⟨i0, hi0, hz0, hz1, hz2⟩ := info_parts info_int
  have hpb := h.perms.bd
  go_enter Tryd.func27, Tryd.ntmps27
  go_wp2_with fail
  refine abs5 fun W0 hA hB hR1 hR2 hL hbel0 hz => ?_
  have j0 : JI w W0 u p u' p' := ⟨hA, hB, hR1, hR2, hL, hbel0⟩
  have HZ := Lib.hid hz; clear hz hA hB hR1 hR2 hL hbel0
  refine wp_loop_rounds 3 ?_
  rw [rounds_succ]
  have l0 := j0.lst.cell 0
  have l1 := j0.lst.cell 1
  have ll := j0.lst.lt
  go_wp2_with fail
  refine absC1 fun V1 hV1 hv1 hzv1 => ?_
  have j1 := j0.next hv1
  (with_reducible refine (mcheck_ok u p C D M P V1 (h.below j1.below)).mono ?_); rintro e w1 ⟨rfl, hb1⟩
  have j2 := j1.next hb1
  clear j0 j1 l0 l1 ll hV1 hv1 hzv1 hb1
  go_wp2_with fail
  rw [rounds_succ]
  have l2 := j2.lst.cell 2
  have l3 := j2.lst.cell 3
  have ll := j2.lst.lt
  go_wp2_with fail
  refine absC1 fun V2 hV2 hv2 hzv2 => ?_
  have j3 := j2.next hv2
  (with_reducible refine (mcheck_ok u' p' C' D M' P' V2 (h'.below j3.below)).mono ?_); rintro e w2 ⟨rfl, hb2⟩
  have j4 := j3.next hb2
  clear j2 j3 l2 l3 ll hV2 hv2 hzv2 hb2
  go_wp2_with fail
  rw [rounds_succ]
  go_wp2_with fail
  have HRW := hideC (fun W hW => pm_rows u C M W (h.users.below (w' := W) hW))
  have HRW' := hideC (fun W hW => pm_rows u' C' M' W (h'.users.below (w' := W) hW))
  have HCL := hideC (fun W hW => pm_cols p D P W (h.perms.below (w' := W) hW))
  have HCL' := hideC (fun W hW => pm_cols p' D P' W (h'.perms.below (w' := W) hW))
  have o0 := j4.old.cell 0
  have o1 := j4.old.cell 1
  have n0 := j4.new.cell 0
  have n1 := j4.new.cell 1
  obtain ⟨wq, hwq⟩ : ∃ wq, wq = w2.drew := ⟨_, rfl⟩
  have hbq : Below w2.heap.size w2 wq := by rw [hwq]; exact (Below.refl _ _).drew
  have j5 := j4.next hbq
  refine wp_mix (fun V => Below w2.heap.size w2 V) 16 (by kernel_rfl) (by kernel_rfl) (Below.refl _ _).drew ?_
  rw [← hwq]
  clear hwq
  (refine m_q 0 (v := ?_) (by kernel_rfl) rfl rfl (fun W hW => ?_) ?_; rotate_left; (have z0 := onB hW o0; have z1 := onB hW n0; go_simp; first | done | with_reducible rfl); simp only [Act.put, List.setIfInBounds_toArray, List.set_cons_zero, List.set_cons_succ]); (refine m_q 1 (v := ?_) (by kernel_rfl) rfl rfl (fun W hW => ?_) ?_; rotate_left; (have z0 := onB hW o0; have z1 := onB hW n0; go_simp; first | done | with_reducible rfl); simp only [Act.put, List.setIfInBounds_toArray, List.set_cons_zero, List.set_cons_succ]); (refine m_q 3 (v := ?_) (by kernel_rfl) rfl rfl (fun W hW => ?_) ?_; rotate_left; (have z0 := onB hW o0; have z1 := onB hW n0; go_simp; first | done | with_reducible rfl); simp only [Act.put, List.setIfInBounds_toArray, List.set_cons_zero, List.set_cons_succ]); (refine m_q 4 (v := ?_) (by kernel_rfl) rfl rfl (fun W hW => ?_) ?_; rotate_left; (have z0 := onB hW o0; have z1 := onB hW n0; go_simp; first | done | with_reducible rfl); simp only [Act.put, List.setIfInBounds_toArray, List.set_cons_zero, List.set_cons_succ])
  refine m_s1 2 (by kernel_rfl) rfl ?_
  go_wp2_with fail
  refine (HRW.out wq j5.below).mono ?_
  rintro e v1 ⟨rfl, rfl⟩
  go_wp2_with fail
  refine m_next hbq ?_
  refine m_s1 5 (by kernel_rfl) rfl ?_
  go_wp2_with fail
  refine (HRW'.out wq j5.below).mono ?_
  rintro e v1 ⟨rfl, rfl⟩
  go_wp2_with fail
  refine m_next (Below.refl _ _) ?_
  have e1 : ((M.length : Int) != (M'.length : Int)) = false := by simp [hl]
  (refine m_q 6 (v := ?_) (by kernel_rfl) rfl rfl (fun W hW => ?_) ?_; rotate_left; (go_simp; first | done | with_reducible rfl); simp only [Act.put, List.setIfInBounds_toArray, List.set_cons_zero, List.set_cons_succ]); (refine m_q 7 (v := ?_) (by kernel_rfl) rfl rfl (fun W hW => ?_) ?_; rotate_left; (go_simp; first | done | with_reducible rfl); simp only [Act.put, List.setIfInBounds_toArray, List.set_cons_zero, List.set_cons_succ])
  have q1 := onB hbq o1
  have r1 := onB hbq n1
  (refine m_yes 8 (v := ?_) (by kernel_rfl) rfl (by rfl) (fun W hW => ?_) ?_; rotate_left; (have z0 := onB hW q1; have z1 := onB hW r1; go_simp; first | done | with_reducible rfl); simp only [Act.put, List.setIfInBounds_toArray, List.set_cons_zero, List.set_cons_succ]); (refine m_yes 9 (v := ?_) (by kernel_rfl) rfl (by rfl) (fun W hW => ?_) ?_; rotate_left; (have z0 := onB hW q1; have z1 := onB hW r1; go_simp; first | done | with_reducible rfl); simp only [Act.put, List.setIfInBounds_toArray, List.set_cons_zero, List.set_cons_succ]); (refine m_yes 11 (v := ?_) (by kernel_rfl) rfl (by rfl) (fun W hW => ?_) ?_; rotate_left; (have z0 := onB hW q1; have z1 := onB hW r1; go_simp; first | done | with_reducible rfl); simp only [Act.put, List.setIfInBounds_toArray, List.set_cons_zero, List.set_cons_succ]); (refine m_yes 12 (v := ?_) (by kernel_rfl) rfl (by rfl) (fun W hW => ?_) ?_; rotate_left; (have z0 := onB hW q1; have z1 := onB hW r1; go_simp; first | done | with_reducible rfl); simp only [Act.put, List.setIfInBounds_toArray, List.set_cons_zero, List.set_cons_succ])
  refine m_s1 10 (by kernel_rfl) rfl ?_
  go_wp2_with fail
  refine (HCL.out wq j5.below).mono ?_
  rintro e v1 ⟨rfl, rfl⟩
  go_wp2_with fail
  refine m_next (Below.refl _ _) ?_
  refine m_s1 13 (by kernel_rfl) rfl ?_
  go_wp2_with fail
  refine (HCL'.out wq j5.below).mono ?_
  rintro e v1 ⟨rfl, rfl⟩
  go_wp2_with fail
  refine m_next (Below.refl _ _) ?_
  (refine m_yes 14 (v := ?_) (by kernel_rfl) rfl (by rfl) (fun W hW => ?_) ?_; rotate_left; (go_simp; first | done | with_reducible rfl); simp only [Act.put, List.setIfInBounds_toArray, List.set_cons_zero, List.set_cons_succ])
  (refine m_q 15 (v := ?_) (by kernel_rfl) rfl rfl (fun W hW => ?_) ?_; rotate_left; (go_simp; first | done | with_reducible rfl); simp only [Act.put, List.setIfInBounds_toArray, List.set_cons_zero, List.set_cons_succ])
  refine m_end (by kernel_rfl) ?_
  clear o0 o1 n0 n1 q1 r1 e1 HRW HRW' HCL HCL' j4 hbq
  have o0 := j5.old.cell 0
  have o1 := j5.old.cell 1
  have n0 := j5.new.cell 0
  have n1 := j5.new.cell 1
  go_wp2_with fail
  have hjl := jl_len P P'
  have hjr := jn_ge P P'
  have hjt := jl_lt P P'
  have HNUM := hideC (numj_any u p u' p' D P P' wq (h.perms.below j5.below) (h'.perms.below j5.below))
  obtain ⟨n, hnn⟩ : ∃ n, n = jn P P' := ⟨_, rfl⟩
  obtain ⟨l, hll⟩ : ∃ l, l = jl P P' := ⟨_, rfl⟩
  rw [← hnn, ← hll] at HNUM
  rw [← hnn] at hjr hjt hn
  rw [← hll] at hjl hjt
  have HNN := Lib.hid hnn
  have HLJ := Lib.hid hll
  have HML := Lib.hid hl
  have HJL := Lib.hid hjl
  have HJT := Lib.hid hjt
  clear hnn hll hjl hjt hl
  refine (HNUM.out).mono ?_
  rintro e w3 ⟨A, c, rfl, hrow, hb3⟩
  have j6 := j5.next hb3
  clear j5 o0 o1 n0 n1 hb3 HNUM
  have o0 := j6.old.cell 0
  have o1 := j6.old.cell 1
  go_wp2_with fail
  refine (pm_rows p D P w3 (h.perms.below j6.below)).mono ?_
  rintro e w4 ⟨rfl, rfl⟩
  go_wp2_with fail
  have hsz3 := j6.below.size
  refine wp_loopF (β := Nat × Value) (fun b f => #[f 0, f 1, .pointer (some ⟨w.heap.size, 0, none⟩), .pointer (some ⟨w.heap.size + 1, 0, none⟩), .pointer (some ⟨w.heap.size + 2, 0, none⟩), .pointer (some ⟨w.heap.size + 3, 0, none⟩), f 6, f 7, f 8, f 9, f 10, .slice A P'.length c, .int .i64 (n : Int), b.2, f 14, f 15, f 16, f 17, f 18, f 19, f 20, f 21, f 22, f 23, f 24, f 25, f 26, f 27, f 28, f 29, f 30, f 31, f 32, f 33, f 34, f 35, f 36, f 37, f 38, f 39, f 40, f 41, f 42, f 43, f 44, f 45, f 46, f 47, f 48, f 49, f 50, f 51, f 52, f 53, f 54, f 55, f 56, f 57, f 58, f 59, f 60, f 61, f 62, f 63, .int .i64 (P.length : Int), .int .i64 (b.1 : Int), f 66, f 67, f 68, f 69, f 70, f 71, f 72, f 73, f 74, f 75, f 76, f 77, f 78, f 79, f 80, f 81, f 82, f 83, f 84, f 85, f 86, f 87, f 88, f 89, f 90, f 91, f 92, f 93, f 94, f 95, f 96, f 97, f 98, f 99])
    (fun b ds wr => b.1 ≤ P.length ∧ ds = [] ∧ wr.ownsRow w3.heap.size 3 1 b.2 b.1 ((List.range b.1).map i64) ∧ Below w3.heap.size w3 wr) (fun b => P.length - b.1) (0, .slice none 0 0) rfl ⟨Nat.zero_le _, rfl, World.ownsRow_nil _ _ _ _, Below.refl _ _⟩ ?_
  rintro ⟨k, o⟩ f ds wr ⟨hk, rfl, hown, hbel⟩
  dsimp only at hk hown ⊢
  by_cases hlt : k < P.length
  · have hsz := hbel.size
    have hown1 := hown.alloc (.cells #[.int .i64 (k : Int)] 3)
    go_wp2_with (at_builtin; refine wpList_append_own _ rfl _ _ 62 rfl (w3.heap.size) 3 i0 (.int .i64 0) 1 8 Tryd.underlying62 hi0 hz0 hz1 hz2 rfl (by decide) _ _ _ rfl (hown1) ⟨wr.heap.size, 0, none⟩ 1 1 [.int .i64 (k : Int)] rfl rfl (cell_one_new _ _ _) (by simp [Value.oneCell']) (by unfold maxLen; omega) (by omega) (by simp; omega) ?_; intro v' w3 hown' hgrow _)
    refine ⟨(k + 1, _), rfl, ⟨by omega, by first | rfl | trivial, ?_, (hbel.alloc (by omega) (.cells #[.int .i64 (k : Int)] 3)).grown hgrow (by simp; omega) (fun q hq => by have := (hown.lt q hq).1; omega)⟩, by simp; omega⟩
    rw [List.range_succ, List.map_append]
    exact hown'
  · obtain rfl : k = P.length := by omega
    have j7 := j6.next hbel
    obtain ⟨A2, c2, rfl, _, _, hrow2, _⟩ := row_of_own hown
    have hrow7 := hrow.below hbel
    clear j6 o0 o1 hown hrow
    have o0 := j7.old.cell 0
    have o1 := j7.old.cell 1
    have HOV := hideC (overj_any u p C D n A2 c2 P.length M P (List.range P.length) wr (h.below j7.below) hrow2 (by simp) rfl (fun k hk => by have := List.mem_range.1 hk; omega) hn hM hD (hT.below j7.below))
    go_wp2_with fail
    refine HOV.out.mono ?_
    rintro e w5 ⟨a1, a2, rfl, hc1, hb5⟩
    have j8 := j7.next hb5
    have hrow8 := hrow7.below hb5
    clear j7 o0 o1 hrow7 hb5 HOV hrow2 hbel
    have n0 := j8.new.cell 0
    have n1 := j8.new.cell 1
    have ln := j8.new.lt
    have lx5 := j8.lst.lt
    go_wp2_with fail
    refine absC1 fun w6 hY6 hb6 hz6 => ?_
    have j9 := j8.next hb6
    have hrow9 := hrow8.below hb6
    have hc9 := hc1.below hb6
    clear j8 n0 n1 hrow8 hc1 ln hz6 hb6
    have HOV := hideC (overj_any u' p' C' D n A c P'.length M' P' l w6 (h'.below j9.below) hrow9 HJL.out rfl HJT.out hn (by rw [← HML.out]; exact hM) hD (hT.below j9.below))
    refine HOV.out.mono ?_
    rintro e w7 ⟨b1, b2, rfl, hd1, hb7⟩
    have j10 := j9.next hb7
    have lx7 := j10.lst.lt
    have hrow10 := hrow9.below hb7
    have hc10 := hc9.below hb7
    have hY10 := hY6.below hb7 hY6.lt
    clear j9 hrow9 hc9 HOV hb7
    go_wp2_with fail
    refine abs1 fun w8 hZ8 hb8 hz8 => ?_
    have j11 := j10.next hb8
    have hrow11 := hrow10.below hb8
    have hc11 := hc10.below hb8
    have hd11 := hd1.below hb8
    have hY11 := hY10.below hb8 hY10.lt
    clear j10 hrow10 hc10 hd1 hY10 hz8 hb8
    refine wp_spine (fun V => Blk V w5.heap.size 38 #[ptr a1, ptr a2] ∧ Blk V w7.heap.size 38 #[ptr b1, ptr b2]) [0, 1, 2] [3, 4, 5, 6] (by kernel_rfl) (by kernel_rfl) ?_
    iterate 3 (refine wpE_op (v := ?_) rfl rfl (fun W hW => ?_) ?_; rotate_left; (have z0 := hW.1.cell 0; have z1 := hW.1.cell 1; have z2 := hW.2.cell 0; have z3 := hW.2.cell 1; go_simp; first | done | with_reducible rfl); simp only [Act.put, List.setIfInBounds_toArray, List.set_cons_zero, List.set_cons_succ])
    refine wpE_nil ⟨fun h => (by cases h), ?_⟩
    have hb9 : Below w8.heap.size w8 w8.drew := (Below.refl _ _).drew
    have j12 := j11.next hb9
    have hrow12 := hrow11.below hb9
    have hc12 := hc11.below hb9
    have hd12 := hd11.below hb9
    have hY12 := hY11.below hb9 hY11.lt
    have hZ12 := hZ8.below hb9 hZ8.lt
    obtain ⟨w9, hw9⟩ : ∃ w9, w9 = w8.drew := ⟨_, rfl⟩
    rw [← hw9] at j12 hrow12 hc12 hd12 hY12 hZ12 ⊢
    clear hw9 hb9 j11 hrow11 hc11 hd11 hY11 hZ8
    refine wpSp_op rfl ⟨hY12, hZ12⟩ ?_
    have s0 := j12.r1.cell 0
    have s1 := j12.r1.cell 1
    have f0 := j12.r1.frozen 0
    have f1 := j12.r1.frozen 1
    go_wp2_with fail
    have r1 := j12.r1.putc (ptr a1) (ptr a2)
    have r2 := j12.r2.far2 (g' := w.heap.size + 2) (by omega) (ptr a1) (ptr a2)
    have hY13 := hY12.far2 (g' := w.heap.size + 2) (by omega) (ptr a1) (ptr a2)
    have hZ13 := hZ12.far2 (g' := w.heap.size + 2) (by omega) (ptr a1) (ptr a2)
    have hc13 := hc12.cfg2 (c := some ⟨a1, 0, none⟩) (d := some ⟨a2, 0, none⟩) j12.r1
    have hd13 := hd12.cfg2 (c := some ⟨a1, 0, none⟩) (d := some ⟨a2, 0, none⟩) j12.r1
    have hrow13 := hrow12.cfg2 (c := some ⟨a1, 0, none⟩) (d := some ⟨a2, 0, none⟩) j12.r1
    have bel13 := below_put2 j12.below (g := w.heap.size + 2) (by omega) (ptr a1) (ptr a2)
    refine nxt_op (W := put2 w9 (w.heap.size + 2) (ptr a1) (ptr a2)) rfl ⟨hY13, hZ13⟩ ?_
    obtain ⟨w10, hw10⟩ : ∃ V, V = put2 w9 (w.heap.size + 2) (ptr a1) (ptr a2) := ⟨_, rfl⟩
    rw [← hw10] at r1 r2 hY13 hZ13 hc13 hd13 hrow13 bel13 ⊢
    clear hw10 s0 s1 f0 f1 j12 hrow12 hc12 hd12 hY12 hZ12
    have s0 := r2.cell 0
    have s1 := r2.cell 1
    have f0 := r2.frozen 0
    have f1 := r2.frozen 1
    go_wp2_with fail
    have r14 := r1.far2 (g' := w.heap.size + 3) (by omega) (ptr b1) (ptr b2)
    have r24 := r2.putc (ptr b1) (ptr b2)
    have hY14 := hY13.far2 (g' := w.heap.size + 3) (by omega) (ptr b1) (ptr b2)
    have hZ14 := hZ13.far2 (g' := w.heap.size + 3) (by omega) (ptr b1) (ptr b2)
    have hc14 := hc13.cfg2 (c := some ⟨b1, 0, none⟩) (d := some ⟨b2, 0, none⟩) r2
    have hd14 := hd13.cfg2 (c := some ⟨b1, 0, none⟩) (d := some ⟨b2, 0, none⟩) r2
    have hrow14 := hrow13.cfg2 (c := some ⟨b1, 0, none⟩) (d := some ⟨b2, 0, none⟩) r2
    have bel14 := below_put2 bel13 (g := w.heap.size + 3) (by omega) (ptr b1) (ptr b2)
    refine nxt_op (W := put2 w10 (w.heap.size + 3) (ptr b1) (ptr b2)) rfl ⟨hY14, hZ14⟩ ?_
    obtain ⟨w11, hw11⟩ : ∃ V, V = put2 w10 (w.heap.size + 3) (ptr b1) (ptr b2) := ⟨_, rfl⟩
    rw [← hw11] at r14 r24 hY14 hZ14 hc14 hd14 hrow14 bel14 ⊢
    clear hw11 s0 s1 f0 f1 r1 r2 hY13 hZ13 hc13 hd13 hrow13 bel13
    go_wp2_with fail
    refine nxt_op rfl ⟨hY14, hZ14⟩ ?_
    go_wp2_with fail
    refine nxt_nil ?_
    go_wp2_with fail
    have cX := r14.cell 0
    have cY := r14.cell 1
    have dX := r24.cell 0
    have dY := r24.cell 1
    rw [← HNN.out, ← HLJ.out]
    exact bodyPost_ret (v := .tuple #[.agg #[.pointer (some ⟨a1, 0, none⟩), .pointer (some ⟨a2, 0, none⟩)], .agg #[.pointer (some ⟨b1, 0, none⟩), .pointer (some ⟨b2, 0, none⟩)], .slice A P'.length c, .int .i64 0]) (by simp [results, Tryd.results27, go_sem, cX, cY, dX, dY]) rfl ⟨a1, a2, b1, b2, A, c, rfl, hc14, hd14, hrow14, bel14⟩
end Go.Proofs.YthkjigggfeejdaaDoor
