import Derived.Test.YthkjigggfeejdaaDoorMig3
import Derived.Test.YthkjigggfeejdaaDoorLoop
namespace Go.Proofs.YthkjigggfeejdaaDoor
open Go.RowKit
attribute [local go_sem] Oper.semAt_some

/-- Users by joint roles: the first r roles. -/
def ovU (M : List (List Bool)) (l : List Nat) (r i j : Nat) : Bool := (List.range r).any fun k => decide (l.getD k 0 = j) && mget M i k
/-- Joint roles by permissions: the first r roles. -/
def ovP (P : List (List Bool)) (l : List Nat) (r i j : Nat) : Bool := (List.range r).any fun k => decide (l.getD k 0 = i) && mget P k j
def ovUs (M : List (List Bool)) (l : List Nat) (r : Nat) (pre : List Nat) (i j : Nat) : Bool := ovU M l r i j || (decide (l.getD r 0 = j) && decide (i ∈ pre))
def ovPs (P : List (List Bool)) (l : List Nat) (r : Nat) (pre : List Nat) (i j : Nat) : Bool := ovP P l r i j || (decide (l.getD r 0 = i) && decide (j ∈ pre))
theorem ovU_succ (M : List (List Bool)) (l : List Nat) (r i j : Nat) : ovU M l (r + 1) i j = (ovU M l r i j || (decide (l.getD r 0 = j) && mget M i r)) := by simp [ovU, List.range_succ]
theorem ovP_succ (P : List (List Bool)) (l : List Nat) (r i j : Nat) : ovP P l (r + 1) i j = (ovP P l r i j || (decide (l.getD r 0 = i) && mget P r j)) := by simp [ovP, List.range_succ]
theorem ovUs_nil (M : List (List Bool)) (l : List Nat) (r i j : Nat) : ovUs M l r [] i j = ovU M l r i j := by simp [ovUs]
theorem ovPs_nil (P : List (List Bool)) (l : List Nat) (r i j : Nat) : ovPs P l r [] i j = ovP P l r i j := by simp [ovPs]
theorem ovUs_snoc {M : List (List Bool)} {l : List Nat} {r R n : Nat} {pre : List Nat} {x : Nat} : mat R n (withF (mat R n (ovUs M l r pre)) x (l.getD r 0) true) = mat R n (ovUs M l r (pre ++ [x])) := by
  refine mat_congr fun i hi j hj => ?_
  unfold withF
  rw [mat_get hi hj]
  unfold ovUs
  by_cases h : i = x ∧ j = l.getD r 0
  · rw [if_pos h]; obtain ⟨rfl, rfl⟩ := h; simp
  · rw [if_neg h]
    by_cases e : l.getD r 0 = j
    · have : i ≠ x := fun e' => h ⟨e', e.symm⟩
      simp [this]
    · rw [decide_eq_false e]; simp
theorem ovPs_snoc {P : List (List Bool)} {l : List Nat} {r R n : Nat} {pre : List Nat} {x : Nat} : mat R n (withF (mat R n (ovPs P l r pre)) (l.getD r 0) x true) = mat R n (ovPs P l r (pre ++ [x])) := by
  refine mat_congr fun i hi j hj => ?_
  unfold withF
  rw [mat_get hi hj]
  unfold ovPs
  by_cases h : i = l.getD r 0 ∧ j = x
  · rw [if_pos h]; obtain ⟨rfl, rfl⟩ := h; simp
  · rw [if_neg h]
    by_cases e : l.getD r 0 = i
    · have : j ≠ x := fun e' => h ⟨e.symm, e'⟩
      simp [this]
    · rw [decide_eq_false e]; simp
/-- The users of a role. -/
def uCol (M : List (List Bool)) (r : Nat) : List Nat := (List.range M.length).filter fun i => mget M i r
/-- The permissions of a role. -/
def pRow (D : Nat) (P : List (List Bool)) (r : Nat) : List Nat := (List.range D).filter fun j => mget P r j
theorem ovUs_all {M : List (List Bool)} {l : List Nat} {r n : Nat} : mat M.length n (ovUs M l r (uCol M r)) = mat M.length n (ovU M l (r + 1)) := by
  refine mat_congr fun i hi j hj => ?_
  rw [ovU_succ]; unfold ovUs uCol
  congr 2
  rw [Bool.eq_iff_iff, decide_eq_true_eq, List.mem_filter, List.mem_range]; simp [hi]
theorem ovPs_all {P : List (List Bool)} {l : List Nat} {r R D : Nat} : mat R D (ovPs P l r (pRow D P r)) = mat R D (ovP P l (r + 1)) := by
  refine mat_congr fun i hi j hj => ?_
  rw [ovP_succ]; unfold ovPs pRow
  congr 2
  rw [Bool.eq_iff_iff, decide_eq_true_eq, List.mem_filter, List.mem_range]; simp [hj]
theorem pm_new (R C : Nat) (w : World) (h1 : R ≤ 256) (h2 : C ≤ 256) :
    Calls Tryd.prog 79 #[.int .i64 R, .int .i64 C] w fun e w' => ∃ b, e = pair (ptr b) 0 ∧ w.heap.size ≤ b ∧ PM w' b C (mat R C fun _ _ => false) ∧ Below w.heap.size w w' := by
  refine (new_yes R C w h1 h2).mono ?_
  rintro e w' ⟨rfl, rfl⟩
  refine ⟨_, rfl, by omega, PM.mk_ (new_mat R C w h1 h2) (by simp) fun i hi j => ?_, ((Below.refl _ _).alloc (Nat.le_refl _) _).alloc (by simp) _⟩
  simp [List.getD_eq_getElem?_getD, hi]
theorem mems_uCol {C : Nat} {M : List (List Bool)} (hC : C ≤ 4096) (hM : M.length ≤ 4096) {r : Nat} (hr : r < C) : mems (mcol C (nsOf C M) r) = uCol M r := by
  unfold uCol
  refine (mems_is (p := fun i => decide (i < M.length) && mget M i r) (fun i => ?_) (fun j hj => by simp at hj; exact hj.1)).trans ?_
  · rw [testBit_mcol _ _ _ _ (by rw [nsTo_len]; exact hM)]
    by_cases hi : i < M.length
    · rw [mhas_in (by rw [nsTo_len]; exact hi) hr, testBit_ns hC hi]; simp [hi, hr]
    · rw [decide_eq_false hi, Bool.false_and]
      unfold mhas insideB; rw [nsTo_len]; simp; omega
  · exact List.filter_congr fun j hj => by rw [decide_eq_true (List.mem_range.1 hj), Bool.true_and]
theorem mems_pRow {D : Nat} {P : List (List Bool)} (hD : D ≤ 4096) {r : Nat} (hr : r < P.length) : mems (mrow (nsOf D P) r) = pRow D P r := by
  unfold pRow
  have e1 : mrow (nsOf D P) r = (nsOf D P).getD r 0 := by unfold mrow; rw [if_pos (by omega), Int.toNat_natCast]
  refine (mems_is (p := fun j => decide (j < D) && mget P r j) (fun j => ?_) (fun j hj => by simp at hj; exact hj.1)).trans ?_
  · rw [e1, testBit_ns hD hr]
  · exact List.filter_congr fun j hj => by rw [decide_eq_true (List.mem_range.1 hj), Bool.true_and]

/-! What stays when other things than cells are written. -/
def KeepC (W W' : World) : Prop := W.heap.size ≤ W'.heap.size ∧ ∀ (g : Nat) cs t fz, W.heap[g]? = some (Obj.cells cs t fz) → W'.heap[g]? = some (Obj.cells cs t fz)
theorem KeepC.of_below {W W' : World} (h : Below W.heap.size W W') : KeepC W W' := ⟨h.size, fun g _ _ _ hg => (h.block g (Array.getElem?_eq_some_iff.1 hg).1).trans hg⟩
theorem KeepC.refl (W : World) : KeepC W W := ⟨Nat.le_refl _, fun _ _ _ _ h => h⟩
theorem KeepC.trans {A B C : World} (h : KeepC A B) (k : KeepC B C) : KeepC A C := ⟨Nat.le_trans h.1 k.1, fun _ _ _ _ hg => k.2 _ _ _ _ (h.2 _ _ _ _ hg)⟩
theorem KeepC.keep {W W' : World} (h : KeepC W W') : KeepW W W' := ⟨h.1, fun _ _ hb => h.2 _ _ _ _ hb⟩
theorem Blk.kc {W W' : World} {g : Nat} {t : TypeId} {cs : Array Value} (hb : Blk W g t cs) (h : KeepC W W') : Blk W' g t cs := h.2 _ _ _ _ hb
theorem Row.kc {W W' : World} {A : Option Addr} {cs : List Value} (hr : Row W A cs) (h : KeepC W W') : Row W' A cs := fun hn => by
  obtain ⟨g, off, hA, hg, hc⟩ := hr hn
  refine ⟨g, off, hA, Nat.lt_of_lt_of_le hg h.1, fun k u hu => ?_⟩
  have h1 := hc k u hu
  obtain ⟨cs', t, fz, hb⟩ := cells_of h1
  exact (World.cell?_of_block ((h.2 _ _ _ _ hb).trans hb.symm)).trans h1
theorem IsMat.kc {W W' : World} {p C : Nat} {Ns : List Nat} (hm : IsMat W p C Ns) (h : KeepC W W') : IsMat W' p C Ns := by
  obtain ⟨h1, h2, A, c, vs, hB, hc, hr, hs⟩ := hm
  exact ⟨h1, h2, A, c, vs, h.2 _ _ _ _ hB, hc, hr.kc h, hs.keep h.keep⟩
theorem PM.kc {W W' : World} {q C : Nat} {M : List (List Bool)} (hm : PM W q C M) (h : KeepC W W') : PM W' q C M := ⟨hm.1.kc h, hm.2⟩
/-- What a step of a range over a function leaves of the cells. -/
theorem KeepC.of_grown {W W' : World} {row : Option Nat} {n : Nat} (hg : W.grownBy W' row) (hr : ∀ k, row = some k → n ≤ k ∧ ∃ o, W.heap[k]? = some o ∧ o.isCells = false) : KeepC W W' :=
  ⟨hg.size, fun g _ _ _ hb => (hg.block g (Array.getElem?_eq_some_iff.1 hb).1 fun e => by
    obtain ⟨_, o, ho, hc⟩ := hr g e.symm
    rw [ho] at hb; cases hb; cases hc).trans hb⟩
theorem Below.grown_ {B n : Nat} {w W W' : World} {row : Option Nat} (h : Below B w W) (hg : W.grownBy W' row) (hB : B ≤ n) (hs : B ≤ W.heap.size) (hr : ∀ k, row = some k → n ≤ k ∧ ∃ o, W.heap[k]? = some o ∧ o.isCells = false) : Below B w W' :=
  h.grown hg hs fun k e => Nat.le_trans hB (hr k e).1

/-- The marks of loops that have run out stay. -/
def KeepD (W0 W : World) : Prop := W0.heap.size ≤ W.heap.size ∧ ∀ g : Nat, W0.heap[g]? = some (.deferred (some [])) → W.heap[g]? = some (.deferred (some []))
theorem KeepD.refl (W : World) : KeepD W W := ⟨Nat.le_refl _, fun _ h => h⟩
theorem KeepD.others {W0 W W' : World} (h : KeepD W0 W) (k : KeepsOthers W W') : KeepD W0 W' := ⟨Nat.le_trans h.1 k.size, fun g hg => k.same g _ (h.2 g hg) rfl⟩
theorem KeepD.grown {W0 W W' : World} {row : Option Nat} (h : KeepD W0 W) (hg : W.grownBy W' row) (hr : ∀ k, row = some k → W0.heap.size ≤ k ∧ ∃ o, W.heap[k]? = some o ∧ o.isCells = false) : KeepD W0 W' :=
  ⟨Nat.le_trans h.1 hg.size, fun g hgd => (hg.block g (Array.getElem?_eq_some_iff.1 (h.2 g hgd)).1 fun e => by have := (hr g e.symm).1; have := (Array.getElem?_eq_some_iff.1 hgd).1; omega).trans (h.2 g hgd)⟩
theorem Marks.kd {n₀ : Nat} {W W' : World} {ds : List Deferred} (h : Marks n₀ W ds) (k : KeepD W W') : Marks n₀ W' ds := h.keep fun g _ hg => k.2 g hg
theorem KeepD.of_below {W W' : World} (h : Below W.heap.size W W') : KeepD W W' := ⟨h.size, fun g hg => (h.block g (Array.getElem?_eq_some_iff.1 hg).1).trans hg⟩
/-- One mark more. -/
theorem Marks.cons {n₀ D : Nat} {W0 W : World} {ds : List Deferred} (h : Marks n₀ W0 ds) (k : KeepD W0 W) (hn : n₀ ≤ D) (hD : W0.heap.size ≤ D) (hK : W.heap[D]? = some (.deferred (some []))) : Marks n₀ W ({ target := .collected D, args := #[] } :: ds) :=
  ⟨⟨D, rfl, hn, hK, fun e he D' hD' => by have := h.lt e he D' hD'; omega⟩, h.kd k⟩

/-- What holds in over: the variables and both matrices. -/
structure OvI (w W : World) (u p R n D X Y : Nat) (fu fp : Nat → Nat → Bool) : Prop where
  cfg : Blk W w.heap.size 38 #[ptr u, ptr p]
  res : Blk W (w.heap.size + 1) 38 #[.pointer none, .pointer none]
  mats : ∃ qu qp, Blk W X 33 #[ptr qu] ∧ Blk W Y 33 #[ptr qp] ∧ PM W qu n (mat R n fu) ∧ PM W qp D (mat n D fp) ∧ qu ≠ qp
  ne : X ≠ Y
  lo : w.heap.size + 2 ≤ X ∧ w.heap.size + 2 ≤ Y
  below : Below w.heap.size w W
section
variable {w W W' : World} {u p R n D X Y : Nat} {fu fp fu' fp' : Nat → Nat → Bool}
theorem OvI.kc (h : OvI w W u p R n D X Y fu fp) (hk : KeepC W W') (hb : Below w.heap.size w W') : OvI w W' u p R n D X Y fu fp := by
  obtain ⟨qu, qp, h1, h2, h3, h4, h5⟩ := h.mats
  exact ⟨h.cfg.kc hk, h.res.kc hk, ⟨qu, qp, h1.kc hk, h2.kc hk, h3.kc hk, h4.kc hk, h5⟩, h.ne, h.lo, hb⟩
theorem OvI.next (h : OvI w W u p R n D X Y fu fp) (hb : Below W.heap.size W W') : OvI w W' u p R n D X Y fu fp := h.kc (.of_below hb) (h.below.trans (hb.mono h.below.size))
theorem OvI.congr (h : OvI w W u p R n D X Y fu fp) (h1 : mat R n fu = mat R n fu') (h2 : mat n D fp = mat n D fp') : OvI w W u p R n D X Y fu' fp' := by
  obtain ⟨cfg, res, m, ne, lo, b⟩ := h
  rw [h1, h2] at m
  exact ⟨cfg, res, m, ne, lo, b⟩
theorem blk_ptr {W : World} {g a b : Nat} {t t' : TypeId} (h : Blk W g t #[ptr a]) (h' : Blk W g t' #[ptr b]) : a = b := by
  have := Option.some.inj (h.symm.trans h')
  simp at this
  exact this.1
theorem ptr_ns {a : Option Addr} : ∀ (k : Nat) A n c, (#[.pointer a] : Array Value)[k]? ≠ some (.slice A n c) := by
  intro k A n c
  rcases k with _ | k <;> simp
/-- The users' matrix is another one. -/
theorem OvI.putU {q : Nat} (h : OvI w W u p R n D X Y fu fp) (hm : PM W q n (mat R n fu')) {qo : Nat} (hB : Blk W Y 33 #[ptr qo]) (hq : q ≠ qo) : OvI w (W.setCell ⟨X, 0, none⟩ (ptr q)) u p R n D X Y fu' fp := by
  obtain ⟨⟨qu, qp, h1, h2, h3, h4, h5⟩, l1, l2⟩ := And.intro h.mats h.lo
  have b := h.below.setCell (p := ⟨X, 0, none⟩) (by simp; omega) (ptr q)
  refine ⟨h.cfg.far (by simp; omega) _, h.res.far (by simp; omega) _, ⟨q, qp, h1.set_ 0 _, h2.far (fun e => h.ne e.symm) _, hm.far h1 (hm.ne_ h1 (by decide)) (by decide) ptr_ns 0 _, h4.far h1 (h4.ne_ h1 (by decide)) (by decide) ptr_ns 0 _, fun e => hq (e.trans (blk_ptr h2 hB))⟩, h.ne, h.lo, b⟩
theorem OvI.putP {q : Nat} (h : OvI w W u p R n D X Y fu fp) (hm : PM W q D (mat n D fp')) {qo : Nat} (hB : Blk W X 33 #[ptr qo]) (hq : q ≠ qo) : OvI w (W.setCell ⟨Y, 0, none⟩ (ptr q)) u p R n D X Y fu fp' := by
  obtain ⟨⟨qu, qp, h1, h2, h3, h4, h5⟩, l1, l2⟩ := And.intro h.mats h.lo
  have b := h.below.setCell (p := ⟨Y, 0, none⟩) (by simp; omega) (ptr q)
  refine ⟨h.cfg.far (by simp; omega) _, h.res.far (by simp; omega) _, ⟨qu, q, h1.far h.ne _, h2.set_ 0 _, h3.far h2 (h3.ne_ h2 (by decide)) (by decide) ptr_ns 0 _, hm.far h2 (hm.ne_ h2 (by decide)) (by decide) ptr_ns 0 _, fun e => hq (e.symm.trans (blk_ptr h1 hB))⟩, h.ne, h.lo, b⟩
end
set_option maxRecDepth 100000 in
set_option maxHeartbeats 4000000 in
theorem over_any (u p C D n : Nat) (A : Option Addr) (c : Nat) (M P : List (List Bool)) (l : List Nat) (w : World) (hu : PM w u C M) (hp : PM w p D P) (hCP : C = P.length) (hr : Row w A (l.map i64)) (hl : l.length = P.length) (hln : ∀ k ∈ l, k < n) (hn : n ≤ 256) (hM : M.length ≤ 256) (hD : D ≤ 256) (hT : Tab w) :
    Calls Tryd.prog 60 #[cfgV u p, .slice A l.length c, .int .i64 n] w fun e w' => ∃ u' p', e = .returned (.tuple #[cfgV u' p', .int .i64 0]) ∧ PM w' u' n (mat M.length n (ovU M l l.length)) ∧ PM w' p' D (mat n D (ovP P l l.length)) ∧ u' ≠ p' ∧ Below w.heap.size w w' := by
  have hbu := hu.bd
  have hbp := hp.bd
  have hu1 := hu.1
  have hp1 := hp.1
  refine (callsIn_wide (n := 9)).1 (callsIn_of_wp_marks Tryd.func60 rfl trivial (wpIn_wide.2 ?_) rfl)
  simp only [Tryd.ntmps60, List.size_toArray, List.length_cons, List.length_nil, Nat.reduceAdd, Nat.reduceSub, Array.replicate_succ, Array.replicate_zero, List.push_toArray, List.append_toArray, List.nil_append, List.cons_append]
  go_wp2_with fail
  refine absC2 fun W0 hX0 hR0 hbel0 hz => ?_
  have HZ := Lib.hid hz; clear hz
  (with_reducible refine (pm_rows u C M W0 (hu.below hbel0)).mono ?_); rintro e w1 ⟨rfl, rfl⟩
  go_wp2_with fail; (with_reducible refine (pm_new M.length n W0 hM hn).mono ?_); rintro e w1 ⟨q1, rfl, hq1, hm1, hb1⟩
  have b1 := hbel0.trans (hb1.mono hbel0.size)
  have hX1 := hX0.below hb1 hX0.lt
  have hR1 := hR0.below hb1 hR0.lt
  have lX := hX1.lt
  have x0 := hX1.cell 0
  have x1 := hX1.cell 1
  clear hX0 hR0 hbel0
  go_wp2_with fail
  refine absC1 fun W2 hU2 hbel2 hz2 => ?_
  have b2 := b1.trans (hbel2.mono b1.size)
  have hX2 := hX1.below hbel2 hX1.lt
  have hR2 := hR1.below hbel2 hR1.lt
  have hm2 := hm1.below hbel2
  have hs1 := hb1.size
  have hs2 := b1.size
  clear x0 x1
  have x0 := hX2.cell 0
  have x1 := hX2.cell 1
  have HZ2 := Lib.hid hz2; clear hz2
  (with_reducible refine (pm_cols p D P W2 (hp.below b2)).mono ?_); rintro e w1' ⟨rfl, rfl⟩
  go_wp2_with fail; (with_reducible refine (pm_new n D W2 hn hD).mono ?_); rintro e w3 ⟨q2, rfl, hq2, hm3, hb3⟩
  have hq12 : q1 ≠ q2 := by have := hm2.lt; omega
  have hU3 := hU2.below hb3 hU2.lt
  have hX3 := hX2.below hb3 hX2.lt
  have hR3 := hR2.below hb3 hR2.lt
  have hm13 := hm2.below hb3
  have b3 := b2.trans (hb3.mono b2.size)
  go_wp2_with fail
  refine abs1 fun W4 hV4 hbel4 hz4 => ?_
  have hX4 := hX3.below hbel4 hX3.lt
  have hR4 := hR3.below hbel4 hR3.lt
  have hU4 := hU3.below hbel4 hU3.lt
  have b4 := b3.trans (hbel4.mono b3.size)
  have hs3 := hb3.size
  have hs4 := hbel2.size
  have hl1 := hU2.lt
  obtain ⟨X, hX⟩ : ∃ X, X = w1.heap.size := ⟨_, rfl⟩
  obtain ⟨Y, hY⟩ : ∃ Y, Y = w3.heap.size := ⟨_, rfl⟩
  rw [← hX] at hU4 hl1 ⊢
  rw [← hY] at hV4 ⊢
  have hXY : X ≠ Y := by omega
  have hlX : w.heap.size + 2 ≤ X := by have := hR1.lt; omega
  have hOv : OvI w W4 u p M.length n D X Y (ovU M l 0) (ovP P l 0) := ⟨hX4, hR4, ⟨q1, q2, hU4, hV4, hm13.below hbel4, hm3.below hbel4, hq12⟩, hXY, ⟨hlX, by omega⟩, b4⟩
  have HCP := Lib.hid hCP
  have HLL := Lib.hid hl
  have HLN := Lib.hid hln
  clear hz4 hX hY hX1 hR1 hX2 hR2 hX3 hR3 hX4 hR4 hU2 hU3 hU4 hV4 hm1 hm2 hm13 hm3 hb1 hb3 hbel2 hbel4 b1 b2 b3 b4 hs1 hs2 hs3 hs4 x0 x1 lX hq12 hq1 hq2 hl1 hCP hl hln hXY hlX
  refine wp_loopF (β := Nat) (fun k f => #[f 0, f 1, f 2, .pointer (some ⟨w.heap.size, 0, none⟩), f 4, f 5, .pointer (some ⟨w.heap.size + 1, 0, none⟩), .int .i64 0, .pointer (some ⟨X, 0, none⟩), f 9, .pointer (some ⟨Y, 0, none⟩), f 11, f 12, f 13, f 14, f 15, f 16, f 17, f 18, f 19, f 20, f 21, f 22, f 23, f 24, f 25, f 26, f 27, f 28, f 29, f 30, f 31, f 32, f 33, f 34, f 35, f 36, f 37, f 38, .slice A P.length c, .int .i64 (P.length : Int), .int .i64 (k : Int), f 42, f 43, f 44, f 45, f 46, f 47, f 48, f 49, f 50, f 51, f 52, f 53, f 54, f 55, f 56, f 57, f 58, f 59, f 60, f 61, f 62, f 63, f 64, f 65, f 66, f 67, f 68, f 69, f 70, f 71, f 72, f 73, f 74, f 75])
    (fun k ds wr => k ≤ P.length ∧ OvI w wr u p M.length n D X Y (ovU M l k) (ovP P l k) ∧ Marks w.heap.size wr ds) (fun k => P.length - k) 0 rfl ⟨Nat.zero_le _, hOv, trivial⟩ ?_
  rintro k f ds wr ⟨hk, hO, hM0⟩
  dsimp only
  clear hOv
  by_cases hlt : k < P.length
  · obtain ⟨g, off, rfl, hg, hcell⟩ := hr (by rw [List.length_map, HLL.out]; omega)
    obtain ⟨lk, hlk⟩ : ∃ x, x = l.getD k 0 := ⟨_, rfl⟩
    have hlkn : lk < n := by
      have hkl : k < l.length := by rw [HLL.out]; exact hlt
      rw [hlk, List.getD_eq_getElem?_getD, List.getElem?_eq_getElem hkl]
      exact HLN.out _ (List.getElem_mem hkl)
    have cv := onB hO.below (hcell k (i64 lk) (by rw [List.getElem?_map, List.getElem?_eq_getElem (by rw [HLL.out]; exact hlt), hlk, List.getD_eq_getElem?_getD, List.getElem?_eq_getElem (by rw [HLL.out]; exact hlt)]; rfl))
    clear hcell
    have c0 := hO.cfg.cell 0
    have c1 := hO.cfg.cell 1
    have lc := hO.cfg.lt
    have HLK := Lib.hid hlk
    clear hlk
    have hmm := mems_uCol hbu.1 hbu.2 (r := k) (M := M) (by rw [HCP.out]; exact hlt)
    obtain ⟨N, hN⟩ : ∃ N, N = mcol C (nsOf C M) k := ⟨_, rfl⟩
    have HCOL := hideC (fun W hW => col_any u C (nsOf C M) k W (hu1.below (w' := W) hW))
    rw [← hN] at HCOL hmm
    have HMM := Lib.hid hmm
    clear hmm hN
    go_wp2_with fail
    refine absC1 fun W1 hK1 hbx hz1 => ?_
    have bx1 := hO.below.trans (hbx.mono hO.below.size)
    (with_reducible refine (HCOL.out W1 bx1).mono ?_); rintro e w2 ⟨r, rfl, hs, hb2⟩
    obtain ⟨A2, c2, rfl, _⟩ := id hs
    have k2 := hbx.trans (hb2.mono hbx.size)
    have hO2 := hO.next k2
    have hK2 := hK1.below hb2 hK1.lt
    go_wp2_with fail
    (with_reducible refine (all_any A2 (nw N) c2 w2).mono ?_); rintro e w3 ⟨rfl, hw3⟩
    have hXb := hw3 ▸ Blk.new w2 101 #[.slice A2 (nw N) c2]
    have hb3 : Below w2.heap.size w2 w3 := by rw [hw3]; exact (Below.refl _ _).alloc (Nat.le_refl _) _
    clear hw3
    have k3 := k2.trans (hb3.mono k2.size)
    have hO3 := hO2.next hb3
    have hK3 := hK2.below hb3 hK2.lt
    have hs3 := hs.below hb3
    have hT3 := hT.below hO3.below
    have hM3 := hM0.kd (KeepD.of_below k3)
    clear hO2 hK2 hK1 hs hM0 hb2 hb3 bx1 k2 cv c0 c1 lc
    go_wp2_with fail
    have HPR := hideC hp1
    refine wp_rangeAll (v := .slice A2 (nw N) c2) (N := N) (Bx := w2.heap.size) rfl (hXb.cell 0) hs3 hT3 rfl
      (fun pre W => OvI w W u p M.length n D X Y (ovUs M l k pre) (ovP P l k) ∧ Blk W wr.heap.size 3 #[i64 lk] ∧ KeepD w3 W) (fun _ _ _ => False)
      ?hI (fun _ _ _ _ _ hs _ _ => hs) ?h0 ?a1 ?assign ?body ?done (fun _ _ _ _ _ h _ => h.elim)
    case assign =>
      intro l x W K hKa
      gi_wp2
      exact hKa
    case hI =>
      rintro s W W' row ⟨h1, h2, h3⟩ hg hrw
      have hk := KeepC.of_grown hg hrw
      exact ⟨h1.kc hk (h1.below.grown hg h1.below.size fun k' e => Nat.le_trans hO3.below.size (hrw k' e).1), h2.kc hk, h3.grown hg hrw⟩
    case h0 => exact ⟨hO3.congr (mat_congr fun i _ j _ => (ovUs_nil M l k i j).symm) rfl, hK3, KeepD.refl _⟩
    case body =>
      rintro ll pre x W hx ⟨h1, h2, h3⟩ hlen hkp
      have hxM : x < M.length := by
        have := mem_mems.2 hx
        rw [HMM.out] at this
        exact List.mem_range.1 (List.mem_filter.1 this).1
      obtain ⟨qu, qp, m1, m2, m3, m4, m5⟩ := id h1.mats
      have cX := m1.cell 0
      have fX := m1.frozen 0
      have cK := h2.cell 0
      have hcall := pm_set qu n (mat M.length n (ovUs M l k pre)) x lk true W m3 (by rw [mat_len]; exact hxM) hlkn
      rw [mat_len, HLK.out, ovUs_snoc, ← HLK.out] at hcall
      have HC := hideC hcall
      clear hcall
      gi_wp2_with (refine ⟨trivial, ?_⟩; gi_at_call 57; refine (CallsIn.inRound ll (callsIn_wide.2 HC.out)).mono ?_; rintro e w4 ⟨b, rfl, hfr, hmb, hb4⟩; have cX4 := onB hb4 cX; have fX4 := (m1.below hb4 m1.lt).frozen 0)
      have h14 := h1.next hb4
      have l4 := h1.lo
      have m14 := m1.below hb4 m1.lt
      have hb6 := (hb4.mono h1.below.size).setCell (p := ⟨X, 0, none⟩) (by simp; omega) (ptr b)
      exact ⟨((KeepsOthers.of_below hb4).trans (KeepsOthers.setCell _ _ _)).from _, KpA.mk_ ((KeepW.of_below hb4).trans (KeepW.setCell (p := ⟨X, 0, none⟩) m14 (by decide) (ptr b))) hb6 hT.pos,
        h14.putU hmb (m2.below hb4 m2.lt) (by have := m4.lt; omega), (h2.below hb4 h2.lt).far (h2.ne_ m1 (by decide)) _, h3.others ((KeepsOthers.of_below hb4).trans (KeepsOthers.setCell _ _ _))⟩
    case done =>
      rintro Dk W hDk ⟨h1, h2, h3⟩ hKd
      have hO5 := h1.congr (fu' := ovU M l (k + 1)) (by rw [HMM.out]; exact ovUs_all) rfl
      have hM5 := hM3.cons h3 (by have := hO3.below.size; omega) hDk hKd
      have hmp := mems_pRow (D := D) hbp.1 hlt
      obtain ⟨N2, hN2⟩ : ∃ N, N = mrow (nsOf D P) k := ⟨_, rfl⟩
      have HROW := hideC (fun W hW => row_any p D (nsOf D P) k W (hp1.below (w' := W) hW))
      rw [← hN2] at HROW hmp
      have HMP := Lib.hid hmp
      have c1 := hO5.cfg.cell 1
      have lW := hO5.below.size
      clear hmp hN2 h1 h3
      dsimp only
      go_wp2_with fail
      (with_reducible refine (HROW.out W hO5.below).mono ?_); rintro e w6 ⟨r6, rfl, hs6, hb6⟩
      obtain ⟨A6, c6, rfl, _⟩ := id hs6
      go_wp2_with fail
      (with_reducible refine (all_any A6 (nw N2) c6 w6).mono ?_); rintro e w7 ⟨rfl, hw7⟩
      have hXc := hw7 ▸ Blk.new w6 101 #[.slice A6 (nw N2) c6]
      have hb7 : Below w6.heap.size w6 w7 := by rw [hw7]; exact (Below.refl _ _).alloc (Nat.le_refl _) _
      clear hw7
      have k7 := hb6.trans (hb7.mono hb6.size)
      have hO7 := hO5.next k7
      have hK7 := h2.below k7 h2.lt
      have hs7 := hs6.below hb7
      have hT7 := hT.below hO7.below
      have hM7 := hM5.kd (KeepD.of_below k7)
      clear hO5 h2 hs6 hb6 hb7 c1 hM5
      go_wp2_with fail
      refine wp_rangeAll (v := .slice A6 (nw N2) c6) (N := N2) (Bx := w6.heap.size) rfl (hXc.cell 0) hs7 hT7 rfl
        (fun pre W => OvI w W u p M.length n D X Y (ovU M l (k + 1)) (ovPs P l k pre) ∧ Blk W wr.heap.size 3 #[i64 lk] ∧ KeepD w7 W) (fun _ _ _ => False)
        ?hI2 (fun _ _ _ _ _ hs _ _ => hs) ?h02 ?a12 ?assign2 ?body2 ?done2 (fun _ _ _ _ _ h _ => h.elim)
      case assign2 =>
        intro l x W K hKa
        gi_wp2
        exact hKa
      case hI2 =>
        rintro s W W' row ⟨h1, h2, h3⟩ hg hrw
        have hk := KeepC.of_grown hg hrw
        exact ⟨h1.kc hk (h1.below.grown hg h1.below.size fun k' e => Nat.le_trans hO7.below.size (hrw k' e).1), h2.kc hk, h3.grown hg hrw⟩
      case h02 => exact ⟨hO7.congr rfl (mat_congr fun i _ j _ => (ovPs_nil P l k i j).symm), hK7, KeepD.refl _⟩
      case body2 =>
        rintro ll pre x W hx ⟨h1, h2, h3⟩ hlen hkp
        have hxD : x < D := by
          have := mem_mems.2 hx
          rw [HMP.out] at this
          exact List.mem_range.1 (List.mem_filter.1 this).1
        obtain ⟨qu, qp, m1, m2, m3, m4, m5⟩ := id h1.mats
        have cX := m2.cell 0
        have fX := m2.frozen 0
        have cK := h2.cell 0
        have hcall := pm_set qp D (mat n D (ovPs P l k pre)) lk x true W m4 (by rw [mat_len]; exact hlkn) hxD
        rw [mat_len, HLK.out, ovPs_snoc, ← HLK.out] at hcall
        have HC := hideC hcall
        clear hcall
        gi_wp2_with (refine ⟨trivial, ?_⟩; gi_at_call 57; refine (CallsIn.inRound ll (callsIn_wide.2 HC.out)).mono ?_; rintro e w4 ⟨b, rfl, hfr, hmb, hb4⟩; have cX4 := onB hb4 cX; have fX4 := (m2.below hb4 m2.lt).frozen 0)
        have h14 := h1.next hb4
        have l4 := h1.lo
        have m14 := m2.below hb4 m2.lt
        have hb6 := (hb4.mono h1.below.size).setCell (p := ⟨Y, 0, none⟩) (by simp; omega) (ptr b)
        exact ⟨((KeepsOthers.of_below hb4).trans (KeepsOthers.setCell _ _ _)).from _, KpA.mk_ ((KeepW.of_below hb4).trans (KeepW.setCell (p := ⟨Y, 0, none⟩) m14 (by decide) (ptr b))) hb6 hT.pos,
          h14.putP hmb (m1.below hb4 m1.lt) (by have := m3.lt; omega), (h2.below hb4 h2.lt).far (h2.ne_ m2 (by decide)) _, h3.others ((KeepsOthers.of_below hb4).trans (KeepsOthers.setCell _ _ _))⟩
      case done2 =>
        rintro De W hDe ⟨h1, h2, h3⟩ hKe
        have hO8 := h1.congr (fp' := ovP P l (k + 1)) rfl (by rw [HMP.out]; exact ovPs_all)
        have hM8 := hM7.cons h3 (by have := hO7.below.size; omega) hDe hKe
        dsimp only
        go_wp2_with fail
        exact ⟨k + 1, rfl, ⟨by omega, hO8, hM8⟩, by omega⟩
  · obtain rfl : k = P.length := by omega
    obtain ⟨qu, qp, m1, m2, m3, m4, m5⟩ := id hO.mats
    have cX := m1.cell 0
    have cY := m2.cell 0
    have rC := hO.res
    have r0 := rC.cell 0
    have r1 := rC.cell 1
    have f0 := rC.frozen 0
    have f1 := rC.frozen 1
    go_wp2_with fail
    have lo := hO.lo
    have bO := hO.below
    have rD := (rC.set_ 0 (ptr qu)).set_ 1 (ptr qp)
    have bD := (bO.setCell (p := ⟨w.heap.size + 1, 0, none⟩) (by simp) (ptr qu)).setCell (p := ⟨w.heap.size + 1, 1, none⟩) (by simp) (ptr qp)
    have p3 := (m3.cfg rC 0 (ptr qu)).cfg (a := some ⟨qu, 0, none⟩) (b := none) (rC.set_ 0 (ptr qu)) 1 (ptr qp)
    have p4 := (m4.cfg rC 0 (ptr qu)).cfg (a := some ⟨qu, 0, none⟩) (b := none) (rC.set_ 0 (ptr qu)) 1 (ptr qp)
    obtain ⟨W5, hW5⟩ : ∃ W5, W5 = (wr.setCell ⟨w.heap.size + 1, 0, none⟩ (ptr qu)).setCell ⟨w.heap.size + 1, 1, none⟩ (ptr qp) := ⟨_, rfl⟩
    have hM9 : Marks w.heap.size W5 ds := by rw [hW5]; exact hM0.kd (((KeepD.refl _).others (KeepsOthers.setCell _ _ _)).others (KeepsOthers.setCell _ _ _))
    rw [← hW5] at rD bD p3 p4 ⊢
    clear hW5
    refine leave_marks ds W5 hM9 fun W' hW' => ?_
    have rE : Blk W' (w.heap.size + 1) 38 _ := hW'.2 _ _ _ _ rD
    have hkc : KeepC W5 W' := ⟨hW'.1.size, hW'.2⟩
    have cE0 := rE.cell 0
    have cE1 := rE.cell 1
    refine ⟨.tuple #[.agg #[.pointer (some ⟨qu, 0, none⟩), .pointer (some ⟨qp, 0, none⟩)], .int .i64 0], by simp [results, Tryd.results60, go_sem, cE0, cE1], qu, qp, rfl, ?_, ?_, m5, bD.trans hW'.1⟩
    · rw [HLL.out]; exact p3.kc hkc
    · rw [HLL.out]; exact p4.kc hkc
end Go.Proofs.YthkjigggfeejdaaDoor
