import Derived.Test.YthkjigggfeejdaaDoorMl11
import Derived.Test.YthkjigggfeejdaaDoorMix2
namespace Go.Proofs.YthkjigggfeejdaaDoor
open Go.RowKit

/-- Changes of plans that came in. -/
def IsSP (w : World) (v : Value) (zq : List (Nat × Nat × Nat)) : Prop := ∃ A c, v = .slice A zq.length c ∧ zq.length ≤ c ∧ c ≤ maxLen ∧ ∀ j, j < zq.length → ∃ g off s, A = some ⟨g, off, none⟩ ∧ zq[j]? = some s ∧ s.1 ≤ 255 ∧ s.2.1 ≤ 255 ∧ s.2.2 ≤ 255 ∧
  w.cell? ⟨g, off + j * 3, none⟩ = some (.int .u8 s.1) ∧ w.cell? ⟨g, off + (j * 3 + 1), none⟩ = some (.int .u8 s.2.1) ∧ w.cell? ⟨g, off + (j * 3 + 2), none⟩ = some (.int .u8 s.2.2)
/-- n steps of the reference's, each of a kind below 256. -/
def StepAt (f : Nat → Option Value) (n : Nat) : Prop := ∀ j, j < n → ∃ (k : Nat) (x y : Int), k ≤ 255 ∧ f (j * 3) = some (.int .i64 k) ∧ f (j * 3 + 1) = some (.int .i64 x) ∧ f (j * 3 + 2) = some (.int .i64 y)
theorem StepAt.mono {f : Nat → Option Value} {n m : Nat} (h : StepAt f n) (hm : m ≤ n) : StepAt f m := fun j hj => h j (by omega)
theorem StepAt.shift {f : Nat → Option Value} {n : Nat} (h : StepAt f n) (k : Nat) : StepAt (fun i => f (k * 3 + i)) (n - k) := fun j hj => by
  obtain ⟨q, x, y, h1, h2, h3, h4⟩ := h (k + j) (by omega)
  exact ⟨q, x, y, h1, by show f _ = _; rw [← h2]; congr 1; omega, by show f _ = _; rw [← h3]; congr 1; omega, by show f _ = _; rw [← h4]; congr 1; omega⟩
theorem StepAt.app {xs ys : List Value} {n m : Nat} (h : StepAt (fun i => xs[i]?) n) (h' : StepAt (fun i => ys[i]?) m) (hl : xs.length = n * 3) : StepAt (fun i => (xs ++ ys)[i]?) (n + m) := fun j hj => by
  by_cases hjn : j < n
  · obtain ⟨q, x, y, h1, h2, h3, h4⟩ := h j hjn
    exact ⟨q, x, y, h1, by show (xs ++ ys)[_]? = _; rw [List.getElem?_append_left (by omega)]; exact h2, by show (xs ++ ys)[_]? = _; rw [List.getElem?_append_left (by omega)]; exact h3, by show (xs ++ ys)[_]? = _; rw [List.getElem?_append_left (by omega)]; exact h4⟩
  · obtain ⟨q, x, y, h1, h2, h3, h4⟩ := h' (j - n) (by omega)
    refine ⟨q, x, y, h1, ?_, ?_, ?_⟩
    · show (xs ++ ys)[_]? = _; rw [List.getElem?_append_right (by omega), ← h2]; show ys[_]? = ys[_]?; congr 1; omega
    · show (xs ++ ys)[_]? = _; rw [List.getElem?_append_right (by omega), ← h3]; show ys[_]? = ys[_]?; congr 1; omega
    · show (xs ++ ys)[_]? = _; rw [List.getElem?_append_right (by omega), ← h4]; show ys[_]? = ys[_]?; congr 1; omega
theorem StepAt.set3 {cs : Array Value} {n j : Nat} (h : StepAt (fun i => cs[i]?) n) (hj : j < n) (k : Nat) (x y : Int) (hk : k ≤ 255) : StepAt (fun i => (((cs.setIfInBounds (j * 3) (.int .i64 k)).setIfInBounds (j * 3 + 1) (.int .i64 x)).setIfInBounds (j * 3 + 2) (.int .i64 y))[i]?) n := fun i hi => by
  have hsz : j * 3 + 2 < cs.size := by
    obtain ⟨_, _, _, _, _, _, h4⟩ := h j hj
    exact (Array.getElem?_eq_some_iff.1 h4).1
  by_cases e : i = j
  · subst e
    refine ⟨k, x, y, hk, ?_, ?_, ?_⟩
    · dsimp only; rw [Array.getElem?_setIfInBounds_ne (by omega), Array.getElem?_setIfInBounds_ne (by omega), Array.getElem?_setIfInBounds_self_of_lt (by omega)]
    · dsimp only; rw [Array.getElem?_setIfInBounds_ne (by omega), Array.getElem?_setIfInBounds_self_of_lt (by rw [Array.size_setIfInBounds]; omega)]
    · dsimp only; rw [Array.getElem?_setIfInBounds_self_of_lt (by rw [Array.size_setIfInBounds, Array.size_setIfInBounds]; omega)]
  · obtain ⟨q, a, b, h1, h2, h3, h4⟩ := h i hi
    refine ⟨q, a, b, h1, ?_, ?_, ?_⟩
    · dsimp only; rw [Array.getElem?_setIfInBounds_ne (by omega), Array.getElem?_setIfInBounds_ne (by omega), Array.getElem?_setIfInBounds_ne (by omega)]; exact h2
    · dsimp only; rw [Array.getElem?_setIfInBounds_ne (by omega), Array.getElem?_setIfInBounds_ne (by omega), Array.getElem?_setIfInBounds_ne (by omega)]; exact h3
    · dsimp only; rw [Array.getElem?_setIfInBounds_ne (by omega), Array.getElem?_setIfInBounds_ne (by omega), Array.getElem?_setIfInBounds_ne (by omega)]; exact h4
theorem StepAt.set1 {cs : Array Value} {n j : Nat} (h : StepAt (fun i => cs[i]?) n) (hj : j < n) (k : Nat) (hk : k ≤ 255) : StepAt (fun i => (cs.setIfInBounds (j * 3) (.int .i64 k))[i]?) n := fun i hi => by
  obtain ⟨q, a, b, h1, h2, h3, h4⟩ := h i hi
  by_cases e : i = j
  · subst e
    have hsz := (Array.getElem?_eq_some_iff.1 h2).1
    refine ⟨k, a, b, hk, ?_, ?_, ?_⟩
    · dsimp only; rw [Array.getElem?_setIfInBounds_self_of_lt hsz]
    · dsimp only; rw [Array.getElem?_setIfInBounds_ne (by omega)]; exact h3
    · dsimp only; rw [Array.getElem?_setIfInBounds_ne (by omega)]; exact h4
  · refine ⟨q, a, b, h1, ?_, ?_, ?_⟩
    · dsimp only; rw [Array.getElem?_setIfInBounds_ne (by omega)]; exact h2
    · dsimp only; rw [Array.getElem?_setIfInBounds_ne (by omega)]; exact h3
    · dsimp only; rw [Array.getElem?_setIfInBounds_ne (by omega)]; exact h4
/-- The plan: n steps in a block of our own. -/
def PR (W : World) (base : Nat) (A : Option Addr) (n c : Nat) : Prop := n ≤ c ∧ c ≤ maxLen ∧ (n = 0 ∨ ∃ g cs, A = some ⟨g, 0, none⟩ ∧ base ≤ g ∧ Blk W g 48 cs ∧ StepAt (fun i => cs[i]?) n)
theorem PR.below {W W' : World} {base : Nat} {A : Option Addr} {n c : Nat} (h : PR W base A n c) (hb : Below W.heap.size W W') : PR W' base A n c :=
  ⟨h.1, h.2.1, h.2.2.imp id fun ⟨g, cs, h1, h2, h3, h4⟩ => ⟨g, cs, h1, h2, h3.below hb h3.lt, h4⟩⟩
theorem PR.of_own {W : World} {base : Nat} {v : Value} {n : Nat} {xs : List Value} (h : W.ownsRow base 48 3 v n xs) (hx : StepAt (fun i => xs[i]?) n) : ∃ A c, v = .slice A n c ∧ PR W base A n c := by
  rcases id h.2 with ⟨hv, hn⟩ | ⟨g, cap, cur, hv, hg, hb, h1, h2, hsz, htk⟩
  · exact ⟨none, 0, by rw [hv, hn], by omega, by unfold maxLen; omega, .inl hn⟩
  · refine ⟨_, cap, hv, h1, h2, .inr ⟨g, cur, rfl, hg, hb, fun j hj => ?_⟩⟩
    obtain ⟨q, a, b, q1, q2, q3, q4⟩ := hx j hj
    have key : ∀ i, i < n * 3 → cur[i]? = xs[i]? := fun i hi => by
      rw [← htk, List.getElem?_take_of_lt hi, Array.getElem?_toList]
    exact ⟨q, a, b, q1, (key _ (by omega)).trans q2, (key _ (by omega)).trans q3, (key _ (by omega)).trans q4⟩
/-- The steps as a list. -/
theorem PR.row {W : World} {base : Nat} {A : Option Addr} {n c : Nat} (h : PR W base A n c) : ∃ lq : List (Nat × Int × Int), lq.length = n ∧ (∀ s ∈ lq, s.1 ≤ 255) ∧ Row W A (cellsQ lq) := by
  rcases h.2.2 with rfl | ⟨g, cs, rfl, _, hB, hs⟩
  · exact ⟨[], rfl, fun s hs => by simp at hs, fun h => by simp [cellsQ] at h⟩
  · have hex : ∀ j, ∃ s : Nat × Int × Int, s.1 ≤ 255 ∧ (j < n → cs[j * 3]? = some (.int .i64 s.1) ∧ cs[j * 3 + 1]? = some (.int .i64 s.2.1) ∧ cs[j * 3 + 2]? = some (.int .i64 s.2.2)) := fun j => by
      by_cases hj : j < n
      · obtain ⟨k, x, y, h1, h2, h3, h4⟩ := hs j hj
        exact ⟨(k, x, y), h1, fun _ => ⟨h2, h3, h4⟩⟩
      · exact ⟨(0, 0, 0), by decide, fun h => absurd h hj⟩
    obtain ⟨f, hf⟩ := Classical.axiomOfChoice hex
    refine ⟨(List.range n).map f, by simp, fun s hs => ?_, Row.of_blk hB fun i u hu => ?_⟩
    · obtain ⟨j, _, rfl⟩ := List.mem_map.1 hs
      exact (hf j).1
    · have hil : i < n * 3 := by have := (List.getElem?_eq_some_iff.1 hu).1; rw [cellsQ_len, List.length_map, List.length_range] at this; exact this
      have hj : i / 3 < n := by omega
      have hsq : ((List.range n).map f)[i / 3]? = some (f (i / 3)) := by rw [List.getElem?_map, List.getElem?_range hj]; rfl
      obtain ⟨q0, q1, q2⟩ := cellsQ_get _ _ _ hsq
      obtain ⟨r0, r1, r2⟩ := (hf (i / 3)).2 hj
      have h3 : i = i / 3 * 3 ∨ i = i / 3 * 3 + 1 ∨ i = i / 3 * 3 + 2 := by omega
      rcases h3 with e | e | e <;> rw [e] at hu ⊢
      · rw [q0] at hu; rw [r0]; exact hu
      · rw [q1] at hu; rw [r1]; exact hu
      · rw [q2] at hu; rw [r2]; exact hu
theorem PR.low {W : World} {base base' : Nat} {A : Option Addr} {n c : Nat} (h : PR W base A n c) (hb : base' ≤ base) : PR W base' A n c :=
  ⟨h.1, h.2.1, h.2.2.imp id fun ⟨g, cs, h1, h2, h3⟩ => ⟨g, cs, h1, Nat.le_trans hb h2, h3⟩⟩
theorem StepAt.of_Q {l : List (Nat × Int × Int)} (hk : ∀ s ∈ l, s.1 ≤ 255) : StepAt (fun i => (cellsQ l)[i]?) l.length := fun j hj => by
  obtain ⟨s, hs⟩ : ∃ s, l[j]? = some s := ⟨_, List.getElem?_eq_getElem hj⟩
  obtain ⟨h1, h2, h3⟩ := cellsQ_get l j s hs
  exact ⟨s.1, s.2.1, s.2.2, hk s (List.mem_of_getElem? hs), h1, h2, h3⟩
section
variable {w W W' : World} {X3 X4 u a b p : Nat} {A1 : Option Addr} {c1 : Nat} {B1 : Option Addr} {d1 : Nat} {A2 : Option Addr} {c2 : Nat} {B2 : Option Addr} {d2 : Nat} {M P M' P' : List (List Bool)}
theorem LI.rplan_own (h : LI w W X3 X4 u a b p A1 c1 B1 d1 A2 c2 B2 d2 M P M' P') :
    Calls Tryd.prog 34 #[rcfV a A1 u c1 p B1 a d1, rcfV b A2 u c2 p B2 b d2] W fun e w' => ∃ A n c, e = .returned (.slice A n c) ∧ PR w' w.heap.size A n c ∧ n ≤ 67108864 ∧ Below W.heap.size W w' := by
  have := rplan_any a c1 p d1 b c2 d2 A1 B1 A2 B2 M P M' P' W h.rc.users.ref h.rc.perms.ref h.rc'.users.ref h.rc'.perms.ref h.lP.symm h.lP'.symm (h.lM.trans h.lM'.symm) (by have := h.jn_le; omega)
  rw [h.lM, h.lP, h.lM', h.lP'] at this
  refine this.mono ?_
  rintro e w' ⟨v, rfl, ho, hb⟩
  rw [cellsR_Q] at ho
  have hx := StepAt.of_Q (l := toZ (planJ p M P M' P')) fun s hs => by
    obtain ⟨t, ht, rfl⟩ := List.mem_map.1 hs
    have := planJ_kind _ _ _ _ _ t ht
    omega
  rw [show (toZ (planJ p M P M' P')).length = (planJ p M P M' P').length by simp [toZ]] at hx
  obtain ⟨A, c, rfl, hp⟩ := PR.of_own ho hx
  exact ⟨A, _, c, rfl, hp.low h.below.size, h.small, hb⟩
end
/-- A variable of three cells is written. -/
def put3 (W : World) (g o : Nat) (x y z : Value) : World := ((W.setCell ⟨g, o, none⟩ x).setCell ⟨g, o + 1, none⟩ y).setCell ⟨g, o + 2, none⟩ z
theorem Blk.put3 {W : World} {g : Nat} {t : TypeId} {cs : Array Value} (h : Blk W g t cs) (o : Nat) (x y z : Value) : Blk (put3 W g o x y z) g t (((cs.setIfInBounds o x).setIfInBounds (o + 1) y).setIfInBounds (o + 2) z) := ((h.set_ o x).set_ (o + 1) y).set_ (o + 2) z
section
variable {w W W' : World} {X3 X4 u a b p : Nat} {A1 : Option Addr} {c1 : Nat} {B1 : Option Addr} {d1 : Nat} {A2 : Option Addr} {c2 : Nat} {B2 : Option Addr} {d2 : Nat} {M P M' P' : List (List Bool)}
theorem LI.put3 (h : LI w W X3 X4 u a b p A1 c1 B1 d1 A2 c2 B2 d2 M P M' P') (hT : Tab w) {g : Nat} {t : TypeId} {cs : Array Value} (hB : Blk W g t cs) (n1 : 31 ≠ t) (n2 : t ≠ 96) (n3 : t ≠ 4) (hg : w.heap.size ≤ g) (o : Nat) (x y z : Value) : LI w (Go.Proofs.YthkjigggfeejdaaDoor.put3 W g o x y z) X3 X4 u a b p A1 c1 B1 d1 A2 c2 B2 d2 M P M' P' :=
  ((h.set_ hT hB n1 n2 n3 hg o x).set_ hT (hB.set_ o x) n1 n2 n3 hg (o + 1) y).set_ hT ((hB.set_ o x).set_ (o + 1) y) n1 n2 n3 hg (o + 2) z
end
/-! A piece of the plan as a source. -/
theorem StepAt.int {f : Nat → Option Value} {n i : Nat} (h : StepAt f n) (hi : i < n * 3) : ∃ z : Int, f i = some (.int .i64 z) := by
  obtain ⟨q, x, y, _, h0, h1, h2⟩ := h (i / 3) (by omega)
  have h3 : i = i / 3 * 3 ∨ i = i / 3 * 3 + 1 ∨ i = i / 3 * 3 + 2 := by omega
  rcases h3 with e | e | e <;> rw [e]
  · exact ⟨_, h0⟩
  · exact ⟨_, h1⟩
  · exact ⟨_, h2⟩
def srcL (cs : Array Value) (k m : Nat) : List Value := (cs.toList.drop (k * 3)).take (m * 3)
theorem srcL_at {cs : Array Value} {k m j : Nat} (hj : j < m * 3) : (srcL cs k m)[j]? = cs[k * 3 + j]? := by
  unfold srcL
  rw [List.getElem?_take_of_lt hj, List.getElem?_drop, Array.getElem?_toList]
theorem srcL_len {cs : Array Value} {n k m : Nat} (h : StepAt (fun i => cs[i]?) n) (hk : k + m ≤ n) : (srcL cs k m).length = m * 3 := by
  have hsz : (k + m) * 3 ≤ cs.size := by
    by_cases h0 : k + m = 0
    · omega
    · obtain ⟨z, hz⟩ := h.int (i := (k + m) * 3 - 1) (by omega)
      have := (Array.getElem?_eq_some_iff.1 hz).1
      omega
  unfold srcL
  rw [List.length_take, List.length_drop, Array.length_toList]
  omega
theorem srcL_step {cs : Array Value} {n k m : Nat} (h : StepAt (fun i => cs[i]?) n) (hk : k + m ≤ n) : StepAt (fun i => (srcL cs k m)[i]?) m := fun j hj => by
  obtain ⟨q, x, y, h1, h2, h3, h4⟩ := h (k + j) (by omega)
  refine ⟨q, x, y, h1, ?_, ?_, ?_⟩
  · show (srcL cs k m)[_]? = _; rw [srcL_at (by omega), ← h2]; show cs[_]? = cs[_]?; congr 1; omega
  · show (srcL cs k m)[_]? = _; rw [srcL_at (by omega), ← h3]; show cs[_]? = cs[_]?; congr 1; omega
  · show (srcL cs k m)[_]? = _; rw [srcL_at (by omega), ← h4]; show cs[_]? = cs[_]?; congr 1; omega
theorem srcL_one {cs : Array Value} {n k m : Nat} (h : StepAt (fun i => cs[i]?) n) (hk : k + m ≤ n) : ∀ u ∈ srcL cs k m, u.oneCell' = true := by
  intro u hu
  obtain ⟨j, hj, rfl⟩ := List.getElem_of_mem hu
  rw [srcL_len h hk] at hj
  obtain ⟨z, hz⟩ := (srcL_step h hk).int hj
  have := (List.getElem?_eq_some_iff.1 hz).2
  rw [this]; rfl
theorem srcL_cells {W : World} {g : Nat} {t : TypeId} {cs : Array Value} {n k m : Nat} (hB : Blk W g t cs) (h : StepAt (fun i => cs[i]?) n) (hk : k + m ≤ n) {off : Nat} (hoff : m = 0 ∨ off = k * 3) : ∀ (j : Nat) u, (srcL cs k m)[j]? = some u → W.cell? ((⟨g, off, none⟩ : Addr).add j) = some u := fun j u hu => by
  have hj : j < m * 3 := by have := (List.getElem?_eq_some_iff.1 hu).1; rwa [srcL_len h hk] at this
  rcases hoff with rfl | rfl
  · omega
  · have e : (⟨g, k * 3, none⟩ : Addr).add j = ⟨g, k * 3 + j, none⟩ := by unfold Addr.add; split <;> simp_all
    rw [e, hB.cell, ← srcL_at hj]; exact hu
namespace Mix2
set_option maxRecDepth 100000 in
set_option maxHeartbeats 40000000 in
theorem spoilt_walk (v : Value) (u a b p : Nat) (zs : List Int) (vl : Value) (zq : List (Nat × Nat × Nat)) (w : World) (hT : Tab w) (h : IsRaw49 w v u a b p zs) (hsp : IsSP w vl zq) :
    Calls Tryd.prog 7 #[v, vl] w fun e w' => e = .returned (.bool true) ∧ Below w.heap.size w w' := by
  obtain ⟨AS, cS, rfl, hsl, hsm, hsc⟩ := hsp
  unfold maxLen at hsm
  have HSC := hideC hsc
  clear hsc
  have hbd := h.bd
  have HIN := hideC h
  obtain ⟨u0, a0, b0, p0, AZ, cZ, hv, _⟩ := id h
  subst hv
  clear h
  go_enter Tryd.func7, Tryd.ntmps7
  go_wp2_with fail
  refine absC1 fun W0 hX hb0 hz => ?_
  clear hz
  refine (awake_any49 W0 (hT.below hb0)).mono ?_
  rintro e w1 ⟨rfl, hb1⟩
  have b1 := hb0.trans (hb1.mono hb0.size)
  have hX1 := hX.below hb1 hX.lt
  have x0 := hX1.cell 0
  have x1 := hX1.cell 1
  have x2 := hX1.cell 2
  have x3 := hX1.cell 3
  have x4 := hX1.cell 4
  clear hX hb0 hb1
  have HMK := hideC (rmake_any _ u a b p zs w1 (HIN.out.below b1))
  go_wp2_with fail
  refine HMK.out.mono ?_
  rintro e w2 ⟨M, P, M', P', A1, c1, B1, d1, A2, c2, B2, d2, rfl, hc, hc', lM, lP, lM', lP', hb2⟩
  have b2 := b1.trans (hb2.mono b1.size)
  clear x0 x1 x2 x3 x4 HMK hX1 hb2 b1
  go_wp2_with fail
  refine absC2 fun w3 h3 h4 hb3 hz3 => ?_
  have j : LI w w3 w2.heap.size (w2.heap.size + 1) u a b p A1 c1 B1 d1 A2 c2 B2 d2 M P M' P' := ⟨h3, h4, hc.below hb3, hc'.below hb3, lM, lP, lM', lP', hbd, hT.below (b2.trans (hb3.mono b2.size)), b2.trans (hb3.mono b2.size)⟩
  obtain ⟨X3, hX3⟩ : ∃ x, x = w2.heap.size := ⟨_, rfl⟩
  rw [← hX3] at j ⊢
  clear hX3 h3 h4 hc hc' lM lP lM' lP' hb3 hz3 b2 hbd HIN
  have x0 := j.old.cell 0
  have x1 := j.old.cell 1
  have x2 := j.old.cell 2
  have x3 := j.old.cell 3
  have y0 := j.new.cell 0
  have y1 := j.new.cell 1
  have y2 := j.new.cell 2
  have y3 := j.new.cell 3
  refine j.rplan_own.mono ?_
  rintro e w4 ⟨AP, nP, cP, rfl, hpr, hnP, hb4⟩
  have j4 := j.next hb4
  clear j x0 x1 x2 x3 y0 y1 y2 y3 hb4
  go_wp2_with fail
  refine wp_loopF (β := Nat × Option Addr × Nat × Nat) (fun s f => #[f 0, .slice AS zq.length cS, f 2, f 3, f 4, .pointer (some ⟨X3, 0, none⟩), .pointer (some ⟨X3 + 1, 0, none⟩), .slice s.2.1 s.2.2.1 s.2.2.2, .int .i64 (s.1 : Int), f 9, f 10, f 11, f 12, f 13, f 14, f 15, f 16, f 17, f 18, f 19, f 20, f 21, f 22, f 23, f 24, f 25, f 26, f 27, f 28, f 29, f 30, f 31, f 32, f 33, f 34, f 35, f 36, f 37, f 38, f 39, f 40, f 41, f 42, f 43, f 44, f 45, f 46, f 47, f 48, f 49, f 50, f 51, f 52, f 53, f 54, f 55, f 56, f 57, f 58, f 59, f 60, f 61, f 62, f 63, f 64, f 65, f 66, f 67, f 68, f 69, f 70, f 71, f 72, f 73, f 74, f 75, f 76, f 77, f 78, f 79, f 80, f 81, f 82, f 83, f 84, f 85, f 86, f 87, f 88, f 89, f 90, f 91, f 92, f 93, f 94, f 95, f 96, f 97, f 98, f 99, f 100, f 101, f 102, f 103, f 104, f 105, f 106, f 107, f 108, f 109, f 110, f 111, f 112, f 113, f 114, f 115, f 116, f 117, f 118, f 119, f 120, f 121, f 122, f 123, f 124, f 125, f 126, f 127, f 128, f 129, f 130, f 131, f 132, f 133, f 134, f 135, f 136, f 137, f 138, f 139, f 140, f 141, f 142, f 143, f 144, f 145, f 146, f 147, f 148, f 149, f 150, f 151, f 152])
    (fun s ds wr => s.1 ≤ 3 ∧ ds = [] ∧ s.2.2.1 ≤ 67108864 + s.1 ∧ LI w wr X3 (X3 + 1) u a b p A1 c1 B1 d1 A2 c2 B2 d2 M P M' P' ∧ Hid (PR wr w.heap.size s.2.1 s.2.2.1 s.2.2.2)) (fun s => 3 - s.1) (0, AP, nP, cP) rfl ⟨Nat.zero_le _, rfl, hnP, j4, hideC hpr⟩ ?_
  rintro ⟨k, A, n, c⟩ f ds wr ⟨hk, rfl, hn, J, HPR⟩
  dsimp only at hk hn HPR ⊢
  clear j4 hpr
  by_cases hgo : k < zq.length ∧ k < 3 ∧ 0 < n
  · obtain ⟨hg1, hg2, hg3⟩ := hgo
    obtain ⟨g0, off0, ⟨sa, sw, sd⟩, rfl, _, l0, l1, l2, c0, c1', c2'⟩ := HSC.out k hg1
    dsimp only at l0 l1 l2 c0 c1' c2'
    have d0 := onB J.below c0
    have d1' := onB J.below c1'
    have d2' := onB J.below c2'
    rw [← Nat.add_assoc] at d1' d2'
    obtain ⟨hnc, hcm, hpz⟩ := HPR.out
    unfold maxLen at hcm
    rcases hpz with hpz | ⟨g, cs, rfl, hgb, hB, hst⟩
    · omega
    have hd : Below wr.heap.size wr wr.drew := (Below.refl _ _).drew
    have Jq := J.next hd
    have hBq := hB.below hd hB.lt
    obtain ⟨i, hi⟩ : ∃ i, i = sa % n := ⟨_, rfl⟩
    obtain ⟨jj, hjj⟩ : ∃ j, j = sw % n := ⟨_, rfl⟩
    have hin : i < n := by rw [hi]; exact Nat.mod_lt _ hg3
    have hjn : jj < n := by rw [hjj]; exact Nat.mod_lt _ hg3
    have e1 : IntKind.i64.wrap (sa : Int) = (sa : Int) := i64w ⟨by omega, by omega⟩
    have e2 : ((sa : Int)).tmod (n : Int) = (i : Int) := by rw [hi, Int.tmod_eq_emod_of_nonneg (by omega)]; omega
    have e3 : (sa : Int) % (n : Int) = (i : Int) := by rw [hi]; omega
    have e4 : IntKind.i64.wrap (sw : Int) = (sw : Int) := i64w ⟨by omega, by omega⟩
    have e5 : ((sw : Int)).tmod (n : Int) = (jj : Int) := by rw [hjj, Int.tmod_eq_emod_of_nonneg (by omega)]; omega
    have e6 : (sw : Int) % (n : Int) = (jj : Int) := by rw [hjj]; omega
    have hn0 : ¬ n = 0 := by omega
    clear hi hjj c0 c1' c2' HPR hB
    obtain ⟨wq, hwq⟩ : ∃ V, V = wr.drew := ⟨_, rfl⟩
    rw [← hwq] at hd Jq hBq
    go_wp2_with fail
    refine wp_mix (fun V => Below wr.heap.size wr V) 20 (by kernel_rfl) (by kernel_rfl) (Below.refl _ _).drew ?_
    rw [← hwq]
    clear hwq
    (refine m_q 0 (v := ?_) (by kernel_rfl) rfl rfl (fun W hW => ?_) ?_; rotate_left; (go_simp; first | done | with_reducible rfl); simp only [Act.put, List.setIfInBounds_toArray, List.set_cons_zero, List.set_cons_succ]); (refine m_q 1 (v := ?_) (by kernel_rfl) rfl rfl (fun W hW => ?_) ?_; rotate_left; (go_simp; first | done | with_reducible rfl); simp only [Act.put, List.setIfInBounds_toArray, List.set_cons_zero, List.set_cons_succ]); (refine m_q 2 (v := ?_) (by kernel_rfl) rfl rfl (fun W hW => ?_) ?_; rotate_left; (go_simp; first | done | with_reducible rfl); simp only [Act.put, List.setIfInBounds_toArray, List.set_cons_zero, List.set_cons_succ]); (refine m_q 3 (v := ?_) (by kernel_rfl) rfl rfl (fun W hW => ?_) ?_; rotate_left; (go_simp; first | done | with_reducible rfl); simp only [Act.put, List.setIfInBounds_toArray, List.set_cons_zero, List.set_cons_succ])
    (refine m_q 4 (v := ?_) (by kernel_rfl) rfl rfl (fun W hW => ?_) ?_; rotate_left; (have z0 := onB hW d0; go_simp; first | done | with_reducible rfl); simp only [Act.put, List.setIfInBounds_toArray, List.set_cons_zero, List.set_cons_succ])
    (refine m_q 5 (v := ?_) (by kernel_rfl) rfl rfl (fun W hW => ?_) ?_; rotate_left; (go_simp; first | done | with_reducible rfl); simp only [Act.put, List.setIfInBounds_toArray, List.set_cons_zero, List.set_cons_succ]); (refine m_q 6 (v := ?_) (by kernel_rfl) rfl rfl (fun W hW => ?_) ?_; rotate_left; (go_simp; first | done | with_reducible rfl); simp only [Act.put, List.setIfInBounds_toArray, List.set_cons_zero, List.set_cons_succ]); (refine m_q 7 (v := ?_) (by kernel_rfl) rfl rfl (fun W hW => ?_) ?_; rotate_left; (go_simp; first | done | with_reducible rfl); simp only [Act.put, List.setIfInBounds_toArray, List.set_cons_zero, List.set_cons_succ]); (refine m_q 8 (v := ?_) (by kernel_rfl) rfl rfl (fun W hW => ?_) ?_; rotate_left; (go_simp; first | done | with_reducible rfl); simp only [Act.put, List.setIfInBounds_toArray, List.set_cons_zero, List.set_cons_succ]); (refine m_q 9 (v := ?_) (by kernel_rfl) rfl rfl (fun W hW => ?_) ?_; rotate_left; (go_simp; first | done | with_reducible rfl); simp only [Act.put, List.setIfInBounds_toArray, List.set_cons_zero, List.set_cons_succ]); (refine m_q 10 (v := ?_) (by kernel_rfl) rfl rfl (fun W hW => ?_) ?_; rotate_left; (go_simp; first | done | with_reducible rfl); simp only [Act.put, List.setIfInBounds_toArray, List.set_cons_zero, List.set_cons_succ]); (refine m_q 11 (v := ?_) (by kernel_rfl) rfl rfl (fun W hW => ?_) ?_; rotate_left; (go_simp; first | done | with_reducible rfl); simp only [Act.put, List.setIfInBounds_toArray, List.set_cons_zero, List.set_cons_succ]); (refine m_q 12 (v := ?_) (by kernel_rfl) rfl rfl (fun W hW => ?_) ?_; rotate_left; (go_simp; first | done | with_reducible rfl); simp only [Act.put, List.setIfInBounds_toArray, List.set_cons_zero, List.set_cons_succ])
    (refine m_q 13 (v := ?_) (by kernel_rfl) rfl rfl (fun W hW => ?_) ?_; rotate_left; (have z0 := onB hW d1'; go_simp; first | done | with_reducible rfl); simp only [Act.put, List.setIfInBounds_toArray, List.set_cons_zero, List.set_cons_succ])
    (refine m_q 14 (v := ?_) (by kernel_rfl) rfl rfl (fun W hW => ?_) ?_; rotate_left; (go_simp; first | done | with_reducible rfl); simp only [Act.put, List.setIfInBounds_toArray, List.set_cons_zero, List.set_cons_succ]); (refine m_q 15 (v := ?_) (by kernel_rfl) rfl rfl (fun W hW => ?_) ?_; rotate_left; (go_simp; first | done | with_reducible rfl); simp only [Act.put, List.setIfInBounds_toArray, List.set_cons_zero, List.set_cons_succ]); (refine m_q 16 (v := ?_) (by kernel_rfl) rfl rfl (fun W hW => ?_) ?_; rotate_left; (go_simp; first | done | with_reducible rfl); simp only [Act.put, List.setIfInBounds_toArray, List.set_cons_zero, List.set_cons_succ]); (refine m_q 17 (v := ?_) (by kernel_rfl) rfl rfl (fun W hW => ?_) ?_; rotate_left; (go_simp; first | done | with_reducible rfl); simp only [Act.put, List.setIfInBounds_toArray, List.set_cons_zero, List.set_cons_succ]); (refine m_q 18 (v := ?_) (by kernel_rfl) rfl rfl (fun W hW => ?_) ?_; rotate_left; (go_simp; first | done | with_reducible rfl); simp only [Act.put, List.setIfInBounds_toArray, List.set_cons_zero, List.set_cons_succ]); (refine m_q 19 (v := ?_) (by kernel_rfl) rfl rfl (fun W hW => ?_) ?_; rotate_left; (go_simp; first | done | with_reducible rfl); simp only [Act.put, List.setIfInBounds_toArray, List.set_cons_zero, List.set_cons_succ])
    refine m_end (by kernel_rfl) ?_
    clear e1 e2 e3 e4 e5 e6
    have d2'' := onB hd d2'
    have d1'' := onB hd d1'
    have hcase : sd % 4 = 0 ∨ sd % 4 = 1 ∨ sd % 4 = 2 ∨ sd % 4 = 3 := by omega
    rcases hcase with hm | hm | hm | hm
    · have e7 : ((sd : Int)).tmod 4 = 0 := by rw [Int.tmod_eq_emod_of_nonneg (by omega)]; omega
      have e8 : (sd : Int) % 4 = 0 := by omega
      clear hm
      have e11 : IntKind.i64.wrap ((i : Int) + 1) = ((i + 1 : Nat) : Int) := by rw [i64w ⟨by omega, by omega⟩]; omega
      go_wp2_with fail
      have hdw : Below wq.heap.size wq wq.drew := (Below.refl _ _).drew
      have hBw : Blk wq.drew g 48 cs := hBq.drew
      have Jw := Jq.next hdw
      refine wp_mix (fun V => Blk V g 48 cs) 11 (by kernel_rfl) (by kernel_rfl) hBw ?_
      obtain ⟨wz, hwz⟩ : ∃ V, V = wq.drew := ⟨_, rfl⟩
      rw [← hwz] at hdw hBw Jw ⊢
      clear hwz
      have hic : i ≤ c := by omega
      have hic2 : i + 1 ≤ n := by omega
      have hic3 : i + 1 ≤ c := by omega
      have e13 : (i : Int) + 1 ≤ (n : Int) := by omega
      have e14 : 0 ≤ (i : Int) + 1 := by omega
      obtain ⟨i0, hi0, hz0, hz1, hz2⟩ := info_parts info_rstep
      by_cases hci : c = i + 1
      · subst hci
        have e12 : (i : Int) ≤ (i : Int) + 1 := by omega
        (refine m_q 1 (v := ?_) (by kernel_rfl) rfl rfl (fun W hW => ?_) ?_; rotate_left; (go_simp; first | done | with_reducible rfl); simp only [Act.put, List.setIfInBounds_toArray, List.set_cons_zero, List.set_cons_succ]); (refine m_q 2 (v := ?_) (by kernel_rfl) rfl rfl (fun W hW => ?_) ?_; rotate_left; (go_simp; first | done | with_reducible rfl); simp only [Act.put, List.setIfInBounds_toArray, List.set_cons_zero, List.set_cons_succ])
        (refine m_q 3 (v := ?_) (by kernel_rfl) rfl rfl (fun W hW => ?_) ?_; rotate_left; (go_simp; first | done | with_reducible rfl); simp only [Act.put, List.setIfInBounds_toArray, List.set_cons_zero, List.set_cons_succ])
        (refine m_q 5 (v := ?_) (by kernel_rfl) rfl rfl (fun W hW => ?_) ?_; rotate_left; (go_simp; first | done | with_reducible rfl); simp only [Act.put, List.setIfInBounds_toArray, List.set_cons_zero, List.set_cons_succ]); (refine m_q 6 (v := ?_) (by kernel_rfl) rfl rfl (fun W hW => ?_) ?_; rotate_left; (go_simp; first | done | with_reducible rfl); simp only [Act.put, List.setIfInBounds_toArray, List.set_cons_zero, List.set_cons_succ]); (refine m_q 7 (v := ?_) (by kernel_rfl) rfl rfl (fun W hW => ?_) ?_; rotate_left; (go_simp; first | done | with_reducible rfl); simp only [Act.put, List.setIfInBounds_toArray, List.set_cons_zero, List.set_cons_succ])
        (refine m_q 8 (v := ?_) (by kernel_rfl) rfl rfl (fun W hW => ?_) ?_; rotate_left; (go_simp; first | done | with_reducible rfl); simp only [Act.put, List.setIfInBounds_toArray, List.set_cons_zero, List.set_cons_succ])
        clear e11 e12 e13 e14
        refine m_s1 0 (by kernel_rfl) rfl ?_
        go_wp2_with fail
        have own0 := World.ownsRow_lit (base := wz.heap.size) (e := 48) (size := 3) wz #[] 0 (Nat.le_refl _) (by decide) rfl
        have hb0 : Below wz.heap.size wz (wz.alloc (.cells #[] 48)) := (Below.refl _ _).alloc (Nat.le_refl _) _
        refine m_keep (hBw.below hb0 hBw.lt) ?_
        have hs1 := srcL_cells (hBw.below hb0 hBw.lt) hst (k := 0) (m := i) (by omega) (off := 0) (Or.inr (by omega))
        have hl1 := srcL_len hst (k := 0) (m := i) (by omega)
        have ho1 := srcL_one hst (k := 0) (m := i) (by omega)
        have HS1 := hideC hs1; have HL1 := Lib.hid hl1; clear hs1 hl1
        refine m_s1 4 (by kernel_rfl) rfl ?_
        go_wp2_with (at_builtin; refine wpList_append_own _ rfl _ _ 74 rfl wz.heap.size 48 i0 (.agg #[.int .i64 0, .int .i64 0, .int .i64 0]) 3 24 Tryd.underlying74 hi0 hz0 hz1 hz2 rfl (by decide) _ _ _ rfl own0 ⟨g, 0, none⟩ (i) (i + 1) (srcL cs 0 i) rfl (HL1.out) HS1.out (ho1) (by unfold maxLen; omega) (by omega) (by first | omega | (simp; done) | (simp; omega)) ?_; intro v1 w5 hown1 hgrow1 _)
        have hb1 : Below wz.heap.size wz w5 := hb0.grown hgrow1 (by simp) (fun q hq => (own0.lt q hq).1)
        refine m_keep (hBw.below hb1 hBw.lt) ?_
        have hs2 := srcL_cells (hBw.below hb1 hBw.lt) hst (k := i + 1) (m := 0) (by omega) (off := 0) (by omega)
        have hl2 := srcL_len hst (k := i + 1) (m := 0) (by omega)
        have ho2 := srcL_one hst (k := i + 1) (m := 0) (by omega)
        have hsz1 := hb1.size
        have HS2 := hideC hs2; have HL2 := Lib.hid hl2; clear hs2 hl2
        refine m_s1 9 (by kernel_rfl) rfl ?_
        go_wp2_with (at_builtin; refine wpList_append_own _ rfl _ _ 74 rfl wz.heap.size 48 i0 (.agg #[.int .i64 0, .int .i64 0, .int .i64 0]) 3 24 Tryd.underlying74 hi0 hz0 hz1 hz2 rfl (by decide) _ _ _ rfl hown1 ⟨g, 0, none⟩ (0) (0) (srcL cs (i + 1) (0)) rfl (HL2.out) HS2.out (ho2) (by unfold maxLen; omega) (by omega) (by first | omega | (simp; done) | (simp; omega)) ?_; intro v2 w6 hown2 hgrow2 _)
        have hb2 : Below wz.heap.size wz w6 := hb1.grown hgrow2 (by omega) (fun q hq => (hown1.lt q hq).1)
        rw [List.nil_append, Nat.zero_add] at hown2
        obtain ⟨A2, c2x, rfl, hp⟩ := PR.of_own hown2 ((srcL_step hst (by omega)).app (srcL_step hst (by omega)) HL1.out)
        refine m_keep (hBw.below hb2 hBw.lt) ?_
        refine m_s1 10 (by kernel_rfl) rfl ?_
        go_wp2_with fail
        refine m_keep (hBw.below hb2 hBw.lt) ?_
        refine m_end (by kernel_rfl) ?_
        have J6 := Jw.next hb2
        have hp6 := hp.low Jw.below.size
        clear own0 hb0 hb1 hb2 hown1 hown2 hgrow1 hgrow2 ho1 ho2 hp Jw HS1 HL1 HS2 HL2
        go_wp2_with fail
        exact ⟨(k + 1, A2, _, c2x), rfl, ⟨by show k + 1 ≤ 3; omega, by first | rfl | trivial, by show i + (0) ≤ 67108864 + (k + 1); omega, J6, hideC hp6⟩, by show 3 - (k + 1) < 3 - k; omega⟩
      · (refine m_q 1 (v := ?_) (by kernel_rfl) rfl rfl (fun W hW => ?_) ?_; rotate_left; (go_simp; first | done | with_reducible rfl); simp only [Act.put, List.setIfInBounds_toArray, List.set_cons_zero, List.set_cons_succ]); (refine m_q 2 (v := ?_) (by kernel_rfl) rfl rfl (fun W hW => ?_) ?_; rotate_left; (go_simp; first | done | with_reducible rfl); simp only [Act.put, List.setIfInBounds_toArray, List.set_cons_zero, List.set_cons_succ])
        (refine m_q 3 (v := ?_) (by kernel_rfl) rfl rfl (fun W hW => ?_) ?_; rotate_left; (go_simp; first | done | with_reducible rfl); simp only [Act.put, List.setIfInBounds_toArray, List.set_cons_zero, List.set_cons_succ])
        (refine m_q 5 (v := ?_) (by kernel_rfl) rfl rfl (fun W hW => ?_) ?_; rotate_left; (go_simp; first | done | with_reducible rfl); simp only [Act.put, List.setIfInBounds_toArray, List.set_cons_zero, List.set_cons_succ]); (refine m_q 6 (v := ?_) (by kernel_rfl) rfl rfl (fun W hW => ?_) ?_; rotate_left; (go_simp; first | done | with_reducible rfl); simp only [Act.put, List.setIfInBounds_toArray, List.set_cons_zero, List.set_cons_succ]); (refine m_q 7 (v := ?_) (by kernel_rfl) rfl rfl (fun W hW => ?_) ?_; rotate_left; (go_simp; first | done | with_reducible rfl); simp only [Act.put, List.setIfInBounds_toArray, List.set_cons_zero, List.set_cons_succ])
        (refine m_q 8 (v := ?_) (by kernel_rfl) rfl rfl (fun W hW => ?_) ?_; rotate_left; (go_simp; first | done | with_reducible rfl); simp only [Act.put, List.setIfInBounds_toArray, List.set_cons_zero, List.set_cons_succ])
        clear e11 e13 e14
        refine m_s1 0 (by kernel_rfl) rfl ?_
        go_wp2_with fail
        have own0 := World.ownsRow_lit (base := wz.heap.size) (e := 48) (size := 3) wz #[] 0 (Nat.le_refl _) (by decide) rfl
        have hb0 : Below wz.heap.size wz (wz.alloc (.cells #[] 48)) := (Below.refl _ _).alloc (Nat.le_refl _) _
        refine m_keep (hBw.below hb0 hBw.lt) ?_
        have hs1 := srcL_cells (hBw.below hb0 hBw.lt) hst (k := 0) (m := i) (by omega) (off := 0) (Or.inr (by omega))
        have hl1 := srcL_len hst (k := 0) (m := i) (by omega)
        have ho1 := srcL_one hst (k := 0) (m := i) (by omega)
        have HS1 := hideC hs1; have HL1 := Lib.hid hl1; clear hs1 hl1
        refine m_s1 4 (by kernel_rfl) rfl ?_
        go_wp2_with (at_builtin; refine wpList_append_own _ rfl _ _ 74 rfl wz.heap.size 48 i0 (.agg #[.int .i64 0, .int .i64 0, .int .i64 0]) 3 24 Tryd.underlying74 hi0 hz0 hz1 hz2 rfl (by decide) _ _ _ rfl own0 ⟨g, 0, none⟩ (i) (c) (srcL cs 0 i) rfl (HL1.out) HS1.out (ho1) (by unfold maxLen; omega) (by omega) (by first | omega | (simp; done) | (simp; omega)) ?_; intro v1 w5 hown1 hgrow1 _)
        have hb1 : Below wz.heap.size wz w5 := hb0.grown hgrow1 (by simp) (fun q hq => (own0.lt q hq).1)
        refine m_keep (hBw.below hb1 hBw.lt) ?_
        have hs2 := srcL_cells (hBw.below hb1 hBw.lt) hst (k := i + 1) (m := n - (i + 1)) (by omega) (off := (i + 1) * 3) (by omega)
        have hl2 := srcL_len hst (k := i + 1) (m := n - (i + 1)) (by omega)
        have ho2 := srcL_one hst (k := i + 1) (m := n - (i + 1)) (by omega)
        have hsz1 := hb1.size
        have HS2 := hideC hs2; have HL2 := Lib.hid hl2; clear hs2 hl2
        refine m_s1 9 (by kernel_rfl) rfl ?_
        go_wp2_with (at_builtin; refine wpList_append_own _ rfl _ _ 74 rfl wz.heap.size 48 i0 (.agg #[.int .i64 0, .int .i64 0, .int .i64 0]) 3 24 Tryd.underlying74 hi0 hz0 hz1 hz2 rfl (by decide) _ _ _ rfl hown1 ⟨g, (i + 1) * 3, none⟩ (n - (i + 1)) (c - (i + 1)) (srcL cs (i + 1) (n - (i + 1))) rfl (HL2.out) HS2.out (ho2) (by unfold maxLen; omega) (by omega) (by first | omega | (simp; done) | (simp; omega)) ?_; intro v2 w6 hown2 hgrow2 _)
        have hb2 : Below wz.heap.size wz w6 := hb1.grown hgrow2 (by omega) (fun q hq => (hown1.lt q hq).1)
        rw [List.nil_append, Nat.zero_add] at hown2
        obtain ⟨A2, c2x, rfl, hp⟩ := PR.of_own hown2 ((srcL_step hst (by omega)).app (srcL_step hst (by omega)) HL1.out)
        refine m_keep (hBw.below hb2 hBw.lt) ?_
        refine m_s1 10 (by kernel_rfl) rfl ?_
        go_wp2_with fail
        refine m_keep (hBw.below hb2 hBw.lt) ?_
        refine m_end (by kernel_rfl) ?_
        have J6 := Jw.next hb2
        have hp6 := hp.low Jw.below.size
        clear own0 hb0 hb1 hb2 hown1 hown2 hgrow1 hgrow2 ho1 ho2 hp Jw HS1 HL1 HS2 HL2
        go_wp2_with fail
        exact ⟨(k + 1, A2, _, c2x), rfl, ⟨by show k + 1 ≤ 3; omega, by first | rfl | trivial, by show i + (n - (i + 1)) ≤ 67108864 + (k + 1); omega, J6, hideC hp6⟩, by show 3 - (k + 1) < 3 - k; omega⟩
    · have e7 : ((sd : Int)).tmod 4 = 1 := by rw [Int.tmod_eq_emod_of_nonneg (by omega)]; omega
      have e8 : (sd : Int) % 4 = 1 := by omega
      clear hm
      obtain ⟨ki, xi, yi, hki, qi0, qi1, qi2⟩ := hst i hin
      obtain ⟨kj, xj, yj, hkj, qj0, qj1, qj2⟩ := hst jj hjn
      go_wp2_with fail
      have hdw : Below wq.heap.size wq wq.drew := (Below.refl _ _).drew
      have hBw : Blk wq.drew g 48 cs := hBq.drew
      have Jw := Jq.next hdw
      refine wp_mix (fun V => True) 16 (by kernel_rfl) (by kernel_rfl) trivial ?_
      obtain ⟨wz, hwz⟩ : ∃ V, V = wq.drew := ⟨_, rfl⟩
      rw [← hwz] at hdw hBw Jw ⊢
      clear hwz
      (refine m_q 0 (v := ?_) (by kernel_rfl) rfl rfl (fun W hW => ?_) ?_; rotate_left; (go_simp; first | done | with_reducible rfl); simp only [Act.put, List.setIfInBounds_toArray, List.set_cons_zero, List.set_cons_succ]); (refine m_q 1 (v := ?_) (by kernel_rfl) rfl rfl (fun W hW => ?_) ?_; rotate_left; (go_simp; first | done | with_reducible rfl); simp only [Act.put, List.setIfInBounds_toArray, List.set_cons_zero, List.set_cons_succ]); (refine m_q 2 (v := ?_) (by kernel_rfl) rfl rfl (fun W hW => ?_) ?_; rotate_left; (go_simp; first | done | with_reducible rfl); simp only [Act.put, List.setIfInBounds_toArray, List.set_cons_zero, List.set_cons_succ]); (refine m_q 3 (v := ?_) (by kernel_rfl) rfl rfl (fun W hW => ?_) ?_; rotate_left; (go_simp; first | done | with_reducible rfl); simp only [Act.put, List.setIfInBounds_toArray, List.set_cons_zero, List.set_cons_succ]); (refine m_q 4 (v := ?_) (by kernel_rfl) rfl rfl (fun W hW => ?_) ?_; rotate_left; (go_simp; first | done | with_reducible rfl); simp only [Act.put, List.setIfInBounds_toArray, List.set_cons_zero, List.set_cons_succ]); (refine m_q 5 (v := ?_) (by kernel_rfl) rfl rfl (fun W hW => ?_) ?_; rotate_left; (go_simp; first | done | with_reducible rfl); simp only [Act.put, List.setIfInBounds_toArray, List.set_cons_zero, List.set_cons_succ]); (refine m_q 6 (v := ?_) (by kernel_rfl) rfl rfl (fun W hW => ?_) ?_; rotate_left; (go_simp; first | done | with_reducible rfl); simp only [Act.put, List.setIfInBounds_toArray, List.set_cons_zero, List.set_cons_succ])
      (refine m_q 8 (v := ?_) (by kernel_rfl) rfl rfl (fun W hW => ?_) ?_; rotate_left; (go_simp; first | done | with_reducible rfl); simp only [Act.put, List.setIfInBounds_toArray, List.set_cons_zero, List.set_cons_succ]); (refine m_q 9 (v := ?_) (by kernel_rfl) rfl rfl (fun W hW => ?_) ?_; rotate_left; (go_simp; first | done | with_reducible rfl); simp only [Act.put, List.setIfInBounds_toArray, List.set_cons_zero, List.set_cons_succ]); (refine m_q 10 (v := ?_) (by kernel_rfl) rfl rfl (fun W hW => ?_) ?_; rotate_left; (go_simp; first | done | with_reducible rfl); simp only [Act.put, List.setIfInBounds_toArray, List.set_cons_zero, List.set_cons_succ])
      have z0 := (hBw.cell _).trans qi0
      have z1 := (hBw.cell _).trans qi1
      have z2 := (hBw.cell _).trans qi2
      have z3 := (hBw.cell _).trans qj0
      have z4 := (hBw.cell _).trans qj1
      have z5 := (hBw.cell _).trans qj2
      have lg := hBw.lt
      refine m_s2 7 11 (by kernel_rfl) rfl rfl ?_ ?_
      · go_wp2_with fail
        refine m_keep trivial ?_
        refine m_s1 11 (by kernel_rfl) rfl ?_
        go_wp2_with fail
        refine m_keep trivial ?_
        have f0 := hBw.frozen (i * 3)
        have f1 := hBw.frozen (i * 3 + 1)
        have f2 := hBw.frozen (i * 3 + 2)
        (refine m_q 12 (v := ?_) (by kernel_rfl) rfl rfl (fun W hW => ?_) ?_; rotate_left; (go_simp; first | done | with_reducible rfl); simp only [Act.put, List.setIfInBounds_toArray, List.set_cons_zero, List.set_cons_succ])
        refine m_s1 13 (by kernel_rfl) rfl ?_
        go_wp2_with fail
        refine m_keep (W := put3 wz g (i * 3) (.int .i64 kj) (.int .i64 xj) (.int .i64 yj)) trivial ?_
        (refine m_q 14 (v := ?_) (by kernel_rfl) rfl rfl (fun W hW => ?_) ?_; rotate_left; (go_simp; first | done | with_reducible rfl); simp only [Act.put, List.setIfInBounds_toArray, List.set_cons_zero, List.set_cons_succ])
        have hB2 := hBw.put3 (i * 3) (.int .i64 kj) (.int .i64 xj) (.int .i64 yj)
        have hst2 := hst.set3 hin kj xj yj hkj
        have J2 := Jw.put3 hT hBw (by decide) (by decide) (by decide) hgb (i * 3) (.int .i64 kj) (.int .i64 xj) (.int .i64 yj)
        obtain ⟨wy, hwy⟩ : ∃ V, V = put3 wz g (i * 3) (.int .i64 kj) (.int .i64 xj) (.int .i64 yj) := ⟨_, rfl⟩
        rw [← hwy] at hB2 J2 ⊢
        clear hwy z0 z1 z2 z3 z4 z5 f0 f1 f2
        obtain ⟨_, _, _, _, r0, r1, r2⟩ := hst2 jj hjn
        have z0 := (hB2.cell _).trans r0
        have z1 := (hB2.cell _).trans r1
        have z2 := (hB2.cell _).trans r2
        have f0 := hB2.frozen (jj * 3)
        have f1 := hB2.frozen (jj * 3 + 1)
        have f2 := hB2.frozen (jj * 3 + 2)
        have hB3 := hB2.put3 (jj * 3) (.int .i64 ki) (.int .i64 xi) (.int .i64 yi)
        have hst3 := hst2.set3 hjn ki xi yi hki
        have J3 := J2.put3 hT hB2 (by decide) (by decide) (by decide) hgb (jj * 3) (.int .i64 ki) (.int .i64 xi) (.int .i64 yi)
        refine m_s1 15 (by kernel_rfl) rfl ?_
        go_wp2_with fail
        refine m_keep (W := put3 wy g (jj * 3) (.int .i64 ki) (.int .i64 xi) (.int .i64 yi)) trivial ?_
        refine m_end (by kernel_rfl) ?_
        clear z0 z1 z2 f0 f1 f2 r0 r1 r2
        go_wp2_with fail
        exact ⟨(k + 1, some ⟨g, 0, none⟩, n, c), rfl, ⟨by show k + 1 ≤ 3; omega, by first | rfl | trivial, by show n ≤ 67108864 + (k + 1); omega, J3, hideC ⟨hnc, hcm, .inr ⟨g, _, rfl, hgb, hB3, hst3⟩⟩⟩, by show 3 - (k + 1) < 3 - k; omega⟩
      · go_wp2_with fail
        refine m_keep trivial ?_
        refine m_s1 7 (by kernel_rfl) rfl ?_
        go_wp2_with fail
        refine m_keep trivial ?_
        have f0 := hBw.frozen (i * 3)
        have f1 := hBw.frozen (i * 3 + 1)
        have f2 := hBw.frozen (i * 3 + 2)
        (refine m_q 12 (v := ?_) (by kernel_rfl) rfl rfl (fun W hW => ?_) ?_; rotate_left; (go_simp; first | done | with_reducible rfl); simp only [Act.put, List.setIfInBounds_toArray, List.set_cons_zero, List.set_cons_succ])
        refine m_s1 13 (by kernel_rfl) rfl ?_
        go_wp2_with fail
        refine m_keep (W := put3 wz g (i * 3) (.int .i64 kj) (.int .i64 xj) (.int .i64 yj)) trivial ?_
        (refine m_q 14 (v := ?_) (by kernel_rfl) rfl rfl (fun W hW => ?_) ?_; rotate_left; (go_simp; first | done | with_reducible rfl); simp only [Act.put, List.setIfInBounds_toArray, List.set_cons_zero, List.set_cons_succ])
        have hB2 := hBw.put3 (i * 3) (.int .i64 kj) (.int .i64 xj) (.int .i64 yj)
        have hst2 := hst.set3 hin kj xj yj hkj
        have J2 := Jw.put3 hT hBw (by decide) (by decide) (by decide) hgb (i * 3) (.int .i64 kj) (.int .i64 xj) (.int .i64 yj)
        obtain ⟨wy, hwy⟩ : ∃ V, V = put3 wz g (i * 3) (.int .i64 kj) (.int .i64 xj) (.int .i64 yj) := ⟨_, rfl⟩
        rw [← hwy] at hB2 J2 ⊢
        clear hwy z0 z1 z2 z3 z4 z5 f0 f1 f2
        obtain ⟨_, _, _, _, r0, r1, r2⟩ := hst2 jj hjn
        have z0 := (hB2.cell _).trans r0
        have z1 := (hB2.cell _).trans r1
        have z2 := (hB2.cell _).trans r2
        have f0 := hB2.frozen (jj * 3)
        have f1 := hB2.frozen (jj * 3 + 1)
        have f2 := hB2.frozen (jj * 3 + 2)
        have hB3 := hB2.put3 (jj * 3) (.int .i64 ki) (.int .i64 xi) (.int .i64 yi)
        have hst3 := hst2.set3 hjn ki xi yi hki
        have J3 := J2.put3 hT hB2 (by decide) (by decide) (by decide) hgb (jj * 3) (.int .i64 ki) (.int .i64 xi) (.int .i64 yi)
        refine m_s1 15 (by kernel_rfl) rfl ?_
        go_wp2_with fail
        refine m_keep (W := put3 wy g (jj * 3) (.int .i64 ki) (.int .i64 xi) (.int .i64 yi)) trivial ?_
        refine m_end (by kernel_rfl) ?_
        clear z0 z1 z2 f0 f1 f2 r0 r1 r2
        go_wp2_with fail
        exact ⟨(k + 1, some ⟨g, 0, none⟩, n, c), rfl, ⟨by show k + 1 ≤ 3; omega, by first | rfl | trivial, by show n ≤ 67108864 + (k + 1); omega, J3, hideC ⟨hnc, hcm, .inr ⟨g, _, rfl, hgb, hB3, hst3⟩⟩⟩, by show 3 - (k + 1) < 3 - k; omega⟩
    · have e7 : ((sd : Int)).tmod 4 = 2 := by rw [Int.tmod_eq_emod_of_nonneg (by omega)]; omega
      have e8 : (sd : Int) % 4 = 2 := by omega
      clear hm
      go_wp2_with fail
      have hdw : Below wq.heap.size wq wq.drew := (Below.refl _ _).drew
      have hBw : Blk wq.drew g 48 cs := hBq.drew
      have Jw := Jq.next hdw
      obtain ⟨kj, xj, yj, hkj, qj0, qj1, qj2⟩ := hst jj hjn
      obtain ⟨i0, hi0, hz0, hz1, hz2⟩ := info_parts info_rstep
      refine wp_mix (fun V => Blk V g 48 cs) 16 (by kernel_rfl) (by kernel_rfl) hBw ?_
      obtain ⟨wz, hwz⟩ : ∃ V, V = wq.drew := ⟨_, rfl⟩
      rw [← hwz] at hdw hBw Jw ⊢
      clear hwz
      have hic : i ≤ c := by omega
      have hic2 : i ≤ n := by omega
      have hci : ¬ c = i := by omega
      (refine m_q 1 (v := ?_) (by kernel_rfl) rfl rfl (fun W hW => ?_) ?_; rotate_left; (go_simp; first | done | with_reducible rfl); simp only [Act.put, List.setIfInBounds_toArray, List.set_cons_zero, List.set_cons_succ]); (refine m_q 2 (v := ?_) (by kernel_rfl) rfl rfl (fun W hW => ?_) ?_; rotate_left; (go_simp; first | done | with_reducible rfl); simp only [Act.put, List.setIfInBounds_toArray, List.set_cons_zero, List.set_cons_succ])
      (refine m_q 3 (v := ?_) (by kernel_rfl) rfl rfl (fun W hW => ?_) ?_; rotate_left; (go_simp; first | done | with_reducible rfl); simp only [Act.put, List.setIfInBounds_toArray, List.set_cons_zero, List.set_cons_succ])
      (refine m_q 5 (v := ?_) (by kernel_rfl) rfl rfl (fun W hW => ?_) ?_; rotate_left; (go_simp; first | done | with_reducible rfl); simp only [Act.put, List.setIfInBounds_toArray, List.set_cons_zero, List.set_cons_succ]); (refine m_q 6 (v := ?_) (by kernel_rfl) rfl rfl (fun W hW => ?_) ?_; rotate_left; (go_simp; first | done | with_reducible rfl); simp only [Act.put, List.setIfInBounds_toArray, List.set_cons_zero, List.set_cons_succ]); (refine m_q 7 (v := ?_) (by kernel_rfl) rfl rfl (fun W hW => ?_) ?_; rotate_left; (go_simp; first | done | with_reducible rfl); simp only [Act.put, List.setIfInBounds_toArray, List.set_cons_zero, List.set_cons_succ])
      (refine m_q 8 (v := ?_) (by kernel_rfl) rfl rfl (fun W hW => ?_) ?_; rotate_left; (have z0 := (hW.cell _).trans qj0; have z1 := (hW.cell _).trans qj1; have z2 := (hW.cell _).trans qj2; go_simp; first | done | with_reducible rfl); simp only [Act.put, List.setIfInBounds_toArray, List.set_cons_zero, List.set_cons_succ])
      (refine m_q 11 (v := ?_) (by kernel_rfl) rfl rfl (fun W hW => ?_) ?_; rotate_left; (go_simp; first | done | with_reducible rfl); simp only [Act.put, List.setIfInBounds_toArray, List.set_cons_zero, List.set_cons_succ]); (refine m_q 12 (v := ?_) (by kernel_rfl) rfl rfl (fun W hW => ?_) ?_; rotate_left; (go_simp; first | done | with_reducible rfl); simp only [Act.put, List.setIfInBounds_toArray, List.set_cons_zero, List.set_cons_succ]); (refine m_q 13 (v := ?_) (by kernel_rfl) rfl rfl (fun W hW => ?_) ?_; rotate_left; (go_simp; first | done | with_reducible rfl); simp only [Act.put, List.setIfInBounds_toArray, List.set_cons_zero, List.set_cons_succ])
      have hl1 := srcL_len hst (k := 0) (m := i) (by omega)
      have ho1 := srcL_one hst (k := 0) (m := i) (by omega)
      have HL1 := Lib.hid hl1; clear hl1
      refine m_join (β := Value × Nat) #[true, true, true, true, true, true, true, true, true, true, false, true, true, true, false, false] 3
        (fun b f => #[f 0, .slice (some ⟨g0, off0, none⟩) zq.length cS, f 2, f 3, f 4, .pointer (some ⟨X3, 0, none⟩), .pointer (some ⟨X3 + 1, 0, none⟩), .slice (some ⟨g, 0, none⟩) n c, .int .i64 (k : Int), f 9, f 10, f 11, f 12, f 13, f 14, f 15, f 16, f 17, f 18, f 19, f 20, f 21, f 22, f 23, f 24, f 25, f 26, f 27, f 28, f 29, f 30, f 31, f 32, f 33, f 34, f 35, f 36, f 37, f 38, f 39, f 40, f 41, f 42, f 43, f 44, f 45, f 46, f 47, f 48, f 49, f 50, f 51, f 52, f 53, f 54, f 55, f 56, f 57, f 58, f 59, f 60, f 61, f 62, f 63, f 64, f 65, f 66, f 67, f 68, f 69, f 70, f 71, f 72, f 73, f 74, f 75, f 76, f 77, f 78, f 79, f 80, f 81, f 82, f 83, f 84, f 85, f 86, f 87, f 88, f 89, f 90, f 91, f 92, f 93, f 94, f 95, f 96, f 97, f 98, f 99, f 100, f 101, f 102, f 103, f 104, f 105, f 106, f 107, f 108, f 109, f 110, b.1, f 112, f 113, f 114, f 115, .slice (some ⟨b.2, 0, none⟩) 1 1, f 117, f 118, f 119, .slice (some ⟨g, i * 3, none⟩) (n - i) (c - i), f 121, f 122, f 123, f 124, f 125, f 126, f 127, f 128, f 129, f 130, f 131, f 132, f 133, f 134, f 135, f 136, f 137, f 138, f 139, f 140, f 141, f 142, f 143, f 144, f 145, f 146, f 147, f 148, f 149, f 150, f 151, f 152])
        (fun b ds W => ds = [] ∧ W.ownsRow wz.heap.size 48 3 b.1 (0 + i) ([] ++ srcL cs 0 i) ∧ Blk W b.2 48 #[.int .i64 kj, .int .i64 xj, .int .i64 yj] ∧ Below wz.heap.size wz W) ?_ ?_
      · rintro ⟨v1, h9⟩ f2 ds2 W ⟨rfl, hown1, hB9, hb1⟩
        dsimp only at hown1 hB9 ⊢
        have hsz1 := hb1.size
        have hst9 : StepAt (fun i => ([.int .i64 kj, .int .i64 xj, .int .i64 yj] : List Value)[i]?) 1 := fun j hj => by
          obtain rfl : j = 0 := by omega
          exact ⟨kj, xj, yj, hkj, rfl, rfl, rfl⟩
        have hs9 : ∀ (j : Nat) u, ([.int .i64 kj, .int .i64 xj, .int .i64 yj] : List Value)[j]? = some u → W.cell? ((⟨h9, 0, none⟩ : Addr).add j) = some u := fun j u hu => by
          have e : (⟨h9, 0, none⟩ : Addr).add j = ⟨h9, 0 + j, none⟩ := by unfold Addr.add; split <;> simp_all
          rw [e, hB9.cell, Nat.zero_add, ← hu]; simp
        have HS9 := hideC hs9; clear hs9
        refine m_s1 10 (by kernel_rfl) rfl ?_
        go_wp2_with (at_builtin; refine wpList_append_own _ rfl _ _ 74 rfl wz.heap.size 48 i0 (.agg #[.int .i64 0, .int .i64 0, .int .i64 0]) 3 24 Tryd.underlying74 hi0 hz0 hz1 hz2 rfl (by decide) _ _ _ rfl hown1 ⟨h9, 0, none⟩ (1) (1) ([.int .i64 kj, .int .i64 xj, .int .i64 yj]) rfl (by rfl) HS9.out (by intro u hu; simp at hu; rcases hu with rfl | rfl | rfl <;> rfl) (by unfold maxLen; omega) (by omega) (by first | omega | (simp; done) | (simp; omega)) ?_; intro v2 w6 hown2 hgrow2 _)
        have hb2 : Below wz.heap.size wz w6 := hb1.grown hgrow2 (by omega) (fun q hq => (hown1.lt q hq).1)
        refine m_keep (hBw.below hb2 hBw.lt) ?_
        have hsz2 := hb2.size
        have hs2 := srcL_cells (hBw.below hb2 hBw.lt) hst (k := i) (m := n - i) (by omega) (off := i * 3) (by omega)
        have hl2 := srcL_len hst (k := i) (m := n - i) (by omega)
        have ho2 := srcL_one hst (k := i) (m := n - i) (by omega)
        have HS2 := hideC hs2; have HL2 := Lib.hid hl2; clear hs2 hl2
        refine m_s1 14 (by kernel_rfl) rfl ?_
        go_wp2_with (at_builtin; refine wpList_append_own _ rfl _ _ 74 rfl wz.heap.size 48 i0 (.agg #[.int .i64 0, .int .i64 0, .int .i64 0]) 3 24 Tryd.underlying74 hi0 hz0 hz1 hz2 rfl (by decide) _ _ _ rfl hown2 ⟨g, i * 3, none⟩ (n - i) (c - i) (srcL cs i (n - i)) rfl (HL2.out) HS2.out (ho2) (by unfold maxLen; omega) (by omega) (by first | omega | (simp; done) | (simp; omega)) ?_; intro v3 w7 hown3 hgrow3 _)
        have hb3 : Below wz.heap.size wz w7 := hb2.grown hgrow3 (by omega) (fun q hq => (hown2.lt q hq).1)
        rw [List.nil_append, Nat.zero_add] at hown3
        obtain ⟨A2, c2x, rfl, hp⟩ := PR.of_own hown3 ((((srcL_step hst (by omega)).app hst9 HL1.out)).app (srcL_step hst (by omega)) (by rw [List.length_append, HL1.out]; simp; omega))
        refine m_keep (hBw.below hb3 hBw.lt) ?_
        refine m_s1 15 (by kernel_rfl) rfl ?_
        go_wp2_with fail
        refine m_keep (hBw.below hb3 hBw.lt) ?_
        refine m_end (by kernel_rfl) ?_
        have J6 := Jw.next hb3
        have hp6 := hp.low Jw.below.size
        clear hb1 hb2 hb3 hown1 hown2 hown3 hgrow2 hgrow3 ho1 ho2 hp Jw HL1 HS2 HL2 HS9 hst9
        go_wp2_with fail
        exact ⟨(k + 1, A2, _, c2x), rfl, ⟨by show k + 1 ≤ 3; omega, by first | rfl | trivial, by show i + 1 + (n - i) ≤ 67108864 + (k + 1); omega, J6, hideC hp6⟩, by show 3 - (k + 1) < 3 - k; omega⟩
      intro HL
      refine m_s2 0 9 (by kernel_rfl) rfl rfl ?_ ?_
      · go_wp2_with fail
        have own0 := World.ownsRow_lit (base := wz.heap.size) (e := 48) (size := 3) wz #[] 0 (Nat.le_refl _) (by decide) rfl
        have hb0 : Below wz.heap.size wz (wz.alloc (.cells #[] 48)) := (Below.refl _ _).alloc (Nat.le_refl _) _
        refine m_keep (hBw.below hb0 hBw.lt) ?_
        refine m_s2 4 9 (by kernel_rfl) rfl rfl ?_ ?_
        · have hs1 := srcL_cells (hBw.below hb0 hBw.lt) hst (k := 0) (m := i) (by omega) (off := 0) (Or.inr (by omega))
          have HS1 := hideC hs1; clear hs1
          go_wp2_with (at_builtin; refine wpList_append_own _ rfl _ _ 74 rfl wz.heap.size 48 i0 (.agg #[.int .i64 0, .int .i64 0, .int .i64 0]) 3 24 Tryd.underlying74 hi0 hz0 hz1 hz2 rfl (by decide) _ _ _ rfl own0 ⟨g, 0, none⟩ (i) (c) (srcL cs 0 i) rfl (HL1.out) HS1.out (ho1) (by unfold maxLen; omega) (by omega) (by first | omega | (simp; done) | (simp; omega)) ?_; intro v1 w5 hown1 hgrow1 _)
          have hb1 : Below wz.heap.size wz w5 := hb0.grown hgrow1 (by simp) (fun q hq => (own0.lt q hq).1)
          refine m_keep (hBw.below hb1 hBw.lt) ?_
          refine m_s1 9 (by kernel_rfl) rfl ?_
          go_wp2_with fail
          have hb9 := hb1.alloc hb1.size (.cells #[.int .i64 kj, .int .i64 xj, .int .i64 yj] 48)
          refine m_keep (hBw.below hb9 hBw.lt) ?_
          exact HL (v1, w5.heap.size) _ _ _ (by kernel_rfl) rfl ⟨by first | rfl | trivial, own_below hown1 ((Below.refl _ _).alloc (Nat.le_refl _) _), Blk.new _ _ _, hb9⟩
        · go_wp2_with fail
          have hb9 := hb0.alloc hb0.size (.cells #[.int .i64 kj, .int .i64 xj, .int .i64 yj] 48)
          have own1 := own_below own0 ((Below.refl _ _).alloc (Nat.le_refl _) (.cells #[.int .i64 kj, .int .i64 xj, .int .i64 yj] 48))
          have hB9 : Blk ((wz.alloc (.cells #[] 48)).alloc (.cells #[.int .i64 kj, .int .i64 xj, .int .i64 yj] 48)) (wz.heap.size + 1) 48 #[.int .i64 kj, .int .i64 xj, .int .i64 yj] := Blk.new_ (by simp) _ _
          refine m_keep (hBw.below hb9 hBw.lt) ?_
          have hs1 := srcL_cells (hBw.below hb9 hBw.lt) hst (k := 0) (m := i) (by omega) (off := 0) (Or.inr (by omega))
          have HS1 := hideC hs1; clear hs1
          refine m_s1 4 (by kernel_rfl) rfl ?_
          go_wp2_with (at_builtin; refine wpList_append_own _ rfl _ _ 74 rfl wz.heap.size 48 i0 (.agg #[.int .i64 0, .int .i64 0, .int .i64 0]) 3 24 Tryd.underlying74 hi0 hz0 hz1 hz2 rfl (by decide) _ _ _ rfl own1 ⟨g, 0, none⟩ (i) (c) (srcL cs 0 i) rfl (HL1.out) HS1.out (ho1) (by unfold maxLen; omega) (by omega) (by first | omega | (simp; done) | (simp; omega)) ?_; intro v1 w5 hown1 hgrow1 _)
          have hb1 : Below wz.heap.size wz w5 := hb9.grown hgrow1 (by simp; omega) (fun q hq => (own1.lt q hq).1)
          refine m_keep (hBw.below hb1 hBw.lt) ?_
          have hgx : World.grownBy _ w5 (some wz.heap.size) := hgrow1
          exact HL (v1, _) _ _ _ (by kernel_rfl) rfl ⟨by first | rfl | trivial, hown1, hB9.grown hgx (by simp), hb1⟩
      · go_wp2_with fail
        have hb9 : Below wz.heap.size wz (wz.alloc (.cells #[.int .i64 kj, .int .i64 xj, .int .i64 yj] 48)) := (Below.refl _ _).alloc (Nat.le_refl _) _
        have hB9 := Blk.new wz 48 #[.int .i64 kj, .int .i64 xj, .int .i64 yj]
        refine m_keep (hBw.below hb9 hBw.lt) ?_
        refine m_s1 0 (by kernel_rfl) rfl ?_
        go_wp2_with fail
        have own0 := World.ownsRow_lit (base := wz.heap.size) (e := 48) (size := 3) (wz.alloc (.cells #[.int .i64 kj, .int .i64 xj, .int .i64 yj] 48)) #[] 0 (by simp) (by decide) rfl
        rw [show (wz.alloc (.cells #[.int .i64 kj, .int .i64 xj, .int .i64 yj] 48)).heap.size = wz.heap.size + 1 by simp] at own0
        have hb0 := hb9.alloc hb9.size (.cells #[] 48)
        have hB9b := hB9.alloc (.cells #[] 48)
        refine m_keep (hBw.below hb0 hBw.lt) ?_
        have hs1 := srcL_cells (hBw.below hb0 hBw.lt) hst (k := 0) (m := i) (by omega) (off := 0) (Or.inr (by omega))
        have HS1 := hideC hs1; clear hs1
        refine m_s1 4 (by kernel_rfl) rfl ?_
        go_wp2_with (at_builtin; refine wpList_append_own _ rfl _ _ 74 rfl wz.heap.size 48 i0 (.agg #[.int .i64 0, .int .i64 0, .int .i64 0]) 3 24 Tryd.underlying74 hi0 hz0 hz1 hz2 rfl (by decide) _ _ _ rfl own0 ⟨g, 0, none⟩ (i) (c) (srcL cs 0 i) rfl (HL1.out) HS1.out (ho1) (by unfold maxLen; omega) (by omega) (by first | omega | (simp; done) | (simp; omega)) ?_; intro v1 w5 hown1 hgrow1 _)
        have hb1 : Below wz.heap.size wz w5 := hb0.grown hgrow1 (by simp; omega) (fun q hq => (own0.lt q hq).1)
        refine m_keep (hBw.below hb1 hBw.lt) ?_
        have hgx : World.grownBy _ w5 (some (wz.heap.size + 1)) := hgrow1
        exact HL (v1, _) _ _ _ (by kernel_rfl) rfl ⟨by first | rfl | trivial, hown1, hB9b.grown hgx (by simp), hb1⟩
    · have e7 : ((sd : Int)).tmod 4 = 3 := by rw [Int.tmod_eq_emod_of_nonneg (by omega)]; omega
      have e8 : (sd : Int) % 4 = 3 := by omega
      obtain ⟨q, hq⟩ : ∃ q, q = sw % 4 := ⟨_, rfl⟩
      have e9 : ((sw : Int)).tmod 4 = (q : Int) := by rw [hq, Int.tmod_eq_emod_of_nonneg (by omega)]; omega
      have e10 : (sw : Int) % 4 = (q : Int) := by rw [hq]; omega
      have hq3 : q ≤ 3 := by omega
      clear hq hm
      obtain ⟨k0, xx, yy, hk0, q0, q1, q2⟩ := hst i hin
      have z0 := (hBq.cell _).trans q0
      have z1 := hBq.frozen (i * 3)
      have hst2 := hst.set1 hin (1 + q) (by omega)
      have hB2 := hBq.set_ (i * 3) (.int .i64 ((1 + q : Nat) : Int))
      have J2 := Jq.set_ hT hBq (by decide) (by decide) (by decide) hgb (i * 3) (.int .i64 ((1 + q : Nat) : Int))
      rw [show ((1 + q : Nat) : Int) = 1 + (q : Int) by omega] at hst2 hB2 J2
      clear q0 q1 q2
      go_wp2_with fail
      exact ⟨(k + 1, some ⟨g, 0, none⟩, n, c), rfl, ⟨by show k + 1 ≤ 3; omega, by first | rfl | trivial, by show n ≤ 67108864 + (k + 1); omega, J2, hideC ⟨hnc, hcm, .inr ⟨g, _, rfl, hgb, hB2, hst2⟩⟩⟩, by show 3 - (k + 1) < 3 - k; omega⟩
  · obtain ⟨lq, hcl, hkd, hrQ⟩ := HPR.out.row
    obtain ⟨hnc, hcm, _⟩ := HPR.out
    unfold maxLen at hcm
    have HCL := Lib.hid hcl
    have HKD := Lib.hid hkd
    clear hcl hkd HPR
    rcases (show ¬ k < zq.length ∨ (k < zq.length ∧ ¬ k < 3) ∨ (k < zq.length ∧ k < 3 ∧ ¬ 0 < n) by omega) with h1 | ⟨h1, h2⟩ | ⟨h1, h2, h3⟩
    all_goals
      clear hgo
      go_upto_region 17 with fail
      have x0 := J.old.cell 0
      have x1 := J.old.cell 1
      have x2 := J.old.cell 2
      have x3 := J.old.cell 3
      have y0 := J.new.cell 0
      have y1 := J.new.cell 1
      have y2 := J.new.cell 2
      have y3 := J.new.cell 3
      have hd : Below wr.heap.size wr wr.drew := (Below.refl _ _).drew
      have Jq := J.next hd
      have hrq := hrQ.below hd
      obtain ⟨wq, hwq⟩ : ∃ V, V = wr.drew := ⟨_, rfl⟩
      rw [← hwq] at hd Jq hrq
      refine wp_mix (fun V => Below wr.heap.size wr V) 14 (by kernel_rfl) (by kernel_rfl) (Below.refl _ _).drew ?_
      rw [← hwq]
      clear hwq
      (refine m_q 0 (v := ?_) (by kernel_rfl) rfl rfl (fun W hW => ?_) ?_; rotate_left; (have z0 := onB hW x0; have z1 := onB hW x1; have z2 := onB hW x2; have z3 := onB hW x3; have u0 := onB hW y0; have u1 := onB hW y1; have u2 := onB hW y2; have u3 := onB hW y3; go_simp; first | done | with_reducible rfl); simp only [Act.put, List.setIfInBounds_toArray, List.set_cons_zero, List.set_cons_succ]); (refine m_q 2 (v := ?_) (by kernel_rfl) rfl rfl (fun W hW => ?_) ?_; rotate_left; (have z0 := onB hW x0; have z1 := onB hW x1; have z2 := onB hW x2; have z3 := onB hW x3; have u0 := onB hW y0; have u1 := onB hW y1; have u2 := onB hW y2; have u3 := onB hW y3; go_simp; first | done | with_reducible rfl); simp only [Act.put, List.setIfInBounds_toArray, List.set_cons_zero, List.set_cons_succ]); (refine m_q 4 (v := ?_) (by kernel_rfl) rfl rfl (fun W hW => ?_) ?_; rotate_left; (have z0 := onB hW x0; have z1 := onB hW x1; have z2 := onB hW x2; have z3 := onB hW x3; have u0 := onB hW y0; have u1 := onB hW y1; have u2 := onB hW y2; have u3 := onB hW y3; go_simp; first | done | with_reducible rfl); simp only [Act.put, List.setIfInBounds_toArray, List.set_cons_zero, List.set_cons_succ])
      clear x0 x1 x2 x3 y0 y1 y2 y3
      refine m_s1 1 (by kernel_rfl) rfl ?_
      go_wp2_with fail
      refine Jq.cfgA.mono ?_
      rintro e w5 ⟨q1, r1, rfl, hq1, hb5⟩
      have J5 := Jq.next hb5
      have hr5 := hrq.below hb5
      go_wp2_with fail
      refine m_next (hd.trans (hb5.mono hd.size)) ?_
      refine m_s1 3 (by kernel_rfl) rfl ?_
      go_wp2_with fail
      refine J5.cfgB.mono ?_
      rintro e w6 ⟨q2, r2, rfl, hq2, hb6⟩
      have J6 := J5.next hb6
      have hr6 := hr5.below hb6
      have hq1' := hq1.below hb6
      have HST := hideC (steps_any A c lq w6 hr6 HKD.out (by rw [HCL.out]; omega))
      rw [HCL.out] at HST
      go_wp2_with fail
      refine m_next hb6 ?_
      refine m_s1 5 (by kernel_rfl) rfl ?_
      go_wp2_with fail
      refine HST.out.mono ?_
      rintro e w7 ⟨v7, rfl, ho7, hb7⟩
      obtain ⟨A7, c7, rfl, hr7⟩ := row_of_own3 ho7
      have J7 := J6.next hb7
      have hr67 := hr6.below hb7
      have HV := hideC (J7.verify (Below.refl _ _) (hq1'.below hb7) (hq2.below hb7) (c := c7) hr7 HCL.out HKD.out (by unfold maxLen; omega))
      clear HST
      go_wp2_with fail
      refine m_next hb7 ?_
      refine m_s1 6 (by kernel_rfl) rfl ?_
      go_wp2_with fail
      refine HV.out.mono ?_
      rintro e w8 ⟨rfl, hb8⟩
      have J8 := J7.next hb8
      have hr8 := hr67.below hb8
      go_wp2_with fail
      refine m_next hb8 ?_
      (refine m_q 7 (v := ?_) (by kernel_rfl) rfl rfl (fun W hW => ?_) ?_; rotate_left; (go_simp; first | done | with_reducible rfl); simp only [Act.put, List.setIfInBounds_toArray, List.set_cons_zero, List.set_cons_succ]); (refine m_q 8 (v := ?_) (by kernel_rfl) rfl rfl (fun W hW => ?_) ?_; rotate_left; (go_simp; first | done | with_reducible rfl); simp only [Act.put, List.setIfInBounds_toArray, List.set_cons_zero, List.set_cons_succ]); (refine m_q 9 (v := ?_) (by kernel_rfl) rfl rfl (fun W hW => ?_) ?_; rotate_left; (go_simp; first | done | with_reducible rfl); simp only [Act.put, List.setIfInBounds_toArray, List.set_cons_zero, List.set_cons_succ]); (refine m_q 10 (v := ?_) (by kernel_rfl) rfl rfl (fun W hW => ?_) ?_; rotate_left; (go_simp; first | done | with_reducible rfl); simp only [Act.put, List.setIfInBounds_toArray, List.set_cons_zero, List.set_cons_succ]); (refine m_q 11 (v := ?_) (by kernel_rfl) rfl rfl (fun W hW => ?_) ?_; rotate_left; (go_simp; first | done | with_reducible rfl); simp only [Act.put, List.setIfInBounds_toArray, List.set_cons_zero, List.set_cons_succ]); (refine m_q 12 (v := ?_) (by kernel_rfl) rfl rfl (fun W hW => ?_) ?_; rotate_left; (go_simp; first | done | with_reducible rfl); simp only [Act.put, List.setIfInBounds_toArray, List.set_cons_zero, List.set_cons_succ]); (refine m_q 13 (v := ?_) (by kernel_rfl) rfl rfl (fun W hW => ?_) ?_; rotate_left; (go_simp; first | done | with_reducible rfl); simp only [Act.put, List.setIfInBounds_toArray, List.set_cons_zero, List.set_cons_succ])
      refine m_end (by kernel_rfl) ?_
      have HRV := hideC (J8.rverify (c := c) hr8 HCL.out (by unfold maxLen; omega))
      have hbd := verJ_bd p M P M' P' lq
      obtain ⟨r1v, hr1v⟩ : ∃ r, r = (verJ p M P M' P' lq).1 := ⟨_, rfl⟩
      obtain ⟨r2v, hr2v⟩ : ∃ r, r = (verJ p M P M' P' lq).2 := ⟨_, rfl⟩
      rw [← hr1v, ← hr2v] at hbd HRV ⊢
      obtain ⟨l1, l2, l3⟩ := hbd
      have hwr : IntKind.i64.wrap (r1v : Int) = (r1v : Int) := i64w ⟨by omega, by omega⟩
      have x0 := J8.old.cell 0
      have x1 := J8.old.cell 1
      have x2 := J8.old.cell 2
      have x3 := J8.old.cell 3
      have y0 := J8.new.cell 0
      have y1 := J8.new.cell 1
      have y2 := J8.new.cell 2
      have y3 := J8.new.cell 3
      clear hr1v hr2v J Jq J5 J6 J7 hq1 hq1' hq2 hb5 hb6 hb7 hb8 hd hr5 hr6 hr67 hr7 hr8 HV
      go_wp2_with fail
      refine HRV.out.mono ?_
      rintro e w9 ⟨rfl, hb9⟩
      go_wp2_with fail
      go_ret
      exact ⟨rfl, (J8.next hb9).below⟩
end Mix2
end Go.Proofs.YthkjigggfeejdaaDoor
