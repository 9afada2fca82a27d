import Derived.Test.YthkjigggfeejdaaDoorMl6
namespace Go.Proofs.YthkjigggfeejdaaDoor
open Go.RowKit

/-- A kind, its lowest eight bits. -/
def conv (x : Int) : Nat := (BitVec.ofInt 64 x).toNat % 256
theorem conv_le (x : Int) : conv x ≤ 255 := by unfold conv; omega
theorem and_conv (x : Int) : bits .and .i64 x 255 = (conv x : Int) := by
  show IntKind.i64.wrap ((BitVec.ofInt 64 x &&& BitVec.ofInt 64 255).toNat : Int) = _
  unfold conv
  rw [BitVec.toNat_and, show (BitVec.ofInt 64 255).toNat = 2 ^ 8 - 1 by decide, Nat.and_two_pow_sub_one_eq_mod, IntKind.wrap_i64]
  omega
/-- Steps of the reference's as they come in. -/
def cellsI (l : List (Int × Int × Int)) : List Value := l.flatMap fun s => [.int .i64 s.1, .int .i64 s.2.1, .int .i64 s.2.2]
theorem cellsI_cons (s : Int × Int × Int) (l : List (Int × Int × Int)) : cellsI (s :: l) = [.int .i64 s.1, .int .i64 s.2.1, .int .i64 s.2.2] ++ cellsI l := rfl
theorem cellsI_len (l : List (Int × Int × Int)) : (cellsI l).length = l.length * 3 := by
  induction l with
  | nil => rfl
  | cons s l ih => rw [cellsI_cons, List.length_append, ih]; simp; omega
theorem cellsI_take : ∀ (l : List (Int × Int × Int)) (n : Nat), cellsI (l.take n) = (cellsI l).take (n * 3)
  | [], n => by simp [cellsI]
  | s :: l, 0 => by simp [cellsI]
  | s :: l, n + 1 => by
    rw [List.take_succ_cons, cellsI_cons, cellsI_cons, cellsI_take l n, List.take_append]
    rw [show (n + 1) * 3 - [Value.int .i64 s.1, .int .i64 s.2.1, .int .i64 s.2.2].length = n * 3 by simp; omega]
    rw [List.take_of_length_le (l := [Value.int .i64 s.1, .int .i64 s.2.1, .int .i64 s.2.2]) (by simp; omega)]
theorem cellsI_get : ∀ (l : List (Int × Int × Int)) (k : Nat) s, l[k]? = some s → (cellsI l)[k * 3]? = some (.int .i64 s.1) ∧ (cellsI l)[k * 3 + 1]? = some (.int .i64 s.2.1) ∧ (cellsI l)[k * 3 + 2]? = some (.int .i64 s.2.2)
  | [], _, _, h => by simp at h
  | a :: l, 0, s, h => by
    simp at h; subst h
    exact ⟨rfl, rfl, rfl⟩
  | a :: l, k + 1, s, h => by
    have h2 : l[k]? = some s := by simpa using h
    obtain ⟨h0, h1, h3⟩ := cellsI_get l k s h2
    rw [cellsI_cons]
    refine ⟨?_, ?_, ?_⟩
    · rw [List.getElem?_append_right (by simp; omega)]; rw [← h0]; congr 1; simp; omega
    · rw [List.getElem?_append_right (by simp; omega)]; rw [← h1]; congr 1; simp; omega
    · rw [List.getElem?_append_right (by simp; omega)]; rw [← h3]; congr 1; simp; omega
theorem cellsI_one (l : List (Int × Int × Int)) : ∀ u ∈ cellsI l, u.oneCell' = true := by
  intro u hu
  unfold cellsI at hu
  obtain ⟨s, _, hs⟩ := List.mem_flatMap.1 hu
  simp at hs
  rcases hs with rfl | rfl | rfl <;> rfl
/-- A slice of steps that came in. -/
def IsRS (w : World) (v : Value) (zq : List (Int × Int × Int)) : Prop := ∃ A c, v = .slice A zq.length c ∧ Row w A (cellsI zq) ∧ zq.length ≤ c ∧ c ≤ maxLen ∧ (A = none → zq.length = 0 ∧ c = 0)
theorem IsRS.below {w w' : World} {v : Value} {zq : List (Int × Int × Int)} (h : IsRS w v zq) (hb : Below w.heap.size w w') : IsRS w' v zq := by
  obtain ⟨A, c, h1, h2, h3, h4, h5⟩ := h
  exact ⟨A, c, h1, h2.below hb, h3, h4, h5⟩
theorem Row.take {w : World} {A : Option Addr} {cs : List Value} (h : Row w A cs) (n : Nat) : Row w A (cs.take n) := fun hn => by
  obtain ⟨g, off, hA, hg, hc⟩ := h (by rw [List.length_take] at hn; omega)
  refine ⟨g, off, hA, hg, fun k u hu => hc k u ?_⟩
  rw [List.getElem?_take] at hu
  split at hu
  · exact hu
  · cases hu
set_option maxRecDepth 100000 in
set_option maxHeartbeats 2000000 in
/-- slices.Clone of steps. -/
theorem clonesteps_any (A : Option Addr) (n c : Nat) (l : List (Int × Int × Int)) (w : World) (hr : Row w A (cellsI l)) (hn : l.length = n) (hL : n ≤ 1000000) (hA : A = none → n = 0 ∧ c = 0) :
    Calls Tryd.prog 31 #[.slice A n c] w fun e w' => ∃ v, e = .returned v ∧ w'.ownsRow w.heap.size 48 3 v n (cellsI l) ∧ Below w.heap.size w w' := by
  obtain ⟨i0, hi0, hz0, hz1, hz2⟩ := info_parts info_rstep
  rcases A with _ | ad
  · obtain ⟨rfl, rfl⟩ := hA rfl
    have hl : l = [] := List.eq_nil_of_length_eq_zero hn
    subst hl
    have hnil : ∀ W, (binOp .eql 74 (.slice none 0 0) (.slice none 0 0)).run Tryd.prog W = .ok (.bool true) W := fun W => by
      simp only [binOp]
      simp [run_equal_slice_nil W 74 48 none 0 0 Tryd.underlying74]
    clear hn hA
    go_enter Tryd.func31, Tryd.ntmps31
    go_wp2_with fail
    go_ret
    exact ⟨_, rfl, World.ownsRow_nil _ _ _ _, Below.refl _ _⟩
  · have hlen : (cellsI l).length = n * 3 := by rw [cellsI_len, hn]
    have hcell : ∀ (j : Nat) u, (cellsI l)[j]? = some u → (w.alloc (.cells #[] 48)).cell? (ad.add j) = some u := fun j u hu => by
      obtain ⟨g, off, e, hg, hc⟩ := hr (by have := (List.getElem?_eq_some_iff.1 hu).1; omega)
      cases e
      have e : (⟨g, off, none⟩ : Addr).add j = ⟨g, off + j, none⟩ := by unfold Addr.add; split <;> simp_all
      rw [e]; exact (World.cell?_alloc_lt _ _ _ hg).trans (hc j u hu)
    have HC := Lib.hid hcell
    have HL := Lib.hid hlen
    have own0 := World.ownsRow_lit (base := w.heap.size) (e := 48) (size := 3) w #[] 0 (Nat.le_refl _) (by decide) rfl
    have hb0 := (Below.refl w.heap.size w).alloc (Nat.le_refl _) (.cells #[] 48)
    have hnil := fun W => run_eql_some_nil (P := Tryd.prog) Tryd.underlying74 ad n c W
    clear hcell hlen hr hn hA
    go_enter Tryd.func31, Tryd.ntmps31
    go_wp2_with (at_builtin; refine wpList_append_own _ rfl _ _ 74 rfl w.heap.size 48 i0 (.agg #[.int .i64 0, .int .i64 0, .int .i64 0]) 3 24 Tryd.underlying74 hi0 hz0 hz1 hz2 rfl (by decide) _ _ _ rfl own0 ad n c (cellsI l) rfl HL.out HC.out (cellsI_one l) (by unfold maxLen; omega) (by omega) (by simp) ?_; intro v' w3 hown' hgrow _)
    go_ret
    exact ⟨v', rfl, by simpa using hown', hb0.grown hgrow (by simp) (fun q hq => (own0.lt q hq).1)⟩
/-- Block g holds the steps zq, the first k kinds cut to eight bits. -/
def KR (W : World) (g k : Nat) (zq : List (Int × Int × Int)) : Prop :=
  ∃ cs, Blk W g 48 cs ∧ ∀ (j : Nat) s, zq[j]? = some s → cs[j * 3]? = some (.int .i64 (if j < k then (conv s.1 : Int) else s.1)) ∧ cs[j * 3 + 1]? = some (.int .i64 s.2.1) ∧ cs[j * 3 + 2]? = some (.int .i64 s.2.2)
theorem KR.below {W W' : World} {g k : Nat} {zq : List (Int × Int × Int)} (h : KR W g k zq) (hb : Below W.heap.size W W') : KR W' g k zq := by
  obtain ⟨cs, h1, h2⟩ := h; exact ⟨cs, h1.below hb h1.lt, h2⟩
theorem KR.step {W : World} {g k : Nat} {zq : List (Int × Int × Int)} {s : Int × Int × Int} (h : KR W g k zq) (hs : zq[k]? = some s) : KR (W.setCell ⟨g, k * 3, none⟩ (.int .i64 (conv s.1 : Int))) g (k + 1) zq := by
  obtain ⟨cs, h1, h2⟩ := h
  refine ⟨_, h1.set_ (k * 3) _, fun j t ht => ?_⟩
  obtain ⟨q0, q1, q2⟩ := h2 j t ht
  have hlt : k * 3 < cs.size := (Array.getElem?_eq_some_iff.1 (h2 k s hs).1).1
  refine ⟨?_, ?_, ?_⟩
  · by_cases e : j = k
    · subst e
      rw [hs] at ht; cases ht
      rw [Array.getElem?_setIfInBounds_self_of_lt hlt, if_pos (by omega)]
    · rw [Array.getElem?_setIfInBounds_ne (by omega), q0]
      by_cases h3 : j < k
      · rw [if_pos h3, if_pos (by omega)]
      · rw [if_neg h3, if_neg (by omega)]
  · rw [Array.getElem?_setIfInBounds_ne (by omega), q1]
  · rw [Array.getElem?_setIfInBounds_ne (by omega), q2]
theorem KR.at_ {W : World} {g k j : Nat} {zq : List (Int × Int × Int)} {s : Int × Int × Int} (h : KR W g k zq) (hs : zq[j]? = some s) (hk : k ≤ j) : W.cell? ⟨g, j * 3, none⟩ = some (.int .i64 s.1) ∧ W.frozen? ⟨g, j * 3, none⟩ = false ∧ g < W.heap.size := by
  obtain ⟨cs, h1, h2⟩ := h
  refine ⟨?_, h1.frozen _, h1.lt⟩
  rw [h1.cell, (h2 j s hs).1, if_neg (by omega)]
/-- The steps with their kinds cut. -/
def cut8 (zq : List (Int × Int × Int)) : List (Nat × Int × Int) := zq.map fun s => (conv s.1, s.2.1, s.2.2)
theorem cut8_len (zq : List (Int × Int × Int)) : (cut8 zq).length = zq.length := by simp [cut8]
theorem cut8_kind (zq : List (Int × Int × Int)) : ∀ s ∈ cut8 zq, s.1 ≤ 255 := by
  intro s hs
  obtain ⟨t, _, rfl⟩ := List.mem_map.1 hs
  exact conv_le _
theorem KR.row {W : World} {g : Nat} {zq : List (Int × Int × Int)} (h : KR W g zq.length zq) : Row W (some ⟨g, 0, none⟩) (cellsQ (cut8 zq)) := by
  obtain ⟨cs, h1, h2⟩ := h
  refine Row.of_blk h1 fun i u hu => ?_
  have hil : i < (cut8 zq).length * 3 := by have := (List.getElem?_eq_some_iff.1 hu).1; rwa [cellsQ_len] at this
  rw [cut8_len] at hil
  have hj : i / 3 < zq.length := by omega
  have hs : zq[i / 3]? = some zq[i / 3] := List.getElem?_eq_getElem hj
  have hc : (cut8 zq)[i / 3]? = some (conv zq[i / 3].1, zq[i / 3].2.1, zq[i / 3].2.2) := by unfold cut8; rw [List.getElem?_map, hs]; rfl
  obtain ⟨q0, q1, q2⟩ := cellsQ_get _ _ _ hc
  obtain ⟨r0, r1, r2⟩ := h2 _ _ hs
  rw [if_pos hj] at r0
  have h3 : i = i / 3 * 3 ∨ i = i / 3 * 3 + 1 ∨ i = i / 3 * 3 + 2 := by omega
  rcases h3 with e | e | e <;> rw [e] at hu ⊢
  · rw [q0] at hu; rw [r0]; exact hu
  · rw [q1] at hu; rw [r1]; exact hu
  · rw [q2] at hu; rw [r2]; exact hu
theorem KR.of_own {W : World} {base n : Nat} {v : Value} {zq : List (Int × Int × Int)} (h : W.ownsRow base 48 3 v n (cellsI zq)) (hn : zq.length = n) (h0 : 0 < n) : ∃ g c, v = .slice (some ⟨g, 0, none⟩) n c ∧ base ≤ g ∧ KR W g 0 zq := by
  rcases id h.2 with ⟨_, e⟩ | ⟨g, cap, cur, hv, hg, hb, hc1, _, hsz, htk⟩
  · omega
  · refine ⟨g, cap, hv, hg, cur, hb, fun j s hs => ?_⟩
    have key : ∀ i, i < n * 3 → cur[i]? = (cellsI zq)[i]? := fun i hi => by
      rw [← htk, List.getElem?_take_of_lt hi, Array.getElem?_toList]
    have hj : j < n := by have := (List.getElem?_eq_some_iff.1 hs).1; omega
    obtain ⟨q0, q1, q2⟩ := cellsI_get zq j s hs
    rw [if_neg (by omega), key _ (by omega), key _ (by omega), key _ (by omega)]
    exact ⟨q0, q1, q2⟩
theorem verR_bd (n D : Nat) (Hm Lm EU EP : List (List Bool)) : ∀ (l : List (Nat × Int × Int)) (k : Nat) (U P : List (List Bool)), 1 ≤ (verR n D Hm Lm EU EP k l U P).1 ∧ (verR n D Hm Lm EU EP k l U P).1 ≤ 5 ∧ (verR n D Hm Lm EU EP k l U P).2 ≤ k + l.length
  | [], k, U, P => by rw [verR]; split <;> simp
  | s :: l, k, U, P => by
    rw [verR]
    split
    · simp
    · split
      · simp
      · split
        · simp
        · have := verR_bd n D Hm Lm EU EP l (k + 1) (stepU n U s.1 s.2.1 s.2.2) (stepP D P s.1 s.2.1 s.2.2)
          simp; omega
theorem verJ_bd (D : Nat) (M P M' P' : List (List Bool)) (l : List (Nat × Int × Int)) : 1 ≤ (verJ D M P M' P' l).1 ∧ (verJ D M P M' P' l).1 ≤ 5 ∧ (verJ D M P M' P' l).2 ≤ l.length := by
  have := verR_bd (jn P P') D (mat (jU (jn P P') (List.range P.length) M).length D (orF (accM (jn P P') D (jU (jn P P') (List.range P.length) M) (jP (jn P P') D (List.range P.length) P)) (accM (jn P P') D (jU (jn P P') (jl P P') M') (jP (jn P P') D (jl P P') P'))))
    (mat (jU (jn P P') (List.range P.length) M).length D (andF (accM (jn P P') D (jU (jn P P') (List.range P.length) M) (jP (jn P P') D (List.range P.length) P)) (accM (jn P P') D (jU (jn P P') (jl P P') M') (jP (jn P P') D (jl P P') P')))) (jU (jn P P') (jl P P') M') (jP (jn P P') D (jl P P') P') l 0 (jU (jn P P') (List.range P.length) M) (jP (jn P P') D (List.range P.length) P)
  rw [Nat.zero_add] at this
  exact this
section
variable {w W W' : World} {X3 X4 u a b p : Nat} {A1 : Option Addr} {c1 : Nat} {B1 : Option Addr} {d1 : Nat} {A2 : Option Addr} {c2 : Nat} {B2 : Option Addr} {d2 : Nat} {M P M' P' : List (List Bool)}
theorem LI.verify (h : LI w W X3 X4 u a b p A1 c1 B1 d1 A2 c2 B2 d2 M P M' P') {q r q' r' : Nat} {V : World} (hb : Below W.heap.size W V) (hc : IsCfg V q r a p M P) (hc' : IsCfg V q' r' b p M' P') {A : Option Addr} {c n : Nat} {l : List (Nat × Int × Int)} (hr : Row V A (cellsZ l)) (hn : l.length = n) (hk : ∀ s ∈ l, s.1 ≤ 255) (hL : n ≤ maxLen) :
    Calls Tryd.prog 30 #[cfgV q r, cfgV q' r', .slice A n c] V fun e w' => e = .returned (.tuple #[.int .u8 (verJ p M P M' P' l).1, .int .i64 (verJ p M P M' P' l).2, .int .i64 0]) ∧ Below V.heap.size V w' := by
  subst hn
  exact verify_any q r q' r' a b p M P M' P' A c l V hc hc' (h.lM.trans h.lM'.symm) (by have := h.jn_le; omega) (by have := h.bd; have := h.lM; omega) (by have := h.bd; omega) (h.tab.below hb) hr hk hL
theorem LI.rverify (h : LI w W X3 X4 u a b p A1 c1 B1 d1 A2 c2 B2 d2 M P M' P') {A : Option Addr} {c n : Nat} {l : List (Nat × Int × Int)} (hr : Row W A (cellsQ l)) (hn : l.length = n) (hL : n ≤ maxLen) :
    Calls Tryd.prog 33 #[rcfV a A1 u c1 p B1 a d1, rcfV b A2 u c2 p B2 b d2, .slice A n c] W fun e w' => e = .returned (.tuple #[.int .i64 (verJ p M P M' P' l).1, .int .i64 (verJ p M P M' P' l).2]) ∧ Below W.heap.size W w' := by
  subst hn
  have := rverify_any a c1 p d1 b c2 d2 A1 B1 A2 B2 M P M' P' A c l W h.rc.users.ref h.rc.perms.ref h.rc'.users.ref h.rc'.perms.ref h.lP.symm h.lP'.symm (h.lM.trans h.lM'.symm) (by have := h.jn_le; omega) hr hL
  rw [h.lM, h.lP, h.lM', h.lP'] at this
  exact this
end
set_option maxRecDepth 100000 in
set_option maxHeartbeats 40000000 in
theorem verifies_walk (v : Value) (u a b p : Nat) (zs : List Int) (vl : Value) (zq : List (Int × Int × Int)) (w : World) (hT : Tab w) (h : IsRaw49 w v u a b p zs) (hl : IsRS w vl zq) :
    Calls Tryd.prog 6 #[v, vl] w fun e w' => e = .returned (.bool true) ∧ Below w.heap.size w w' := by
  have hbd := h.bd
  have HIN := hideC h
  obtain ⟨u0, a0, b0, p0, AZ, cZ, hv, _⟩ := id h
  obtain ⟨AL, cL, hvl, hrl, hlc, hcm, hnl⟩ := hl
  subst hv
  subst hvl
  clear h
  unfold maxLen at hcm
  have HNL := Lib.hid hnl
  clear hnl
  go_enter Tryd.func6, Tryd.ntmps6
  go_wp2_with fail
  refine absC1 fun W0 hX hb0 hz => ?_
  clear hz
  refine (awake_any49 W0 (hT.below hb0)).mono ?_
  rintro e w1 ⟨rfl, hb1⟩
  have b1 := hb0.trans (hb1.mono hb0.size)
  have hX1 := hX.below hb1 hX.lt
  have x0 := hX1.cell 0
  have x1 := hX1.cell 1
  have x2 := hX1.cell 2
  have x3 := hX1.cell 3
  have x4 := hX1.cell 4
  clear hX hb0 hb1
  have HMK := hideC (rmake_any _ u a b p zs w1 (HIN.out.below b1))
  go_wp2_with fail
  refine HMK.out.mono ?_
  rintro e w2 ⟨M, P, M', P', A1, c1, B1, d1, A2, c2, B2, d2, rfl, hc, hc', lM, lP, lM', lP', hb2⟩
  have b2 := b1.trans (hb2.mono b1.size)
  clear x0 x1 x2 x3 x4 HMK hX1 hb2 b1
  obtain ⟨n, hn⟩ : ∃ n, n = min zq.length 12 := ⟨_, rfl⟩
  have hnle : n ≤ zq.length := by omega
  have hn12 : n ≤ 12 := by omega
  have e12 : min (zq.length : Int) 12 = (n : Int) := by omega
  obtain ⟨zt, hzt⟩ : ∃ z, z = zq.take n := ⟨_, rfl⟩
  have hztl : zt.length = n := by rw [hzt, List.length_take]; omega
  have hrt : Row w AL (cellsI zt) := by rw [hzt, cellsI_take]; exact hrl.take _
  have HZT := Lib.hid hztl
  clear hzt hztl hn
  go_wp2_with fail
  refine absC2 fun w3 h3 h4 hb3 hz3 => ?_
  have j : LI w w3 w2.heap.size (w2.heap.size + 1) u a b p A1 c1 B1 d1 A2 c2 B2 d2 M P M' P' := ⟨h3, h4, hc.below hb3, hc'.below hb3, lM, lP, lM', lP', hbd, hT.below (b2.trans (hb3.mono b2.size)), b2.trans (hb3.mono b2.size)⟩
  obtain ⟨X3, hX3⟩ : ∃ x, x = w2.heap.size := ⟨_, rfl⟩
  rw [← hX3] at j ⊢
  clear hX3 h3 h4 hc hc' lM lP lM' lP' hb3 hz3 b2 hbd HIN e12
  have hnA : AL = none → n = 0 ∧ cL = 0 := fun e => by obtain ⟨h1, h2⟩ := HNL.out e; omega
  have HCL := hideC (clonesteps_any AL n cL zt w3 (hrt.below j.below) HZT.out (by omega) hnA)
  clear hnA
  refine HCL.out.mono ?_
  rintro e w4 ⟨vc, rfl, hov, hb4⟩
  obtain ⟨AV, cV, rfl, hrv⟩ := row_of_own3 hov
  have j4 := j.next hb4
  have sz4 := j.below.size
  have hKR : 0 < n → ∃ g, AV = some ⟨g, 0, none⟩ ∧ w.heap.size ≤ g ∧ KR w4 g 0 zt := fun h0 => by
    obtain ⟨g, c, e, hg, hk⟩ := KR.of_own hov HZT.out h0
    injection e with e1 e2 e3
    exact ⟨g, e1, by omega, hk⟩
  have HKR := hideC hKR
  clear j hb4 HCL hov sz4 hKR hrl hlc
  go_wp2_with fail
  refine wp_loopF (β := Nat) (fun k f => #[f 0, .slice AV n cV, f 2, f 3, .bool false, .pointer (some ⟨X3, 0, none⟩), .pointer (some ⟨X3 + 1, 0, none⟩), f 7, f 8, f 9, f 10, f 11, f 12, f 13, f 14, f 15, f 16, f 17, f 18, f 19, f 20, f 21, f 22, f 23, f 24, f 25, f 26, .int .i64 (n : Int), .int .i64 (k : Int), f 29, f 30, f 31, f 32, f 33, f 34, f 35, f 36, f 37, f 38, f 39, f 40, f 41, f 42, f 43, f 44, f 45, f 46, f 47, f 48, f 49, f 50, f 51, f 52, f 53, f 54, f 55, f 56, f 57, f 58, f 59, f 60, f 61, f 62, f 63, f 64, f 65, f 66, f 67, f 68, f 69, f 70, f 71, f 72])
    (fun k ds wr => k ≤ n ∧ ds = [] ∧ LI w wr X3 (X3 + 1) u a b p A1 c1 B1 d1 A2 c2 B2 d2 M P M' P' ∧ Hid (0 < n → ∃ g, AV = some ⟨g, 0, none⟩ ∧ w.heap.size ≤ g ∧ KR wr g k zt)) (fun k => n - k) 0 rfl ⟨Nat.zero_le _, rfl, j4, HKR⟩ ?_
  rintro k f ds wr ⟨hk, rfl, J, HK⟩
  dsimp only
  clear j4 HKR hrv
  by_cases hlt : k < n
  · obtain ⟨g, rfl, hgw, hkr⟩ := HK.out (by omega)
    obtain ⟨s, hs⟩ : ∃ s, zt[k]? = some s := ⟨zt[k]'(by have := HZT.out; omega), List.getElem?_eq_getElem _⟩
    obtain ⟨q0, q1, q2⟩ := hkr.at_ hs (Nat.le_refl _)
    have hkr2 := hkr.step hs
    obtain ⟨cs, hB, _⟩ := id hkr
    have J2 := J.set_ hT hB (by decide) (by decide) (by decide) hgw (k * 3) (.int .i64 (conv s.1 : Int))
    have hcv := and_conv s.1
    obtain ⟨kd, x, y⟩ := s
    dsimp only at q0 hkr2 J2 hcv
    obtain ⟨cv, hcve⟩ : ∃ c, c = conv kd := ⟨_, rfl⟩
    rw [← hcve] at hkr2 J2 hcv
    have HS := Lib.hid hs
    clear hB HK hkr hcve hs J
    go_wp2_with fail
    exact ⟨k + 1, rfl, ⟨by omega, by first | rfl | trivial, J2, hideC fun _ => ⟨g, rfl, hgw, hkr2⟩⟩, by omega⟩
  · obtain rfl : k = n := by omega
    have hrQ : Row wr AV (cellsQ (cut8 zt)) := by
      by_cases h0 : 0 < k
      · obtain ⟨g, rfl, hgw, hkr⟩ := HK.out h0
        have hl := HZT.out
        rw [← hl] at hkr
        exact hkr.row
      · intro h
        rw [cellsQ_len, cut8_len, HZT.out] at h
        omega
    have hcl : (cut8 zt).length = k := by rw [cut8_len, HZT.out]
    obtain ⟨lq, hlq⟩ : ∃ l, l = cut8 zt := ⟨_, rfl⟩
    have hkd := cut8_kind zt
    rw [← hlq] at hrQ hcl hkd
    have HCL := Lib.hid hcl
    have HKD := Lib.hid hkd
    clear HK hcl hkd hlq
    have x0 := J.old.cell 0
    have x1 := J.old.cell 1
    have x2 := J.old.cell 2
    have x3 := J.old.cell 3
    have y0 := J.new.cell 0
    have y1 := J.new.cell 1
    have y2 := J.new.cell 2
    have y3 := J.new.cell 3
    have hd : Below wr.heap.size wr wr.drew := (Below.refl _ _).drew
    have Jq := J.next hd
    have hrq := hrQ.below hd
    obtain ⟨wq, hwq⟩ : ∃ V, V = wr.drew := ⟨_, rfl⟩
    rw [← hwq] at hd Jq hrq
    go_wp2_with fail
    refine wp_mix (fun V => Below wr.heap.size wr V) 14 (by kernel_rfl) (by kernel_rfl) (Below.refl _ _).drew ?_
    rw [← hwq]
    clear hwq
    (refine m_q 0 (v := ?_) (by kernel_rfl) rfl rfl (fun W hW => ?_) ?_; rotate_left; (have z0 := onB hW x0; have z1 := onB hW x1; have z2 := onB hW x2; have z3 := onB hW x3; have u0 := onB hW y0; have u1 := onB hW y1; have u2 := onB hW y2; have u3 := onB hW y3; go_simp; first | done | with_reducible rfl); simp only [Act.put, List.setIfInBounds_toArray, List.set_cons_zero, List.set_cons_succ]); (refine m_q 2 (v := ?_) (by kernel_rfl) rfl rfl (fun W hW => ?_) ?_; rotate_left; (have z0 := onB hW x0; have z1 := onB hW x1; have z2 := onB hW x2; have z3 := onB hW x3; have u0 := onB hW y0; have u1 := onB hW y1; have u2 := onB hW y2; have u3 := onB hW y3; go_simp; first | done | with_reducible rfl); simp only [Act.put, List.setIfInBounds_toArray, List.set_cons_zero, List.set_cons_succ]); (refine m_q 4 (v := ?_) (by kernel_rfl) rfl rfl (fun W hW => ?_) ?_; rotate_left; (have z0 := onB hW x0; have z1 := onB hW x1; have z2 := onB hW x2; have z3 := onB hW x3; have u0 := onB hW y0; have u1 := onB hW y1; have u2 := onB hW y2; have u3 := onB hW y3; go_simp; first | done | with_reducible rfl); simp only [Act.put, List.setIfInBounds_toArray, List.set_cons_zero, List.set_cons_succ])
    clear x0 x1 x2 x3 y0 y1 y2 y3
    refine m_s1 1 (by kernel_rfl) rfl ?_
    go_wp2_with fail
    refine Jq.cfgA.mono ?_
    rintro e w5 ⟨q1, r1, rfl, hq1, hb5⟩
    have J5 := Jq.next hb5
    have hr5 := hrq.below hb5
    go_wp2_with fail
    refine m_next (hd.trans (hb5.mono hd.size)) ?_
    refine m_s1 3 (by kernel_rfl) rfl ?_
    go_wp2_with fail
    refine J5.cfgB.mono ?_
    rintro e w6 ⟨q2, r2, rfl, hq2, hb6⟩
    have J6 := J5.next hb6
    have hr6 := hr5.below hb6
    have hq1' := hq1.below hb6
    have HST := hideC (steps_any AV cV lq w6 hr6 HKD.out (by rw [HCL.out]; omega))
    rw [HCL.out] at HST
    go_wp2_with fail
    refine m_next hb6 ?_
    refine m_s1 5 (by kernel_rfl) rfl ?_
    go_wp2_with fail
    refine HST.out.mono ?_
    rintro e w7 ⟨v7, rfl, ho7, hb7⟩
    obtain ⟨A7, c7, rfl, hr7⟩ := row_of_own3 ho7
    have J7 := J6.next hb7
    have hr67 := hr6.below hb7
    have HV := hideC (J7.verify (Below.refl _ _) (hq1'.below hb7) (hq2.below hb7) (c := c7) hr7 HCL.out HKD.out (by unfold maxLen; omega))
    clear HST
    go_wp2_with fail
    refine m_next hb7 ?_
    refine m_s1 6 (by kernel_rfl) rfl ?_
    go_wp2_with fail
    refine HV.out.mono ?_
    rintro e w8 ⟨rfl, hb8⟩
    have J8 := J7.next hb8
    have hr8 := hr67.below hb8
    go_wp2_with fail
    refine m_next hb8 ?_
    (refine m_q 7 (v := ?_) (by kernel_rfl) rfl rfl (fun W hW => ?_) ?_; rotate_left; (go_simp; first | done | with_reducible rfl); simp only [Act.put, List.setIfInBounds_toArray, List.set_cons_zero, List.set_cons_succ]); (refine m_q 8 (v := ?_) (by kernel_rfl) rfl rfl (fun W hW => ?_) ?_; rotate_left; (go_simp; first | done | with_reducible rfl); simp only [Act.put, List.setIfInBounds_toArray, List.set_cons_zero, List.set_cons_succ]); (refine m_q 9 (v := ?_) (by kernel_rfl) rfl rfl (fun W hW => ?_) ?_; rotate_left; (go_simp; first | done | with_reducible rfl); simp only [Act.put, List.setIfInBounds_toArray, List.set_cons_zero, List.set_cons_succ]); (refine m_q 10 (v := ?_) (by kernel_rfl) rfl rfl (fun W hW => ?_) ?_; rotate_left; (go_simp; first | done | with_reducible rfl); simp only [Act.put, List.setIfInBounds_toArray, List.set_cons_zero, List.set_cons_succ]); (refine m_q 11 (v := ?_) (by kernel_rfl) rfl rfl (fun W hW => ?_) ?_; rotate_left; (go_simp; first | done | with_reducible rfl); simp only [Act.put, List.setIfInBounds_toArray, List.set_cons_zero, List.set_cons_succ]); (refine m_q 12 (v := ?_) (by kernel_rfl) rfl rfl (fun W hW => ?_) ?_; rotate_left; (go_simp; first | done | with_reducible rfl); simp only [Act.put, List.setIfInBounds_toArray, List.set_cons_zero, List.set_cons_succ]); (refine m_q 13 (v := ?_) (by kernel_rfl) rfl rfl (fun W hW => ?_) ?_; rotate_left; (go_simp; first | done | with_reducible rfl); simp only [Act.put, List.setIfInBounds_toArray, List.set_cons_zero, List.set_cons_succ])
    refine m_end (by kernel_rfl) ?_
    have HRV := hideC (J8.rverify (c := cV) hr8 HCL.out (by unfold maxLen; omega))
    have hbd := verJ_bd p M P M' P' lq
    obtain ⟨r1v, hr1v⟩ : ∃ r, r = (verJ p M P M' P' lq).1 := ⟨_, rfl⟩
    obtain ⟨r2v, hr2v⟩ : ∃ r, r = (verJ p M P M' P' lq).2 := ⟨_, rfl⟩
    rw [← hr1v, ← hr2v] at hbd HRV ⊢
    obtain ⟨l1, l2, l3⟩ := hbd
    have hwr : IntKind.i64.wrap (r1v : Int) = (r1v : Int) := i64w ⟨by omega, by omega⟩
    have x0 := J8.old.cell 0
    have x1 := J8.old.cell 1
    have x2 := J8.old.cell 2
    have x3 := J8.old.cell 3
    have y0 := J8.new.cell 0
    have y1 := J8.new.cell 1
    have y2 := J8.new.cell 2
    have y3 := J8.new.cell 3
    clear hr1v hr2v J Jq J5 J6 J7 hq1 hq1' hq2 hb5 hb6 hb7 hb8 hd hr5 hr6 hr67 hr7 hr8 HV
    go_wp2_with fail
    refine HRV.out.mono ?_
    rintro e w9 ⟨rfl, hb9⟩
    go_wp2_with fail
    go_ret
    exact ⟨rfl, (J8.next hb9).below⟩
end Go.Proofs.YthkjigggfeejdaaDoor
