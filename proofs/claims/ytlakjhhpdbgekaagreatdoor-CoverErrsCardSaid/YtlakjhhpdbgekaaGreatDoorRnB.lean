import Derived.Test.YtlakjhhpdbgekaaGreatDoorRn3
import Derived.Test.YtlakjhhpdbgekaaGreatDoorRkA
import Derived.Test.YtlakjhhpdbgekaaGreatDoorSets
/-
  rank.greatest: how many uncovered ones a concept contains, at most.
-/
namespace Go.Proofs.YtlakjhhpdbgekaaGreatDoor
open Go.RowKit
attribute [local go_sem] Oper.semAt_some

/-! What stays when other things than cells are written. -/
def KeepC (W W' : World) : Prop := W.heap.size ≤ W'.heap.size ∧ ∀ (g : Nat) cs t fz, W.heap[g]? = some (Obj.cells cs t fz) → W'.heap[g]? = some (Obj.cells cs t fz)
theorem KeepC.keep {W W' : World} (h : KeepC W W') : KeepW W W' := ⟨h.1, fun _ _ hb => h.2 _ _ _ _ hb⟩
theorem Blk.kc {W W' : World} {g : Nat} {t : TypeId} {cs : Array Value} (hb : Blk W g t cs) (h : KeepC W W') : Blk W' g t cs := h.2 _ _ _ _ hb
theorem KeepC.of_grown {W W' : World} {row : Option Nat} {n : Nat} (hg : W.grownBy W' row) (hr : ∀ k, row = some k → n ≤ k ∧ ∃ o, W.heap[k]? = some o ∧ o.isCells = false) : KeepC W W' :=
  ⟨hg.size, fun g _ _ _ hb => (hg.block g (Array.getElem?_eq_some_iff.1 hb).1 fun e => by
    obtain ⟨_, o, ho, hc⟩ := hr g e.symm
    rw [ho] at hb; cases hb; cases hc).trans hb⟩
/-- The marks of loops that have run out stay. -/
def KeepD (W0 W : World) : Prop := W0.heap.size ≤ W.heap.size ∧ ∀ g : Nat, W0.heap[g]? = some (.deferred (some [])) → W.heap[g]? = some (.deferred (some []))
theorem KeepD.refl (W : World) : KeepD W W := ⟨Nat.le_refl _, fun _ h => h⟩
theorem KeepD.others {W0 W W' : World} (h : KeepD W0 W) (k : KeepsOthers W W') : KeepD W0 W' := ⟨Nat.le_trans h.1 k.size, fun g hg => k.same g _ (h.2 g hg) rfl⟩
theorem KeepD.grown {W0 W W' : World} {row : Option Nat} (h : KeepD W0 W) (hg : W.grownBy W' row) (hr : ∀ k, row = some k → W0.heap.size ≤ k ∧ ∃ o, W.heap[k]? = some o ∧ o.isCells = false) : KeepD W0 W' :=
  ⟨Nat.le_trans h.1 hg.size, fun g hgd => (hg.block g (Array.getElem?_eq_some_iff.1 (h.2 g hgd)).1 fun e => by have := (hr g e.symm).1; have := (Array.getElem?_eq_some_iff.1 hgd).1; omega).trans (h.2 g hgd)⟩
theorem Marks.kd {n₀ : Nat} {W W' : World} {ds : List Deferred} (h : Marks n₀ W ds) (k : KeepD W W') : Marks n₀ W' ds := h.keep fun g _ hg => k.2 g hg
theorem KeepD.of_below {W W' : World} (h : Below W.heap.size W W') : KeepD W W' := ⟨h.size, fun g hg => (h.block g (Array.getElem?_eq_some_iff.1 hg).1).trans hg⟩
/-- One mark more. -/
theorem Marks.cons {n₀ D : Nat} {W0 W : World} {ds : List Deferred} (h : Marks n₀ W0 ds) (k : KeepD W0 W) (hn : n₀ ≤ D) (hD : W0.heap.size ≤ D) (hK : W.heap[D]? = some (.deferred (some []))) : Marks n₀ W ({ target := .collected D, args := #[] } :: ds) :=
  ⟨⟨D, rfl, hn, hK, fun e he D' hD' => by have := h.lt e he D' hD'; omega⟩, h.kd k⟩

theorem IsMat.mv {w : World} {p C : Nat} {Ns : List Nat} (h : IsMat w p C Ns) : IsMV w (some ⟨p, 0, none⟩) C Ns := .inr ⟨p, rfl, h⟩
theorem of_is {w : World} {m : Option Addr} {C : Nat} {Ns : List Nat} {v : Value} {S X Y : Nat} (hX : havN C Ns S = X) (hY : cloN C Ns S = Y) (h : IsMV w m C Ns) (hs : IsSet w v S) (hT : Tab w) :
    Calls Tryz.prog 103 #[.pointer m, .agg #[v]] w fun e w' => ∃ A c B d, e = .returned (.agg #[.slice A (nw X) c, .slice B (nw Y) d]) ∧ IsSet w' (.slice A (nw X) c) X ∧ IsSet w' (.slice B (nw Y) d) Y ∧ Below w.heap.size w w' := by
  refine (of_concept m C Ns v S w h hs hT).mono ?_
  rintro e w' ⟨r, q, rfl, hr, hq, hb⟩
  obtain ⟨A, c, rfl, _⟩ := id hr
  obtain ⟨B, d, rfl, _⟩ := id hq
  subst hX; subst hY
  exact ⟨_, _, _, _, rfl, hr, hq, hb⟩
/-- How many of the ones Os the concept of the columns s covers, in the rows ks. -/
def gainR (C : Nat) (Ns Os : List Nat) (s : Nat) (ks : List Nat) : Nat := (ks.map fun i => card (Os.getD i 0 &&& cloN C Ns s)).foldl (· + ·) 0
theorem gainR_snoc (C : Nat) (Ns Os : List Nat) (s : Nat) (ks : List Nat) (i : Nat) : gainR C Ns Os s (ks ++ [i]) = gainR C Ns Os s ks + card (Os.getD i 0 &&& cloN C Ns s) := by simp [gainR]
def greatO (C : Nat) (Ns Os : List Nat) (n : Nat) : Nat := ((List.range n).map fun s => gainR C Ns Os s (mems (havN C Ns s))).foldl max 0
theorem greatO_succ (C : Nat) (Ns Os : List Nat) (n : Nat) : greatO C Ns Os (n + 1) = max (greatO C Ns Os n) (gainR C Ns Os n (mems (havN C Ns n))) := by simp [greatO, List.range_succ]
theorem filter_up {p : Nat → Bool} {C : Nat} (h : ∀ j, p j = true → j < C) : ∀ n, ((List.range n).filter p).length ≤ C
  | 0 => by simp
  | n + 1 => by
    by_cases hn : n < C
    · exact Nat.le_trans (List.length_filter_le _ _) (by simp; omega)
    · rw [List.range_succ, List.filter_append, List.length_append]
      have : p n = false := by
        cases hp : p n with
        | false => rfl
        | true => exact absurd (h n hp) hn
      have ih := filter_up h n
      simp [this]; exact ih
theorem card_bits {N C : Nat} (h : ∀ j, N.testBit j = true → j < C) : card N ≤ C := by
  rw [← mems_len]
  unfold mems
  rw [mTo_map]
  exact filter_up h _
theorem card_and {C : Nat} {Ns : List Nat} (X s : Nat) : card (X &&& cloN C Ns s) ≤ C := card_bits fun j hj => by
  rw [Nat.testBit_and, Bool.and_eq_true] at hj
  exact comN_lt hj.2
theorem gainR_le (C : Nat) (Ns Os : List Nat) (s : Nat) : ∀ ks : List Nat, gainR C Ns Os s ks ≤ ks.length * C := fun ks => by
  have key : ∀ (l : List Nat) (a : Nat), (l.map fun i => card (Os.getD i 0 &&& cloN C Ns s)).foldl (· + ·) a ≤ a + l.length * C := by
    intro l
    induction l with
    | nil => intro a; simp
    | cons i l ih =>
      intro a
      rw [List.map_cons, List.foldl_cons]
      refine Nat.le_trans (ih _) ?_
      have := card_and (C := C) (Ns := Ns) (Os.getD i 0) s
      rw [List.length_cons, Nat.add_mul, Nat.one_mul]; omega
  have := key ks 0
  unfold gainR; omega
theorem mod_step (n j : Nat) : n % 2 ^ (j + 1) = if n.testBit j = true then n % 2 ^ j ||| 2 ^ j else n % 2 ^ j := nat_ext fun x => by
  have e : (if n.testBit j = true then n % 2 ^ j ||| 2 ^ j else n % 2 ^ j).testBit x = ((n % 2 ^ j).testBit x || (decide (j = x) && n.testBit j)) := by
    split
    · rename_i h; rw [Nat.testBit_or, Nat.testBit_two_pow, h, Bool.and_true]
    · rename_i h; rw [Bool.not_eq_true] at h; rw [h]; simp
  rw [e, Nat.testBit_mod_two_pow, Nat.testBit_mod_two_pow]
  by_cases h1 : x < j
  · simp [h1, show x < j + 1 by omega, show ¬ j = x by omega]
  · by_cases h2 : x = j
    · subst h2; simp
    · simp [h1, show ¬ x < j + 1 by omega, show ¬ j = x by omega]
set_option maxRecDepth 100000 in
set_option maxHeartbeats 8000000 in
theorem greatest_any (p C : Nat) (Ns : List Nat) (A : Option Addr) (c : Nat) (vs : List Value) (Os : List Nat) (w : World) (h : IsMat w p C Ns) (hC : C ≤ 12) (hr : Row w A vs) (hs : Sets w vs Os) (hlen : Os.length = Ns.length) (hT : Tab w) :
    Calls Tryz.prog 134 #[ptr p, .slice A Os.length c] w fun e w' => e = .returned (.int .i64 (greatO C Ns Os (2 ^ C))) ∧ Below w.heap.size w w' := by
  have hlN : Ns.length ≤ 4096 := h.2.1
  obtain ⟨E, hE⟩ : ∃ E : Nat, E = 2 ^ C := ⟨_, rfl⟩
  have hE2 : E ≤ 4096 := by rw [hE]; exact Nat.le_trans (Nat.pow_le_pow_right (by omega) hC) (by decide)
  have e2 : wrap64 ((2 : Int) ^ C) = (E : Int) := by
    have : ((2 : Int) ^ C) = (E : Int) := by rw [hE]; simp
    rw [this]
    exact IntWalk.wrap64_in _ ⟨by omega, by omega⟩
  rw [← hE]
  have HEE := Lib.hid hE
  have HLO := Lib.hid hlen
  clear hE hlen
  refine (callsIn_wide (n := 9)).1 (callsIn_of_wp_marks Tryz.func134 rfl trivial (wpIn_wide.2 ?_) rfl)
  simp only [Tryz.ntmps134, List.size_toArray, List.length_cons, List.length_nil, Nat.reduceAdd, Nat.reduceSub, Array.replicate_succ, Array.replicate_zero, List.push_toArray, List.append_toArray, List.nil_append, List.cons_append]
  go_wp2_with fail
  refine absC1 fun W0 hX hb0 hz => ?_
  refine (cols_any p C Ns W0 (h.below hb0)).mono ?_
  rintro e w' ⟨rfl, rfl⟩
  have hX0 := hX.cell 0
  obtain ⟨X, hXe⟩ : ∃ X, X = w.heap.size := ⟨_, rfl⟩
  have hXw : w.heap.size ≤ X := by omega
  rw [← hXe] at hX ⊢
  clear hz hX0 hXe
  go_wp2_with fail
  rw [e2]
  clear e2
  refine wp_loopF (β := Nat) (fun n f => #[ptr p, f 1, f 2, .pointer (some ⟨X, 0, none⟩), .int .i64 0, .int .i64 (greatO C Ns Os n : Int), f 6, f 7, f 8, f 9, f 10, f 11, f 12, f 13, .int .i64 (E : Int), .int .i64 (n : Int), f 16, f 17, f 18, f 19, f 20, f 21, f 22, f 23, f 24, f 25, f 26, f 27, f 28, f 29, f 30, f 31, f 32, f 33, f 34, f 35, f 36, f 37, f 38, f 39, f 40, f 41, f 42, f 43, f 44, f 45, f 46, f 47, f 48, f 49, f 50, f 51, f 52, f 53])
    (fun n ds wr => n ≤ E ∧ Marks w.heap.size wr ds ∧ Below w.heap.size w wr ∧ Blk wr X 83 #[.slice A Os.length c] ∧ greatO C Ns Os n ≤ 16777216) (fun n => E - n) 0 rfl
    ⟨Nat.zero_le _, trivial, hb0, hX, by show 0 ≤ _; omega⟩ ?_
  rintro n f ds wr ⟨hn, hM, hb, hXr, hgb⟩
  dsimp only at hn ⊢
  by_cases hlt : n < E
  · go_wp2_with fail
    refine absC1 fun W1 hS1 hb1 hz1 => ?_
    have k1 := hb.trans (hb1.mono hb.size)
    have hX1 := hXr.below hb1 hXr.lt
    have hM1 := hM.kd (KeepD.of_below hb1)
    refine (cols_any p C Ns W1 (h.below k1)).mono ?_
    rintro e w' ⟨rfl, rfl⟩
    obtain ⟨g, hg⟩ : ∃ g, g = wr.heap.size := ⟨_, rfl⟩
    have hgw : w.heap.size ≤ g := by rw [hg]; exact hb.size
    have hgX : g ≠ X := by have := hXr.lt; omega
    rw [← hg] at hS1 ⊢
    clear hz1 hg hb1 hM
    go_wp2_with fail
    refine wp_loopF (β := Nat) (fun j f => #[ptr p, f 1, f 2, .pointer (some ⟨X, 0, none⟩), .int .i64 0, .int .i64 (greatO C Ns Os n : Int), .int .i64 (n : Int), .pointer (some ⟨g, 0, none⟩), f 8, f 9, f 10, f 11, f 12, f 13, .int .i64 (E : Int), .int .i64 (n : Int), f 16, f 17, f 18, .int .i64 (C : Int), .int .i64 (j : Int), f 21, f 22, f 23, f 24, f 25, f 26, f 27, f 28, f 29, f 30, f 31, f 32, f 33, f 34, f 35, f 36, f 37, f 38, f 39, f 40, f 41, f 42, f 43, f 44, f 45, f 46, f 47, f 48, f 49, f 50, f 51, f 52, f 53])
      (fun j ds' V => j ≤ C ∧ ds' = ds ∧ Below w.heap.size w V ∧ KeepD W1 V ∧ Blk V X 83 #[.slice A Os.length c] ∧ ∃ v, Blk V g 65 #[v] ∧ IsSet V v (n % 2 ^ j)) (fun j => C - j) 0 rfl
      ⟨Nat.zero_le _, rfl, k1, KeepD.refl _, hX1, _, hS1, by rw [Nat.pow_zero, Nat.mod_one]; exact IsSet.empty _⟩ ?_
    rintro j f ds' V ⟨hj, rfl, hbV, hkV, hXV, v, hSV, hset⟩
    dsimp only at hj ⊢
    obtain ⟨Av, cv, rfl, _⟩ := id hset
    have sV := hSV.cell 0
    have fV := hSV.frozen 0
    have lV := hSV.lt
    by_cases hjC : j < C
    · have ebit := bit_form n j (by omega)
      have hstep := mod_step n j
      generalize n % 2 ^ j = st at hset hstep hSV sV
      by_cases hb : n.testBit j = true
      · rw [if_pos hb] at hstep
        rw [hb] at ebit
        have HST := Lib.hid hstep
        have hwi := with_any _ st (j : Int) V hset
        rw [withB, if_pos ⟨by omega, by omega⟩, Int.toNat_natCast] at hwi
        have HWI := hideC (res3 rfl hwi)
        clear hstep hb hwi
        go_wp2_with fail
        refine HWI.out.mono ?_
        rintro e w3 ⟨A3, n3, c3, rfl, hr3, hb3⟩
        have hS3 := hSV.below hb3 hSV.lt
        have s3 := hS3.cell 0
        have f3 := hS3.frozen 0
        have l3 := hS3.lt
        have hX3 := hXV.below hb3 hXV.lt
        clear sV fV lV
        go_wp2_with fail
        exact ⟨j + 1, rfl, ⟨by omega, by first | rfl | trivial, (hbV.trans (hb3.mono hbV.size)).setCell (p := ⟨g, 0, none⟩) hgw (.slice A3 n3 c3), hkV.others ((KeepsOthers.of_below hb3).trans (KeepsOthers.setCell _ _ _)), hX3.far (p := ⟨g, 0, none⟩) (Ne.symm hgX) (.slice A3 n3 c3), _, hS3.set_ 0 (.slice A3 n3 c3), by rw [HST.out]; exact hr3.put hS3 (by decide) 0 _⟩, by omega⟩
      · rw [if_neg hb] at hstep
        rw [Bool.not_eq_true] at hb
        rw [hb] at ebit
        have HST := Lib.hid hstep
        clear hstep hb
        go_wp2_with fail
        exact ⟨j + 1, rfl, ⟨by omega, by first | rfl | trivial, hbV, hkV, hXV, _, hSV, by rw [HST.out]; exact hset⟩, by omega⟩
    · obtain rfl : j = C := by omega
      have hnE : n % 2 ^ j = n := Nat.mod_eq_of_lt (by rw [← HEE.out]; exact hlt)
      generalize nw (n % 2 ^ j) = q at hset hSV sV
      rw [hnE] at hset
      obtain ⟨R, hR⟩ : ∃ R, havN j Ns n = R := ⟨_, rfl⟩
      obtain ⟨K, hK⟩ : ∃ K, cloN j Ns n = K := ⟨_, rfl⟩
      have hRl : ∀ x, R.testBit x = true → x < Os.length := fun x hx => by rw [← hR] at hx; rw [HLO.out]; exact havN_lt hlN hx
      have hgl := fun ks => gainR_le j Ns Os n ks
      have hgs := fun ks i => gainR_snoc j Ns Os n ks i
      have hcd := fun X => card_and (C := j) (Ns := Ns) X n
      have hgr := greatO_succ j Ns Os n
      rw [hK] at hgs hcd
      rw [hR] at hgr
      have HOF := hideC (of_is hR hK (h.below hbV).mv hset (hT.below hbV))
      have HGS := Lib.hid hgs; have HGR := Lib.hid hgr; have HCD := Lib.hid hcd; have HGL := Lib.hid hgl
      have HRL := Lib.hid hRl
      clear hnE hR hK hgs hgr hcd hgl hRl
      go_wp2_with fail
      refine HOF.out.mono ?_
      rintro e w3 ⟨A3, c3, B3, d3, rfl, sR, sK, hb3⟩
      have k3 := hbV.trans (hb3.mono hbV.size)
      have hX3 := hXV.below hb3 hXV.lt
      have hM3 := (hM1.kd hkV).kd (KeepD.of_below hb3)
      clear sV fV lV hSV HOF hkV hM1 hX1 hXr hset hb3 hXV hbV
      go_wp2_with fail
      refine absC2 fun W4 hK4 hN4 hb4 hz4 => ?_
      have k4 := k3.trans (hb4.mono k3.size)
      have hX4 := hX3.below hb4 hX3.lt
      have hM4 := hM3.kd (KeepD.of_below hb4)
      have sR4 := sR.below hb4
      have sK4 := sK.below hb4
      have lX3 := hX3.lt
      obtain ⟨gk, hgk⟩ : ∃ g, g = w3.heap.size := ⟨_, rfl⟩
      have hkX : gk ≠ X := by omega
      have hnX : gk + 1 ≠ X := by omega
      have hkw : w.heap.size ≤ gk + 1 := by have := k3.size; omega
      rw [← hgk] at hK4 hN4 ⊢
      clear hgk hz4 hb4 sR sK hX3 hM3 k3 lX3
      refine (all_any A3 (nw R) c3 W4).mono ?_
      rintro e w5 ⟨rfl, hw5⟩
      have hY := hw5 ▸ Blk.new W4 65 #[.slice A3 (nw R) c3]
      have hb5 : Below W4.heap.size W4 w5 := by rw [hw5]; exact (Below.refl _ _).alloc (Nat.le_refl _) _
      clear hw5
      have k5 := k4.trans (hb5.mono k4.size)
      have hX5 := hX4.below hb5 hX4.lt
      have hK5 := hK4.below hb5 hK4.lt
      have hN5 := hN4.below hb5 hN4.lt
      have hM5 := hM4.kd (KeepD.of_below hb5)
      have sR5 := sR4.below hb5
      have sK5 := sK4.below hb5
      have hT5 := hT.below k5
      obtain ⟨gy, hgy⟩ : ∃ g, g = W4.heap.size := ⟨_, rfl⟩
      rw [← hgy] at hY ⊢
      clear hgy hb5 hX4 hK4 hN4 hM4 sR4 sK4 k4
      go_wp2_with fail
      refine wp_rangeAll (v := .slice A3 (nw R) c3) (N := R) (Bx := gy) rfl (hY.cell 0) sR5 hT5 rfl
        (fun pre W => Blk W (gk + 1) 3 #[.int .i64 (gainR j Ns Os n pre : Int)] ∧ Blk W gk 119 #[.slice A3 (nw R) c3, .slice B3 (nw K) d3] ∧ Blk W X 83 #[.slice A Os.length c] ∧ Below w.heap.size w W ∧ KeepD w5 W ∧ IsSet W (.slice B3 (nw K) d3) K) (fun _ _ _ => False)
        ?hI (fun _ _ _ _ _ hs _ _ => hs) ?h0 ?a1 ?assign ?body ?done (fun _ _ _ _ _ h _ => h.elim)
      case assign =>
        intro l x W K hKa
        gi_wp2
        exact hKa
      case hI =>
        rintro s W W' row ⟨h1, h2, h3, h4, h5, h6⟩ hg hrw
        have hk := KeepC.of_grown hg hrw
        exact ⟨h1.kc hk, h2.kc hk, h3.kc hk, h4.grown hg h4.size fun k' e => Nat.le_trans k5.size (hrw k' e).1, h5.grown hg hrw, h6.keep hk.keep⟩
      case h0 => exact ⟨hN5, hK5, hX5, k5, KeepD.refl _, sK5⟩
      case body =>
        rintro ll pre x W hx ⟨h1, h2, h3, h4, h5, h6⟩ hlen hkp
        have hxl : x < Os.length := HRL.out x hx
        have hxv : x < vs.length := by rw [hs.1]; exact hxl
        obtain ⟨v, hvx⟩ : ∃ v, vs[x]? = some v := ⟨_, List.getElem?_eq_getElem hxv⟩
        have hox : Os[x]? = some (Os.getD x 0) := by rw [List.getD_eq_getElem?_getD, List.getElem?_eq_getElem hxl]; rfl
        have sv := (hs.2 x v _ hvx hox).below h4
        have hst := HGS.out pre x
        have hc1 := HCD.out (Os.getD x 0)
        generalize Os.getD x 0 = ox at sv hst hc1
        obtain ⟨Av2, cv2, rfl, _⟩ := id sv
        obtain ⟨g1, o1, rfl, hg1, hcl⟩ := hr (by omega)
        have d1 := onB h4 (hcl x _ hvx)
        have hgp : gainR j Ns Os n pre ≤ 49152 := Nat.le_trans (HGL.out pre) (Nat.le_trans (Nat.mul_le_mul (Nat.le_of_lt hlen) hC) (by decide))
        have cN := h1.cell 0
        have cX := h3.cell 0
        have cK := h2.cell 1
        have hd : Below W.heap.size W W.drew := (Below.refl _ _).drew
        have HA := hideC (and_any _ _ ox K W.drew (sv.below hd) (h6.below hd))
        obtain ⟨cd, hcde⟩ : ∃ c, c = card (ox &&& K) := ⟨_, rfl⟩
        have hLE := fun W' r hr' => len_any r (ox &&& K) W' hr'
        rw [← hcde] at hst hc1 hLE
        obtain ⟨gp, hgpe⟩ : ∃ c, c = gainR j Ns Os n pre := ⟨_, rfl⟩
        rw [← hgpe] at hst hgp cN
        have HLE := Lib.hid hLE
        have HST := Lib.hid hst
        have hcd12 : cd ≤ 12 := Nat.le_trans hc1 hC
        clear hcde hgpe hst hLE hc1 hox hvx hcl
        gi_wp2_with fail
        refine wpIn_spine (fun V => Below W.heap.size W V) [0, 1, 2, 3, 4, 5, 6] [7, 8, 9, 10] (fun _ => trivial) (by kernel_rfl) (by kernel_rfl) (by kernel_rfl) ?_
        iterate 7 (refine wpE_op (v := ?_) rfl rfl (fun W hW => ?_) ?_; rotate_left; (have z0 := onB hW cN; have z1 := onB hW cX; have z2 := onB hW cK; have z3 := onB hW d1; go_simp; first | done | with_reducible rfl); simp only [Act.put, List.setIfInBounds_toArray, List.set_cons_zero, List.set_cons_succ])
        refine wpE_nil ⟨fun h => (by cases h), wpSpI_op rfl hd ?_⟩
        gi_wp2_with (refine ⟨trivial, ?_⟩; gi_at_call 86; refine (CallsIn.inRound ll (callsIn_wide.2 HA.out)).mono ?_; rintro e w6 ⟨r2, rfl, hr2, hb6⟩; obtain ⟨A7, c7, rfl, _⟩ := id hr2)
        have hb6' := hd.trans (hb6.mono hd.size)
        have HL := hideC (HLE.out w6 _ hr2)
        refine nxtI_op rfl hb6' ?_
        gi_wp2_with (refine ⟨trivial, ?_⟩; gi_at_call 90; refine (CallsIn.inRound ll (callsIn_wide.2 HL.out)).mono ?_; rintro e w7 ⟨rfl, hb7⟩)
        have hb7' := hb6'.trans (hb7.mono hb6'.size)
        have h17 := h1.below hb7' h1.lt
        have cN7 := h17.cell 0
        have fN7 := h17.frozen 0
        have lN7 := h17.lt
        refine nxtI_op rfl hb7' ?_
        gi_wp2_with fail
        refine nxtI_op rfl hb7' ?_
        gi_wp2_with fail
        refine nxtI_nil ?_
        gi_wp2_with fail
        have hk8 := (KeepW.of_below hb7').trans (KeepW.setCell (p := ⟨gk + 1, 0, none⟩) h17 (by decide) (.int .i64 ((gp : Int) + cd)))
        have hb8 := (hb7'.mono h4.size).setCell (p := ⟨gk + 1, 0, none⟩) hkw (.int .i64 ((gp : Int) + cd))
        exact ⟨((KeepsOthers.of_below hb7').trans (KeepsOthers.setCell _ _ _)).from _, KpA.mk_ hk8 hb8 hT.pos,
          by rw [HST.out]; exact h17.set_ 0 (.int .i64 ((gp : Int) + cd)), (h2.below hb7' h2.lt).far (p := ⟨gk + 1, 0, none⟩) (by simp) _, (h3.below hb7' h3.lt).far (p := ⟨gk + 1, 0, none⟩) (Ne.symm hnX) _, h4.trans hb8, h5.others ((KeepsOthers.of_below hb7').trans (KeepsOthers.setCell _ _ _)), h6.keep hk8⟩
      case done =>
        rintro D W hD ⟨h1, h2, h3, h4, h5, h6⟩ hKd
        have hM6 := hM5.cons h5 (by have := k5.size; omega) hD hKd
        have n0 := h1.cell 0
        have hg1 := HGL.out (mems R)
        have hmr : (mems R).length ≤ 4096 := by
          rw [mems_len]
          exact Nat.le_trans (card_bits (C := Os.length) HRL.out) (by rw [HLO.out]; exact hlN)
        have hmul : (mems R).length * j ≤ 4096 * 12 := Nat.mul_le_mul hmr hC
        have hmx : max (greatO j Ns Os n : Int) (gainR j Ns Os n (mems R) : Int) = (greatO j Ns Os (n + 1) : Int) := by rw [HGR.out]; omega
        have hgb2 : greatO j Ns Os (n + 1) ≤ 16777216 := by rw [HGR.out]; omega
        have HMX := Lib.hid hmx
        have lN := h1.lt
        clear hgb hg1 hmul
        go_wp2_with fail
        exact ⟨n + 1, by rw [← HMX.out]; rfl, ⟨by omega, hM6, h4, h3, hgb2⟩, by omega⟩
  · obtain rfl : n = E := by omega
    go_wp2_with fail
    refine leave_marks (n₀ := w.heap.size) _ _ hM fun W' hW' => ?_
    exact ⟨_, by simp [results, Tryz.results134], rfl, hb.trans hW'.1⟩
end Go.Proofs.YtlakjhhpdbgekaaGreatDoor

/-
  What the program's node finds, in plain words, and that it is what the reference finds.
-/
namespace Go.Proofs.YtlakjhhpdbgekaaGreatDoor
open Go.RowKit

theorem isIn_cellsOf (Os : List Nat) (a b : Int) : isIn (cellsOf Os) (a, b) = hasO Os a b := by
  rw [Bool.eq_iff_iff, isIn_iff]
  unfold hasO hasB
  rw [Bool.and_eq_true, Bool.and_eq_true, Bool.and_eq_true, decide_eq_true_eq, decide_eq_true_eq, decide_eq_true_eq]
  constructor
  · rintro ⟨d, hd, e⟩
    obtain ⟨e1, e2⟩ := Prod.mk.inj e
    obtain ⟨h1, h2⟩ := mem_cellsOf.1 hd
    subst e1; subst e2
    exact ⟨⟨by omega, by omega⟩, by omega, by simpa using h2⟩
  · rintro ⟨⟨h1, h2⟩, h3, h4⟩
    refine ⟨(a.toNat, b.toNat), mem_cellsOf.2 ⟨by omega, h4⟩, ?_⟩
    rw [Int.toNat_of_nonneg h1, Int.toNat_of_nonneg h3]
def sumO (Os : List Nat) (n : Nat) : Nat := ((Os.take n).map card).foldl (· + ·) 0
theorem sum_cellsOf (Os : List Nat) : (cellsOf Os).length = ((List.range Os.length).map fun i => card (Os.getD i 0)).sum := by
  unfold cellsOf
  rw [List.length_flatMap]
  congr 1
  refine List.map_congr_left fun i _ => ?_
  rw [List.length_map, mems_len]
theorem range_getD {α : Type} (l : List Nat) (f : Nat → α) : ((List.range l.length).map fun i => f (l.getD i 0)) = l.map f := by
  apply List.ext_getElem?
  intro i
  by_cases hi : i < l.length
  · rw [List.getElem?_map, List.getElem?_range hi, Option.map_some, List.getElem?_map, List.getElem?_eq_getElem hi, Option.map_some, List.getD_eq_getElem?_getD, List.getElem?_eq_getElem hi]; rfl
  · rw [List.getElem?_eq_none (by simp; omega), List.getElem?_eq_none (by simp; omega)]
theorem foldl_sum (l : List Nat) : ∀ a, l.foldl (· + ·) a = a + l.sum := by
  induction l with
  | nil => intro a; simp
  | cons x l ih => intro a; rw [List.foldl_cons, ih, List.sum_cons]; omega
theorem sumO_all (Os : List Nat) : sumO Os Os.length = (cellsOf Os).length := by
  rw [sum_cellsOf, range_getD Os card]
  unfold sumO
  rw [List.take_length, foldl_sum, Nat.zero_add]
/-- The ones that a concept does not cover. -/
def lessO (C : Nat) (Ns Os : List Nat) (s : Nat) : List Nat := (List.range Os.length).map fun i => if (havN C Ns s).testBit i = true then minusN (Os.getD i 0) s else Os.getD i 0
theorem lessO_len (C : Nat) (Ns Os : List Nat) (s : Nat) : (lessO C Ns Os s).length = Os.length := by simp [lessO]
theorem lessO_get {C : Nat} {Ns Os : List Nat} {s i : Nat} (hi : i < Os.length) : (lessO C Ns Os s).getD i 0 = if (havN C Ns s).testBit i = true then minusN (Os.getD i 0) s else Os.getD i 0 := by
  unfold lessO
  rw [List.getD_eq_getElem?_getD, List.getElem?_map, List.getElem?_range hi]; rfl
theorem mems_minus (N s : Nat) : mems (minusN N s) = (mems N).filter fun j => !s.testBit j := by
  obtain ⟨a, ha⟩ := mems_is N
  obtain ⟨b, hb⟩ := mems_is (minusN N s)
  rw [ha (max a b) (by omega), hb (max a b) (by omega), List.filter_filter]
  refine List.filter_congr fun j _ => ?_
  rw [testBit_minusN, Bool.and_comm]
theorem cellsOf_less (C : Nat) (Ns Os : List Nat) (s : Nat) : cellsOf (lessO C Ns Os s) = lessL C Ns (cellsOf Os) s := by
  unfold cellsOf lessL
  rw [List.filter_flatMap, lessO_len]
  have key : ∀ (l : List Nat), (∀ i ∈ l, i < Os.length) → (l.flatMap fun i => (mems ((lessO C Ns Os s).getD i 0)).map fun j => (i, j)) = l.flatMap fun i => ((mems (Os.getD i 0)).map fun j => (i, j)).filter fun c => !inS C Ns s c := by
    intro l
    induction l with
    | nil => intro _; rfl
    | cons i l ih =>
      intro hl
      rw [List.flatMap_cons, List.flatMap_cons, ih fun k hk => hl k (by simp [hk])]
      congr 1
      rw [lessO_get (hl i (by simp)), List.filter_map]
      by_cases hi : (havN C Ns s).testBit i = true
      · rw [if_pos hi, mems_minus]
        congr 1
        refine List.filter_congr fun j _ => ?_
        simp [inS, hi]
      · rw [if_neg hi]
        congr 1
        rw [eq_comm, List.filter_eq_self]
        intro j _
        rw [Bool.not_eq_true] at hi
        simp [inS, hi]
  exact key _ fun i hi => List.mem_range.1 hi
theorem mems_and (N s : Nat) : mems (N &&& s) = (mems N).filter s.testBit := by
  obtain ⟨a, ha⟩ := mems_is N
  obtain ⟨b, hb⟩ := mems_is (N &&& s)
  rw [ha (max a b) (by omega), hb (max a b) (by omega), List.filter_filter]
  refine List.filter_congr fun j _ => ?_
  rw [Nat.testBit_and, Bool.and_comm]
theorem sum_filter (p : Nat → Bool) (f : Nat → Nat) : ∀ l : List Nat, ((l.filter p).map f).sum = (l.map fun i => if p i = true then f i else 0).sum
  | [] => rfl
  | i :: l => by
    rw [List.filter_cons, List.map_cons, List.sum_cons, ← sum_filter p f l]
    split <;> simp
/-- What a concept covers. -/
theorem gain_cells {C : Nat} {Ns Os : List Nat} (hl : Ns.length ≤ 4096) (hlen : Os.length = Ns.length) (s : Nat) : gainR C Ns Os s (mems (havN C Ns s)) = (cellsOf Os).countP (inS C Ns (cloN C Ns s)) := by
  have hm : mems (havN C Ns s) = (List.range Os.length).filter (havN C Ns s).testBit := mems_under fun j hj => by rw [hlen]; exact havN_lt hl hj
  unfold gainR cellsOf
  rw [foldl_sum, Nat.zero_add, hm, sum_filter, List.countP_flatMap]
  congr 1
  refine List.map_congr_left fun i _ => ?_
  rw [Function.comp_apply, List.countP_map]
  have e : ∀ j, (inS C Ns (cloN C Ns s) ∘ fun j => (i, j)) j = ((cloN C Ns s).testBit j && (havN C Ns s).testBit i) := fun j => by
    rw [Function.comp_apply, inS, hav_clo hl]
  rw [List.countP_congr fun j _ => by rw [e j]]
  by_cases hi : (havN C Ns s).testBit i = true
  · rw [if_pos hi, ← mems_len, mems_and, List.countP_eq_length_filter]
    congr 1
    refine List.filter_congr fun j _ => ?_
    rw [hi, Bool.and_true]
  · rw [if_neg hi]
    rw [Bool.not_eq_true] at hi
    rw [eq_comm, List.countP_eq_zero]
    intro j _
    rw [hi]; simp
theorem greatO_most {C : Nat} {Ns Os : List Nat} (hl : Ns.length ≤ 4096) (hlen : Os.length = Ns.length) : greatO C Ns Os (2 ^ C) = mostL C Ns (cellsOf Os) := by
  refine Nat.le_antisymm ?_ ?_
  · refine foldl_max_bound _ _ _ (Nat.zero_le _) fun x hx => ?_
    obtain ⟨s, _, rfl⟩ := List.mem_map.1 hx
    rw [gain_cells hl hlen, ← gain_eq]
    exact mostL_le (clo_clo hl s)
  · refine foldl_max_bound _ _ _ (Nat.zero_le _) fun x hx => ?_
    obtain ⟨s, hs, rfl⟩ := List.mem_map.1 hx
    rw [List.mem_filter, decide_eq_true_eq] at hs
    rw [gain_eq]
    have h1 := gain_cells (C := C) hl hlen s
    rw [hs.2] at h1
    rw [← h1]
    exact (foldl_max_le _ 0).2 _ (List.mem_map.2 ⟨s, hs.1, rfl⟩)
/-! The program's node. -/
def nodeP (C : Nat) (Ns : List Nat) (P : List Nd) : Nat → Int → Int → List Nat → Int × Int
  | 0, _, _, _ => (1, 0)
  | f + 1, n, b, Os =>
    let x := P.getD n.toNat default
    if x.kind = 2 then (if x.cells.any (fun c => !hasO Os c.1 c.2) = true then (3, n) else if (x.cells.length : Int) ≤ b ∨ apartB C Ns x.cells = false then (5, n) else (1, 0))
    else if x.kind = 3 then (if 12 < C ∨ (sumO Os Os.length : Int) ≤ b * greatO C Ns Os (2 ^ C) then (5, n) else (1, 0))
    else if hasO Os x.row x.col = false then (3, n)
    else if b < 1 then (5, n)
    else if (conP C Ns x.row x.col).length = 0 ∨ (conP C Ns x.row x.col).length ≠ x.ch.length then (4, n)
    else kidsF (fun s c => nodeP C Ns P f c (b - 1) (lessO C Ns Os s)) ((conP C Ns x.row x.col).zip x.ch)
theorem kidsF_congr {g h : Nat → Int → Int × Int} : ∀ {l : List (Nat × Int)}, (∀ x ∈ l, g x.1 x.2 = h x.1 x.2) → kidsF g l = kidsF h l
  | [], _ => rfl
  | (s, c) :: t, hh => by
    rw [kidsF, kidsF, hh (s, c) (by simp), kidsF_congr fun x hx => hh x (by simp [hx])]
/-- The sets are ones of the matrix. -/
def Under (Ns Os : List Nat) : Prop := Os.length = Ns.length ∧ ∀ i, i < Os.length → ∀ j, (Os.getD i 0).testBit j = true → (Ns.getD i 0).testBit j = true
theorem Under.less {C : Nat} {Ns Os : List Nat} (h : Under Ns Os) (s : Nat) : Under Ns (lessO C Ns Os s) := by
  refine ⟨by rw [lessO_len]; exact h.1, fun i hi j hj => ?_⟩
  rw [lessO_len] at hi
  rw [lessO_get hi] at hj
  split at hj
  · rw [testBit_minusN, Bool.and_eq_true] at hj; exact h.2 i hi j hj.1
  · exact h.2 i hi j hj
theorem nodeP_eq {C : Nat} {Ns : List Nat} (hC : C ≤ 12) (hl : Ns.length ≤ 4096) (hin : rowsIn C Ns) (P : List Nd) : ∀ (f : Nat) (n b : Int) (Os : List Nat), Under Ns Os → nodeP C Ns P f n b Os = nodeR C Ns P f n b (cellsOf Os)
  | 0, _, _, _, _ => rfl
  | f + 1, n, b, Os, hu => by
    rw [nodeP, nodeR]
    generalize P.getD n.toNat default = x
    have e1 : (x.cells.any (fun c => !hasO Os c.1 c.2) = true) ↔ (x.cells.all (isIn (cellsOf Os)) = false) := by
      rw [← Bool.not_eq_true, List.all_eq_true, List.any_eq_true]
      constructor
      · rintro ⟨c, hc, h⟩ hh
        have := hh c hc
        rw [show c = (c.1, c.2) from rfl, isIn_cellsOf] at this
        rw [this] at h; cases h
      · intro h
        apply Classical.byContradiction
        intro hn
        refine h fun c hc => ?_
        rw [show c = (c.1, c.2) from rfl, isIn_cellsOf]
        cases hh : hasO Os c.1 c.2 with
        | true => rfl
        | false => exact absurd ⟨c, hc, by rw [hh]; rfl⟩ hn
    rw [sumO_all, greatO_most hl hu.1, isIn_cellsOf]
    by_cases k2 : x.kind = 2
    · rw [if_pos k2, if_pos k2]
      by_cases h1 : x.cells.any (fun c => !hasO Os c.1 c.2) = true
      · rw [if_pos h1, if_pos (e1.1 h1)]
      · rw [if_neg h1, if_neg fun h => h1 (e1.2 h)]
    · rw [if_neg k2, if_neg k2]
      by_cases k3 : x.kind = 3
      · rw [if_pos k3, if_pos k3]
      · rw [if_neg k3, if_neg k3]
        by_cases h1 : hasO Os x.row x.col = false
        · rw [if_pos h1, if_pos h1]
        · rw [if_neg h1, if_neg h1]
          by_cases h2 : b < 1
          · rw [if_pos h2, if_pos h2]
          · rw [if_neg h2, if_neg h2]
            -- the cell is a one of the matrix
            rw [Bool.not_eq_false] at h1
            unfold hasO hasB at h1
            simp only [Bool.and_eq_true, decide_eq_true_eq] at h1
            obtain ⟨⟨h3, h4⟩, h5, h6⟩ := h1
            obtain ⟨i, hi⟩ := Int.eq_ofNat_of_zero_le h3
            obtain ⟨j, hj⟩ := Int.eq_ofNat_of_zero_le h5
            rw [hi, hj, Int.toNat_natCast, Int.toNat_natCast] at h6
            rw [hi] at h4
            rw [hi, hj]
            have hil : i < Ns.length := by have := hu.1; omega
            have hbit := hu.2 i (by omega) j h6
            have hjC : j < C := by
              have := hin i hil
              rw [← this, Nat.testBit_and, testBit_lowN, Bool.and_eq_true, decide_eq_true_eq] at hbit
              exact hbit.2
            have hm : mhas C Ns (i : Int) (j : Int) = true := by rw [mhas_at hil hjC]; exact hbit
            have hcd : card (mrow Ns (i : Int)) ≤ 12 := by
              refine Nat.le_trans (card_bits (C := C) fun y hy => ?_) hC
              rw [mrow, if_pos (by omega), Int.toNat_natCast] at hy
              have := hin i hil
              rw [← this, Nat.testBit_and, testBit_lowN, Bool.and_eq_true, decide_eq_true_eq] at hy
              exact hy.2
            have hcp : conP C Ns (i : Int) (j : Int) = conL C Ns i j := by unfold conP; rw [if_pos ⟨hm, hcd⟩, Int.toNat_natCast, Int.toNat_natCast]
            rw [hcp, Int.toNat_natCast, Int.toNat_natCast]
            have hne : conL C Ns i j ≠ [] := by
              intro he
              have hc : cloN C Ns (2 ^ j) ∈ conL C Ns i j := by
                rw [mem_conL, inC, Bool.and_eq_true, Bool.and_eq_true, decide_eq_true_eq]
                refine ⟨⟨clo_clo hl _, clo_sup hl hjC (by simp)⟩, ?_⟩
                rw [hav_clo hl, testBit_havN C Ns hl]
                refine ⟨hil, fun y hy _ => ?_⟩
                rw [Nat.testBit_two_pow, decide_eq_true_eq] at hy
                subst hy; exact hbit
              rw [he] at hc; simp at hc
            have hlen0 : ¬ (conL C Ns i j).length = 0 := fun h => hne (List.eq_nil_of_length_eq_zero h)
            by_cases h7 : (conL C Ns i j).length ≠ x.ch.length
            · rw [if_pos (Or.inr h7), if_pos h7]
            · rw [if_neg (by rw [not_or]; exact ⟨hlen0, h7⟩), if_neg h7]
              refine kidsF_congr fun y _ => ?_
              rw [nodeP_eq hC hl hin P f _ _ _ (hu.less _), cellsOf_less]
end Go.Proofs.YtlakjhhpdbgekaaGreatDoor

/-
  What a child's turn leaves open, cell for cell, and the clone that holds it.
-/
namespace Go.Proofs.YtlakjhhpdbgekaaGreatDoor
open Go.RowKit
/-- The ones left, where the columns of s have been taken out of the rows tried. -/
def lessP (s : Nat) (Os : List Nat) (pre : List Nat) : List Nat := (List.range Os.length).map fun i => if i ∈ pre then minusN (Os.getD i 0) s else Os.getD i 0
theorem lessP_len (s : Nat) (Os pre : List Nat) : (lessP s Os pre).length = Os.length := by simp [lessP]
theorem lessP_at {s : Nat} {Os pre : List Nat} {i : Nat} (hi : i < Os.length) : (lessP s Os pre)[i]? = some (if i ∈ pre then minusN (Os.getD i 0) s else Os.getD i 0) := by
  unfold lessP
  rw [List.getElem?_map, List.getElem?_range hi, Option.map_some]
theorem lessP_nil (s : Nat) (Os : List Nat) : lessP s Os [] = Os := by
  apply List.ext_getElem?
  intro i
  by_cases hi : i < Os.length
  · rw [lessP_at hi, if_neg (by simp), List.getD_eq_getElem?_getD, List.getElem?_eq_getElem hi]; rfl
  · rw [List.getElem?_eq_none (by rw [lessP_len]; omega), List.getElem?_eq_none (by omega)]
theorem minus_minus (a s : Nat) : minusN (minusN a s) s = minusN a s := nat_ext fun x => by
  rw [testBit_minusN, testBit_minusN]
  cases a.testBit x <;> cases s.testBit x <;> rfl
theorem lessP_snoc {s : Nat} {Os pre : List Nat} {x : Nat} (hx : x < Os.length) : (lessP s Os pre).set x (minusN ((lessP s Os pre).getD x 0) s) = lessP s Os (pre ++ [x]) := by
  apply List.ext_getElem?
  intro i
  have e : (lessP s Os pre).getD x 0 = if x ∈ pre then minusN (Os.getD x 0) s else Os.getD x 0 := by rw [List.getD_eq_getElem?_getD, lessP_at hx]; rfl
  rw [e, List.getElem?_set]
  by_cases hi : x = i
  · subst hi
    rw [if_pos rfl, if_pos (show x < (lessP s Os pre).length by rw [lessP_len]; exact hx), lessP_at hx, if_pos (show x ∈ pre ++ [x] from List.mem_append_right _ (List.mem_singleton.2 rfl))]
    by_cases hp : x ∈ pre
    · rw [if_pos hp, minus_minus]
    · rw [if_neg hp]
  · rw [if_neg hi]
    by_cases hl : i < Os.length
    · rw [lessP_at hl, lessP_at hl]
      have : i ∈ pre ++ [x] ↔ i ∈ pre := by
        rw [List.mem_append, List.mem_singleton]
        exact ⟨fun h => h.elim id fun h => absurd h.symm hi, .inl⟩
      simp only [this]
    · rw [List.getElem?_eq_none (by rw [lessP_len]; omega), List.getElem?_eq_none (by rw [lessP_len]; omega)]
theorem lessP_mems (C : Nat) (Ns Os : List Nat) (s : Nat) : lessP s Os (mems (havN C Ns s)) = lessO C Ns Os s := by
  unfold lessP lessO
  refine List.map_congr_left fun i _ => ?_
  simp only [mem_mems]
theorem sum_step {su c i L : Nat} (hi : i < L) (hL : L ≤ 4096) (hs : su ≤ i * 4096) (hc : c ≤ 4096) : wrap64 ((su : Int) + (c : Int)) = ((su + c : Nat) : Int) ∧ su + c ≤ (i + 1) * 4096 ∧ i + 1 ≤ L ∧ L - (i + 1) < L - i := by
  have : i * 4096 ≤ 16777216 := by omega
  refine ⟨?_, by omega, by omega, by omega⟩
  rw [Int.natCast_add]
  exact IntWalk.wrap64_in _ ⟨by omega, by omega⟩
/-- A block holds, cell for cell from its start, the sets. -/
def Cln (w : World) (g : Nat) (Ls : List Nat) : Prop := ∃ cs vs, Blk w g 65 cs ∧ (∀ (k : Nat) v, vs[k]? = some v → cs[k]? = some v) ∧ Sets w vs Ls
section
variable {w w' : World} {g : Nat} {Ls : List Nat}
theorem Cln.below (h : Cln w g Ls) (hb : Below w.heap.size w w') : Cln w' g Ls := by
  obtain ⟨cs, vs, h1, h2, h3⟩ := h
  exact ⟨cs, vs, h1.below hb h1.lt, h2, h3.below hb⟩
theorem Cln.lt (h : Cln w g Ls) : g < w.heap.size := by obtain ⟨_, _, h1, _⟩ := h; exact h1.lt
theorem Cln.row (h : Cln w g Ls) : ∃ vs, Row w (some ⟨g, 0, none⟩) vs ∧ Sets w vs Ls := by
  obtain ⟨cs, vs, h1, h2, h3⟩ := h
  refine ⟨vs, fun _ => ⟨g, 0, rfl, h1.lt, fun k u hu => ?_⟩, h3⟩
  have hc := h2 k u hu
  obtain ⟨hk, hc'⟩ := Array.getElem?_eq_some_iff.1 hc
  have := h1.cell k
  simpa [hc, hc', hk] using this
theorem Cln.put (h : Cln w g Ls) {v : Value} {N i : Nat} (hs : IsSet w v N) : Cln (w.setCell ⟨g, i, none⟩ v) g (Ls.set i N) := by
  obtain ⟨cs, vs, h1, h2, h3⟩ := h
  have hk := KeepW.setCell (p := ⟨g, i, none⟩) h1 (by decide) v
  refine ⟨_, vs.set i v, h1.set_ i v, fun k u hu => ?_, (h3.put hs).keep hk⟩
  rw [List.getElem?_set] at hu
  rw [Array.getElem?_setIfInBounds]
  by_cases e : i = k
  · subst e
    rw [if_pos rfl] at hu
    split at hu
    · next hl =>
      have := Array.getElem?_eq_some_iff.1 (h2 i _ (List.getElem?_eq_getElem hl))
      obtain ⟨hi, _⟩ := this
      rw [if_pos rfl, if_pos hi]
      exact hu
    · cases hu
  · rw [if_neg e] at hu
    rw [if_neg e]
    exact h2 k u hu
end
abbrev proofV (size : Int) (A : Option Addr) (n c : Nat) : Value := .agg #[.int .i64 size, .slice A n c]
end Go.Proofs.YtlakjhhpdbgekaaGreatDoor
