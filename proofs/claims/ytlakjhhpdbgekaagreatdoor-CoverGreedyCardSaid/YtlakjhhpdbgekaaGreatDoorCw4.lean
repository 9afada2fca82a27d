import Derived.Test.YtlakjhhpdbgekaaGreatDoorCw3
/-
  The reference of chapter 48: Concepts.
-/
namespace Go.Proofs.YtlakjhhpdbgekaaGreatDoor
open Go.RowKit

theorem conAt_lt {C : Nat} {Ns : List Nat} {k t : Nat} (h : t ∈ conAt C Ns k) : t < 2 ^ C := by
  unfold conAt at h
  rw [fold_mem] at h
  rcases h with h | h
  · have := List.mem_of_mem_take h
    unfold clAsc at this
    rw [List.mem_filter, List.mem_range] at this
    exact this.1
  · cases h
theorem clAsc_lt {C : Nat} {Ns : List Nat} {t n : Nat} (h : t ∈ clAsc C Ns n) : t < n := by
  unfold clAsc at h
  rw [List.mem_filter, List.mem_range] at h
  exact h.1
set_option maxRecDepth 100000 in
set_option maxHeartbeats 8000000 in
theorem concepts48_any (C : Nat) (A : Option Addr) (c : Nat) (M : List (List Bool)) (w : World) (h : IsRef w C A M) (hC : C ≤ 12) (hR : M.length ≤ 60) :
    Calls Tryz.prog 17 #[refV C A M.length c] w fun e w' => ∃ v, e = .returned v ∧ OwnD w' w.heap.size v C (nsOf C M) (closL C (nsOf C M)) ∧ Below w.heap.size w w' := by
  obtain ⟨i0, hi0, hz0, hz1, hz2⟩ := info_parts info_conD
  have HCD := Lib.hid (fun W (hb : Below w.heap.size w W) => closedr_any C A c M W (h.below hb) hC hR)
  have HHV := Lib.hid (fun W s (hb : Below w.heap.size w W) => havr_any C A c M s W (h.below hb) (by omega) hR)
  obtain ⟨N, hN⟩ : ∃ N, N = nsOf C M := ⟨_, rfl⟩
  rw [← hN] at HCD HHV ⊢
  have hE2 : 2 ^ C ≤ 4096 := Nat.le_trans (Nat.pow_le_pow_right (by omega) hC) (by decide)
  have hin := fun k s => con_ins (C := C) (Ns := N) (k := k) (s := s)
  have hend := conAt_all (C := C) (Ns := N)
  have hlc := conAt_len (C := C) (Ns := N)
  have hlt1 := fun k t => conAt_lt (C := C) (Ns := N) (k := k) (t := t)
  have hlt2 := fun t => clAsc_lt (C := C) (Ns := N) (t := t) (n := 2 ^ C)
  have h0 : conAt C N 0 = [] := rfl
  have hlL := clAsc_len (C := C) (Ns := N) (2 ^ C)
  obtain ⟨L, hL⟩ : ∃ L, L = clAsc C N (2 ^ C) := ⟨_, rfl⟩
  rw [← hL] at HCD hin hend hlt2 hlL
  rw [← hend]
  generalize conAt C N = T at hin hend hlc hlt1 h0 ⊢
  have hL4 : L.length ≤ 4096 := Nat.le_trans hlL hE2
  have HIN := Lib.hid hin
  have HLC := Lib.hid hlc
  have HLT1 := Lib.hid (fun k t (hm : t ∈ T k) => Nat.lt_of_lt_of_le (hlt1 k t hm) (Nat.le_trans hE2 (by decide : 4096 ≤ 2 ^ 64)))
  have HLT2 := Lib.hid (fun t (hm : t ∈ L) => Nat.lt_of_lt_of_le (hlt2 t hm) (Nat.le_trans hE2 (by decide : 4096 ≤ 2 ^ 64)))
  have H0 := Lib.hid h0
  clear hin hend hlc hlt1 hlt2 h0 hL hlL hE2 hN
  go_enter Tryz.func17, Tryz.ntmps17
  go_wp2_with fail
  refine absC1 fun W0 hX0 hb0 hz => ?_
  obtain ⟨X, hXe⟩ : ∃ g, g = w.heap.size := ⟨_, rfl⟩
  rw [← hXe] at hX0 ⊢
  have hXw : w.heap.size ≤ X := by omega
  clear hXe hz
  refine (HCD.out W0 hb0).mono ?_
  rintro e w1 ⟨v1, rfl, hown1, hb1⟩
  obtain ⟨A1, c1, rfl, hlc1, -, hrow, -⟩ := row_of_own hown1
  have b1 := hb0.trans (hb1.mono hb0.size)
  have hX1 := hX0.below hb1 hX0.lt
  clear HCD hX0 hown1 hb1 hb0
  go_wp2_with fail
  refine wp_loopF (β := Nat × Value) (fun x f => #[f 0, .pointer (some ⟨X, 0, none⟩), .slice none 0 0, x.2, f 4, f 5, f 6, f 7, f 8, f 9, f 10, f 11, .slice A1 L.length c1, .int .i64 (L.length : Int), .int .i64 (x.1 : Int), f 15, f 16, f 17, f 18, f 19, f 20, f 21, f 22, f 23, f 24, f 25, f 26, f 27, f 28, f 29, f 30, f 31, f 32, f 33, f 34, f 35, f 36, f 37, f 38, f 39, f 40, f 41, f 42, f 43, f 44, f 45, f 46, f 47, f 48, f 49, f 50, f 51, f 52, f 53, f 54])
    (fun x ds W => x.1 ≤ L.length ∧ ds = [] ∧ Below w1.heap.size w1 W ∧ OwnD W w1.heap.size x.2 C N (T x.1)) (fun x => L.length - x.1) (0, .slice none 0 0) rfl
    ⟨Nat.zero_le _, rfl, Below.refl _ _, by dsimp only; rw [H0.out]; exact OwnD.nil _ _ _ _⟩ ?_
  rintro ⟨k, v3⟩ f ds W ⟨hk, rfl, hbW, hown⟩
  dsimp only at hk hown ⊢
  have bW := b1.trans (hbW.mono b1.size)
  by_cases hlt : k < L.length
  · obtain ⟨s, hs⟩ : ∃ s, L[k]? = some s := ⟨_, List.getElem?_eq_getElem hlt⟩
    have hs64 := HLT2.out s (List.mem_of_getElem? hs)
    have hins := HIN.out k s hs
    obtain ⟨g1, o1, rfl, hg1, hc1⟩ := (hrow.below hbW) (by rw [List.length_map]; omega)
    have d1 := hc1 k (.int .u64 (s : Int)) (by rw [List.getElem?_map, hs]; rfl)
    have hXW := hX1.below hbW hX1.lt
    have x0 := hXW.cell 0
    have x1 := hXW.cell 1
    have HC1 := hideC (HHV.out W s bW)
    obtain ⟨r, hr⟩ : ∃ r, r = havN C N s := ⟨_, rfl⟩
    rw [← hr] at HC1
    have HR := Lib.hid hr
    obtain ⟨K, hK⟩ : ∃ K, K = T k := ⟨_, rfl⟩
    have hKl : K.length ≤ 4096 := by rw [hK]; exact Nat.le_trans (HLC.out k) (by omega)
    have HK64 := Lib.hid (fun t (hm : t ∈ K) => HLT1.out k t (by rw [← hK]; exact hm))
    rw [← hK] at hown hins
    have HINS := Lib.hid hins
    clear hr hs hins hc1 hK
    go_wp2_with fail
    refine HC1.out.mono ?_
    rintro e W2 ⟨rfl, hb2⟩
    have hown2 := hown.below hb2
    have hbW2 := hbW.trans (hb2.mono hbW.size)
    clear HC1 x0 x1 d1 hown hXW hbW bW hb2
    obtain ⟨AK, cK, rfl, hcK, hrK2⟩ := hown2.row
    go_wp2_with fail
    refine abs1 fun W3 hB3 hb3 hz => ?_
    clear hz
    obtain ⟨gc, hgc⟩ : ∃ g, g = W2.heap.size := ⟨_, rfl⟩
    rw [← hgc] at hB3 ⊢
    have hown3 := hown2.below hb3
    have hbW3 := hbW2.trans (hb3.mono hbW2.size)
    have hrK := hrK2.below hb3
    clear hgc hown2 hbW2 hb3 hrK2
    have HOWN := Lib.hid hown3
    clear hown3
    obtain ⟨F, hF⟩ : ∃ F : Nat → List Nat × Bool, F = fun i => (K.take i).foldl (insStep s) ([], false) := ⟨_, rfl⟩
    have hF0 : F 0 = ([], false) := by rw [hF]; rfl
    have hFs : ∀ i t, K[i]? = some t → F (i + 1) = insStep s (F i) t := fun i t ht => by rw [hF]; dsimp only; rw [List.take_add_one, ht, List.foldl_append]; rfl
    have hFe : insEnd s (F K.length) = T (k + 1) := by rw [hF]; dsimp only; rw [List.take_length]; exact HINS.out
    have hFl : ∀ i, i ≤ K.length → (F i).1.length ≤ 4097 := fun i hi => by
      rw [hF]; dsimp only
      have := ins_len s (K.take i) ([], false)
      rw [List.length_take] at this
      simp at this; omega
    have HF0 := Lib.hid hF0; have HFS := Lib.hid hFs; have HFE := Lib.hid hFe; have HFL := Lib.hid hFl
    clear hF hF0 hFs hFe hFl HINS HIN
    refine wp_loopF (β := Nat × Value × Bool) (fun x f => #[f 0, .pointer (some ⟨X, 0, none⟩), .slice none 0 0, .slice AK K.length cK, f 4, .int .u64 (s : Int), .pointer (some ⟨gc, 0, none⟩), x.2.1, .bool x.2.2, f 9, f 10, f 11, .slice (some ⟨g1, o1, none⟩) L.length c1, .int .i64 (L.length : Int), .int .i64 (k : Int), f 15, f 16, f 17, f 18, f 19, f 20, f 21, f 22, .slice AK K.length cK, .int .i64 (K.length : Int), .int .i64 (x.1 : Int), f 26, f 27, f 28, f 29, f 30, f 31, f 32, f 33, f 34, f 35, f 36, f 37, f 38, f 39, f 40, f 41, f 42, f 43, f 44, f 45, f 46, f 47, f 48, f 49, f 50, f 51, f 52, f 53, f 54])
      (fun x ds V => x.1 ≤ K.length ∧ ds = [] ∧ Below W3.heap.size W3 V ∧ OwnD V W3.heap.size x.2.1 C N (F x.1).1 ∧ x.2.2 = (F x.1).2) (fun x => K.length - x.1) (0, .slice none 0 0, false) rfl
      ⟨Nat.zero_le _, rfl, Below.refl _ _, by dsimp only; rw [HF0.out]; exact OwnD.nil _ _ _ _, by dsimp only; rw [HF0.out]⟩ ?_
    rintro ⟨i, v7, dn⟩ f ds V ⟨hi, rfl, hbV, hownV, hdn⟩
    dsimp only at hi hownV hdn ⊢
    have hBV := hB3.below hbV hB3.lt
    by_cases hlt2 : i < K.length
    · obtain ⟨t, ht⟩ : ∃ t, K[i]? = some t := ⟨_, List.getElem?_eq_getElem hlt2⟩
      have ht64 := HK64.out t (List.mem_of_getElem? ht)
      have hfs := HFS.out i t ht
      have hfl := HFL.out i hi
      obtain ⟨Fi, hFi⟩ : ∃ x, x = F i := ⟨_, rfl⟩
      rw [← hFi] at hownV hdn hfs hfl
      obtain ⟨P, d⟩ := Fi
      dsimp only at hownV hdn hfl
      subst hdn
      obtain ⟨g2, o2, rfl, hg2, e0, e1⟩ := row_conV (hrK.below hbV) ht
      have hbf := fun w => before_r48 s t hs64 ht64 w
      obtain ⟨lt, hlt3⟩ : ∃ b, b = lecR s t := ⟨_, rfl⟩
      rw [← hlt3] at hbf
      obtain ⟨q, hq⟩ : ∃ q, q = havN C N t := ⟨_, rfl⟩
      rw [← hq] at e0
      have HQ := Lib.hid hq
      have HFSN := Lib.hid hfs; have HL3 := Lib.hid hlt3; have HBF := Lib.hid hbf
      clear ht hfs hFi hlt3 hbf hq
      cases dn with
      | true =>
        have hn : F (i + 1) = (P ++ [t], true) := by rw [HFSN.out]; simp [insStep]
        have HN := Lib.hid hn
        clear hn HBF
        go_upto_region 14 with fail
        refine abs1 fun V1 hB1 hb1 hz => ?_
        clear hz
        obtain ⟨gx, hgx⟩ : ∃ g, g = V.heap.size := ⟨_, rfl⟩
        rw [← hgx] at hB1 ⊢
        have hbV1 := hbV.trans (hb1.mono hbV.size)
        have hown1 := hownV.below hb1
        clear hgx hb1 hownV e0 e1 hBV hbV
        have y0 := hB1.cell 0
        have y1 := hB1.cell 1
        have hsz := hbV1.size
        have hlocs := own_below hown1 ((Below.refl V1.heap.size V1).alloc (Nat.le_refl _) (.cells #[.int .u64 (q : Int), .int .u64 (t : Int)] 112))
        go_wp2_with (at_builtin; refine wpList_append_own _ rfl _ _ 44 rfl (W3.heap.size) 112 i0 (.agg #[.int .u64 0, .int .u64 0]) 2 16 Tryz.underlying44 hi0 hz0 hz1 hz2 rfl (by decide) _ _ _ rfl (hlocs) ⟨V1.heap.size, 0, none⟩ 1 1 [.int .u64 (q), .int .u64 (t)] rfl rfl (World.news_of_block (Blk.new _ _ _)) (by simp [Value.oneCell']) (by unfold maxLen; omega) (by omega) (by simp; omega) ?_; intro v' w3 hown' hgrow _)
        have hbw := (hbV1.alloc hbV1.size (.cells #[.int .u64 (q : Int), .int .u64 (t : Int)] 112)).grown hgrow (by simp; omega) (fun p hp => (hlocs.lt p hp).1)
        exact ⟨(i + 1, v', true), rfl, ⟨by show i + 1 ≤ K.length; omega, by first | rfl | trivial, hbw, by dsimp only; rw [HN.out]; exact OwnD.mk_ hown' (by rw [conV_snoc, ← HQ.out]), by dsimp only; rw [HN.out]⟩, by show K.length - (i + 1) < K.length - i; omega⟩
      | false =>
        go_wp2_with fail
        refine absC1 fun V1 hB1 hb1 hz => ?_
        clear hz
        obtain ⟨gx, hgx⟩ : ∃ g, g = V.heap.size := ⟨_, rfl⟩
        rw [← hgx] at hB1 ⊢
        have hlo : ∀ q, v7.ownBlock = some q → q < gx := fun q hq => by rw [hgx]; exact (World.ownsRow.lt hownV q hq).2
        have hbV1 := hbV.trans (hb1.mono hbV.size)
        have hown1 := hownV.below hb1
        have hBV1 := hBV.below hb1 hBV.lt
        refine (HBF.out V1).mono ?_
        rintro e V2 ⟨rfl, hb2⟩
        have hbV2 := hbV1.trans (hb2.mono hbV1.size)
        have hown2 := hown1.below hb2
        have hBV2 := hBV1.below hb2 hBV1.lt
        have hB2 := hB1.below hb2 hB1.lt
        clear hgx hb1 hb2 hownV e0 e1 hBV hbV hBV1 hB1 hown1 hbV1 HBF
        have y0 := hB2.cell 0
        have y1 := hB2.cell 1
        cases lt with
        | true =>
          have hn : F (i + 1) = (P ++ [s] ++ [t], true) := by rw [HFSN.out]; simp [insStep, ← HL3.out]
          have HN := Lib.hid hn
          clear hn
          have z0 := hBV2.cell 0
          have z1 := hBV2.cell 1
          have hsz := hbV2.size
          have hlocs := own_below hown2 ((Below.refl V2.heap.size V2).alloc (Nat.le_refl _) (.cells #[.int .u64 (r : Int), .int .u64 (s : Int)] 112))
          go_upto_region 13 with (at_builtin; refine wpList_append_own _ rfl _ _ 44 rfl (W3.heap.size) 112 i0 (.agg #[.int .u64 0, .int .u64 0]) 2 16 Tryz.underlying44 hi0 hz0 hz1 hz2 rfl (by decide) _ _ _ rfl (hlocs) ⟨V2.heap.size, 0, none⟩ 1 1 [.int .u64 (r), .int .u64 (s)] rfl rfl (World.news_of_block (Blk.new _ _ _)) (by simp [Value.oneCell']) (by unfold maxLen; omega) (by omega) (by simp; omega) ?_; intro v' w3 hown' hgrow _)
          have hba := hbV2.alloc hbV2.size (.cells #[.int .u64 (r : Int), .int .u64 (s : Int)] 112)
          have hbV3 := hba.grown hgrow (by simp; omega) (fun p hp => (hlocs.lt p hp).1)
          have hown3 : OwnD w3 W3.heap.size v' C N (P ++ [s]) := OwnD.mk_ hown' (by rw [conV_snoc, ← HR.out])
          have hB2a := hB2.below ((Below.refl V2.heap.size V2).alloc (Nat.le_refl _) (.cells #[.int .u64 (r : Int), .int .u64 (s : Int)] 112)) hB2.lt
          have hBx := (hgrow.block gx hB2a.lt (fun e => by have := hlo gx e.symm; omega)).trans hB2a
          have hbV3' := hbV3
          clear hown' hgrow hlocs hba hB2a hlo hB2 hBV2 hown2 hbV2 y0 y1 z0 z1 hbV3
          have y0 := Blk.cell hBx 0
          have y1 := Blk.cell hBx 1
          have hfl2 : (P ++ [s]).length ≤ 4098 := by rw [List.length_append]; simp; omega
          obtain ⟨P2, hP2⟩ : ∃ P2, P2 = P ++ [s] := ⟨_, rfl⟩
          rw [← hP2] at hown3 hfl2
          have HN := Lib.hid (show F (i + 1) = (P2 ++ [t], true) by rw [HN.out, hP2])
          clear hP2
          have hsz := hbV3'.size
          have hlocs := own_below hown3 ((Below.refl w3.heap.size w3).alloc (Nat.le_refl _) (.cells #[.int .u64 (q : Int), .int .u64 (t : Int)] 112))
          go_wp2_with (at_builtin; refine wpList_append_own _ rfl _ _ 44 rfl (W3.heap.size) 112 i0 (.agg #[.int .u64 0, .int .u64 0]) 2 16 Tryz.underlying44 hi0 hz0 hz1 hz2 rfl (by decide) _ _ _ rfl (hlocs) ⟨w3.heap.size, 0, none⟩ 1 1 [.int .u64 (q), .int .u64 (t)] rfl rfl (World.news_of_block (Blk.new _ _ _)) (by simp [Value.oneCell']) (by unfold maxLen; omega) (by omega) (by simp; omega) ?_; intro v' w3 hown' hgrow _)
          have hbw := (hbV3'.alloc hbV3'.size (.cells #[.int .u64 (q : Int), .int .u64 (t : Int)] 112)).grown hgrow (by simp; omega) (fun p hp => (hlocs.lt p hp).1)
          exact ⟨(i + 1, v', true), rfl, ⟨by show i + 1 ≤ K.length; omega, by first | rfl | trivial, hbw, by dsimp only; rw [HN.out]; exact OwnD.mk_ hown' (by rw [conV_snoc, ← HQ.out]), by dsimp only; rw [HN.out]⟩, by show K.length - (i + 1) < K.length - i; omega⟩
        | false =>
          have hn : F (i + 1) = (P ++ [t], false) := by rw [HFSN.out]; simp [insStep, ← HL3.out]
          have HN := Lib.hid hn
          clear hn hlo hBV2 hB2
          have hsz := hbV2.size
          have hlocs := own_below hown2 ((Below.refl V2.heap.size V2).alloc (Nat.le_refl _) (.cells #[.int .u64 (q : Int), .int .u64 (t : Int)] 112))
          go_wp2_with (at_builtin; refine wpList_append_own _ rfl _ _ 44 rfl (W3.heap.size) 112 i0 (.agg #[.int .u64 0, .int .u64 0]) 2 16 Tryz.underlying44 hi0 hz0 hz1 hz2 rfl (by decide) _ _ _ rfl (hlocs) ⟨V2.heap.size, 0, none⟩ 1 1 [.int .u64 (q), .int .u64 (t)] rfl rfl (World.news_of_block (Blk.new _ _ _)) (by simp [Value.oneCell']) (by unfold maxLen; omega) (by omega) (by simp; omega) ?_; intro v' w3 hown' hgrow _)
          have hbw := (hbV2.alloc hbV2.size (.cells #[.int .u64 (q : Int), .int .u64 (t : Int)] 112)).grown hgrow (by simp; omega) (fun p hp => (hlocs.lt p hp).1)
          exact ⟨(i + 1, v', false), rfl, ⟨by show i + 1 ≤ K.length; omega, by first | rfl | trivial, hbw, by dsimp only; rw [HN.out]; exact OwnD.mk_ hown' (by rw [conV_snoc, ← HQ.out]), by dsimp only; rw [HN.out]⟩, by show K.length - (i + 1) < K.length - i; omega⟩
    · obtain rfl : i = K.length := by omega
      have hfe := HFE.out
      have hfl := HFL.out _ (Nat.le_refl _)
      have hbw := hbW3.trans (hbV.mono hbW3.size)
      obtain ⟨Fi, hFi⟩ : ∃ x, x = F K.length := ⟨_, rfl⟩
      rw [← hFi] at hownV hdn hfe hfl
      obtain ⟨P, d⟩ := Fi
      dsimp only at hownV hdn hfl
      subst hdn
      clear hFi
      cases dn with
      | true =>
        have hfe : P = T (k + 1) := hfe
        have HFN := Lib.hid hfe
        clear hfe
        go_wp2_with fail
        exact ⟨(k + 1, v7), rfl, ⟨by show k + 1 ≤ L.length; omega, by first | rfl | trivial, hbw, by dsimp only; rw [← HFN.out]; exact hownV.low hbW3.size⟩, by show L.length - (k + 1) < L.length - k; omega⟩
      | false =>
        have hfe : P ++ [s] = T (k + 1) := hfe
        have HFN := Lib.hid hfe
        clear hfe
        have z0 := hBV.cell 0
        have z1 := hBV.cell 1
        have hsz := hbV.size
        have hlocs := own_below hownV ((Below.refl V.heap.size V).alloc (Nat.le_refl _) (.cells #[.int .u64 (r : Int), .int .u64 (s : Int)] 112))
        go_wp2_with (at_builtin; refine wpList_append_own _ rfl _ _ 44 rfl (W3.heap.size) 112 i0 (.agg #[.int .u64 0, .int .u64 0]) 2 16 Tryz.underlying44 hi0 hz0 hz1 hz2 rfl (by decide) _ _ _ rfl (hlocs) ⟨V.heap.size, 0, none⟩ 1 1 [.int .u64 (r), .int .u64 (s)] rfl rfl (World.news_of_block (Blk.new _ _ _)) (by simp [Value.oneCell']) (by unfold maxLen; omega) (by omega) (by simp; omega) ?_; intro v' w3 hown' hgrow _)
        have hbw2 := (hbw.alloc hbw.size (.cells #[.int .u64 (r : Int), .int .u64 (s : Int)] 112)).grown hgrow (by have := hbw.size; simp; omega) (fun p hp => Nat.le_trans hbW3.size (hlocs.lt p hp).1)
        exact ⟨(k + 1, v'), rfl, ⟨by show k + 1 ≤ L.length; omega, by first | rfl | trivial, hbw2, by dsimp only; rw [← HFN.out]; exact OwnD.low (OwnD.mk_ hown' (by rw [conV_snoc, ← HR.out])) hbW3.size⟩, by show L.length - (k + 1) < L.length - k; omega⟩
  · obtain rfl : k = L.length := by omega
    clear hrow
    go_wp2_with fail
    go_ret
    exact ⟨v3, rfl, hown.low b1.size, bW⟩
end Go.Proofs.YtlakjhhpdbgekaaGreatDoor
