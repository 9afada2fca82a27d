import Derived.Test.YthkjigggfeejdaaDoorMr1
namespace Go.Proofs.YthkjigggfeejdaaDoor
open Go.RowKit

/-- The scan from the last role down: what was found behind d rounds. -/
def gs (l : List Nat) (P Q : List (List Bool)) (r : Nat) : Nat → Int
  | 0 => -1
  | d + 1 => if pk l P Q r (P.length - (d + 1)) = true then ((P.length - (d + 1) : Nat) : Int) else gs l P Q r d
theorem gs_find (l : List Nat) (P Q : List (List Bool)) (r : Nat) : ∀ d, d ≤ P.length → gs l P Q r d = match (List.range' (P.length - d) d).find? (pk l P Q r) with | some x => (x : Int) | none => -1
  | 0, _ => rfl
  | d + 1, h => by
    have e : List.range' (P.length - (d + 1)) (d + 1) = (P.length - (d + 1)) :: List.range' (P.length - d) d := by
      rw [List.range'_succ]
      congr 2
      omega
    rw [gs, e, List.find?_cons]
    by_cases hp : pk l P Q r (P.length - (d + 1)) = true
    · rw [if_pos hp]; simp [hp]
    · rw [if_neg hp, gs_find l P Q r d (by omega)]
      simp [hp]
theorem gs_all (l : List Nat) (P Q : List (List Bool)) (r : Nat) : gs l P Q r P.length = match fk l P Q r P.length with | some x => (x : Int) | none => -1 := by
  rw [gs_find l P Q r P.length (Nat.le_refl _), Nat.sub_self, ← List.range_eq_range']; rfl
set_option maxRecDepth 100000 in
set_option maxHeartbeats 4000000 in
theorem rnumbers_any (C R c D d C' R' c' d' : Nat) (A B A' B' : Option Addr) (P Q : List (List Bool)) (w : World) (hP : IsRef w D B P) (hQ : IsRef w D B' Q) :
    Calls Tryd.prog 41 #[rcfV C A R c D B P.length d, rcfV C' A' R' c' D B' Q.length d'] w fun e w' => ∃ A c, e = .returned (.slice A Q.length c) ∧ Row w' A ((jl P Q).map i64) ∧ Below w.heap.size w w' := by
  obtain ⟨i0, hi0, hz0, hz1, hz2⟩ := info_parts info_int
  have hpl : P.length ≤ 4096 := hP.2.1
  have hql : Q.length ≤ 4096 := hQ.2.1
  have hD : D ≤ 4096 := hP.1
  go_enter Tryd.func41, Tryd.ntmps41
  go_wp2_with fail
  refine abs2 fun W0 hX hY hb0 hz => ?_
  refine wp_loopF (β := Nat × Value) (fun b f => #[f 0, f 1, .pointer (some ⟨w.heap.size, 0, none⟩), .pointer (some ⟨w.heap.size + 1, 0, none⟩), f 4, b.2, .int .i64 ((nums P Q b.1).2 : Int), f 7, f 8, f 9, f 10, f 11, f 12, f 13, f 14, f 15, f 16, .slice B' Q.length d', .int .i64 (Q.length : Int), .int .i64 (b.1 : Int), f 20, f 21, f 22, f 23, f 24, f 25, f 26, f 27, f 28, f 29, f 30, f 31, f 32, f 33, f 34, f 35, f 36, f 37, f 38, f 39, f 40, f 41, f 42, f 43, f 44, f 45, f 46, f 47, f 48, f 49, f 50, f 51, f 52, f 53, f 54, f 55, f 56, f 57])
    (fun b ds wr => b.1 ≤ Q.length ∧ ds = [] ∧ wr.ownsRow W0.heap.size 3 1 b.2 b.1 ((nums P Q b.1).1.map i64) ∧ Below W0.heap.size W0 wr) (fun b => Q.length - b.1) (0, .slice none 0 0) rfl ⟨Nat.zero_le _, rfl, World.ownsRow_nil _ _ _ _, Below.refl _ _⟩ ?_
  rintro ⟨r, o⟩ f ds wr ⟨hr, rfl, hown, hbel⟩
  dsimp only at hr hown ⊢
  have bw := hb0.trans (hbel.mono hb0.size)
  have hX' := hX.below hbel hX.lt
  have x0 := hX'.cell 0
  have x1 := hX'.cell 1
  have x2 := hX'.cell 2
  have x3 := hX'.cell 3
  by_cases hlt : r < Q.length
  · have hnb := nums_bd P Q r
    have hnx : nums P Q (r + 1) = nStep P Q (nums P Q r) r := rfl
    obtain ⟨L, hL⟩ : ∃ L, L = (nums P Q r).1 := ⟨_, rfl⟩
    obtain ⟨n, hn⟩ : ∃ n, n = (nums P Q r).2 := ⟨_, rfl⟩
    have hst : nums P Q r = (L, n) := by rw [hL, hn]
    rw [hst] at hnx hnb
    rw [← hL] at hown
    rw [← hn]
    dsimp only at hnb
    obtain ⟨hLl, hnn⟩ := hnb
    have HLl := Lib.hid hLl
    have HNX := Lib.hid hnx
    clear hst hL hn hnx hLl
    obtain ⟨g, off, BR, dR, hB', hg, hcr, hrow, hrl⟩ := hQ.row hlt
    have cr := onB bw hcr
    have hrowW := hrow.below bw
    have hQr : Q.getD r [] = Q[r] := by rw [List.getD_eq_getElem?_getD, List.getElem?_eq_getElem hlt]; rfl
    obtain ⟨qr, hqr⟩ : ∃ q, q = Q[r] := ⟨_, rfl⟩
    rw [← hqr] at hrowW hrl hQr
    have HQR := Lib.hid hQr
    have HRL := Lib.hid hrl
    obtain ⟨AO, cO, rfl, _, _, hrO, _⟩ := row_of_own hown
    subst hB'
    clear hcr hrow hQr hrl hqr
    go_wp2_with fail
    refine wp_loopF (β := Nat) (fun d f => #[f 0, f 1, .pointer (some ⟨w.heap.size, 0, none⟩), .pointer (some ⟨w.heap.size + 1, 0, none⟩), f 4, .slice AO r cO, .int .i64 (n : Int), f 7, .slice BR D dR, .int .i64 (gs L P Q r d), .int .i64 ((P.length : Int) - 1 - (d : Int)), f 11, f 12, f 13, f 14, f 15, f 16, .slice (some ⟨g, off, none⟩) Q.length d', .int .i64 (Q.length : Int), .int .i64 (r : Int), f 20, f 21, f 22, f 23, f 24, f 25, f 26, f 27, f 28, f 29, f 30, f 31, f 32, f 33, f 34, f 35, f 36, f 37, f 38, f 39, f 40, f 41, f 42, f 43, f 44, f 45, f 46, f 47, f 48, f 49, f 50, f 51, f 52, f 53, f 54, f 55, f 56, f 57])
      (fun d ds wq => d ≤ P.length ∧ ds = [] ∧ Below wr.heap.size wr wq) (fun d => P.length - d) 0 ?_ ⟨Nat.zero_le _, rfl, Below.refl _ _⟩ ?_
    · dsimp only
      rw [show (P.length : Int) - 1 - ((0 : Nat) : Int) = (P.length : Int) - 1 by omega]
      rfl
    rintro k f ds wq ⟨hk, rfl, hbq⟩
    dsimp only
    have bq := bw.trans (hbq.mono bw.size)
    by_cases hkl : k < P.length
    · obtain ⟨i, hi⟩ : ∃ i : Nat, i = P.length - (k + 1) := ⟨_, rfl⟩
      have hiP : i < P.length := by omega
      have hie : (P.length : Int) - 1 - (k : Int) = (i : Int) := by omega
      have hgs : gs L P Q r (k + 1) = if pk L P Q r i = true then (i : Int) else gs L P Q r k := by rw [gs, hi]
      rw [hie]
      obtain ⟨gv, hgv⟩ : ∃ v, v = gs L P Q r k := ⟨_, rfl⟩
      rw [← hgv] at hgs ⊢
      have HGS := Lib.hid hgs
      have hnxi : (P.length : Int) - 1 - ((k + 1 : Nat) : Int) = (i : Int) - 1 := by omega
      have HNI := Lib.hid hnxi
      clear hie hgs hgv hnxi hi
      have hIN := hideC (in_any AO cO r L i wq HLl.out (hrO.below hbq) (by omega))
      go_wp2_with fail
      refine hIN.out.mono ?_
      rintro e w1 ⟨rfl, rfl⟩
      by_cases hmem : i ∈ L
      · have e1 : decide (i ∈ L) = true := decide_eq_true hmem
        have hg2 := HGS.out
        rw [show pk L P Q r i = false by unfold pk; simp [hmem], if_neg (by decide)] at hg2
        have HG2 := Lib.hid hg2
        clear hmem hg2 HGS
        go_wp2_with fail
        refine ⟨k + 1, by (try dsimp only); rw [HNI.out, HG2.out]; rfl, ⟨by omega, by first | rfl | trivial, hbq⟩, by omega⟩
      · have e1 : decide (i ∈ L) = false := decide_eq_false hmem
        obtain ⟨g2, off2, B2, d2, rfl, hg2, hc2, hrow2, hrl2⟩ := hP.row hiP
        have hPi : P.getD i [] = P[i] := by rw [List.getD_eq_getElem?_getD, List.getElem?_eq_getElem hiP]; rfl
        obtain ⟨pr, hpr⟩ : ∃ q, q = P[i] := ⟨_, rfl⟩
        rw [← hpr] at hrow2 hrl2 hPi
        have hpk : pk L P Q r i = decide (pr = qr) := by unfold pk; rw [hPi, HQR.out]; simp [hmem]
        have HPK := Lib.hid hpk
        have c2 := onB bq hc2
        have y0 := onB hbq x0
        have y1 := onB hbq x1
        have y2 := onB hbq x2
        have y3 := onB hbq x3
        have HEQ := hideC (eqrow_any B2 BR d2 dR D pr qr wq hrl2 HRL.out (hrow2.below bq) (hrowW.below hbq) hD)
        clear hpk hPi hpr hrow2 hrl2 hc2 hmem
        go_wp2_with fail
        refine HEQ.out.mono ?_
        rintro e w1 ⟨rfl, hb1⟩
        have hbq1 := hbq.trans (hb1.mono hbq.size)
        by_cases hpq : pr = qr
        · have e2 : decide (pr = qr) = true := decide_eq_true hpq
          have hg2 := HGS.out
          rw [HPK.out, e2, if_pos rfl] at hg2
          have HG2 := Lib.hid hg2
          clear hg2 HGS hpq
          go_wp2_with fail
          refine ⟨k + 1, by (try dsimp only); rw [HNI.out, HG2.out]; rfl, ⟨by omega, by first | rfl | trivial, hbq1⟩, by omega⟩
        · have e2 : decide (pr = qr) = false := decide_eq_false hpq
          have hg2 := HGS.out
          rw [HPK.out, e2, if_neg (by decide)] at hg2
          have HG2 := Lib.hid hg2
          clear hg2 HGS hpq
          go_wp2_with fail
          refine ⟨k + 1, by (try dsimp only); rw [HNI.out, HG2.out]; rfl, ⟨by omega, by first | rfl | trivial, hbq1⟩, by omega⟩
    · obtain rfl : k = P.length := by omega
      have hgs := gs_all L P Q r
      have hneg : (P.length : Int) - 1 - (P.length : Int) = -1 := by omega
      rw [hneg]
      clear hneg
      have hownq := own_below hown hbq
      have szq := hbel.size
      have szw := hbq.size
      have hbelq := hbel.trans (hbq.mono (by omega))
      cases hf : fk L P Q r P.length with
      | some x =>
        rw [hf] at hgs
        dsimp only at hgs
        rw [hgs]
        have hxl := fk_lt hf
        have hnx : nums P Q (r + 1) = (L ++ [x], n) := by rw [HNX.out, nStep]; simp only [hf]
        have HNX2 := Lib.hid hnx
        have hown1 := hownq.alloc (.cells #[.int .i64 (x : Int)] 3)
        clear hgs hf hnx
        go_wp2_with (at_builtin; refine wpList_append_own _ rfl _ _ 62 rfl (W0.heap.size) 3 i0 (.int .i64 0) 1 8 Tryd.underlying62 hi0 hz0 hz1 hz2 rfl (by decide) _ _ _ rfl (hown1) ⟨wq.heap.size, 0, none⟩ 1 1 [.int .i64 (x : Int)] rfl rfl (cell_one_new _ _ _) (by simp [Value.oneCell']) (by unfold maxLen; omega) (by omega) (by simp; omega) ?_; intro v' w3 hown' hgrow _)
        refine ⟨(r + 1, _), by (try dsimp only); rw [HNX2.out]; rfl, ⟨by omega, by first | rfl | trivial, ?_, (hbelq.alloc (by omega) (.cells #[.int .i64 (x : Int)] 3)).grown hgrow (by simp; omega) (fun q hq => by have := (hownq.lt q hq).1; omega)⟩, by simp; omega⟩
        rw [HNX2.out, List.map_append]
        exact hown'
      | none =>
        rw [hf] at hgs
        dsimp only at hgs
        rw [hgs]
        have hnx : nums P Q (r + 1) = (L ++ [n], n + 1) := by rw [HNX.out, nStep]; simp only [hf]
        have HNX2 := Lib.hid hnx
        have hown1 := hownq.alloc (.cells #[.int .i64 (n : Int)] 3)
        clear hgs hf hnx
        go_wp2_with (at_builtin; refine wpList_append_own _ rfl _ _ 62 rfl (W0.heap.size) 3 i0 (.int .i64 0) 1 8 Tryd.underlying62 hi0 hz0 hz1 hz2 rfl (by decide) _ _ _ rfl (hown1) ⟨wq.heap.size, 0, none⟩ 1 1 [.int .i64 (n : Int)] rfl rfl (cell_one_new _ _ _) (by simp [Value.oneCell']) (by unfold maxLen; omega) (by omega) (by simp; omega) ?_; intro v' w3 hown' hgrow _)
        refine ⟨(r + 1, _), by (try dsimp only); rw [HNX2.out]; rfl, ⟨by omega, by first | rfl | trivial, ?_, (hbelq.alloc (by omega) (.cells #[.int .i64 (n : Int)] 3)).grown hgrow (by simp; omega) (fun q hq => by have := (hownq.lt q hq).1; omega)⟩, by simp; omega⟩
        rw [HNX2.out, List.map_append]
        exact hown'
  · obtain rfl : r = Q.length := by omega
    obtain ⟨A1, c1, rfl, _, _, h2, _⟩ := row_of_own hown
    go_wp2_with fail
    go_ret
    exact ⟨A1, c1, rfl, h2, bw⟩
end Go.Proofs.YthkjigggfeejdaaDoor
