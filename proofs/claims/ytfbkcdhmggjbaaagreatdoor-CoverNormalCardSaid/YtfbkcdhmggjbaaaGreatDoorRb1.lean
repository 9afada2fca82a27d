/-
  rank.Best's search: the closure that calls itself.
-/
import Derived.Test.YtfbkcdhmggjbaaaGreatDoorRk10
import Derived.Test.YtfbkcdhmggjbaaaGreatDoorRq1
import Derived.Test.YtfbkcdhmggjbaaaGreatDoorMix2
import Derived.Test.YtfbkcdhmggjbaaaGreatDoorJoin
namespace Go.Proofs.YtfbkcdhmggjbaaaGreatDoor
open Go.RowKit

/-- A list of cells, or nil. -/
def PN (w : World) (v : Value) (l : List (Int × Int)) : Prop := ∃ A c, v = .slice A l.length c ∧ RowN w A l.length c (cellsP l) ∧ l.length ≤ 1000000
theorem PN.pairs {w : World} {v : Value} {l : List (Int × Int)} (h : PN w v l) : IsPairs w v l := by
  obtain ⟨A, c, e, hr, hl⟩ := h
  exact ⟨A, c, e, hr.1, hr.2.1, hl⟩
theorem PN.below {w w' : World} {v : Value} {l : List (Int × Int)} (h : PN w v l) (hb : Below w.heap.size w w') : PN w' v l := by
  obtain ⟨A, c, e, hr, hl⟩ := h
  exact ⟨A, c, e, hr.below hb, hl⟩
theorem OwnP.pn {w : World} {base : Nat} {v : Value} {l : List (Int × Int)} (h : OwnP w base v l) (hl : l.length ≤ 1000000) : PN w v l := by
  obtain ⟨A, c, rfl, hr⟩ := RowN.of_own h
  exact ⟨A, c, rfl, hr, hl⟩
theorem PN.nil (w : World) : PN w (.slice none 0 0) [] := ⟨none, 0, rfl, ⟨Row.empty _ _, Nat.le_refl _, fun _ => ⟨rfl, rfl⟩⟩, by simp⟩
/-- Rows of numbers stay where a variable that holds a slice is written. -/
theorem row_but {w w' : World} {g6 : Nat} {t : TypeId} {A6 : Option Addr} {n6 c6 : Nat} {A : Option Addr} {l : List (Int × Int)} (h : Row w A (cellsP l)) (hB : Blk w g6 t #[.slice A6 n6 c6]) (k : But (some g6) w w') : Row w' A (cellsP l) := by
  intro hp
  obtain ⟨g, off, hA, hg, hc⟩ := h hp
  have hne : g ≠ g6 := by
    rintro rfl
    obtain ⟨c, hc0⟩ : ∃ c, l[0]? = some c := ⟨_, List.getElem?_eq_getElem (by rw [cellsP_len] at hp; omega)⟩
    have h0 := hc _ _ (cellsP_get l hc0).1
    rw [hB.cell] at h0
    rcases off with _ | off
    · simp at h0
    · simp at h0
  exact ⟨g, off, hA, Nat.lt_of_lt_of_le hg k.1, fun j u hu => (World.cell?_of_block (a := ⟨g, off + j, none⟩) (k.2 g hg fun e => hne (Option.some.inj e))).trans (hc j u hu)⟩
theorem IsPairs.but {w w' : World} {g6 : Nat} {t : TypeId} {A6 : Option Addr} {n6 c6 : Nat} {v : Value} {l : List (Int × Int)} (h : IsPairs w v l) (hB : Blk w g6 t #[.slice A6 n6 c6]) (k : But (some g6) w w') : IsPairs w' v l := by
  obtain ⟨A, c, e, hr, h1, h2⟩ := h
  exact ⟨A, c, e, row_but hr hB k, h1, h2⟩
theorem PN.but {w w' : World} {g6 : Nat} {t : TypeId} {A6 : Option Addr} {n6 c6 : Nat} {v : Value} {l : List (Int × Int)} (h : PN w v l) (hB : Blk w g6 t #[.slice A6 n6 c6]) (k : But (some g6) w w') : PN w' v l := by
  obtain ⟨A, c, e, hr, h1⟩ := h
  exact ⟨A, c, e, ⟨row_but hr.1 hB k, hr.2⟩, h1⟩
theorem cellsP_one (l : List (Int × Int)) : ∀ u ∈ cellsP l, u.oneCell' = true := by
  intro u hu
  unfold cellsP at hu
  obtain ⟨c, _, hc⟩ := List.mem_flatMap.1 hu
  rcases List.mem_cons.1 hc with rfl | hc
  · rfl
  · rw [List.mem_singleton.1 hc]; rfl
theorem clonep_pn {w : World} {v : Value} {l : List (Int × Int)} (h : PN w v l) :
    Calls Tryz.prog 85 #[v] w fun e w' => ∃ u, e = .returned u ∧ OwnP w' w.heap.size u l ∧ Below w.heap.size w w' := by
  obtain ⟨A, c, rfl, hr, hl⟩ := h
  exact cloneP_any A l.length c (cellsP l) w hr (by rw [cellsP_len]; omega) (cellsP_one l) hl
/-- The search's answer. -/
abbrev searchP (C : Nat) (Ns : List Nat) (n : Nat) (rest l best : List (Int × Int)) : List (Int × Int) := bestE (indep C Ns) n rest l (pickL best l)
theorem cellsP_drop (l : List (Int × Int)) (k : Nat) : cellsP (l.drop k) = (cellsP l).drop (2 * k) := by
  induction l generalizing k with
  | nil => simp [cellsP]
  | cons a l ih =>
    cases k with
    | zero => rfl
    | succ k =>
      show cellsP (l.drop k) = _
      rw [ih, show 2 * (k + 1) = 2 * k + 1 + 1 by omega]
      rfl
/-- The rest of a list of cells. -/
theorem IsPairs.drop {w : World} {g o n c k : Nat} {l : List (Int × Int)} (h : IsPairs w (.slice (some ⟨g, o, none⟩) n c) l) (hk : k ≤ n) (ad : Option Addr) (ha : ad = if c = k then some ⟨g, o, none⟩ else some ⟨g, o + k * 2, none⟩) : IsPairs w (.slice ad (n - k) (c - k)) (l.drop k) := by
  obtain ⟨A, c', e, hr, h1, h2⟩ := h
  injection e with e1 e2 e3
  subst e1; subst e2; subst e3
  refine ⟨ad, c - k, by rw [List.length_drop], fun hp => ?_, by rw [List.length_drop]; omega, by rw [List.length_drop]; omega⟩
  rw [cellsP_len, List.length_drop] at hp
  obtain ⟨g', o', e, hg, hc⟩ := hr (by rw [cellsP_len]; omega)
  cases e
  refine ⟨g, o + k * 2, by rw [ha, if_neg (by omega)], hg, fun j u hu => ?_⟩
  rw [cellsP_drop, List.getElem?_drop] at hu
  have := hc _ _ hu
  rw [← this]
  congr 2
  omega
theorem filter_snoc {α : Type} (p : α → Bool) (l : List α) (x : α) : (l ++ [x]).filter p = if p x = true then l.filter p ++ [x] else l.filter p := by
  rw [List.filter_append]
  cases h : p x <;> simp [h]
theorem best_call {a b k d m n T : Nat} (h : a + b ≤ 1000) (hk : k < b) (hd : d = b - (k + 1)) (hT : T ≤ d) (hm : n - k = m + 1) (_hT2 : T ≤ 1000) : m < n ∧ a + 1 + T ≤ 1000 ∧ a + 1 ≤ 1000000 := ⟨by omega, by omega, by omega⟩
theorem best_yes (a b k n : Nat) (hk : k < b) (h : a + (b - (k + 1) + 1) ≤ n) : decide ((a : Int) + (b : Int) - (k : Int) ≤ (n : Int)) = true := decide_eq_true (by omega)
theorem best_no (a b k n : Nat) (hk : k < b) (h : ¬ a + (b - (k + 1) + 1) ≤ n) : decide ((a : Int) + (b : Int) - (k : Int) ≤ (n : Int)) = false := decide_eq_false (by omega)
namespace Mix2
set_option maxRecDepth 100000 in
set_option maxHeartbeats 8000000 in
theorem best1_any (q C : Nat) (Ns : List Nat) (g6 g1 g7 : Nat) (w0 : World) (hq0 : IsMat w0 q C Ns) (hg6 : w0.heap.size ≤ g6) (h16 : g1 ≠ g6) (h76 : g7 ≠ g6) (t1 t7 : TypeId) :
    ∀ (n : Nat) (l rest best : List (Int × Int)) (vl vr vb : Value) (w : World), rest.length ≤ n → l.length + rest.length ≤ 1000 → Below w0.heap.size w0 w → PN w vl l → IsPairs w vr rest → PN w vb best →
      Blk w g6 65 #[vb] → Blk w g1 t1 #[ptr q] → Blk w g7 t7 #[.func (.func 84) #[] #[ptr g6, ptr g1, ptr g7]] →
      Calls Tryz.prog 84 #[vl, vr, ptr g6, ptr g1, ptr g7] w fun e w' => e = .returned (.tuple #[]) ∧ ∃ vb', PN w' vb' (searchP C Ns n rest l best) ∧ Blk w' g6 65 #[vb'] ∧ But (some g6) w w' ∧ Below w0.heap.size w0 w' := by
  intro n
  induction n using Nat.strongRecOn with
  | _ n ih =>
    intro l rest best vl vr vb w hn hlr hb0 hl hr hbest B6 B1 B7
    obtain ⟨i0, hi0, hz0, hz1, hz2⟩ := info_parts info_pair
    obtain ⟨Al, cl, rfl, hlr0, hll⟩ := id hl
    obtain ⟨Ar, cr, rfl, hrr0, hrc, hrl⟩ := id hr
    obtain ⟨Ab, cb, rfl, hbr0, hbl0⟩ := id hbest
    have c6 := B6.cell 0
    have f6 := B6.frozen 0
    have l6 := B6.lt
    have HIH := Lib.hid ih
    clear ih hlr0 hrr0 hbr0
    go_enter Tryz.func84, Tryz.ntmps84
    go_upto_if 16 with fail
    have b0 := But.refl (some g6) w
    go_cut [] (fun wx => ∃ A c, PN wx (.slice A (pickL best l).length c) (pickL best l) ∧ Blk wx g6 65 #[.slice A (pickL best l).length c] ∧ But (some g6) w wx ∧ Below w0.heap.size w0 wx)
    case first =>
      by_cases hlt : best.length < l.length
      · have HP := Lib.hid (show pickL best l = l by unfold pickL; rw [if_pos hlt])
        go_wp2_with fail
        refine (clonep_pn hl).mono ?_
        rintro e w1 ⟨u, rfl, ho, hb⟩
        have hu := ho.pn hll
        obtain ⟨Au, cu, rfl, -⟩ := id hu
        have B61 := B6.below hb l6
        replace c6 := B61.cell 0
        replace f6 := B61.frozen 0
        replace l6 := B61.lt
        have k1 := (hb0.trans (hb.mono hb0.size)).setCell (p := ⟨g6, 0, none⟩) hg6 (.slice Au l.length cu)
        have k2 := (b0.below hb).trans (But.setCell w1 ⟨g6, 0, none⟩ (.slice Au l.length cu))
        have k3 := hu.but B61 (But.setCell w1 ⟨g6, 0, none⟩ (.slice Au l.length cu))
        have k4 : Blk (w1.setCell ⟨g6, 0, none⟩ (.slice Au l.length cu)) g6 65 #[.slice Au l.length cu] := B61.set_ 0 _
        clear hb ho
        go_wp2_with fail
        go_meet
        rw [HP.out]
        exact ⟨_, _, k3, k4, k2, k1⟩
      · have HP := Lib.hid (show pickL best l = best by unfold pickL; rw [if_neg hlt])
        go_wp2_with fail
        go_meet
        rw [HP.out]
        exact ⟨Ab, cb, hbest, B6, b0, hb0⟩
    case rest =>
      obtain ⟨A1, c1, hb1, B61, k1, k2⟩ := hcut
      obtain ⟨b1, hb1e⟩ : ∃ b, b = pickL best l := ⟨_, rfl⟩
      rw [← hb1e] at hb1 B61
      have hse : searchP C Ns n rest l best = bestE (indep C Ns) n rest l b1 := by rw [hb1e]
      have HSE := Lib.hid hse
      have hB1 := k1.blk B1 (by simpa using h16)
      have hB7 := k1.blk B7 (by simpa using h76)
      have hl1 := hl.but B6 k1
      have hr1 := hr.but B6 k1
      have hlb : l.length ≤ b1.length := by rw [hb1e, pickL_len]; omega
      obtain ⟨W1, hW1⟩ : ∃ V, V = wc := ⟨_, rfl⟩
      subst hW1
      clear hse hb1e hbest B6 B1 B7 b0 hb0 c6 f6 l6 hl hr
      go_wp2_with fail
      refine wp_loopF (β := Nat × Option Addr × Nat × List (Int × Int)) (fun x f => #[.slice Al l.length cl, .slice Ar rest.length cr, ptr g6, ptr g1, ptr g7, f 5, f 6, f 7, f 8, f 9, f 10, f 11, f 12, f 13, f 14, f 15, f 16, f 17, f 18, .slice Ar rest.length cr, .int .i64 (rest.length : Int), .int .i64 (x.1 : Int), f 22, f 23, f 24, f 25, f 26, f 27, f 28, f 29, f 30, f 31, f 32, f 33, f 34, f 35, f 36, f 37, f 38, f 39, f 40, f 41, f 42, f 43, f 44, f 45, f 46, f 47, f 48, f 49, f 50, f 51, f 52, f 53, f 54, f 55, f 56, f 57, f 58, f 59, f 60, f 61, f 62])
        (fun x ds W => x.1 ≤ rest.length ∧ ds = [] ∧ PN W (.slice x.2.1 x.2.2.2.length x.2.2.1) x.2.2.2 ∧ Blk W g6 65 #[.slice x.2.1 x.2.2.2.length x.2.2.1] ∧ But (some g6) W1 W ∧ Below w0.heap.size w0 W ∧ bestE (indep C Ns) n rest l b1 = bestE (indep C Ns) (n - x.1) (rest.drop x.1) l x.2.2.2)
        (fun x => rest.length - x.1) (0, A1, c1, b1) rfl ⟨Nat.zero_le _, rfl, hb1, B61, But.refl _ _, k2, by rw [List.drop_zero, Nat.sub_zero]⟩ ?_
      rintro ⟨k, A2, c2, bk⟩ f ds W ⟨hk, rfl, hbk, B62, m1, m2, heq⟩
      dsimp only at hk hbk B62 heq ⊢
      have hl2 := hl1.but B61 m1
      have hr2 := hr1.but B61 m1
      have hB12 := m1.blk hB1 (by simpa using h16)
      have hB72 := m1.blk hB7 (by simpa using h76)
      have n1 := k1.trans m1
      by_cases hlt : k < rest.length
      · obtain ⟨c, hc⟩ : ∃ c, rest[k]? = some c := ⟨_, List.getElem?_eq_getElem hlt⟩
        obtain ⟨_, _, e, hrow, -, -⟩ := id hr2
        cases e
        obtain ⟨gr, or, rfl, hgr, d0, d1⟩ := row_pairs hrow hc
        have hdr : rest.drop k = c :: rest.drop (k + 1) := by
          obtain ⟨h, e⟩ := List.getElem?_eq_some_iff.1 hc
          rw [← e]; exact List.drop_eq_getElem_cons h
        obtain ⟨m, hm⟩ : ∃ m, n - k = m + 1 := ⟨n - k - 1, by omega⟩
        rw [hdr, hm, bestE, List.length_drop] at heq
        have HEQ := Lib.hid heq
        clear heq hdr hrow hc
        go_upto_region 5 with fail
        refine abs1 fun W2 h8 hb hz => ?_
        clear hz
        obtain ⟨g8, hg8⟩ : ∃ g, g = W.heap.size := ⟨_, rfl⟩
        have l8 : g6 < g8 := by rw [hg8]; exact B62.lt
        have s8 : w0.heap.size ≤ g8 := by rw [hg8]; exact m2.size
        rw [← hg8] at h8 ⊢
        have q6 := B62.below hb B62.lt
        have q1 := hB12.below hb hB12.lt
        have q7 := hB72.below hb hB72.lt
        have ql := hl2.below hb
        have qr := hr2.below hb
        have qb := hbk.below hb
        have q0 := m2.trans (hb.mono m2.size)
        have qW := m1.below hb
        have n2 := n1.below hb
        clear hg8 hb B62 hB12 hB72 hl2 hr2 hbk d0 d1 m1 m2 n1
        have x6 := q6.cell 0
        by_cases hcut : l.length + (rest.length - (k + 1) + 1) ≤ bk.length
        · have hcd := best_yes l.length rest.length k bk.length hlt hcut
          have heq := HEQ.out
          rw [if_pos hcut] at heq
          have HE := Lib.hid heq
          clear heq hcut
          go_wp2_with fail
          (try simp only [Exit.inBlock, Exit.then]); refine bodyPost_ret (results_none rfl _ _ _) rfl ?_
          rw [HSE.out, HE.out]
          exact ⟨rfl, _, qb, q6, n2, q0⟩
        · have hcd := best_no l.length rest.length k bk.length hlt hcut
          have heq := HEQ.out
          rw [if_neg hcut] at heq
          have HE := Lib.hid heq
          clear heq hcut
          obtain ⟨AD, hAD⟩ : ∃ AD : Option Addr, AD = if cr = k + 1 then some ⟨gr, or, none⟩ else some ⟨gr, or + (k + 1) * 2, none⟩ := ⟨_, rfl⟩
          have qd := qr.drop (k := k + 1) (by omega) AD hAD
          go_upto_block 2 with fail
          rw [← hAD]
          obtain ⟨D, hD⟩ : ∃ D, D = rest.drop (k + 1) := ⟨_, rfl⟩
          have hDl : D.length = rest.length - (k + 1) := by rw [hD, List.length_drop]
          rw [← hD, ← hDl] at qd
          rw [← hDl]
          have HD := Lib.hid hD
          have HDL := Lib.hid hDl
          obtain ⟨cD, hcD⟩ : ∃ x, x = cr - (k + 1) := ⟨_, rfl⟩
          rw [← hcD] at qd ⊢
          have hD0 : D.length ≤ 1000 := by omega
          clear hAD hD hDl hcD hcd x6
          go_wp2_with fail
          refine wp_loopF (β := Nat × Value) (fun x f => #[.slice Al l.length cl, .slice (some ⟨gr, or, none⟩) rest.length cr, ptr g6, ptr g1, ptr g7, f 5, f 6, .int .i64 (k : Int), ptr g8, x.2, f 10, f 11, f 12, f 13, f 14, f 15, f 16, f 17, f 18, .slice (some ⟨gr, or, none⟩) rest.length cr, .int .i64 (rest.length : Int), .int .i64 (k : Int), f 22, f 23, f 24, f 25, f 26, f 27, f 28, f 29, f 30, f 31, f 32, f 33, f 34, f 35, f 36, f 37, f 38, .slice AD D.length cD, .int .i64 (D.length : Int), .int .i64 (x.1 : Int), f 42, f 43, f 44, f 45, f 46, f 47, f 48, f 49, f 50, f 51, f 52, f 53, f 54, f 55, f 56, f 57, f 58, f 59, f 60, f 61, f 62])
            (fun x ds V => x.1 ≤ D.length ∧ ds = [] ∧ Below W2.heap.size W2 V ∧ OwnP V W2.heap.size x.2 ((D.take x.1).filter (indep C Ns c))) (fun x => D.length - x.1) (0, .slice none 0 0) rfl
            ⟨Nat.zero_le _, rfl, Below.refl _ _, OwnP.nil _ _⟩ ?_
          rintro ⟨j, v9⟩ f ds V ⟨hj, rfl, hbV, hown⟩
          dsimp only at hj hown ⊢
          by_cases hjl : j < D.length
          · obtain ⟨x, hx⟩ : ∃ x, D[j]? = some x := ⟨_, List.getElem?_eq_getElem hjl⟩
            have htk : D.take (j + 1) = D.take j ++ [x] := by rw [List.take_add_one, hx]; rfl
            have hfl : (D.take (j + 1)).filter (indep C Ns c) = if indep C Ns c x = true then (D.take j).filter (indep C Ns c) ++ [x] else (D.take j).filter (indep C Ns c) := by rw [htk, filter_snoc]
            have hTl : ((D.take j).filter (indep C Ns c)).length ≤ 1000 := Nat.le_trans (List.length_filter_le _ _) (by rw [List.length_take]; omega)
            obtain ⟨_, _, e, hrow, -, -⟩ := id (qd.below hbV)
            cases e
            obtain ⟨gd, od, rfl, hgd, d0, d1⟩ := row_pairs hrow hx
            have HFL := Lib.hid hfl
            generalize (D.take j).filter (indep C Ns c) = T at hown hTl HFL
            clear htk hfl hrow hx
            go_upto_region 10 with fail
            refine abs1 fun V1 h11 hb hz => ?_
            clear hz
            have v0 := hbV.trans (hb.mono hbV.size)
            have hown1 := hown.below hb
            obtain ⟨g11, hg11⟩ : ∃ g, g = V.heap.size := ⟨_, rfl⟩
            rw [← hg11] at h11 ⊢
            clear hg11 hb hown d0 d1
            have y1 := (q1.below v0 q1.lt).cell 0
            have y8 := (h8.below v0 h8.lt).cell 0
            have y81 := (h8.below v0 h8.lt).cell 1
            have y11 := h11.cell 0
            have y111 := h11.cell 1
            have HI := hideC (independent_any (some ⟨q, 0, none⟩) C Ns c x V1 (hq0.below (q0.trans (v0.mono q0.size))).mv)
            obtain ⟨bi, hbi⟩ : ∃ b, b = indep C Ns c x := ⟨_, rfl⟩
            rw [← hbi] at HI HFL
            clear hbi
            go_wp2_with fail
            refine HI.out.mono ?_
            rintro e V2 ⟨rfl, hb⟩
            have v2 := v0.trans (hb.mono v0.size)
            have hown2 := hown1.below hb
            have z11 := (h11.below hb h11.lt).cell 0
            have z111 := (h11.below hb h11.lt).cell 1
            clear y1 y8 y81 y11 y111 hb hown1 HI
            cases bi with
            | true =>
              have hfl := HFL.out
              rw [if_pos rfl] at hfl
              have HF := Lib.hid hfl
              clear hfl HFL
              have hlocs := hown2.below ((Below.refl V2.heap.size V2).alloc (Nat.le_refl _) (.cells #[.int .i64 x.1, .int .i64 x.2] 146))
              have hsz := v2.size
              go_wp2_with (at_builtin; refine wpList_append_own _ rfl _ _ 65 rfl (W2.heap.size) 146 i0 (.agg #[.int .i64 0, .int .i64 0]) 2 16 Tryz.underlying65 hi0 hz0 hz1 hz2 rfl (by decide) _ _ _ rfl (hlocs) ⟨V2.heap.size, 0, none⟩ 1 1 [.int .i64 (x.1), .int .i64 (x.2)] rfl rfl (World.news_of_block (Blk.new _ _ _)) (by simp [Value.oneCell']) (by unfold maxLen; omega) (by omega) (by simp; omega) ?_; intro v' w3 hown' hgrow _)
              have hbw := (v2.alloc v2.size (.cells #[.int .i64 x.1, .int .i64 x.2] 146)).grown hgrow (by simp; omega) (fun p hp => (hlocs.lt p hp).1)
              exact ⟨(j + 1, v'), rfl, ⟨by show j + 1 ≤ D.length; omega, by first | rfl | trivial, hbw, by dsimp only; rw [HF.out]; exact OwnP.mk_ hown' (cellsP_snoc T x).symm⟩, by show D.length - (j + 1) < D.length - j; omega⟩
            | false =>
              have hfl := HFL.out
              rw [if_neg (by simp)] at hfl
              have HF := Lib.hid hfl
              clear hfl HFL
              go_wp2_with fail
              exact ⟨(j + 1, v9), rfl, ⟨by show j + 1 ≤ D.length; omega, by first | rfl | trivial, v2, by dsimp only; rw [HF.out]; exact hown2⟩, by show D.length - (j + 1) < D.length - j; omega⟩
          · obtain rfl : j = D.length := by omega
            rw [List.take_length] at hown
            have hTl : (D.filter (indep C Ns c)).length ≤ m := Nat.le_trans (List.length_filter_le _ _) (by have := HDL.out; omega)
            have hTl2 : (D.filter (indep C Ns c)).length ≤ D.length := List.length_filter_le _ _
            have he := HE.out
            rw [← HD.out] at he
            obtain ⟨T, hT⟩ : ∃ T, T = D.filter (indep C Ns c) := ⟨_, rfl⟩
            rw [← hT] at hown hTl hTl2 he
            have HE2 := Lib.hid he
            have hTb : T.length ≤ 1000 := by omega
            clear hT he HE
            have v0 := hbV
            have y7 := (q7.below v0 q7.lt).cell 0
            have y8 := (h8.below v0 h8.lt).cell 0
            have y81 := (h8.below v0 h8.lt).cell 1
            obtain ⟨A9, c9, rfl, -⟩ := (hown.pn (by omega) : PN _ _ _)
            have hV1 := hown.below ((Below.refl V.heap.size V).drew)
            have v1 := v0.trans ((Below.refl V.heap.size V).drew.mono v0.size)
            go_wp2_with fail
            refine wp_mix (fun X => X.cell? ⟨g7, 0, none⟩ = some (.func (.func 84) #[] #[ptr g6, ptr g1, ptr g7]) ∧ X.cell? ⟨g8, 0, none⟩ = some (.int .i64 c.1) ∧ X.cell? ⟨g8, 1, none⟩ = some (.int .i64 c.2)) 8 (by kernel_rfl) (by kernel_rfl) ⟨y7, y8, y81⟩ ?_
            have hS0 : V.drew.cell? ⟨g7, 0, none⟩ = some (.func (.func 84) #[] #[ptr g6, ptr g1, ptr g7]) ∧ V.drew.cell? ⟨g8, 0, none⟩ = some (.int .i64 c.1) ∧ V.drew.cell? ⟨g8, 1, none⟩ = some (.int .i64 c.2) := ⟨y7, y8, y81⟩
            obtain ⟨U0, hU0⟩ : ∃ U, U = V.drew := ⟨_, rfl⟩
            rw [← hU0] at hV1 v1 hS0 ⊢
            have u1 := Below.refl U0.heap.size U0
            clear hU0 hown hbV v0 y7 y8 y81
            have hlo0 := v1.size
            (refine m_q 0 (v := ?_) (by kernel_rfl) rfl rfl (fun W hW => ?_) ?_; rotate_left; (obtain ⟨z7, z8, z81⟩ := hW; go_simp; first | done | with_reducible rfl); simp only [Act.put, List.setIfInBounds_toArray, List.set_cons_zero, List.set_cons_succ]); (refine m_q 1 (v := ?_) (by kernel_rfl) rfl rfl (fun W hW => ?_) ?_; rotate_left; (obtain ⟨z7, z8, z81⟩ := hW; go_simp; first | done | with_reducible rfl); simp only [Act.put, List.setIfInBounds_toArray, List.set_cons_zero, List.set_cons_succ]); (refine m_q 3 (v := ?_) (by kernel_rfl) rfl rfl (fun W hW => ?_) ?_; rotate_left; (obtain ⟨z7, z8, z81⟩ := hW; go_simp; first | done | with_reducible rfl); simp only [Act.put, List.setIfInBounds_toArray, List.set_cons_zero, List.set_cons_succ]); (refine m_q 6 (v := ?_) (by kernel_rfl) rfl rfl (fun W hW => ?_) ?_; rotate_left; (obtain ⟨z7, z8, z81⟩ := hW; go_simp; first | done | with_reducible rfl); simp only [Act.put, List.setIfInBounds_toArray, List.set_cons_zero, List.set_cons_succ])
            refine m_s2 2 4 (by kernel_rfl) rfl rfl ?_ ?_
            · go_wp2_with fail
              refine (clonep_pn (ql.below v1)).mono ?_
              rintro e U1 ⟨vC, rfl, hoC, hb⟩
              replace v1 := v1.trans (hb.mono v1.size)
              replace u1 := u1.trans (hb.mono u1.size)
              replace hS0 := And.intro (onB hb hS0.1) (And.intro (onB hb hS0.2.1) (onB hb hS0.2.2))
              clear hb
              obtain ⟨AC, cC, rfl, -⟩ := (hoC.pn (by omega) : PN _ _ _)
              go_wp2_with fail
              refine m_keep hS0 ?_
              refine m_s1 4 (by kernel_rfl) rfl ?_
              go_wp2_with fail
              refine absN fun U2 hL hb hz => ?_
              clear hz
              obtain ⟨gL, hgL⟩ : ∃ g, g = U1.heap.size := ⟨_, rfl⟩
              rw [← hgL] at hL ⊢
              clear hgL
              replace v1 := v1.trans (hb.mono v1.size)
              replace u1 := u1.trans (hb.mono u1.size)
              replace hS0 := And.intro (onB hb hS0.1) (And.intro (onB hb hS0.2.1) (onB hb hS0.2.2))
              replace hoC := hoC.below hb
              clear hb
              refine m_keep hS0 ?_
              refine m_s1 5 (by kernel_rfl) rfl ?_
              have hsz := v1.size
              replace hoC : OwnP U2 U0.heap.size (.slice AC l.length cC) l := hoC.low (Nat.le_refl _)
              have hsu := u1.size
              go_wp2_with (at_builtin; refine wpList_append_own _ rfl _ _ 65 rfl U0.heap.size 146 i0 (.agg #[.int .i64 0, .int .i64 0]) 2 16 Tryz.underlying65 hi0 hz0 hz1 hz2 rfl (by decide) _ _ _ rfl hoC ⟨gL, 0, none⟩ 1 1 [.int .i64 c.1, .int .i64 c.2] rfl rfl (World.news_of_block hL) (by simp [Value.oneCell']) (by unfold maxLen; omega) (by omega) (by first | omega | (simp; done) | (simp; omega)) ?_; intro vL U5 hoL hgrow _)
              replace v1 := v1.grown hgrow hsz (fun p hp => Nat.le_trans hlo0 (hoC.lt p hp).1)
              replace u1 := u1.grown hgrow hsu (fun p hp => (hoC.lt p hp).1)
              replace hoL : OwnP U5 U0.heap.size vL (l ++ [c]) := OwnP.mk_ (by simpa using hoL) (cellsP_snoc l c).symm
              have k7 := q7.below v1 q7.lt
              have k8 := h8.below v1 h8.lt
              replace hS0 := And.intro (k7.cell 0) (And.intro (k8.cell 0) (k8.cell 1))
              refine m_keep hS0 ?_
              have k6 := q6.below v1 q6.lt
              obtain ⟨hn1, hn2, hn3⟩ := best_call (m := m) (n := n) (T := T.length) hlr hlt HDL.out hTl2 hm hTb
              obtain ⟨l2, hl2⟩ : ∃ x, x = l ++ [c] := ⟨_, rfl⟩
              have hl2l : l2.length = l.length + 1 := by rw [hl2, List.length_append]; rfl
              rw [← hl2] at hoL
              have HL2 := Lib.hid hl2
              have HC := hideC (HIH.out m hn1 l2 T bk vL (.slice A9 T.length c9) (.slice A2 bk.length c2) U5 hTl (by rw [hl2l]; exact hn2) (q0.trans (v1.mono q0.size)) (hoL.pn (by rw [hl2l]; exact hn3)) ((hV1.pairs (by omega)).below u1) (qb.below v1) k6 (q1.below v1 q1.lt) k7)
              obtain ⟨AL, cL, rfl, -⟩ := (hoL.pn (by rw [hl2l]; exact hn3) : PN _ _ _)
              clear hl2 hl2l hgrow hoL hL hoC hsz hsu
              refine m_s1 7 (by kernel_rfl) rfl ?_
              go_wp2_with fail
              refine HC.out.mono ?_
              rintro e U6 ⟨rfl, vb', hb', B6', k3, k4⟩
              obtain ⟨A6, c6, rfl, -⟩ := id hb'
              have y7 := (k3.blk k7 (by simpa using h76)).cell 0
              have h86 : some g8 ≠ some g6 := by simp; omega
              have y8 := (k3.blk k8 h86).cell 0
              have y81 := (k3.blk k8 h86).cell 1
              go_wp2_with fail
              refine m_keep ⟨y7, y8, y81⟩ ?_
              refine m_end (by kernel_rfl) ?_
              have hfin : bestE (indep C Ns) n rest l b1 = bestE (indep C Ns) (n - (k + 1)) (rest.drop (k + 1)) l (searchP C Ns m T l2 bk) := by rw [HE2.out, HD.out, HL2.out, show n - (k + 1) = m by omega]
              have HFI := Lib.hid hfin
              have j1 := (qW.below v1).trans k3
              clear hfin y7 y8 y81 HC k6 k7 k8 hS0 v1 u1
              go_wp2_with fail
              exact ⟨(k + 1, A6, c6, _), rfl, ⟨by show k + 1 ≤ rest.length; omega, by first | rfl | trivial, hb', B6', j1, k4, HFI.out⟩, by show rest.length - (k + 1) < rest.length - k; omega⟩
            · go_wp2_with fail
              refine absN fun U1 hL hb hz => ?_
              clear hz
              obtain ⟨gL, hgL⟩ : ∃ g, g = U0.heap.size := ⟨_, rfl⟩
              rw [← hgL] at hL ⊢
              clear hgL
              replace v1 := v1.trans (hb.mono v1.size)
              replace u1 := u1.trans (hb.mono u1.size)
              replace hS0 := And.intro (onB hb hS0.1) (And.intro (onB hb hS0.2.1) (onB hb hS0.2.2))
              have hlu1 := hb.size
              clear hb
              refine m_keep hS0 ?_
              refine m_s1 2 (by kernel_rfl) rfl ?_
              go_wp2_with fail
              refine (clonep_pn (ql.below v1)).mono ?_
              rintro e U2 ⟨vC, rfl, hoC, hb⟩
              replace v1 := v1.trans (hb.mono v1.size)
              replace u1 := u1.trans (hb.mono u1.size)
              replace hS0 := And.intro (onB hb hS0.1) (And.intro (onB hb hS0.2.1) (onB hb hS0.2.2))
              replace hL := hL.below hb hL.lt
              clear hb
              obtain ⟨AC, cC, rfl, -⟩ := (hoC.pn (by omega) : PN _ _ _)
              go_wp2_with fail
              refine m_keep hS0 ?_
              refine m_s1 5 (by kernel_rfl) rfl ?_
              have hsz := v1.size
              replace hoC : OwnP U2 U0.heap.size (.slice AC l.length cC) l := hoC.low hlu1
              have hsu := u1.size
              go_wp2_with (at_builtin; refine wpList_append_own _ rfl _ _ 65 rfl U0.heap.size 146 i0 (.agg #[.int .i64 0, .int .i64 0]) 2 16 Tryz.underlying65 hi0 hz0 hz1 hz2 rfl (by decide) _ _ _ rfl hoC ⟨gL, 0, none⟩ 1 1 [.int .i64 c.1, .int .i64 c.2] rfl rfl (World.news_of_block hL) (by simp [Value.oneCell']) (by unfold maxLen; omega) (by omega) (by first | omega | (simp; done) | (simp; omega)) ?_; intro vL U5 hoL hgrow _)
              replace v1 := v1.grown hgrow hsz (fun p hp => Nat.le_trans hlo0 (hoC.lt p hp).1)
              replace u1 := u1.grown hgrow hsu (fun p hp => (hoC.lt p hp).1)
              replace hoL : OwnP U5 U0.heap.size vL (l ++ [c]) := OwnP.mk_ (by simpa using hoL) (cellsP_snoc l c).symm
              have k7 := q7.below v1 q7.lt
              have k8 := h8.below v1 h8.lt
              replace hS0 := And.intro (k7.cell 0) (And.intro (k8.cell 0) (k8.cell 1))
              refine m_keep hS0 ?_
              have k6 := q6.below v1 q6.lt
              obtain ⟨hn1, hn2, hn3⟩ := best_call (m := m) (n := n) (T := T.length) hlr hlt HDL.out hTl2 hm hTb
              obtain ⟨l2, hl2⟩ : ∃ x, x = l ++ [c] := ⟨_, rfl⟩
              have hl2l : l2.length = l.length + 1 := by rw [hl2, List.length_append]; rfl
              rw [← hl2] at hoL
              have HL2 := Lib.hid hl2
              have HC := hideC (HIH.out m hn1 l2 T bk vL (.slice A9 T.length c9) (.slice A2 bk.length c2) U5 hTl (by rw [hl2l]; exact hn2) (q0.trans (v1.mono q0.size)) (hoL.pn (by rw [hl2l]; exact hn3)) ((hV1.pairs (by omega)).below u1) (qb.below v1) k6 (q1.below v1 q1.lt) k7)
              obtain ⟨AL, cL, rfl, -⟩ := (hoL.pn (by rw [hl2l]; exact hn3) : PN _ _ _)
              clear hl2 hl2l hgrow hoL hL hoC hsz hsu
              refine m_s1 7 (by kernel_rfl) rfl ?_
              go_wp2_with fail
              refine HC.out.mono ?_
              rintro e U6 ⟨rfl, vb', hb', B6', k3, k4⟩
              obtain ⟨A6, c6, rfl, -⟩ := id hb'
              have y7 := (k3.blk k7 (by simpa using h76)).cell 0
              have h86 : some g8 ≠ some g6 := by simp; omega
              have y8 := (k3.blk k8 h86).cell 0
              have y81 := (k3.blk k8 h86).cell 1
              go_wp2_with fail
              refine m_keep ⟨y7, y8, y81⟩ ?_
              refine m_end (by kernel_rfl) ?_
              have hfin : bestE (indep C Ns) n rest l b1 = bestE (indep C Ns) (n - (k + 1)) (rest.drop (k + 1)) l (searchP C Ns m T l2 bk) := by rw [HE2.out, HD.out, HL2.out, show n - (k + 1) = m by omega]
              have HFI := Lib.hid hfin
              have j1 := (qW.below v1).trans k3
              clear hfin y7 y8 y81 HC k6 k7 k8 hS0 v1 u1
              go_wp2_with fail
              exact ⟨(k + 1, A6, c6, _), rfl, ⟨by show k + 1 ≤ rest.length; omega, by first | rfl | trivial, hb', B6', j1, k4, HFI.out⟩, by show rest.length - (k + 1) < rest.length - k; omega⟩
      · obtain rfl : k = rest.length := by omega
        rw [List.drop_length] at heq
        have he : bestE (indep C Ns) n rest l b1 = bk := by rw [heq]; cases n - rest.length <;> rfl
        have HE := Lib.hid he
        clear he heq
        go_wp2_with fail
        go_end0
        rw [HSE.out, HE.out]
        exact ⟨rfl, _, hbk, B62, n1, m2⟩
end Mix2
end Go.Proofs.YtfbkcdhmggjbaaaGreatDoor
