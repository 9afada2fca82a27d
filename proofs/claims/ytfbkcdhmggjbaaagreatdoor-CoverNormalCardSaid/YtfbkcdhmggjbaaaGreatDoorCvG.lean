/-
  package cover: Minimal.
-/
import Derived.Test.YtfbkcdhmggjbaaaGreatDoorCvQ6
namespace Go.Proofs.YtfbkcdhmggjbaaaGreatDoor
open Go.RowKit

/-- What is said of the proof that Minimal returns. -/
def MinP (w : World) (v : Value) (C : Nat) (Ns : List Nat) : Prop := ∃ base vss P, GN w base v P vss ∧ P.length ≤ 5000 ∧ (sizeM C Ns = 0 → P = [⟨3, 0, 0, [], []⟩]) ∧ ∀ b, sizeM C Ns = b + 1 → GQ C Ns (allL C Ns) b 0 (cellsOf Ns) P
theorem GN.put {w : World} {base g i : Nat} {v : Value} {P : List Nd} {vss : List (List Value)} {t : TypeId} {cs : Array Value} (h : GN w base v P vss) (hB : Blk w g t cs) (h1 : t ≠ 141) (h2 : t ≠ 3) (h3 : t ≠ 146) (u : Value) : GN (w.setCell ⟨g, i, none⟩ u) base v P vss := h.far hB h1 h2 h3 u
theorem MinP.put {w : World} {v : Value} {C g i : Nat} {Ns : List Nat} {t : TypeId} {cs : Array Value} (h : MinP w v C Ns) (hB : Blk w g t cs) (h1 : t ≠ 141) (h2 : t ≠ 3) (h3 : t ≠ 146) (u : Value) : MinP (w.setCell ⟨g, i, none⟩ u) v C Ns := by
  obtain ⟨base, vss, P, k1, k2⟩ := h
  exact ⟨base, vss, P, k1.far hB h1 h2 h3 u, k2⟩
theorem MinP.below {w w' : World} {v : Value} {C : Nat} {Ns : List Nat} (h : MinP w v C Ns) (hb : Below w.heap.size w w') : MinP w' v C Ns := by
  obtain ⟨base, vss, P, k1, k2⟩ := h
  exact ⟨base, vss, P, k1.below hb, k2⟩
theorem GN.nil (w : World) (base : Nat) : GN w base (.slice none 0 0) [] [] := ⟨rfl, fun k x h => by simp at h, fun i j a b _ h => by simp at h, World.ownsRow_nil _ _ _ _⟩
/-- One node in a block of its own. -/
theorem GN.one {w : World} {base g : Nat} {k : Int} (hB : Blk w g 141 #[.int .u8 k, .int .i64 0, .int .i64 0, .slice none 0 0, .slice none 0 0]) (hg : base ≤ g) : GN w base (.slice (some ⟨g, 0, none⟩) 1 1) [⟨k, 0, 0, [], []⟩] [[.int .u8 k, .int .i64 0, .int .i64 0, .slice none 0 0, .slice none 0 0]] := by
  refine ⟨rfl, fun j x hx => ?_, fun i j a b hij ha hb g hg => ?_, ⟨by simp, .inr ⟨g, 1, _, rfl, hg, hB, by simp, by decide, by simp, by simp⟩⟩⟩
  · have hj : j = 0 := by have := (List.getElem?_eq_some_iff.1 hx).1; simp at this; exact this
    subst hj
    obtain rfl : (⟨k, 0, 0, [], []⟩ : Nd) = x := by simpa using hx
    exact ⟨_, rfl, _, _, rfl, World.ownsRow_nil _ _ _ _, OwnP.nil _ _⟩
  · have hi : i = 0 := by have := (List.getElem?_eq_some_iff.1 ha).1; simp at this; exact this
    subst hi
    obtain rfl := (show [.int .u8 k, .int .i64 0, .int .i64 0, .slice none 0 0, .slice none 0 0] = a by simpa using ha)
    cases hg
namespace Mix2
set_option maxRecDepth 100000 in
set_option maxHeartbeats 16000000 in
theorem minimal_any (p C : Nat) (Ns : List Nat) (limit : Int) (w : World) (h : IsMat w p C Ns) (hin : rowsIn C Ns) (hR : Ns.length ≤ 5) (hC : C ≤ 5) (hlim : ((closL C Ns).length : Int) ≤ limit) (hT : Tab w) :
    Calls Tryz.prog 25 #[ptr p, .int .i64 limit] w fun e w' => ∃ u r A n c, e = .returned (.tuple #[.agg #[ptr u, ptr r], .agg #[.int .i64 (sizeM C Ns : Int), .slice A n c], .int .i64 0]) ∧ IsMO w' u (minC C Ns).length (usersN C Ns (minC C Ns)) ∧ IsMO w' r C (minC C Ns) ∧ MinP w' (.slice A n c) C Ns ∧ Below w.heap.size w w' := by
  have hl : Ns.length ≤ 4096 := Nat.le_trans hR (by decide)
  have hC12 : C ≤ 12 := Nat.le_trans hC (by decide)
  have hlim1 : ¬ limit < 1 := by
    have := (List.getElem?_eq_some_iff.1 (clos_first (C := C) (Ns := Ns) hl)).1
    omega
  have hK32 := allL_len (C := C) (Ns := Ns) hC
  have hszle := sizeM_le (C := C) hl hin
  have hno := fun b => sizeM_no (C := C) (b := b) hl hin
  have hcr := sizeF_spec (C := C) (Ns := Ns) (L := allL C Ns) (n := Ns.length) (b := 0) (by rw [Nat.zero_add]; exact cov_rows hl hin)
  have hyes : covK C Ns (allL C Ns) 0 (sizeM C Ns) (cellsOf Ns) = true := (covK_iff _ _).2 hcr.2.2.1
  have hnoB : ∀ b, b < sizeM C Ns → covK C Ns (allL C Ns) 0 b (cellsOf Ns) = false := fun b hb => by
    cases hc : covK C Ns (allL C Ns) 0 b (cellsOf Ns) with
    | false => rfl
    | true => exact absurd ((covK_iff _ _).1 hc) (hno b hb)
  have hml := minC_len (C := C) (Ns := Ns) hC
  have hmk : minC C Ns = atL (allL C Ns) (leastK C Ns (allL C Ns) (allL C Ns).length 0 (sizeM C Ns) (cellsOf Ns)) := rfl
  have hMP := fun (w' : World) (v : Value) => (Iff.rfl : MinP w' v C Ns ↔ MinP w' v C Ns)
  have hfew := few_ok hC hR (allL_clo (C := C) (Ns := Ns)) (allL_nd C Ns)
  have hnil : Ns.length = 0 → allL C Ns = [] := fun e => by rw [List.eq_nil_of_length_eq_zero e]; exact allL_nil C
  have hMC := minC_clo (C := C) (Ns := Ns)
  obtain ⟨sz, hsz⟩ : ∃ s, s = sizeM C Ns := ⟨_, rfl⟩
  rw [← hsz] at hszle hno hyes hnoB hmk ⊢
  have hsz5 : sz ≤ 5 := Nat.le_trans hszle hR
  have HSZ := Lib.hid hsz; have HNO := Lib.hid hno; have HYES := Lib.hid hyes; have HNOB := Lib.hid hnoB; have HMK := Lib.hid hmk; have HFW := Lib.hid hfew; have HNIL := Lib.hid hnil; have HMC := Lib.hid hMC; have HIN := Lib.hid hin; have HK32 := Lib.hid hK32; have HML := Lib.hid hml
  clear hsz hno hyes hnoB hmk hfew hnil hMC hin hcr hMP hszle hK32 hml
  have HCON := hideC (fun W (hb : Below w.heap.size w W) => concepts_any p C Ns limit W (h.below hb) (hT.below hb) hC12 hlim)
  have hc12 : ¬ (12 : Int) < (C : Int) := by omega
  go_enter Tryz.func25, Tryz.ntmps25
  go_upto_region 3 with fail
  refine abs2 fun W1 h4 h5 hb1 hz => ?_
  clear hz
  obtain ⟨g4, hg4⟩ : ∃ x, x = w.heap.size := ⟨_, rfl⟩
  have hg4w : w.heap.size ≤ g4 := by omega
  rw [← hg4] at h4 h5 ⊢
  clear hg4
  go_wp2_with fail
  with_reducible refine (cols_any p C Ns W1 (h.below hb1)).mono ?_
  rintro e w' ⟨rfl, rfl⟩
  go_wp2_with fail
  with_reducible refine (HCON.out W1 hb1).mono ?_
  rintro e W2 ⟨vL, rfl, hKL, hb2⟩
  have b2 := hb1.trans (hb2.mono hb1.size)
  have h42 := h4.below hb2 h4.lt
  have h52 := h5.below hb2 h5.lt
  obtain ⟨AL, cL, rfl⟩ := hKL.val
  clear h4 h5 hb1 hb2 HCON
  go_upto_region 9 with fail
  refine abs1 fun W3 hB hb3 hz => ?_
  clear hz
  have b3 := b2.trans (hb3.mono b2.size)
  have h43 := h42.below hb3 h42.lt
  have h53 := h52.below hb3 h52.lt
  have hKL3 := hKL.below hb3
  obtain ⟨gs, hgs⟩ : ∃ x, x = W2.heap.size := ⟨_, rfl⟩
  have hgsw : w.heap.size ≤ gs := by rw [hgs]; exact b2.size
  have h4s : g4 + 1 < gs := by rw [hgs]; exact h52.lt
  rw [← hgs] at hB ⊢
  clear hgs h42 h52 hKL hb3 b2
  have HALL := hideC (all_cov p C Ns W3 (h.below b3))
  go_wp2_with fail
  with_reducible refine HALL.out.mono ?_
  rintro e W4 ⟨vo, rfl, hO, hb4⟩
  have b4 := b3.trans (hb4.mono b3.size)
  have h44 := h43.below hb4 h43.lt
  have h54 := h53.below hb4 h53.lt
  have hS4 : IsSr W4 gs W1.heap.size (.slice AL (allL C Ns).length cL) p C Ns (allL C Ns) (0 : Nat) := ⟨hB.below hb4 hB.lt, hKL3.below hb4⟩
  obtain ⟨Ao, co, rfl⟩ := hO.val
  clear h43 h53 hKL3 hB hb4 b3 HALL
  obtain ⟨K, hK⟩ : ∃ K, K = allL C Ns := ⟨_, rfl⟩
  have HKc := Lib.hid (show ∀ s ∈ K, cloN C Ns s = s by rw [hK]; exact allL_clo)
  have hKl : K.length ≤ 32 := by rw [hK]; exact HK32.out
  rw [← hK] at hS4 HYES HNOB HMK HFW HNIL HNO ⊢
  have HK := Lib.hid hK
  clear hK
  have hKl2 : K.length ≤ 4096 := Nat.le_trans hKl (by decide)
  go_wp2_with fail
  refine wp_loopF (β := Nat × Nat) (fun x f => #[ptr p, .int .i64 limit, f 2, f 3, ptr g4, ptr (g4 + 1), .int .i64 0, .slice AL K.length cL, .int .i64 0, ptr gs, .slice Ao Ns.length co, .int .i64 (x.1 : Int), f 12, f 13, f 14, f 15, f 16, f 17, f 18, f 19, f 20, f 21, f 22, f 23, f 24, f 25, f 26, f 27, f 28, f 29, f 30, f 31, f 32, f 33, f 34, f 35, f 36, f 37, f 38, f 39, f 40, f 41, f 42, f 43, f 44, f 45, f 46, f 47, f 48, f 49, f 50, f 51, f 52, f 53, f 54, f 55, f 56, f 57, f 58, f 59, f 60, f 61, f 62, f 63, f 64, f 65, f 66, f 67, f 68, f 69, f 70, f 71, f 72, f 73, f 74, f 75, f 76, f 77, f 78, f 79, f 80, f 81, f 82, f 83, f 84, f 85, f 86, f 87, f 88, f 89, f 90, f 91, f 92, f 93, f 94, f 95, f 96, f 97, f 98, f 99, f 100, f 101, f 102, f 103, f 104, f 105])
    (fun x ds W => ds = [] ∧ x.1 ≤ sz ∧ x.2 ≤ sumT x.1 ∧ IsSr W gs W1.heap.size (.slice AL K.length cL) p C Ns K (x.2 : Nat) ∧ But (some gs) W4 W ∧ Below w.heap.size w W) (fun x => sz - x.1) (0, 0) rfl
    ⟨rfl, Nat.zero_le _, Nat.le_refl _, hS4, But.refl _ _, b4⟩ ?_
  rintro ⟨b, nd⟩ f ds W ⟨rfl, hb, hnd, hSW, hbut, hbW⟩
  dsimp only at hb hnd hSW ⊢
  have hOW := hO.but hS4.1 (by decide) (by decide) hbut
  have hb5 : b ≤ 5 := Nat.le_trans hb hsz5
  have hcv := covk_any gs W1.heap.size _ p C Ns K w hgsw hT hl hC12 hKl2 HKc.out HFW.out 0 b (b : Int) nd Ns _ _ W rfl (Nat.le_trans hb5 (by decide)) (min_ar1 hb5 hnd) hbW hSW hOW (under_self Ns)
  have hcv2 : Calls Tryz.prog 75 #[ptr gs, .slice Ao Ns.length co, .int .i64 (b : Int), .int .i64 0] W fun e w' => ∃ nd' : Nat, e = .returned (.bool (covK C Ns K 0 b (cellsOf Ns))) ∧ nd ≤ nd' ∧ nd' ≤ nd + callsT b ∧ IsSr w' gs W1.heap.size (.slice AL K.length cL) p C Ns K nd' ∧ But (some gs) W w' ∧ Below w.heap.size w w' := hcv
  clear hcv
  by_cases hlt : b < sz
  · rw [HNOB.out b hlt] at hcv2
    have HCV := hideC hcv2
    clear hcv2
    go_wp2_with fail
    with_reducible refine HCV.out.mono ?_
    rintro e W5 ⟨nd5, rfl, hn1, hn2, hS5, hbut5, hb5'⟩
    have hnd5 : nd5 ≤ sumT (b + 1) := by rw [sumT]; omega
    have hbig : nd5 ≤ 1000000 := by have := min_ar1 hb5 hnd; omega
    obtain ⟨-, hbg⟩ := big_no hbig
    have c2 := hS5.1.cell 2
    have HND5 := Lib.hid hnd5
    clear hn1 hn2 hnd5 hbig hnd
    go_wp2_with fail
    exact ⟨(b + 1, nd5), rfl, ⟨by first | rfl | trivial, hlt, HND5.out, hS5, hbut.trans hbut5, hb5'⟩, by show sz - (b + 1) < sz - b; omega⟩
  · obtain rfl : b = sz := by omega
    rw [HYES.out] at hcv2
    have HCV := hideC hcv2
    clear hcv2
    go_wp2_with fail
    with_reducible refine HCV.out.mono ?_
    rintro e W5 ⟨nd5, rfl, hn1, hn2, hS5, hbut5, hb5'⟩
    have hnd5 : nd5 ≤ sumT (b + 1) := by rw [sumT]; omega
    have hO5 := hOW.but hSW.1 (by decide) (by decide) hbut5
    have hbut45 := hbut.trans hbut5
    have h45 := hbut45.blk h44 (by simp; omega)
    have h55 := hbut45.blk h54 (by simp; omega)
    have hm2 := min_ar2 hb5 hnd5 hKl
    have hle := leastc_any gs W1.heap.size _ p C Ns K w hgsw hT hl hC12 hKl2 HKc.out HFW.out b nd5 Ns _ _ W5 (Nat.le_trans hb5 (by decide)) (Nat.le_trans hm2 (by decide)) hb5' hS5 hO5 (under_self Ns) HNIL.out
    rw [← HMK.out] at hle
    have HLE := hideC hle
    have HM2 := Lib.hid hm2
    clear hle hm2 hn1 hn2 hnd5 hnd hSW hOW hbut hbut5 HCV hbW hlt hbut45 h44 h54 hS4 hO
    go_wp2_with fail
    with_reducible refine HLE.out.mono ?_
    rintro e W6 ⟨v12, nd6, rfl, hC6, hn1, hn2, hS6, hbut6, hb6⟩
    have hnd6 : nd6 ≤ 300000 := Nat.le_trans hn2 HM2.out
    have hO6 := hO5.but hS5.1 (by decide) (by decide) hbut6
    have h46 := hbut6.blk h45 (by simp; omega)
    have h56 := hbut6.blk h55 (by simp; omega)
    obtain ⟨A12, c12, rfl⟩ := hC6.val
    have HND6 := Lib.hid hnd6
    clear hnd6 hn1 hn2 hS5 hO5 hbut6 hb5' h45 h55 HLE HM2
    go_upto_region 15 with fail
    refine abs1 fun W7 hBp hb7 hz => ?_
    clear hz
    have b7 := hb6.trans (hb7.mono hb6.size)
    have hS7 := hS6.below hb7
    have hO7 := hO6.below hb7
    have hC7 := hC6.below hb7
    have h47 := h46.below hb7 h46.lt
    have h57 := h56.below hb7 h56.lt
    obtain ⟨gp, hgp⟩ : ∃ x, x = W6.heap.size := ⟨_, rfl⟩
    have hgpw : w.heap.size ≤ gp := by rw [hgp]; exact hb6.size
    have hgsp : gs < gp := by rw [hgp]; exact hS6.1.lt
    rw [← hgp] at hBp ⊢
    clear hgp hS6 hO6 hC6 h46 h56 hb7 hb6
    obtain ⟨cb, hcb⟩ : ∃ cb, cb = decide (0 < b) := ⟨_, rfl⟩
    have HCB := Lib.hid hcb
    clear hcb
    go_cut [66] (fun s wx => s = .bool cb ∧ wx = W7)
    case first =>
      have hcb := HCB.out
      by_cases hb0 : 0 < b
      · rw [decide_eq_true hb0] at hcb
        have HC2 := Lib.hid hcb
        have hbp : decide (0 < b) = true := decide_eq_true hb0
        have HBP := Lib.hid hbp
        clear hcb hb0 hbp
        go_wp2_with fail
        go_meet
        rw [HC2.out]
        exact ⟨by first | rfl | rw [HBP.out], rfl⟩
      · rw [decide_eq_false hb0] at hcb
        have HC2 := Lib.hid hcb
        have hbp : decide (0 < b) = false := decide_eq_false hb0
        have HBP := Lib.hid hbp
        clear hcb hb0 hbp
        go_wp2_with fail
        go_meet
        rw [HC2.out]
        exact ⟨by first | rfl | rw [HBP.out], rfl⟩
    case rest =>
    obtain ⟨hs66, hwc⟩ := hcut
    subst hs66
    rw [hwc]
    clear hwc
    go_upto_if 66 with fail
    go_cut [] (fun wx => ∃ A n c nd, Blk wx gp 137 #[ptr gs, .slice A n c] ∧ n ≤ 5000 ∧ nd ≤ 1000000 ∧ MinP wx (.slice A n c) C Ns ∧ Blk wx gs 133 #[ptr p, .slice AL K.length cL, .int .i64 ((nd : Nat) : Int)] ∧ OwnK wx W5.heap.size (.slice A12 (minC C Ns).length c12) C Ns (minC C Ns) ∧ Blk wx g4 34 #[.pointer none, .pointer none] ∧ Blk wx (g4 + 1) 57 #[.int .i64 0, .slice none 0 0] ∧ Below w.heap.size w wx)
    case first =>
      cases cb with
      | true =>
        obtain ⟨m, hm⟩ : ∃ m, b = m + 1 := ⟨b - 1, by have := of_decide_eq_true HCB.out.symm; omega⟩
        have hm4 : m ≤ 4 := by omega
        obtain ⟨ha1, ha2⟩ := min_ar3 hm4 HND6.out
        have hgr := growc_any gs gp W7.heap.size W1.heap.size _ p C Ns K w hgsw hgpw b7.size (by omega) hT h hR hC HIN.out hKl2 HKc.out HFW.out m ((b : Int) - 1) nd6 (.slice none 0 0) [] [] Ns _ _ W7 (by omega) (Nat.le_trans hm4 (by decide)) ha2 (Nat.le_trans ha1 (by decide)) b7 (Nat.le_refl _) hS7 hBp (GN.nil _ _) hO7 (under_self Ns) (HNO.out m (by omega))
        have HGR := hideC hgr
        have hwb : wrap64 ((b : Int) - 1) = (b : Int) - 1 := IntWalk.wrap64_in _ ⟨by omega, by omega⟩
        have HA1 := Lib.hid ha1; have HA2 := Lib.hid ha2; have HM := Lib.hid hm
        clear hgr ha1 ha2 hm hm4
        go_wp2_with fail
        with_reducible refine HGR.out.mono ?_
        rintro e W8 ⟨rfl, Q, vss2, v8, nd8, hN8, -, hB8, hS8, hnd8, hGQ, hQl, kn8, hb8⟩
        rw [List.nil_append, List.nil_append] at hN8
        obtain ⟨A8, c8, rfl⟩ := hN8.val
        have hC8 := hC7.kn kn8 hS7.1 hBp
        have h48 := kn8.2 _ _ _ (by decide) (show g4 ≠ gs by omega) (show g4 ≠ gp by omega) h47
        have h58 := kn8.2 _ _ _ (by decide) (show g4 + 1 ≠ gs by omega) (show g4 + 1 ≠ gp by omega) h57
        have hQ5 : Q.length ≤ 5000 := Nat.le_trans hQl (by have := HA2.out; rwa [Nat.zero_add] at this)
        have hn8 : nd8 ≤ 1000000 := Nat.le_trans hnd8 (Nat.le_trans HA1.out (by decide))
        go_wp2_with fail
        go_meet
        refine ⟨A8, Q.length, c8, nd8, hB8, hQ5, hn8, ⟨_, vss2, Q, hN8, hQ5, fun h0 => absurd (HSZ.out.trans h0) (by have := HM.out; omega), fun b' hb' => ?_⟩, hS8.1, hC8, h48, h58, hb8⟩
        have e := HSZ.out
        have e2 := HM.out
        obtain rfl : b' = m := by omega
        rw [← HK.out]
        exact hGQ
      | false =>
        have hb0 : b = 0 := by have := of_decide_eq_false HCB.out.symm; omega
        have HB0 := Lib.hid hb0
        clear hb0
        have p1 := hBp.cell 1
        have f1 := hBp.frozen 1
        have lp := hBp.lt
        obtain ⟨V7, hV7⟩ : ∃ V, V = W7.setCell ⟨gp, 1, none⟩ (.slice (some ⟨W7.heap.size, 0, none⟩) 1 1) := ⟨_, rfl⟩
        have hVs : V7.heap.size = W7.heap.size := by rw [hV7]; simp [World.setCell]
        have hBpa : Blk V7 gp 137 #[ptr gs, .slice (some ⟨W7.heap.size, 0, none⟩) 1 1] := by rw [hV7]; exact hBp.set_ 1 _
        have hba : Below V7.heap.size V7 (V7.alloc (.cells #[.int .u8 3, .int .i64 0, .int .i64 0, .slice none 0 0, .slice none 0 0] 141)) := (Below.refl _ _).alloc (Nat.le_refl _) _
        have hn : Blk (V7.alloc (.cells #[.int .u8 3, .int .i64 0, .int .i64 0, .slice none 0 0, .slice none 0 0] 141)) W7.heap.size 141 #[.int .u8 3, .int .i64 0, .int .i64 0, .slice none 0 0, .slice none 0 0] := Blk.new_ hVs.symm _ _
        have hGN := GN.one (base := W7.heap.size) hn (Nat.le_refl _)
        have hB8 := hBpa.below hba hBpa.lt
        have hC8 := (show OwnK V7 W5.heap.size (.slice A12 (minC C Ns).length c12) C Ns (minC C Ns) by rw [hV7]; exact hC7.put hBp (by decide) (by decide) 1 _).below hba
        have hS8' : Blk V7 gs 133 #[ptr p, .slice AL K.length cL, .int .i64 ((nd6 : Nat) : Int)] := by rw [hV7]; exact hS7.1.far (p := ⟨gp, 1, none⟩) (show gs ≠ gp by omega) _
        have hS8 := hS8'.below hba hS8'.lt
        have h48' : Blk V7 g4 34 #[.pointer none, .pointer none] := by rw [hV7]; exact h47.far (p := ⟨gp, 1, none⟩) (show g4 ≠ gp by omega) _
        have h48 := h48'.below hba h48'.lt
        have h58' : Blk V7 (g4 + 1) 57 #[.int .i64 0, .slice none 0 0] := by rw [hV7]; exact h57.far (p := ⟨gp, 1, none⟩) (show g4 + 1 ≠ gp by omega) _
        have h58 := h58'.below hba h58'.lt
        have hb8' : Below w.heap.size w V7 := by rw [hV7]; exact b7.setCell (p := ⟨gp, 1, none⟩) hgpw _
        have hb8 := hb8'.trans (hba.mono hb8'.size)
        have HV7 := Lib.hid hV7
        clear hV7 hVs hBpa hba hS8' h48' h58' hb8'
        have HN6 := Lib.hid (Nat.le_trans HND6.out (show 300000 ≤ 1000000 by decide))
        clear hn
        go_wp2_with fail
        go_meet
        rw [← HV7.out]
        exact ⟨_, 1, 1, nd6, hB8, by decide, HN6.out, ⟨_, _, _, hGN, by decide, fun _ => rfl, fun b' hb' => absurd (HSZ.out.trans hb') (by have := HB0.out; omega)⟩, hS8, hC8, h48, h58, hb8⟩
    case rest =>
    obtain ⟨A9, n9, c9, nd9, hB9, hn9, hnd9, hMP, hS9, hC9, h49, h59, hb9⟩ := hcut
    obtain ⟨W8, hW8⟩ : ∃ V, V = wc := ⟨_, rfl⟩
    rw [← hW8] at hB9 hMP hS9 hC9 h49 h59 hb9 ⊢
    clear hW8 hS7 hO7 hC7 h47 h57 hBp b7 HCB HND6
    have HMP := Lib.hid hMP
    have c2 := hS9.cell 2
    have cp := hB9.cell 1
    obtain ⟨hg1, -⟩ := big_no hnd9
    have hg2 := big_len hn9
    clear hMP hnd9 hn9
    have hrw := rows_any p C Ns W8 (h.below hb9)
    have HRW := hideC hrw
    clear hrw
    go_wp2_with fail
    with_reducible refine HRW.out.mono ?_
    rintro e w' ⟨rfl, rfl⟩
    go_wp2_with fail
    with_reducible refine (cols_any p C Ns W8 (h.below hb9)).mono ?_
    rintro e w' ⟨rfl, rfl⟩
    have HBU := hideC (build_any W5.heap.size (.slice A12 (minC C Ns).length c12) C Ns (minC C Ns) W8 hC9 (Nat.le_trans HML.out (by decide)) (Nat.le_trans hR (by decide)) (Nat.le_trans hC (by decide)) HMC.out)
    clear HRW c2 cp
    go_wp2_with fail
    with_reducible refine HBU.out.mono ?_
    rintro e W9 ⟨u, r, rfl, hu, hr, hbu⟩
    have b9 := hb9.trans (hbu.mono hb9.size)
    have h4u := h49.below hbu h49.lt
    have h5u := h59.below hbu h59.lt
    have hBu := hB9.below hbu hB9.lt
    have hMu := HMP.out.below hbu
    clear HBU HMP hS9 hC9 h49 h59 hB9 hbu
    go_upto_region 21 with fail
    refine abs1 fun W10 h14 hb10 hz => ?_
    clear hz
    have b10 := b9.trans (hb10.mono b9.size)
    have h4v := h4u.below hb10 h4u.lt
    have h5v := h5u.below hb10 h5u.lt
    have hBv := hBu.below hb10 hBu.lt
    have hMv := hMu.below hb10
    have hu2 := hu.below hb10
    have hr2 := hr.below hb10
    obtain ⟨g14, hg14⟩ : ∃ x, x = W9.heap.size := ⟨_, rfl⟩
    have hg14x : g4 + 1 < g14 := by rw [hg14]; exact h5u.lt
    rw [← hg14] at h14 ⊢
    clear hg14 h4u h5u hBu hMu hu hr hb10
    go_upto_region 23 with fail
    have q0 := h14.cell 0
    have q1 := h14.cell 1
    have q2 := hBv.cell 1
    refine wp_spine (fun V => V.cell? ⟨g14, 0, none⟩ = some (ptr u) ∧ V.cell? ⟨g14, 1, none⟩ = some (ptr r) ∧ V.cell? ⟨gp, 1, none⟩ = some (.slice A9 n9 c9)) [0, 1, 2, 3, 4] [5, 6, 7] (by kernel_rfl) (by kernel_rfl) ?_
    iterate 5 (refine wpE_op (v := ?_) rfl rfl (fun W hW => ?_) ?_; rotate_left; (obtain ⟨x0, x1, x2⟩ := hW; go_simp; first | done | with_reducible rfl); simp only [Act.put, List.setIfInBounds_toArray, List.set_cons_zero, List.set_cons_succ])
    have hd : Below W10.heap.size W10 W10.drew := (Below.refl _ _).drew
    obtain ⟨V, hV⟩ : ∃ V, V = W10.drew := ⟨_, rfl⟩
    rw [← hV] at hd
    refine wpE_nil ⟨fun h => (by cases h), ?_⟩
    rw [← hV]
    clear hV
    have h4V := h4v.below hd h4v.lt
    have h5V := h5v.below hd h5v.lt
    have h14V := h14.below hd h14.lt
    have hBV := hBv.below hd hBv.lt
    have f40 := h4V.frozen 0
    have f41 := h4V.frozen 1
    have c40 := h4V.cell 0
    have c41 := h4V.cell 1
    refine wpSp_op rfl ⟨onB hd q0, onB hd q1, onB hd q2⟩ ?_
    go_wp2_with fail
    have e14 : ∀ g : Nat, g ≠ g4 → ∀ (t : TypeId) (cs : Array Value), Blk V g t cs → Blk ((V.setCell ⟨g4, 0, none⟩ (ptr u)).setCell ⟨g4, 1, none⟩ (ptr r)) g t cs := fun g hg t cs hB => (hB.far (p := ⟨g4, 0, none⟩) (show g ≠ g4 from hg) _).far (p := ⟨g4, 1, none⟩) (show g ≠ g4 from hg) _
    have a14 := e14 g14 (by omega) _ _ h14V
    have aB := e14 gp (by omega) _ _ hBV
    have a5 := e14 (g4 + 1) (by omega) _ _ h5V
    have a4 := (h4V.set_ 0 (ptr u)).set_ 1 (ptr r)
    have au := ((hu2.below hd).put (i := 0) h4V (by decide) (by decide) (by decide) (ptr u)).put (i := 1) (h4V.set_ 0 (ptr u)) (by decide) (by decide) (by decide) (ptr r)
    have ar := ((hr2.below hd).put (i := 0) h4V (by decide) (by decide) (by decide) (ptr u)).put (i := 1) (h4V.set_ 0 (ptr u)) (by decide) (by decide) (by decide) (ptr r)
    have aM := ((hMv.below hd).put (i := 0) h4V (by decide) (by decide) (by decide) (ptr u)).put (i := 1) (h4V.set_ 0 (ptr u)) (by decide) (by decide) (by decide) (ptr r)
    have ab := ((b10.trans (hd.mono b10.size)).setCell (p := ⟨g4, 0, none⟩) hg4w (ptr u)).setCell (p := ⟨g4, 1, none⟩) hg4w (ptr r)
    obtain ⟨V1, hV1⟩ : ∃ X, X = (V.setCell ⟨g4, 0, none⟩ (ptr u)).setCell ⟨g4, 1, none⟩ (ptr r) := ⟨_, rfl⟩
    rw [← hV1] at a14 aB a5 a4 au ar aM ab ⊢
    clear hV1 e14 h14V hBV h4V h5V f40 f41 c40 c41 hd h14 hBv h4v h5v hMv hu2 hr2 b10 q0 q1 q2
    refine nxt_op rfl ⟨a14.cell 0, a14.cell 1, aB.cell 1⟩ ?_
    have f50 := a5.frozen 0
    have f51 := a5.frozen 1
    have c50 := a5.cell 0
    have c51 := a5.cell 1
    go_wp2_with fail
    have x14 := (a14.far (p := ⟨g4 + 1, 0, none⟩) (show g14 ≠ g4 + 1 by omega) (.int .i64 (b : Int))).far (p := ⟨g4 + 1, 1, none⟩) (show g14 ≠ g4 + 1 by omega) (.slice A9 n9 c9)
    have xB := (aB.far (p := ⟨g4 + 1, 0, none⟩) (show gp ≠ g4 + 1 by omega) (.int .i64 (b : Int))).far (p := ⟨g4 + 1, 1, none⟩) (show gp ≠ g4 + 1 by omega) (.slice A9 n9 c9)
    have x4 := (a4.far (p := ⟨g4 + 1, 0, none⟩) (show g4 ≠ g4 + 1 by omega) (.int .i64 (b : Int))).far (p := ⟨g4 + 1, 1, none⟩) (show g4 ≠ g4 + 1 by omega) (.slice A9 n9 c9)
    have x5 := (a5.set_ 0 (.int .i64 (b : Int))).set_ 1 (.slice A9 n9 c9)
    have xu := (au.put (i := 0) a5 (by decide) (by decide) (by decide) (.int .i64 (b : Int))).put (i := 1) (a5.set_ 0 (.int .i64 (b : Int))) (by decide) (by decide) (by decide) (.slice A9 n9 c9)
    have xr := (ar.put (i := 0) a5 (by decide) (by decide) (by decide) (.int .i64 (b : Int))).put (i := 1) (a5.set_ 0 (.int .i64 (b : Int))) (by decide) (by decide) (by decide) (.slice A9 n9 c9)
    have xM := (aM.put (i := 0) a5 (by decide) (by decide) (by decide) (.int .i64 (b : Int))).put (i := 1) (a5.set_ 0 (.int .i64 (b : Int))) (by decide) (by decide) (by decide) (.slice A9 n9 c9)
    have xb := (ab.setCell (p := ⟨g4 + 1, 0, none⟩) (show w.heap.size ≤ g4 + 1 by omega) (.int .i64 (b : Int))).setCell (p := ⟨g4 + 1, 1, none⟩) (show w.heap.size ≤ g4 + 1 by omega) (.slice A9 n9 c9)
    obtain ⟨V2, hV2⟩ : ∃ X, X = (V1.setCell ⟨g4 + 1, 0, none⟩ (.int .i64 (b : Int))).setCell ⟨g4 + 1, 1, none⟩ (.slice A9 n9 c9) := ⟨_, rfl⟩
    rw [← hV2] at x14 xB x4 x5 xu xr xM xb ⊢
    clear hV2 a14 aB a4 a5 au ar aM ab f50 f51 c50 c51
    refine nxt_op rfl ⟨x14.cell 0, x14.cell 1, xB.cell 1⟩ ?_
    go_wp2_with fail
    refine nxt_nil ?_
    go_wp2_with fail
    have cX0 := x4.cell 0
    have cX1 := x4.cell 1
    have cY0 := x5.cell 0
    have cY1 := x5.cell 1
    refine bodyPost_ret (v := .tuple #[.agg #[ptr u, ptr r], .agg #[.int .i64 (b : Int), .slice A9 n9 c9], .int .i64 0]) (by simp [results, Tryz.results25, go_sem, cX0, cX1, cY0, cY1]) rfl ⟨u, r, A9, n9, c9, rfl, xu, xr, xM, xb⟩
end Mix2
end Go.Proofs.YtfbkcdhmggjbaaaGreatDoor
