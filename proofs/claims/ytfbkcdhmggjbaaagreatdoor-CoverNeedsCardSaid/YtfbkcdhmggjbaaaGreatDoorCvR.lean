import Derived.Test.YtfbkcdhmggjbaaaGreatDoorCvQ6
import Derived.Test.YtfbkcdhmggjbaaaGreatDoorCvQ5
import Derived.Deep.DeepCutAuto
import Derived.Deep.CutBlock
/-
  cover.Greedy.
-/
namespace Go.Proofs.YtfbkcdhmggjbaaaGreatDoor
open Go.RowKit
attribute [local go_sem] Oper.semAt_some

section
variable {C : Nat} {Ns L : List Nat} {o : List (Nat × Nat)}
/-- The first of n concepts that covers the most, and how many. -/
def bestT (C : Nat) (Ns L : List Nat) (o : List (Nat × Nat)) : Nat → Nat × Nat
  | 0 => (0, 0)
  | n + 1 => if (bestT C Ns L o n).2 < o.countP (inS C Ns (L.getD n 0)) then (n, o.countP (inS C Ns (L.getD n 0))) else bestT C Ns L o n
theorem bestT_spec : ∀ n, (∀ k, k < n → o.countP (inS C Ns (L.getD k 0)) ≤ (bestT C Ns L o n).2) ∧ ((bestT C Ns L o n).2 = 0 ∧ (bestT C Ns L o n).1 = 0 ∨ (bestT C Ns L o n).1 < n ∧ (bestT C Ns L o n).2 = o.countP (inS C Ns (L.getD (bestT C Ns L o n).1 0)) ∧ 0 < (bestT C Ns L o n).2) ∧ (bestT C Ns L o n).2 ≤ o.length
  | 0 => ⟨fun k hk => by omega, .inl ⟨rfl, rfl⟩, Nat.zero_le _⟩
  | n + 1 => by
    obtain ⟨h1, h2, h3⟩ := bestT_spec n
    rw [bestT]
    split
    · rename_i h
      refine ⟨fun k hk => ?_, .inr ⟨Nat.lt_succ_self n, rfl, Nat.lt_of_le_of_lt (Nat.zero_le _) h⟩, List.countP_le_length⟩
      by_cases e : k = n
      · subst e; exact Nat.le_refl _
      · exact Nat.le_trans (h1 k (by omega)) (Nat.le_of_lt h)
    · rename_i h
      refine ⟨fun k hk => ?_, h2.imp id fun ⟨a, b⟩ => ⟨Nat.lt_succ_of_lt a, b⟩, h3⟩
      by_cases e : k = n
      · subst e; omega
      · exact h1 k (by omega)
def bestK (C : Nat) (Ns L : List Nat) (o : List (Nat × Nat)) : Nat := (bestT C Ns L o L.length).1
/-- The concepts that cover the most, one after the other. -/
def greedyK (C : Nat) (Ns L : List Nat) : Nat → List (Nat × Nat) → List Nat
  | 0, _ => []
  | f + 1, o => if o = [] then [] else bestK C Ns L o :: greedyK C Ns L f (lessL C Ns o (L.getD (bestK C Ns L o) 0))
theorem best_on (hcov : ∀ c ∈ o, ∃ k, k < L.length ∧ inS C Ns (L.getD k 0) c = true) (hne : o ≠ []) : bestK C Ns L o < L.length ∧ (lessL C Ns o (L.getD (bestK C Ns L o) 0)).length < o.length := by
  obtain ⟨c, hc⟩ := List.exists_mem_of_ne_nil o hne
  obtain ⟨k, hk, hi⟩ := hcov c hc
  obtain ⟨h1, h2, -⟩ := bestT_spec (C := C) (Ns := Ns) (L := L) (o := o) L.length
  have hp : 0 < o.countP (inS C Ns (L.getD k 0)) := List.countP_pos_iff.2 ⟨c, hc, hi⟩
  have := h1 k hk
  rcases h2 with ⟨h2, -⟩ | ⟨h2, h3, h4⟩
  · omega
  · have hcnt := count_less (C := C) (Ns := Ns) o (L.getD (bestK C Ns L o) 0)
    unfold bestK at hcnt ⊢
    exact ⟨h2, by omega⟩
theorem best_small : (bestT C Ns L o L.length).2 ≤ o.length := (bestT_spec L.length).2.2
theorem best_le (n : Nat) : (bestT C Ns L o n).1 ≤ n := by
  rcases (bestT_spec (C := C) (Ns := Ns) (L := L) (o := o) n).2.1 with ⟨_, h⟩ | ⟨h, _⟩ <;> omega
theorem greedyK_len : ∀ (f : Nat) (o : List (Nat × Nat)), (greedyK C Ns L f o).length ≤ f
  | 0, _ => Nat.le_refl _
  | f + 1, o => by
    rw [greedyK]
    split
    · exact Nat.zero_le _
    · rw [List.length_cons]; exact Nat.succ_le_succ (greedyK_len f _)
theorem greedyK_spec (hcov : ∀ c ∈ cellsOf Ns, ∃ k, k < L.length ∧ inS C Ns (L.getD k 0) c = true) : ∀ (f : Nat) (o : List (Nat × Nat)), (∀ c ∈ o, c ∈ cellsOf Ns) → o.length ≤ f → (∀ k ∈ greedyK C Ns L f o, k < L.length) ∧ ∀ c ∈ o, ∃ k ∈ greedyK C Ns L f o, inS C Ns (L.getD k 0) c = true
  | 0, o, ho, hf => by
    obtain rfl : o = [] := List.eq_nil_of_length_eq_zero (by omega)
    exact ⟨by simp [greedyK], by simp⟩
  | f + 1, o, ho, hf => by
    rw [greedyK]
    by_cases hne : o = []
    · subst hne; simp
    · rw [if_neg hne]
      obtain ⟨h1, h2⟩ := best_on (fun c hc => hcov c (ho c hc)) hne
      obtain ⟨k1, k2⟩ := greedyK_spec hcov f (lessL C Ns o (L.getD (bestK C Ns L o) 0)) (fun c hc => ho c (mem_lessL.1 hc).1) (by omega)
      refine ⟨fun k hk => ?_, fun c hc => ?_⟩
      · rcases List.mem_cons.1 hk with rfl | hk
        · exact h1
        · exact k1 k hk
      · cases hi : inS C Ns (L.getD (bestK C Ns L o) 0) c with
        | true => exact ⟨_, List.mem_cons_self .., hi⟩
        | false =>
          obtain ⟨k, hk, h⟩ := k2 c (mem_lessL.2 ⟨hc, hi⟩)
          exact ⟨k, List.mem_cons_of_mem _ hk, h⟩
theorem cells_25 (hR : Ns.length ≤ 5) (hC : C ≤ 5) (hin : rowsIn C Ns) {Os : List Nat} (hU : Under Ns Os) : (cellsOf Os).length ≤ 25 := by
  have h1 : ∀ k, k ≤ Os.length → (onesC Os k).length ≤ k * 5 := by
    intro k
    induction k with
    | zero => intro _; simp [onesC]
    | succ k ih =>
      intro hk
      have h1 := ih (by omega)
      have h2 : (mems (Os.getD k 0)).length ≤ 5 := by
        rw [mems_len]
        refine Nat.le_trans (card_bits (C := C) fun j hj => ?_) hC
        have hj2 := hU.2 k (by omega) j hj
        have := hin k (by rw [← hU.1]; omega)
        rw [← this, Nat.testBit_and, testBit_lowN, Bool.and_eq_true, decide_eq_true_eq] at hj2
        exact hj2.2
      rw [onesC_succ, List.length_append, List.length_map]
      omega
  have h2 := h1 Os.length (Nat.le_refl _)
  rw [onesC_all] at h2
  have := hU.1
  omega
theorem cov_allL (hl : Ns.length ≤ 4096) (hin : rowsIn C Ns) : ∀ c ∈ cellsOf Ns, ∃ k, k < (allL C Ns).length ∧ inS C Ns ((allL C Ns).getD k 0) c = true := fun c hc => by
  obtain ⟨ks, _, h2, h3⟩ := cov_rows (C := C) hl hin
  obtain ⟨k, hk, h⟩ := h3 c hc
  exact ⟨k, (h2 k hk).2, h⟩
end
/-- The roles that Greedy chooses: their columns. -/
def greC (C : Nat) (Ns : List Nat) : List Nat := atL (allL C Ns) (greedyK C Ns (allL C Ns) (cellsOf Ns).length (cellsOf Ns))
set_option maxRecDepth 100000 in
set_option maxHeartbeats 16000000 in
theorem greedyc_any (p C : Nat) (Ns : List Nat) (w : World) (h : IsMat w p C Ns) (hin : rowsIn C Ns) (hR : Ns.length ≤ 5) (hC : C ≤ 5) (hT : Tab w) :
    Calls Tryz.prog 14 #[ptr p] w fun e w' => ∃ u r, e = .returned (.tuple #[.agg #[ptr u, ptr r], .int .i64 0]) ∧ IsMO w' u (greC C Ns).length (usersN C Ns (greC C Ns)) ∧ IsMO w' r C (greC C Ns) ∧ Below w.heap.size w w' := by
  obtain ⟨i0, hi0, hz0, hz1, hz2⟩ := info_parts info_con
  have hl : Ns.length ≤ 4096 := Nat.le_trans hR (by decide)
  have hC12 : C ≤ 12 := Nat.le_trans hC (by decide)
  have hlim : ((closL C Ns).length : Int) ≤ 1000 := by
    have h1 := closL_len C Ns
    have h2 : 2 ^ C ≤ 2 ^ 5 := Nat.pow_le_pow_right (by omega) hC
    omega
  have HCON := Lib.hid (fun W' (hb' : Below w.heap.size w W') => Mix2.concepts_any p C Ns 1000 W' (h.below hb') (hT.below hb') hC12 hlim)
  have HK32 := Lib.hid (allL_len (C := C) (Ns := Ns) hC)
  have HCL := Lib.hid (allL_clo (C := C) (Ns := Ns))
  have HCV := Lib.hid (cov_allL (C := C) hl hin)
  have H25 := Lib.hid (fun (Os : List Nat) (hU : Under Ns Os) => cells_25 hR hC hin hU)
  have HH := Lib.hid h
  obtain ⟨res, hres⟩ : ∃ r, r = greedyK C Ns (allL C Ns) (cellsOf Ns).length (cellsOf Ns) := ⟨_, rfl⟩
  have hg : greC C Ns = atL (allL C Ns) res := by rw [hres]; rfl
  rw [hg]
  have HRES := Lib.hid hres
  clear hlim hin hg hres h
  go_enter Tryz.func14, Tryz.ntmps14
  go_upto_region 3 with fail
  refine abs1 fun W1 h2 hb1 hz => ?_
  clear hz
  obtain ⟨g2, hg2⟩ : ∃ x, x = w.heap.size := ⟨_, rfl⟩
  have hg2w : w.heap.size ≤ g2 := by omega
  rw [← hg2] at h2 ⊢
  clear hg2
  go_wp2_with fail
  with_reducible refine (HCON.out W1 hb1).mono ?_
  rintro e W2 ⟨vL, rfl, hKL, hb2⟩
  have b2 := hb1.trans (hb2.mono hb1.size)
  replace h2 := h2.below hb2 h2.lt
  obtain ⟨AL, cL, rfl⟩ := hKL.val
  clear hb1 hb2 HCON
  have HALL := hideC (all_cov p C Ns W2 (HH.out.below b2))
  go_wp2_with fail
  with_reducible refine HALL.out.mono ?_
  rintro e W3 ⟨vo, rfl, hO, hb3⟩
  have b3 := b2.trans (hb3.mono b2.size)
  replace h2 := h2.below hb3 h2.lt
  replace hKL := hKL.below hb3
  obtain ⟨Ao, co, rfl⟩ := hO.val
  clear hb3 b2 HALL
  obtain ⟨K, hK⟩ : ∃ K, K = allL C Ns := ⟨_, rfl⟩
  have hres := HRES.out
  have hcv := HCV.out
  have hcl := HCL.out
  have hKl := HK32.out
  rw [← hK] at hres hcv hcl hKl hKL ⊢
  obtain ⟨T, hTt⟩ : ∃ T, T = (cellsOf Ns).length := ⟨_, rfl⟩
  have hT25 : T ≤ 25 := by rw [hTt]; exact H25.out Ns (under_self Ns)
  rw [← hTt] at hres
  have hlt0 : ∀ k ∈ res, k < K.length := by
    rw [hres]; exact (greedyK_spec hcv T (cellsOf Ns) (fun c hc => hc) (Nat.le_of_eq hTt.symm)).1
  have HLT := Lib.hid (fun (ks : List Nat) (e : ks = res) (k : Nat) (hk : k ∈ ks) => hlt0 k (by rw [← e]; exact hk))
  clear hlt0
  have HRS := Lib.hid hres; have HCVK := Lib.hid hcv; have HCLK := Lib.hid hcl; have HTT := Lib.hid hTt
  have HKE := Lib.hid hK
  clear hK HRES HCV HCL HK32 hres hcv hcl hTt
  go_wp2_with fail
  refine wp_loopF (β := List Nat × Option Addr × Nat × List Nat × Value × Nat) (fun x f => #[ptr p, f 1, ptr g2, .int .i64 0, .slice AL K.length cL, .int .i64 0, x.2.2.2.2.1, .slice x.2.1 Ns.length x.2.2.1, f 8, f 9, f 10, f 11, f 12, f 13, f 14, f 15, f 16, f 17, f 18, f 19, f 20, f 21, f 22, f 23, f 24, f 25, f 26, f 27, f 28, f 29, f 30, f 31, f 32, f 33, f 34, f 35, f 36, f 37, f 38, f 39, f 40, f 41, f 42, f 43, f 44, f 45, f 46, f 47, f 48, f 49, f 50, f 51, f 52, f 53, f 54, f 55, f 56, f 57, f 58, f 59, f 60, f 61, f 62, f 63, f 64, f 65, f 66])
    (fun x ds W => ds = [] ∧ x.2.2.2.1.length = Ns.length ∧ OwnO W 0 (.slice x.2.1 Ns.length x.2.2.1) x.2.2.2.1 ∧ Under Ns x.2.2.2.1 ∧ OwnK W W3.heap.size x.2.2.2.2.1 C Ns (atL K x.1) ∧ x.1.length + x.2.2.2.2.2 ≤ T ∧ res = x.1 ++ greedyK C Ns K x.2.2.2.2.2 (cellsOf x.2.2.2.1) ∧ (cellsOf x.2.2.2.1).length ≤ x.2.2.2.2.2 ∧ Below W3.heap.size W3 W) (fun x => x.2.2.2.2.2) ([], Ao, co, Ns, .slice none 0 0, T) rfl
    ⟨rfl, rfl, hO.low (Nat.zero_le _), under_self Ns, OwnK.nil _ _ _ _, by simp, by rw [List.nil_append]; exact HRS.out, Nat.le_of_eq HTT.out.symm, Below.refl _ _⟩ ?_
  rintro ⟨ks, Ak, ck, Ok, v6, f0⟩ f ds W ⟨rfl, hOl, hOW, hUW, hKW, hks, hre, hfu, hbW⟩
  dsimp only at hOl hOW hUW hKW hks hre hfu ⊢
  obtain ⟨A6, c6, rfl⟩ := hKW.val
  have hl4 : Ok.length ≤ 4096 := by rw [hOl]; exact hl
  have hn25 := H25.out Ok hUW
  have HSZ := hideC (size_any 0 _ Ok W hOW hl4)
  obtain ⟨o, ho⟩ : ∃ o, o = cellsOf Ok := ⟨_, rfl⟩
  rw [← ho] at hre hfu hn25 HSZ
  have HO := Lib.hid ho; have HOL := Lib.hid hOl; have HUW := Lib.hid hUW; have HOW := Lib.hid hOW; have HKW := Lib.hid hKW; have HRE := Lib.hid hre; have HFU := Lib.hid hfu; have HKS := Lib.hid hks
  have b3W := b3.trans (hbW.mono b3.size)
  clear ho hOl hUW hOW hKW hre hfu hks hl4
  by_cases hne : o = []
  · have hd : decide ((0 : Int) < ((o.length : Nat) : Int)) = false := by subst hne; rfl
    have hd2 : decide (0 < o.length) = false := by subst hne; rfl
    have hd3 : ¬ 0 < o.length := by subst hne; simp
    have hre := HRE.out
    rw [show greedyK C Ns K f0 o = [] by rw [hne]; cases f0 <;> simp [greedyK], List.append_nil] at hre
    have hM : (atL K ks).length ≤ 256 := by
      have := HKS.out
      unfold atL; rw [List.length_map]; omega
    have hcl2 : ∀ s ∈ atL K ks, cloN C Ns s = s := fun s hs => by
      obtain ⟨k, hk, rfl⟩ := List.mem_map.1 hs
      have hlt : k < K.length := HLT.out ks hre.symm k hk
      refine HCLK.out _ ?_
      rw [List.getD_eq_getElem?_getD, List.getElem?_eq_getElem hlt]
      exact List.getElem_mem hlt
    obtain rfl := hre
    clear hne HRE HFU HKS HO HOL HUW HOW hn25 H25 HCVK HRS HTT hT25 HLT
    go_wp2_with fail
    with_reducible refine HSZ.out.mono ?_
    rintro e W4 ⟨rfl, hb4⟩
    have b4 := hbW.trans (hb4.mono hbW.size)
    have b4w := b3W.trans (hb4.mono b3W.size)
    have hK4 := HKW.out.below hb4
    have h24 := h2.below b4 h2.lt
    have hm4 := HH.out.below b4w
    clear HSZ hb4 hbW b3W HKW h2 HH hKL
    go_wp2_with fail
    with_reducible refine (rows_any p C Ns W4 hm4).mono ?_
    rintro e w' ⟨rfl, rfl⟩
    go_wp2_with fail
    with_reducible refine (cols_any p C Ns W4 hm4).mono ?_
    rintro e w' ⟨rfl, rfl⟩
    have HBU := hideC (build_any W3.heap.size _ C Ns (atL K res) W4 hK4 hM (by omega) (by omega) hcl2)
    go_wp2_with fail
    with_reducible refine HBU.out.mono ?_
    rintro e W5 ⟨u, r, rfl, hu, hr, hb5⟩
    have h25 := h24.below hb5 h24.lt
    have b5 := b4w.trans (hb5.mono b4w.size)
    have c20 := h25.cell 0
    have c21 := h25.cell 1
    have f20 := h25.frozen 0
    have f21 := h25.frozen 1
    clear HBU hb5 b4 b4w hK4 h24 hm4
    go_wp2_with fail
    have x2 := (h25.set_ 0 (ptr u)).set_ 1 (ptr r)
    have xu := (hu.put (i := 0) h25 (by decide) (by decide) (by decide) (ptr u)).put (i := 1) (h25.set_ 0 (ptr u)) (by decide) (by decide) (by decide) (ptr r)
    have xr := (hr.put (i := 0) h25 (by decide) (by decide) (by decide) (ptr u)).put (i := 1) (h25.set_ 0 (ptr u)) (by decide) (by decide) (by decide) (ptr r)
    have xb := (b5.setCell (p := ⟨g2, 0, none⟩) hg2w (ptr u)).setCell (p := ⟨g2, 1, none⟩) hg2w (ptr r)
    have cX0 := x2.cell 0
    have cX1 := x2.cell 1
    refine bodyPost_ret (v := .tuple #[.agg #[ptr u, ptr r], .int .i64 0]) (by simp [results, Tryz.results14, go_sem, cX0, cX1]) rfl ⟨u, r, rfl, by rw [← HKE.out]; exact xu, by rw [← HKE.out]; exact xr, xb⟩
  · have hpos : 0 < o.length := List.length_pos_iff.2 hne
    have hd : decide ((0 : Int) < ((o.length : Nat) : Int)) = true := decide_eq_true (by omega)
    have hd2 : decide (0 < o.length) = true := decide_eq_true hpos
    have hd3 : 0 < o.length := hpos
    have hon := best_on (C := C) (Ns := Ns) (L := K) (o := o) (fun c hc => HCVK.out c (under_cells HUW.out c (by rw [← HO.out]; exact hc))) hne
    have HON := Lib.hid hon
    have hrs : ∃ f1, f0 = f1 + 1 ∧ res = (ks ++ [bestK C Ns K o]) ++ greedyK C Ns K f1 (lessL C Ns o (K.getD (bestK C Ns K o) 0)) := by
      have := HFU.out
      refine ⟨f0 - 1, by omega, ?_⟩
      rw [HRE.out, show f0 = (f0 - 1) + 1 by omega, greedyK, if_neg hne]
      simp
    obtain ⟨f1, hf1, hre⟩ := hrs
    have HRE := Lib.hid hre
    have HF1 := Lib.hid hf1
    clear hre hf1 hne hon hpos
    go_wp2_with fail
    with_reducible refine HSZ.out.mono ?_
    rintro e W4 ⟨rfl, hb4⟩
    have b4 := hbW.trans (hb4.mono hbW.size)
    have b4w := b3W.trans (hb4.mono b3W.size)
    have hK4 := HKW.out.below hb4
    have hO4 := HOW.out.below hb4
    clear HSZ hb4 hbW b3W HKW HOW
    go_wp2_with fail
    refine wp_loopF (β := Nat) (fun x f => #[ptr p, f 1, ptr g2, .int .i64 0, .slice AL K.length cL, .int .i64 0, .slice A6 (atL K ks).length c6, .slice Ak Ns.length ck, .int .i64 ((bestT C Ns K o x).1 : Int), .int .i64 ((bestT C Ns K o x).2 : Int), f 10, f 11, f 12, f 13, f 14, f 15, f 16, f 17, f 18, f 19, f 20, f 21, f 22, f 23, f 24, f 25, f 26, f 27, f 28, f 29, .slice AL K.length cL, .int .i64 (K.length : Int), .int .i64 (x : Int), f 33, f 34, f 35, f 36, f 37, f 38, f 39, f 40, f 41, f 42, f 43, f 44, f 45, f 46, f 47, f 48, f 49, f 50, f 51, f 52, f 53, f 54, f 55, f 56, f 57, f 58, f 59, f 60, f 61, f 62, f 63, f 64, f 65, f 66])
      (fun x ds W => ds = [] ∧ x ≤ K.length ∧ Below W4.heap.size W4 W) (fun x => K.length - x) 0 rfl
      ⟨rfl, Nat.zero_le _, Below.refl _ _⟩ ?_
    rintro k f ds W ⟨rfl, hk, hbW⟩
    dsimp only at hk ⊢
    have b5 := b4.trans (hbW.mono b4.size)
    have b5w := b4w.trans (hbW.mono b4w.size)
    by_cases hlt : k < K.length
    · obtain ⟨s, hs⟩ : ∃ s, K[k]? = some s := ⟨_, List.getElem?_eq_getElem hlt⟩
      have hcs := HCLK.out s (List.mem_of_getElem? hs)
      have hgd : K.getD k 0 = s := by rw [List.getD_eq_getElem?_getD, hs]; rfl
      obtain ⟨gr, off, A1, c1, A2, c2, e, hgr, d0, d1, s1, s2⟩ := ((hKL.below b5).isK (by omega)).at hs
      cases e
      obtain ⟨X, hX⟩ : ∃ X, X = havN C Ns s := ⟨_, rfl⟩
      rw [← hX] at d0 s1
      have hgc : gainR C Ns Ok s (mems X) = o.countP (inS C Ns s) := by rw [hX, gain_cells hl HOL.out s, hcs, HO.out]
      have HGA := Lib.hid (fun W' (hb' : Below W.heap.size W W') => gain_any 0 (.slice Ak Ns.length ck) C Ns Ok s X A1 c1 A2 c2 W' ((hO4.below hbW).below hb') HOL.out hl hC12 hX hcs (s1.below hb') (s2.below hb') ((hT.below b5w).below hb'))
      rw [hgc] at HGA
      have hb1 := best_le (C := C) (Ns := Ns) (L := K) (o := o) k
      have hb2 := (bestT_spec (C := C) (Ns := Ns) (L := K) (o := o) k).2.2
      have hst : bestT C Ns K o (k + 1) = if (bestT C Ns K o k).2 < o.countP (inS C Ns s) then (k, o.countP (inS C Ns s)) else bestT C Ns K o k := by rw [bestT, hgd]
      have hg2 : o.countP (inS C Ns s) ≤ o.length := List.countP_le_length
      obtain ⟨B, hB⟩ : ∃ B, B = bestT C Ns K o k := ⟨_, rfl⟩
      obtain ⟨G1, hG1⟩ : ∃ G1, G1 = o.countP (inS C Ns s) := ⟨_, rfl⟩
      rw [← hB] at hst hb1 hb2 ⊢
      rw [← hG1] at HGA hst hg2
      obtain ⟨Bi, Bg⟩ := B
      dsimp only at hst hb1 hb2 ⊢
      have HST := Lib.hid hst
      clear hst hgc hB hG1 hs hcs s1 s2 hX hgd
      go_upto_region 13 with fail
      refine abs1 fun W5 h11 hb5 hz => ?_
      clear hz
      have HG1 := hideC (HGA.out W5 hb5)
      have b6 := hbW.trans (hb5.mono hbW.size)
      obtain ⟨g11, hg11⟩ : ∃ x, x = W.heap.size := ⟨_, rfl⟩
      rw [← hg11] at h11 ⊢
      have c90 := h11.cell 0
      have c91 := h11.cell 1
      clear hg11 hb5 d0 d1 HGA
      go_wp2_with fail
      refine HG1.out.mono ?_
      rintro e W6 ⟨rfl, hb6⟩
      have b7 := b6.trans (hb6.mono b6.size)
      have hst := HST.out
      by_cases hgt : Bg < G1
      · have hd : decide ((Bg : Int) < (G1 : Int)) = true := decide_eq_true (by omega)
        have hd2 : decide (Bg < G1) = true := decide_eq_true hgt
        have hd3 : Bg < G1 := hgt
        rw [if_pos hgt] at hst
        have HS2 := Lib.hid hst
        clear hgt hst HST
        go_wp2_with fail
        exact ⟨k + 1, by rw [HS2.out]; rfl, ⟨by first | rfl | trivial, hlt, b7⟩, by show K.length - (k + 1) < K.length - k; omega⟩
      · have hd : decide ((Bg : Int) < (G1 : Int)) = false := decide_eq_false (by omega)
        have hd2 : decide (Bg < G1) = false := decide_eq_false hgt
        have hd3 : ¬ Bg < G1 := hgt
        rw [if_neg hgt] at hst
        have HS2 := Lib.hid hst
        clear hgt hst HST
        go_wp2_with fail
        exact ⟨k + 1, by rw [HS2.out]; rfl, ⟨by first | rfl | trivial, hlt, b7⟩, by show K.length - (k + 1) < K.length - k; omega⟩
    · obtain rfl : k = K.length := by omega
      clear hlt hk
      obtain ⟨kb, hkb⟩ : ∃ x, x = bestK C Ns K o := ⟨_, rfl⟩
      have e8 : (bestT C Ns K o K.length).1 = kb := by rw [hkb]; rfl
      rw [e8]
      have hon := HON.out
      have hre := HRE.out
      rw [← hkb] at hon hre
      obtain ⟨s, hs⟩ : ∃ s, K[kb]? = some s := ⟨_, List.getElem?_eq_getElem hon.1⟩
      have hcs := HCLK.out s (List.mem_of_getElem? hs)
      have hgd : K.getD kb 0 = s := by rw [List.getD_eq_getElem?_getD, hs]; rfl
      rw [hgd] at hon hre
      have hat : atL K (ks ++ [kb]) = atL K ks ++ [s] := by unfold atL; rw [List.map_append]; simp only [List.map_cons, List.map_nil, hgd]
      obtain ⟨gr, off, A1, c1, A2, c2, e, hgr, d0, d1, s1, s2⟩ := ((hKL.below b5).isK (by omega)).at hs
      cases e
      obtain ⟨X, hX⟩ : ∃ X, X = havN C Ns s := ⟨_, rfl⟩
      rw [← hX] at d0 s1
      have hll : (atL K ks).length ≤ 25 := by
        have := HKS.out
        unfold atL; rw [List.length_map]; omega
      have hkl1 := hon.1
      have hpos : 0 < Ok.length := Nat.pos_of_ne_zero fun e => by
        have h0 : cellsOf Ok = [] := by rw [List.eq_nil_of_length_eq_zero e]; rfl
        have h1 := hon.2
        rw [HO.out, h0] at h1
        exact absurd h1 (by simp)
      obtain ⟨bg, hbg⟩ : ∃ x, x = (bestT C Ns K o K.length).2 := ⟨_, rfl⟩
      rw [← hbg]
      have HONN := Lib.hid hon.2; have HREN := Lib.hid hre; have HAT := Lib.hid hat; have HSS := Lib.hid hs; have HX := Lib.hid hX
      obtain ⟨vs, hown0, hsets⟩ := hK4.below hbW
      have hba : Below W.heap.size W (W.alloc (.cells #[.slice A1 (nw X) c1, .slice A2 (nw s) c2] 84)) := (Below.refl _ _).alloc (Nat.le_refl _) _
      have hlocs := own_below hown0 hba
      have hb7 := b5.trans (hba.mono b5.size)
      have b7w := b5w.trans (hba.mono b5w.size)
      have hO7 := (hO4.below hbW).below hba
      have s17 := s1.below hba
      have s27 := s2.below hba
      have HS7 := Lib.hid (hsets.below hba)
      have hsz : W3.heap.size ≤ W.heap.size := b5.size
      clear hon hre hat hs hX hkb e8 hgd hcs hbg hown0 hsets hba s1 s2 HON HRE hO4 hK4 b4 b4w hbW b5 b5w
      go_upto_region 18 with ((at_builtin; refine wpList_append_own _ rfl _ _ 78 rfl (W3.heap.size) 84 i0 (.agg #[.slice none 0 0, .slice none 0 0]) 2 48 Tryz.underlying78 hi0 hz0 hz1 hz2 rfl (by decide) _ _ _ rfl (hlocs) ⟨W.heap.size, 0, none⟩ 1 1 [.slice A1 (nw X) c1, .slice A2 (nw s) c2] rfl rfl (World.news_of_block (Blk.new _ _ _)) (by simp [Value.oneCell']) (by unfold maxLen; omega) (by omega) (by first | omega | (simp; omega)) ?_; intro v' w3 hown' hgrow _))
      obtain ⟨hK, hkw⟩ := OwnK.push (s := s) HS7.out hlocs hgrow hown' rfl (by rw [← HX.out]; exact s17) s27
      rw [← HAT.out] at hK
      have b8 := hb7.grown hgrow hb7.size (fun q hq => (hlocs.lt q hq).1)
      have b8w := b7w.grown hgrow b7w.size (fun q hq => Nat.le_trans b3.size (hlocs.lt q hq).1)
      have hO8 := hO7.grown hlocs (by decide) (by decide) hgrow
      obtain ⟨gr', off', A1', c1', A2', c2', e, hgr', d0', d1', s1', s2'⟩ := ((hKL.below b8).isK (by omega)).at HSS.out
      cases e
      rw [← HX.out] at d0' s1'
      have HWI := hideC (without_cov 0 _ C Ns Ok s X A1' c1' A2' c2' w3 hO8 hpos HOL.out hl HX.out s1' s2' (hT.below b8w))
      clear hown' hgrow hlocs hkw hO7 hb7 b7w hO8 s17 s27 HS7 d0 d1 s1' s2' hpos
      go_wp2_with fail
      with_reducible refine HWI.out.mono ?_
      rintro e W9 ⟨v9, rfl, hO9, hb9⟩
      have hle : (lessO C Ns Ok s).length = Ns.length := by rw [lessO_len]; exact HOL.out
      obtain ⟨A9, c9, rfl⟩ := hO9.val
      rw [hle] at hO9 ⊢
      have hcl3 : cellsOf (lessO C Ns Ok s) = lessL C Ns o s := by rw [cellsOf_less, HO.out]
      go_wp2_with fail
      exact ⟨(ks ++ [kb], A9, c9, lessO C Ns Ok s, v', f1), rfl, ⟨by first | rfl | trivial, hle, hO9.low (Nat.zero_le _), under_less HUW.out s, hK.below hb9, by have := HKS.out; have := HF1.out; simp only [List.length_append, List.length_cons, List.length_nil]; omega, by rw [hcl3]; exact HREN.out, by have := HONN.out; have := HFU.out; have := HF1.out; show (cellsOf (lessO C Ns Ok s)).length ≤ f1; rw [hcl3]; omega, b8.trans (hb9.mono b8.size)⟩, by have := HF1.out; show f1 < f0; omega⟩
end Go.Proofs.YtfbkcdhmggjbaaaGreatDoor
