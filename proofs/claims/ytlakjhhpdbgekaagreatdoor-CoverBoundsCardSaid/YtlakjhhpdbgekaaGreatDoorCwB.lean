/-
  The law CoverBounds.
-/
import Derived.Test.YtlakjhhpdbgekaaGreatDoorCvR
import Derived.Test.YtlakjhhpdbgekaaGreatDoorCvG
import Derived.Test.YtlakjhhpdbgekaaGreatDoorCvT
import Derived.Test.YtlakjhhpdbgekaaGreatDoorRb2
import Derived.Test.YtlakjhhpdbgekaaGreatDoorCloA
import Derived.Test.YtlakjhhpdbgekaaGreatDoorLaw
import Derived.Test.YtlakjhhpdbgekaaGreatDoorLaw3
import Derived.Deep.DeepCutAuto
import Derived.Deep.CutBlock
namespace Go.Proofs.YtlakjhhpdbgekaaGreatDoor
open Go.RowKit

section
variable {α : Type}
theorem bs_pickL_assoc (a x y : List α) : pickL (pickL a x) y = pickL a (pickL x y) := by
  unfold pickL
  by_cases h1 : a.length < x.length <;> by_cases h2 : x.length < y.length <;> simp only [h1, h2, if_true, if_false]
  · rw [if_pos (by omega)]
  · split <;> first | rfl | (exfalso; omega)
theorem bs_pickL_keep {a x : List α} (h : x.length ≤ a.length) : pickL a x = a := by unfold pickL; rw [if_neg (by omega)]
/-- The reference's search: lists that begin with l and go on with some of the ones. -/
def bs_bestR (ok : List α → α → Bool) : List α → List α → List α → List α
  | [], _, out => out
  | c :: r, l, out => if ok l c = true then bs_bestR ok r l (pickL out (bs_bestR ok r (l ++ [c]) (l ++ [c]))) else bs_bestR ok r l out
theorem bs_bestR_pick (ok : List α → α → Bool) (b : List α) : ∀ (ones l out : List α), pickL b (bs_bestR ok ones l out) = bs_bestR ok ones l (pickL b out)
  | [], _, _ => rfl
  | c :: r, l, out => by
    unfold bs_bestR
    split
    · rw [bs_bestR_pick ok b r l, bs_pickL_assoc]
    · exact bs_bestR_pick ok b r l out
theorem bs_bestR_len (ok : List α → α → Bool) : ∀ (ones l out : List α), (bs_bestR ok ones l out).length ≤ max out.length (l.length + ones.length)
  | [], _, _ => by unfold bs_bestR; omega
  | c :: r, l, out => by
    unfold bs_bestR
    split
    · have h1 := bs_bestR_len ok r l (pickL out (bs_bestR ok r (l ++ [c]) (l ++ [c])))
      have h2 := bs_bestR_len ok r (l ++ [c]) (l ++ [c])
      rw [pickL_len] at h1
      simp only [List.length_append, List.length_cons, List.length_nil] at h2 ⊢
      omega
    · have h1 := bs_bestR_len ok r l out
      simp only [List.length_cons]
      omega
theorem bs_bestR_cut (ok : List α → α → Bool) : ∀ (ones l out : List α), l.length + ones.length ≤ out.length → bs_bestR ok ones l out = out
  | [], _, _, _ => rfl
  | c :: r, l, out, h => by
    simp only [List.length_cons] at h
    unfold bs_bestR
    split
    · have h2 := bs_bestR_len ok r (l ++ [c]) (l ++ [c])
      simp only [List.length_append, List.length_cons, List.length_nil] at h2
      rw [bs_pickL_keep (by omega)]
      exact bs_bestR_cut ok r l out (by omega)
    · exact bs_bestR_cut ok r l out (by omega)
/-- Cells that do not fit can be left out. -/
theorem bs_bestR_filter (good : α → α → Bool) (p : α → Bool) : ∀ (ones l out : List α), (∀ c ∈ ones, p c = false → l.all (fun b => good b c) = false) →
    bs_bestR (fun l c => l.all fun b => good b c) (ones.filter p) l out = bs_bestR (fun l c => l.all fun b => good b c) ones l out
  | [], _, _, _ => rfl
  | c :: r, l, out, h => by
    have hr : ∀ l' : List α, (∀ b ∈ l, b ∈ l') → ∀ d ∈ r, p d = false → l'.all (fun b => good b d) = false := fun l' hl d hd hp => by
      have := h d (List.mem_cons_of_mem _ hd) hp
      rw [List.all_eq_false] at this ⊢
      obtain ⟨x, hx, hg⟩ := this
      exact ⟨x, hl x hx, hg⟩
    have i1 := fun out => bs_bestR_filter good p r l out (hr l fun _ h => h)
    have i2 := bs_bestR_filter good p r (l ++ [c]) (l ++ [c]) (hr _ fun _ h => List.mem_append_left _ h)
    cases hp : p c with
    | true =>
      rw [List.filter_cons_of_pos hp]
      conv => lhs; unfold bs_bestR
      conv => rhs; unfold bs_bestR
      rw [i1, i1, i2]
    | false =>
      rw [List.filter_cons_of_neg (by rw [hp]; simp), i1]
      conv => rhs; unfold bs_bestR
      rw [if_neg (by rw [h c List.mem_cons_self hp]; simp)]
/-- Both searches find the same. -/
theorem bs_bestE_eq (good ind : α → α → Bool) (hgi : ∀ a b, good a b = true → ind a b = true) : ∀ (n : Nat) (ones l best : List α), ones.length ≤ n → ones.Pairwise (fun a b => ind a b = true → good a b = true) → (∀ c ∈ ones, l.all (fun b => good b c) = true) → l.length ≤ best.length →
    bestE ind n ones l best = bs_bestR (fun l c => l.all fun b => good b c) ones l best
  | 0, ones, l, best, hn, _, _, _ => by
    obtain rfl : ones = [] := List.length_eq_zero_iff.1 (by omega)
    rfl
  | n + 1, [], l, best, _, _, _, _ => rfl
  | n + 1, c :: r, l, best, hn, hp, hok, hl => by
    simp only [List.length_cons] at hn
    rw [List.pairwise_cons] at hp
    conv => lhs; unfold bestE
    split
    · rename_i h
      rw [bs_bestR_cut _ _ _ _ (by simpa using h)]
    · conv => rhs; unfold bs_bestR
      rw [if_pos (hok c List.mem_cons_self)]
      have hf : ∀ d ∈ r, ind c d = false → (l ++ [c]).all (fun b => good b d) = false := fun d _ hi => by
        rw [List.all_eq_false]
        exact ⟨c, by simp, fun hg => by rw [hgi _ _ hg] at hi; cases hi⟩
      have e1 : bestE ind n (r.filter (ind c)) (l ++ [c]) (pickL best (l ++ [c])) = pickL best (bs_bestR (fun l c => l.all fun b => good b c) r (l ++ [c]) (l ++ [c])) := by
        rw [bs_bestE_eq good ind hgi n _ _ _ (Nat.le_trans (List.length_filter_le _ _) (by omega)) (hp.2.sublist List.filter_sublist) (fun d hd => ?_) (by rw [pickL_len]; omega), ← bs_bestR_pick, bs_bestR_filter good (ind c) r _ _ hf]
        obtain ⟨h1, h2⟩ := List.mem_filter.1 hd
        rw [List.all_append, Bool.and_eq_true]
        refine ⟨hok d (List.mem_cons_of_mem _ h1), ?_⟩
        simpa using hp.1 d h1 h2
      rw [e1]
      exact bs_bestE_eq good ind hgi n r l _ (by omega) hp.2 (fun d hd => hok d (List.mem_cons_of_mem _ hd)) (by rw [pickL_len]; omega)
/-- What is found are some of the ones, any two of which fit. -/
theorem bs_bestR_good (good : α → α → Bool) (S : α → Prop) : ∀ (ones l out : List α), (∀ c ∈ ones, S c) → ((∀ c ∈ l, S c) ∧ l.Pairwise fun a b => good a b = true) → ((∀ c ∈ out, S c) ∧ out.Pairwise fun a b => good a b = true) →
    (∀ c ∈ bs_bestR (fun l c => l.all fun b => good b c) ones l out, S c) ∧ (bs_bestR (fun l c => l.all fun b => good b c) ones l out).Pairwise fun a b => good a b = true
  | [], _, _, _, _, ho => ho
  | c :: r, l, out, hs, hl, ho => by
    unfold bs_bestR
    have hr := fun d hd => hs d (List.mem_cons_of_mem c hd)
    split
    · rename_i h
      have hlc : (∀ d ∈ l ++ [c], S d) ∧ (l ++ [c]).Pairwise fun a b => good a b = true := by
        refine ⟨fun d hd => ?_, ?_⟩
        · rcases List.mem_append.1 hd with h | h
          · exact hl.1 d h
          · rw [List.mem_singleton.1 h]; exact hs c List.mem_cons_self
        · rw [List.pairwise_append]
          refine ⟨hl.2, List.pairwise_singleton _ _, fun a ha b hb => ?_⟩
          rw [List.mem_singleton.1 hb]
          exact List.all_eq_true.1 h a ha
      have h1 := bs_bestR_good good S r (l ++ [c]) (l ++ [c]) hr hlc hlc
      refine bs_bestR_good good S r l _ hr hl ?_
      unfold pickL
      split
      · exact h1
      · exact ho
    · exact bs_bestR_good good S r l out hr hl ho
end
theorem clos_b100 {C : Nat} (Ns : List Nat) (hC : C ≤ 5) : ((closL C Ns).length : Int) ≤ 100 := by
  have h1 := closL_len C Ns
  have h2 : 2 ^ C ≤ 2 ^ 5 := Nat.pow_le_pow_right (by omega) hC
  omega
section
variable {C : Nat} {Ns : List Nat}
theorem indep_symm (a b : Int × Int) : indep C Ns a b = indep C Ns b a := by unfold indep; rw [Bool.or_comm]
theorem ones_nodup (Os : List Nat) : (cellsOf Os).Nodup := by
  have hm : ∀ N, (mems N).Nodup := fun N => by
    obtain ⟨k, hk⟩ := mems_is N
    rw [hk k (Nat.le_refl _)]
    exact List.nodup_range.filter _
  have h1 : ∀ k, ((List.range k).flatMap fun i => (mems (Os.getD i 0)).map fun j => (i, j)).Nodup := by
    intro k
    induction k with
    | zero => simp
    | succ k ih =>
      rw [List.range_succ, List.flatMap_append, List.nodup_append]
      refine ⟨ih, ?_, ?_⟩
      · simp only [List.flatMap_cons, List.flatMap_nil, List.append_nil]
        exact List.Pairwise.map _ (fun a b h e => h (by injection e)) (hm _)
      · rintro a ha b hb rfl
        rw [List.mem_flatMap] at ha hb
        obtain ⟨x, hx, h⟩ := ha
        obtain ⟨y, hy, h'⟩ := hb
        obtain ⟨_, _, rfl⟩ := List.mem_map.1 h
        obtain ⟨_, _, e⟩ := List.mem_map.1 h'
        rw [List.mem_range] at hx
        simp at hy
        injection e with e _
        omega
  exact h1 _
/-- What rank.Best answers is not longer than a least cover. -/
theorem bestP_le (hl : Ns.length ≤ 4096) (hin : rowsIn C Ns) : (bestP C Ns).length ≤ sizeM C Ns := by
  obtain ⟨hm, hcov⟩ := minK_spec (C := C) hl hin
  rw [← hm]
  unfold bestP
  split
  · exact Nat.zero_le _
  · have hnd : (cz (cellsOf Ns)).Pairwise (fun a b => indep C Ns a b = true → (decide (b ≠ a) && indep C Ns a b) = true) := by
      unfold cz
      rw [List.pairwise_map]
      refine (List.nodup_iff_pairwise_ne.1 (ones_nodup Ns)).imp fun {a b} hne hi => ?_
      rw [hi, Bool.and_true, decide_eq_true_eq]
      intro e
      injection e with e1 e2
      exact hne (Prod.ext (by omega) (by omega))
    unfold searchP
    rw [show pickL ([] : List (Int × Int)) [] = [] from rfl, bs_bestE_eq (fun a b => decide (b ≠ a) && indep C Ns a b) _ (fun a b h => by rw [Bool.and_eq_true] at h; exact h.2) _ _ _ _ (Nat.le_refl _) hnd (fun _ _ => rfl) (Nat.le_refl _)]
    obtain ⟨h1, h2⟩ := bs_bestR_good (fun a b => decide (b ≠ a) && indep C Ns a b) (fun c => ∃ d ∈ cellsOf Ns, c = ((d.1 : Int), (d.2 : Int))) (cz (cellsOf Ns)) [] [] (fun c hc => by
      obtain ⟨d, hd, rfl⟩ := List.mem_map.1 hc
      exact ⟨d, hd, rfl⟩) ⟨by simp, by simp⟩ ⟨by simp, by simp⟩
    generalize bs_bestR _ _ _ _ = B at h1 h2
    have h3 := fool_le (C := C) hl (minC C Ns) (B.map fun c => (c.1.toNat, c.2.toNat)) minC_clo (by
      rw [List.pairwise_map]
      refine h2.imp_of_mem fun {a b} ha hb hg => ?_
      obtain ⟨d, _, rfl⟩ := h1 a ha
      obtain ⟨e, _, rfl⟩ := h1 b hb
      rw [Bool.and_eq_true, decide_eq_true_eq] at hg
      refine ⟨fun q => hg.1 ?_, ?_⟩
      · injection q with q1 q2
        simp only [Int.toNat_natCast] at q1 q2
        rw [q1, q2]
      · simp only [Int.toNat_natCast]
        rw [indep_symm]; exact hg.2) (fun c hc => by
      obtain ⟨b, hb, rfl⟩ := List.mem_map.1 hc
      obtain ⟨d, hd, rfl⟩ := h1 b hb
      simp only [Int.toNat_natCast]
      exact hcov d hd)
    rwa [List.length_map] at h3
theorem size_greedy (hl : Ns.length ≤ 4096) (hin : rowsIn C Ns) : sizeM C Ns ≤ (greC C Ns).length := by
  rcases Nat.lt_or_ge (greC C Ns).length (sizeM C Ns) with h | h
  · refine absurd ?_ (sizeM_no hl hin h)
    obtain ⟨h1, h2⟩ := greedyK_spec (cov_allL (C := C) hl hin) (cellsOf Ns).length (cellsOf Ns) (fun _ h => h) (Nat.le_refl _)
    refine ⟨greedyK C Ns (allL C Ns) (cellsOf Ns).length (cellsOf Ns), ?_, fun k hk => ⟨Nat.zero_le _, h1 k hk⟩, h2⟩
    unfold greC atL
    rw [List.length_map]
    exact Nat.le_refl _
  · exact h
theorem size_cols (hl : Ns.length ≤ 4096) (hC : C ≤ 4096) (hin : rowsIn C Ns) : sizeM C Ns ≤ C := by
  have h := sizeM_le (C := Ns.length) (Ns := mtrans C Ns C) (by rw [mtrans_len]; exact hC) (rows_trans hl)
  rw [sizeM_trans hl hC hin, mtrans_len] at h
  exact h
theorem size_zero (hl : Ns.length ≤ 4096) (hin : rowsIn C Ns) : sizeM C Ns = 0 ↔ (cellsOf Ns).length = 0 := by
  constructor
  · intro h
    obtain ⟨hm, hcov⟩ := minK_spec (C := C) hl hin
    rw [h] at hm
    rcases Nat.eq_zero_or_pos (cellsOf Ns).length with e | e
    · exact e
    · obtain ⟨c, hc⟩ := List.exists_mem_of_ne_nil _ (List.length_pos_iff.1 e)
      obtain ⟨s, hs, _⟩ := hcov c hc
      rw [List.eq_nil_of_length_eq_zero hm] at hs
      cases hs
  · intro h
    rcases Nat.eq_zero_or_pos (sizeM C Ns) with e | e
    · exact e
    · refine absurd ?_ (sizeM_no hl hin e)
      rw [List.eq_nil_of_length_eq_zero h]
      exact ⟨[], Nat.le_refl _, by simp, by simp⟩
/-- A role's users are the rows that have its permissions. -/
theorem users_col (hl : Ns.length ≤ 4096) {M : List Nat} (hM : M.length ≤ 4096) {k : Nat} (hk : k < M.length) : mcol M.length (usersN C Ns M) (k : Nat) = havN C Ns (M.getD k 0) := by
  have hn : (usersN C Ns M).length = Ns.length := by unfold usersN; rw [mtrans_len]
  refine Nat.eq_of_testBit_eq fun i => ?_
  rw [testBit_mcol _ _ _ _ (by rw [hn]; exact hl), Bool.eq_iff_iff]
  by_cases hi : i < Ns.length
  · rw [mhas_in (by rw [hn]; exact hi) hk, users_bit hl hM]
    exact ⟨fun h => h.2.2, fun h => ⟨hi, hk, h⟩⟩
  · constructor
    · intro h
      unfold mhas insideB at h
      rw [Bool.and_eq_true, decide_eq_true_eq] at h
      omega
    · intro h
      exact absurd ((testBit_havN C Ns hl _ _).1 h).1 hi
end
namespace Mix2
set_option maxRecDepth 100000 in
set_option maxHeartbeats 16000000 in
theorem bounds_walk (v : Value) (R C : Nat) (zs : List Int) (w : World) (hT : Tab w) (h : IsRaw w v R C zs) :
    Calls Tryz.prog 7 #[v] w fun e w' => e = .returned (.bool true) ∧ Below w.heap.size w w' := by
  have hbd := h.bd
  obtain ⟨r, c, A0, d0, hv, _⟩ := id h
  subst hv
  have HIN := hideC h; clear h
  go_enter Tryz.func7, Tryz.ntmps7
  go_wp2_with fail
  refine absC1 fun W0 hX hbel0 hz => ?_
  clear hz
  refine (awake_any48 W0 (hT.below hbel0)).mono ?_
  rintro e w1 ⟨rfl, hb1⟩
  have b1 := hbel0.trans (hb1.mono hbel0.size)
  replace hX := hX.below hb1 hX.lt
  have x0 := hX.cell 0
  have x1 := hX.cell 1
  have x2 := hX.cell 2
  have HM := hideC (make_raw _ R C zs w1 (HIN.out.below b1))
  go_wp2_with fail
  refine HM.out.mono ?_
  rintro e w2 ⟨A2, c2, rfl, hI, hb2⟩
  have b2 := b1.trans (hb2.mono b1.size)
  obtain ⟨M, hMd⟩ : ∃ M, M = rawM R C zs := ⟨_, rfl⟩
  have hML : M.length = R := by rw [hMd, mat_len]
  rw [← hMd] at hI
  subst hML
  obtain ⟨hR5, hC5⟩ := hbd
  have hnl : (nsOf C M).length = M.length := nsTo_len ..
  have hin := rowsIn_nsOf C M (by omega)
  clear hMd HM HIN hbel0 hb1 hb2 b1 x0 x1 x2 hX
  go_wp2_with fail
  refine (matrixl_any C A2 c2 M _ hI (by omega) (by omega)).mono ?_
  rintro e w3 ⟨q, rfl, hq, -, hb3⟩
  have b3 := b2.trans (hb3.mono b2.size)
  obtain ⟨Ns, hNs⟩ : ∃ N, N = nsOf C M := ⟨_, rfl⟩
  rw [← hNs] at hq hin hnl
  have hN5 : Ns.length ≤ 5 := by omega
  have hl : Ns.length ≤ 4096 := by omega
  clear hNs hI b2 hb3 hnl hR5
  have hM1 := minimal_any q C Ns 100 w3 hq hin hN5 hC5 (clos_b100 Ns hC5) (hT.below b3)
  have hlen := (minK_spec (C := C) hl hin).1
  have hclo := minC_clo (C := C) (Ns := Ns)
  have hlim := minC_len (C := C) (Ns := Ns) hC5
  have hb1 := bestP_le (C := C) hl hin
  have hb2 := size_greedy (C := C) hl hin
  have hb3 := size_cols (C := C) hl (by omega) hin
  have hb4 := size_zero (C := C) hl hin
  have hb5 := sizeM_le (C := C) hl hin
  have hucol := fun k (hk : k < (minC C Ns).length) => users_col (C := C) hl (Nat.le_trans hlim (by decide)) hk
  rw [← hlen] at hb1 hb2 hb3 hb4 hb5
  obtain ⟨K, hK⟩ : ∃ K, K = minC C Ns := ⟨_, rfl⟩
  rw [← hK] at hM1 hlen hclo hlim hb1 hb2 hb3 hb4 hb5 hucol
  have hM2 := fun W (hb : Below w3.heap.size w3 W) => greedyc_any q C Ns W (hq.below hb) hin hN5 hC5 (hT.below (b3.trans (hb.mono b3.size)))
  obtain ⟨G, hG⟩ : ∃ G, G = greC C Ns := ⟨_, rfl⟩
  rw [← hG] at hM2 hb2
  have hgl : G.length ≤ 4096 := by
    rw [hG]; unfold greC atL
    rw [List.length_map]
    have h1 := greedyK_len (C := C) (Ns := Ns) (L := allL C Ns) (cellsOf Ns).length (cellsOf Ns)
    have h2 := cells_25 hN5 hC5 hin (under_self Ns)
    omega
  have hcells := cells_25 hN5 hC5 hin (under_self Ns)
  have hones := onesTo_cells Ns
  have HM1 := hideC hM1
  have HM2 := Lib.hid hM2
  have HCLO := Lib.hid hclo; have HUC := Lib.hid hucol; have HB4 := Lib.hid hb4; have HONES := Lib.hid hones
  clear hM1 hlen hclo hK hM2 hG hucol hb4 hones
  go_wp2_with fail
  with_reducible refine HM1.out.mono ?_
  rintro e w4 ⟨u1, r1, A1, n1, c1, rfl, hu1, hr1, -, hb4⟩
  have b4 := b3.trans (hb4.mono b3.size)
  have hq4 := hq.below hb4
  clear HM1 hq
  go_upto_region 5 with fail
  refine abs2 fun w5 h4 h5 hb5 hz => ?_
  clear hz
  have b5 := b4.trans (hb5.mono b4.size)
  have hq5 := hq4.below hb5
  have hu5 := hu1.below hb5
  have hr5 := hr1.below hb5
  have hb35 := hb4.trans (hb5.mono hb4.size)
  obtain ⟨g4, hg4⟩ : ∃ x, x = w4.heap.size := ⟨_, rfl⟩
  rw [← hg4] at h4 h5 ⊢
  have HM2' := hideC (HM2.out w5 hb35)
  clear hg4 hb5 hq4 hu1 hr1 b4 HM2 hb35 hb4 h5 b3
  go_wp2_with fail
  with_reducible refine HM2'.out.mono ?_
  rintro e w6 ⟨u2, r2, rfl, hu2, hr2, hb6⟩
  have b6 := b5.trans (hb6.mono b5.size)
  have hq6 := hq5.below hb6
  have hu6 := hu5.below hb6
  have hr6 := hr5.below hb6
  have h46 := h4.below hb6 h4.lt
  clear HM2' hb6 hq5 hu5 hr5 h4 b5 hr2
  go_upto_region 6 with fail
  refine abs1 fun w7 h7 hb7 hz => ?_
  clear hz
  have b7 := b6.trans (hb7.mono b6.size)
  have hq7 := hq6.below hb7
  have hu7 := hu6.below hb7
  have hr7 := hr6.below hb7
  have hv7 := hu2.below hb7
  have h47 := h46.below hb7 h46.lt
  obtain ⟨g7, hg7⟩ : ∃ x, x = w6.heap.size := ⟨_, rfl⟩
  rw [← hg7] at h7 ⊢
  clear hg7 hb7 hq6 hu6 hr6 hu2 h46 b6
  have p0 := h47.cell 0
  have p1 := h47.cell 1
  have HC1 := hideC (cols_any u1 K.length _ w7 hu7.mat)
  go_wp2_with fail
  with_reducible refine HC1.out.mono ?_
  rintro e w' ⟨rfl, rfl⟩
  clear HC1 p0 p1
  go_wp2_with fail
  refine wp_loopF (β := Nat) (fun k f => #[f 0, f 1, .bool false, ptr q, .pointer (some ⟨g4, 0, none⟩), f 5, f 6, .pointer (some ⟨g7, 0, none⟩), f 8, .int .i64 (K.length : Int), f 10, f 11, f 12, f 13, f 14, f 15, f 16, f 17, f 18, f 19, f 20, f 21, f 22, f 23, f 24, f 25, f 26, f 27, f 28, f 29, f 30, f 31, f 32, f 33, f 34, f 35, f 36, f 37, f 38, f 39, .int .i64 (K.length : Int), .int .i64 (k : Int), f 42, f 43, f 44, f 45, f 46, f 47, f 48, f 49, f 50, f 51, f 52, f 53, f 54, f 55, f 56, f 57, f 58, f 59, f 60, f 61, f 62, f 63, f 64, f 65, f 66, f 67, f 68, f 69, f 70, f 71, f 72, f 73, f 74, f 75, f 76, f 77, f 78, f 79, f 80, f 81, f 82, f 83, f 84, f 85, f 86, f 87, f 88, f 89, f 90, f 91, f 92, f 93, f 94, f 95, f 96, f 97])
    (fun k ds W => k ≤ K.length ∧ ds = [] ∧ Below w7.heap.size w7 W) (fun k => K.length - k) 0 rfl ⟨Nat.zero_le _, rfl, Below.refl _ _⟩ ?_
  rintro k f ds W ⟨hk, rfl, hbW⟩
  dsimp only at hk ⊢
  have bW := b7.trans (hbW.mono b7.size)
  have hqW := hq7.below hbW
  have huW := hu7.below hbW
  have hrW := hr7.below hbW
  have h4W := h47.below hbW h47.lt
  have p0 := h4W.cell 0
  have p1 := h4W.cell 1
  by_cases hlt : k < K.length
  · obtain ⟨s, hs⟩ : ∃ s, s = K.getD k 0 := ⟨_, rfl⟩
    have hsm : s ∈ K := by rw [hs, getD_at hlt]; exact List.getElem_mem hlt
    have hcs := HCLO.out s hsm
    have huc := HUC.out k hlt
    rw [← hs] at huc
    have hsl : s &&& lowN C = s := Nat.eq_of_testBit_eq fun x => by
      rw [Nat.testBit_and, testBit_lowN]
      cases hx : s.testBit x with
      | false => rfl
      | true =>
        rw [← hcs] at hx
        rw [decide_eq_true (comN_lt hx)]; rfl
    have hmr : mrow K (k : Nat) = s := by rw [hs]; unfold mrow; rw [if_pos (Int.natCast_nonneg _), Int.toNat_natCast]
    have HRO := Lib.hid (fun W' (hb : Below W.heap.size W W') => by
      have q := row_any r1 C K (k : Nat) W' (hrW.mat.below hb)
      rwa [hmr] at q)
    have HCL := Lib.hid (fun W' v (hb : Below W.heap.size W W') (hv : IsSet W' v s) => by
      have q' := closed_any q C Ns v s W' (hqW.below hb) hv (hT.below (bW.trans (hb.mono bW.size)))
      rwa [hsl, decide_eq_true hcs] at q')
    have HHA := Lib.hid (fun W' v (hb : Below W.heap.size W W') (hv : IsSet W' v s) => having_any (some ⟨q, 0, none⟩) C Ns v s W' (.inr ⟨q, rfl, hqW.below hb⟩) hv (hT.below (bW.trans (hb.mono bW.size))))
    have HCO := Lib.hid (fun W' (hb : Below W.heap.size W W') => by
      have q := col_any u1 K.length (usersN C Ns K) (k : Nat) W' (huW.mat.below hb)
      rwa [huc] at q)
    obtain ⟨X, hX⟩ : ∃ X, X = havN C Ns s := ⟨_, rfl⟩
    rw [← hX] at HHA HCO
    clear hs hsm hcs huc hsl hmr hX
    go_upto_region 12 with fail
    refine wp_mix (fun V => Below W.heap.size W V) 21 (by kernel_rfl) (by kernel_rfl) (Below.refl _ _).drew ?_
    have hr := (Below.refl W.heap.size W).drew
    obtain ⟨U, hU⟩ : ∃ U, U = W.drew := ⟨_, rfl⟩
    rw [← hU] at hr ⊢
    clear hU
    (refine m_q 0 (v := ?_) (by kernel_rfl) rfl rfl (fun W hW => ?_) ?_; rotate_left; (have y0 := onB hW p0; have y1 := onB hW p1; go_simp; first | done | with_reducible rfl); simp only [Act.put, List.setIfInBounds_toArray, List.set_cons_zero, List.set_cons_succ]); (refine m_q 1 (v := ?_) (by kernel_rfl) rfl rfl (fun W hW => ?_) ?_; rotate_left; (have y0 := onB hW p0; have y1 := onB hW p1; go_simp; first | done | with_reducible rfl); simp only [Act.put, List.setIfInBounds_toArray, List.set_cons_zero, List.set_cons_succ]); (refine m_q 2 (v := ?_) (by kernel_rfl) rfl rfl (fun W hW => ?_) ?_; rotate_left; (have y0 := onB hW p0; have y1 := onB hW p1; go_simp; first | done | with_reducible rfl); simp only [Act.put, List.setIfInBounds_toArray, List.set_cons_zero, List.set_cons_succ]); (refine m_q 3 (v := ?_) (by kernel_rfl) rfl rfl (fun W hW => ?_) ?_; rotate_left; (have y0 := onB hW p0; have y1 := onB hW p1; go_simp; first | done | with_reducible rfl); simp only [Act.put, List.setIfInBounds_toArray, List.set_cons_zero, List.set_cons_succ])
    have H1 := hideC (HRO.out U hr)
    refine m_s1 4 (by kernel_rfl) rfl ?_
    go_wp2_with fail
    refine H1.out.mono ?_
    rintro e U1 ⟨v1, rfl, hv1, hu1⟩
    have hr1 := hr.trans (hu1.mono hr.size)
    go_wp2_with fail
    refine m_keep hr1 ?_
    have H2 := hideC (HCL.out U1 v1 hr1 hv1)
    refine m_s1 5 (by kernel_rfl) rfl ?_
    go_wp2_with fail
    refine H2.out.mono ?_
    rintro e U2 ⟨rfl, hu2⟩
    have hr2 := hr1.trans (hu2.mono hr1.size)
    go_wp2_with fail
    refine m_keep hr2 ?_
    (refine m_q 6 (v := ?_) (by kernel_rfl) rfl rfl (fun W hW => ?_) ?_; rotate_left; (go_simp; first | done | with_reducible rfl); simp only [Act.put, List.setIfInBounds_toArray, List.set_cons_zero, List.set_cons_succ]); (refine m_q 7 (v := ?_) (by kernel_rfl) rfl rfl (fun W hW => ?_) ?_; rotate_left; (go_simp; first | done | with_reducible rfl); simp only [Act.put, List.setIfInBounds_toArray, List.set_cons_zero, List.set_cons_succ])
    (refine m_yes 8 (v := ?_) (by kernel_rfl) rfl (by rfl) (fun W hW => ?_) ?_; rotate_left; (have y0 := onB hW p0; have y1 := onB hW p1; go_simp; first | done | with_reducible rfl); simp only [Act.put, List.setIfInBounds_toArray, List.set_cons_zero, List.set_cons_succ]); (refine m_yes 9 (v := ?_) (by kernel_rfl) rfl (by rfl) (fun W hW => ?_) ?_; rotate_left; (have y0 := onB hW p0; have y1 := onB hW p1; go_simp; first | done | with_reducible rfl); simp only [Act.put, List.setIfInBounds_toArray, List.set_cons_zero, List.set_cons_succ]); (refine m_yes 10 (v := ?_) (by kernel_rfl) rfl (by rfl) (fun W hW => ?_) ?_; rotate_left; (have y0 := onB hW p0; have y1 := onB hW p1; go_simp; first | done | with_reducible rfl); simp only [Act.put, List.setIfInBounds_toArray, List.set_cons_zero, List.set_cons_succ]); (refine m_yes 11 (v := ?_) (by kernel_rfl) rfl (by rfl) (fun W hW => ?_) ?_; rotate_left; (have y0 := onB hW p0; have y1 := onB hW p1; go_simp; first | done | with_reducible rfl); simp only [Act.put, List.setIfInBounds_toArray, List.set_cons_zero, List.set_cons_succ]); (refine m_yes 14 (v := ?_) (by kernel_rfl) rfl (by rfl) (fun W hW => ?_) ?_; rotate_left; (have y0 := onB hW p0; have y1 := onB hW p1; go_simp; first | done | with_reducible rfl); simp only [Act.put, List.setIfInBounds_toArray, List.set_cons_zero, List.set_cons_succ]); (refine m_yes 15 (v := ?_) (by kernel_rfl) rfl (by rfl) (fun W hW => ?_) ?_; rotate_left; (have y0 := onB hW p0; have y1 := onB hW p1; go_simp; first | done | with_reducible rfl); simp only [Act.put, List.setIfInBounds_toArray, List.set_cons_zero, List.set_cons_succ]); (refine m_yes 16 (v := ?_) (by kernel_rfl) rfl (by rfl) (fun W hW => ?_) ?_; rotate_left; (have y0 := onB hW p0; have y1 := onB hW p1; go_simp; first | done | with_reducible rfl); simp only [Act.put, List.setIfInBounds_toArray, List.set_cons_zero, List.set_cons_succ])
    have H3 := hideC (HRO.out U2 hr2)
    refine m_s1 12 (by kernel_rfl) rfl ?_
    go_wp2_with fail
    refine H3.out.mono ?_
    rintro e U3 ⟨v3, rfl, hv3, hu3⟩
    have hr3 := hr2.trans (hu3.mono hr2.size)
    go_wp2_with fail
    refine m_keep hr3 ?_
    have H4 := hideC (HHA.out U3 v3 hr3 hv3)
    refine m_s1 13 (by kernel_rfl) rfl ?_
    go_wp2_with fail
    refine H4.out.mono ?_
    rintro e U4 ⟨v4, rfl, hv4, hu4⟩
    have hr4 := hr3.trans (hu4.mono hr3.size)
    go_wp2_with fail
    refine m_keep hr4 ?_
    have H5 := hideC (HCO.out U4 hr4)
    refine m_s1 17 (by kernel_rfl) rfl ?_
    go_wp2_with fail
    refine H5.out.mono ?_
    rintro e U5 ⟨v5, rfl, hv5, hu5⟩
    have hr5 := hr4.trans (hu5.mono hr4.size)
    go_wp2_with fail
    refine m_keep hr5 ?_
    have heq := equal_any v4 v5 X X U5 (hv4.below hu5) hv5
    rw [decide_eq_true rfl] at heq
    have H6 := hideC heq
    clear heq
    refine m_s1 18 (by kernel_rfl) rfl ?_
    go_wp2_with fail
    refine H6.out.mono ?_
    rintro e U6 ⟨rfl, hu6⟩
    have hr6 := hr5.trans (hu6.mono hr5.size)
    go_wp2_with fail
    refine m_keep hr6 ?_
    (refine m_yes 19 (v := ?_) (by kernel_rfl) rfl (by rfl) (fun W hW => ?_) ?_; rotate_left; (go_simp; first | done | with_reducible rfl); simp only [Act.put, List.setIfInBounds_toArray, List.set_cons_zero, List.set_cons_succ])
    (refine m_q 20 (v := ?_) (by kernel_rfl) rfl rfl (fun W hW => ?_) ?_; rotate_left; (go_simp; first | done | with_reducible rfl); simp only [Act.put, List.setIfInBounds_toArray, List.set_cons_zero, List.set_cons_succ])
    refine m_end (by kernel_rfl) ?_
    have hbW6 := hbW.trans (hr6.mono hbW.size)
    clear H1 H2 H3 H4 H5 H6 hr hr1 hr2 hr3 hr4 hr5 hr6 hu1 hu2 hu3 hu4 hu5 hu6 p0 p1 hv1 hv3 hv4 hv5
    go_wp2_with fail
    exact ⟨k + 1, rfl, ⟨by omega, by first | rfl | trivial, hbW6⟩, by omega⟩
  · obtain rfl : k = K.length := by omega
    have h7W := h7.below hbW h7.lt
    have hvW := hv7.below hbW
    have k0 := h7W.cell 0
    have k1 := h7W.cell 1
    have HC1 := hideC (cols_any u2 G.length _ W hvW.mat)
    have HR1 := hideC (rows_any q C Ns W hqW)
    have HC2 := hideC (cols_any q C Ns W hqW)
    have HBE := hideC (best_any q C Ns W hqW (hT.below bW))
    have a1 : decide ((K.length : Int) ≤ (G.length : Int)) = true := decide_eq_true (by omega)
    have a2 : decide ((K.length : Int) ≤ (Ns.length : Int)) = true := decide_eq_true (by omega)
    have a3 : decide ((K.length : Int) ≤ (C : Int)) = true := decide_eq_true (by omega)
    have a1' : decide (K.length ≤ G.length) = true := decide_eq_true hb2
    have a2' : decide (K.length ≤ Ns.length) = true := decide_eq_true hb5
    have a3' : decide (K.length ≤ C) = true := decide_eq_true hb3
    clear p0 p1 h4W hrW huW h47 h7 hv7 hq7 hu7 hr7 hlt hk
    go_wp2_with fail
    with_reducible refine HC1.out.mono ?_
    rintro e w' ⟨rfl, rfl⟩
    go_wp2_with fail
    with_reducible refine HR1.out.mono ?_
    rintro e w' ⟨rfl, rfl⟩
    go_wp2_with fail
    with_reducible refine HC2.out.mono ?_
    rintro e w' ⟨rfl, rfl⟩
    go_wp2_with fail
    with_reducible refine HBE.out.mono ?_
    rintro e W1 ⟨vb, rfl, ⟨Ab, cb, rfl, -, -⟩, hb1'⟩
    have hq1 := hqW.below hb1'
    have bW1 := bW.trans (hb1'.mono bW.size)
    have a4 : decide (((bestP C Ns).length : Int) ≤ (K.length : Int)) = true := decide_eq_true (by omega)
    have a4' : decide ((bestP C Ns).length ≤ K.length) = true := decide_eq_true hb1
    have HON := hideC (onesm_any q C Ns W1 hq1 (hT.below bW1))
    rw [HONES.out] at HON
    generalize (bestP C Ns).length = bl at a4 a4' hb1 ⊢
    clear HC1 HR1 HC2 HBE hb1' k0 k1 h7W hvW
    go_wp2_with fail
    with_reducible refine HON.out.mono ?_
    rintro e W2 ⟨rfl, hb2'⟩
    have bW2 := bW1.trans (hb2'.mono bW1.size)
    have hz := HB4.out
    generalize (cellsOf Ns).length = cl at hz hcells ⊢
    clear HON hb2' hq1 bW1 a1 a2 a3 a4 a1' a2' a3' a4' hb1 hb2 hb3 hb5 hqW bW hcells hlim HUC HCLO HB4 HONES
    generalize K.length = n at hz ⊢
    by_cases hn : n = 0
    · have hc0 := hz.1 hn
      subst hn; subst hc0
      clear hz
      go_wp2_with fail
      go_ret
      exact ⟨rfl, bW2⟩
    · have hc0 : ¬ cl = 0 := fun e => hn (hz.2 e)
      have e1 : ((n : Int) == 0) = false := by rw [beq_eq_false_iff_ne]; omega
      have e2 : ((cl : Int) == 0) = false := by rw [beq_eq_false_iff_ne]; omega
      have e3 : decide ((n : Int) = 0) = false := decide_eq_false (by omega)
      have e4 : decide ((cl : Int) = 0) = false := decide_eq_false (by omega)
      clear hz
      go_wp2_with fail
      go_ret
      exact ⟨rfl, bW2⟩
end Mix2
end Go.Proofs.YtlakjhhpdbgekaaGreatDoor
