/-
  slices.Equal over cells, rank.Best of nil, and both searches as one.
-/
import Derived.Test.YtlehoomnddcblaaDoorRb2
import Derived.Test.YtlehoomnddcblaaDoorRb3
import Derived.Test.YtlehoomnddcblaaDoorRn7
namespace Go.Proofs.YtlehoomnddcblaaDoor
open Go.RowKit

theorem ipairs_of {w : World} {A : Option Addr} {n c : Nat} {l : List (Int × Int)} (h : IsPairs w (.slice A n c) l) : n = l.length ∧ Row w A (cellsP l) ∧ n ≤ c ∧ n ≤ 1000000 := by
  obtain ⟨A', c', e, h1, h2, h3⟩ := h
  injection e with e1 e2 e3
  subst e1; subst e2; subst e3
  exact ⟨rfl, h1, h2, h3⟩
namespace Mix2
set_option maxRecDepth 100000 in
set_option maxHeartbeats 4000000 in
theorem eqp_any (v u : Value) (l m : List (Int × Int)) (w : World) (hl : IsPairs w v l) (hm : IsPairs w u m) :
    Calls Tryd.prog 20 #[v, u] w fun e w' => e = .returned (.bool (decide (l = m))) ∧ Below w.heap.size w w' := by
  obtain ⟨A, c, rfl, hr, hc, hb⟩ := id hl
  obtain ⟨B, d, rfl, hs, hd, hb2⟩ := id hm
  obtain ⟨r, hr0⟩ : ∃ r, r = decide (l = m) := ⟨_, rfl⟩
  rw [← hr0]
  have HR := Lib.hid hr0
  clear hr0 hl hm
  go_enter Tryd.func20, Tryd.ntmps20
  by_cases hll : l.length = m.length
  · have HLL := Lib.hid hll
    obtain ⟨n, hn⟩ : ∃ n, n = l.length := ⟨_, rfl⟩
    rw [← hll] at hd hb2 ⊢
    rw [← hn] at hc hb hd hb2 ⊢
    have HN := Lib.hid hn
    clear hll hn
    go_wp2_with fail
    refine wp_loopF (β := Nat) (fun i f => #[.slice A n c, .slice B n d, f 2, f 3, .bool false, f 5, f 6, f 7, f 8, f 9, f 10, .slice A n c, .int .i64 (n : Int), .int .i64 (i : Int), f 14, f 15, f 16, f 17, f 18, f 19, f 20, f 21, f 22, f 23, f 24, f 25])
      (fun i ds W => i ≤ n ∧ ds = [] ∧ Below w.heap.size w W ∧ ∀ k, k < i → l[k]? = m[k]?) (fun i => n - i) 0 rfl ⟨Nat.zero_le _, rfl, Below.refl _ _, fun k hk => by omega⟩ ?_
    rintro i f ds W ⟨hi, rfl, hbW, hpre⟩
    dsimp only at hi ⊢
    have HP := Lib.hid hpre
    clear hpre
    by_cases hlt : i < n
    · obtain ⟨x, hx⟩ : ∃ x, l[i]? = some x := ⟨_, List.getElem?_eq_getElem (by have := HN.out; omega)⟩
      obtain ⟨y, hy⟩ : ∃ y, m[i]? = some y := ⟨_, List.getElem?_eq_getElem (by have := HN.out; have := HLL.out; omega)⟩
      obtain ⟨g, off, rfl, hg, c0, c1⟩ := row_pairs (hr.below hbW) hx
      obtain ⟨g', off', rfl, hg', d0, d1⟩ := row_pairs (hs.below hbW) hy
      have hpr := fun W => pair_run x y W
      have HX := Lib.hid hx; have HY := Lib.hid hy
      clear hx hy hr hs
      go_wp2_with fail
      refine wp_mix (fun V => Below W.heap.size W V) 9 (by kernel_rfl) (by kernel_rfl) (Below.refl _ _).drew ?_
      have hq : Below W.heap.size W W.drew := (Below.refl _ _).drew
      obtain ⟨U, hU⟩ : ∃ V, V = W.drew := ⟨_, rfl⟩
      rw [← hU] at hq ⊢
      clear hU
      (refine m_q 0 (v := ?_) (by kernel_rfl) rfl rfl (fun W hW => ?_) ?_; rotate_left; (go_simp; first | done | with_reducible rfl); simp only [Act.put, List.setIfInBounds_toArray, List.set_cons_zero, List.set_cons_succ]); (refine m_q 1 (v := ?_) (by kernel_rfl) rfl rfl (fun W hW => ?_) ?_; rotate_left; (go_simp; first | done | with_reducible rfl); simp only [Act.put, List.setIfInBounds_toArray, List.set_cons_zero, List.set_cons_succ]); (refine m_q 2 (v := ?_) (by kernel_rfl) rfl rfl (fun W hW => ?_) ?_; rotate_left; (go_simp; first | done | with_reducible rfl); simp only [Act.put, List.setIfInBounds_toArray, List.set_cons_zero, List.set_cons_succ]); (refine m_q 3 (v := ?_) (by kernel_rfl) rfl rfl (fun W hW => ?_) ?_; rotate_left; (have z0 := onB hW c0; have z1 := onB hW c1; go_simp; first | done | with_reducible rfl); simp only [Act.put, List.setIfInBounds_toArray, List.set_cons_zero, List.set_cons_succ]); (refine m_q 4 (v := ?_) (by kernel_rfl) rfl rfl (fun W hW => ?_) ?_; rotate_left; (go_simp; first | done | with_reducible rfl); simp only [Act.put, List.setIfInBounds_toArray, List.set_cons_zero, List.set_cons_succ]); (refine m_q 5 (v := ?_) (by kernel_rfl) rfl rfl (fun W hW => ?_) ?_; rotate_left; (go_simp; first | done | with_reducible rfl); simp only [Act.put, List.setIfInBounds_toArray, List.set_cons_zero, List.set_cons_succ]); (refine m_q 6 (v := ?_) (by kernel_rfl) rfl rfl (fun W hW => ?_) ?_; rotate_left; (go_simp; first | done | with_reducible rfl); simp only [Act.put, List.setIfInBounds_toArray, List.set_cons_zero, List.set_cons_succ]); (refine m_q 7 (v := ?_) (by kernel_rfl) rfl rfl (fun W hW => ?_) ?_; rotate_left; (have z0 := onB hW d0; have z1 := onB hW d1; go_simp; first | done | with_reducible rfl); simp only [Act.put, List.setIfInBounds_toArray, List.set_cons_zero, List.set_cons_succ])
      clear c0 c1 d0 d1
      by_cases hxy : x = y
      · rw [decide_eq_true hxy] at hpr
        have HN2 := Lib.hid (fun k (hk : k < i + 1) => (by
          by_cases e : k = i
          · subst e; rw [HX.out, HY.out, hxy]
          · exact HP.out k (by omega) : l[k]? = m[k]?))
        clear hxy
        (refine m_q 8 (v := ?_) (by kernel_rfl) rfl rfl (fun W hW => ?_) ?_; rotate_left; (go_simp; first | done | with_reducible rfl); simp only [Act.put, List.setIfInBounds_toArray, List.set_cons_zero, List.set_cons_succ])
        refine m_end (by kernel_rfl) ?_
        go_wp2_with fail
        exact ⟨i + 1, rfl, ⟨by omega, by first | rfl | trivial, hbW.trans (hq.mono hbW.size), HN2.out⟩, by omega⟩
      · rw [decide_eq_false hxy] at hpr
        have hre : r = false := by rw [HR.out, decide_eq_false_iff_not]; intro e; have h1 := HX.out; rw [e, HY.out] at h1; exact hxy (Option.some.inj h1).symm
        have HRE := Lib.hid hre
        clear hxy hre
        (refine m_q 8 (v := ?_) (by kernel_rfl) rfl rfl (fun W hW => ?_) ?_; rotate_left; (go_simp; first | done | with_reducible rfl); simp only [Act.put, List.setIfInBounds_toArray, List.set_cons_zero, List.set_cons_succ])
        refine m_end (by kernel_rfl) ?_
        go_wp2_with fail
        go_ret
        exact ⟨by rw [HRE.out]; rfl, hbW.trans (hq.mono hbW.size)⟩
    · obtain rfl : i = n := by omega
      have hre : r = true := by
        rw [HR.out, decide_eq_true_eq]
        refine List.ext_getElem? fun k => ?_
        by_cases hk : k < i
        · exact HP.out k hk
        · rw [List.getElem?_eq_none (by have := HN.out; omega), List.getElem?_eq_none (by have := HN.out; have := HLL.out; omega)]
      have HRE := Lib.hid hre
      clear hre
      go_wp2_with fail
      go_ret
      exact ⟨by rw [HRE.out]; rfl, hbW⟩
  · have hre : r = false := by rw [HR.out, decide_eq_false_iff_not]; intro e; exact hll (by rw [e])
    have HRE := Lib.hid hre
    have hli : ¬ (l.length : Int) = (m.length : Int) := by omega
    have hlb : ((l.length : Int) != (m.length : Int)) = true := by rw [bne_iff_ne]; exact hli
    clear hre hll
    go_wp2_with fail
    go_ret
    exact ⟨by rw [HRE.out]; rfl, Below.refl _ _⟩
end Mix2
theorem eqp_is {v u : Value} {l m : List (Int × Int)} {w : World} {b : Bool} (hb : decide (l = m) = b) (hl : IsPairs w v l) (hm : IsPairs w u m) :
    Calls Tryd.prog 20 #[v, u] w fun e w' => e = .returned (.bool b) ∧ Below w.heap.size w w' := by
  have := Mix2.eqp_any v u l m w hl hm
  rwa [hb] at this
set_option maxRecDepth 100000 in
set_option maxHeartbeats 2000000 in
theorem best_nil (w : World) : Calls Tryd.prog 25 #[.pointer none] w fun e w' => e = .returned (.slice none 0 0) ∧ Below w.heap.size w w' := by
  go_enter Tryd.func25, Tryd.ntmps25
  go_wp2_with fail
  go_ret
  exact ⟨rfl, (Below.refl _ _).alloc (Nat.le_refl _) _⟩
/-- The search does not look further than the fitting of cells. -/
theorem bestR_congr {α : Type} {ok1 ok2 : List α → α → Bool} (P : List α → Prop) (S : α → Prop) (h : ∀ l c, P l → S c → ok1 l c = ok2 l c) (hP : ∀ l c, P l → S c → ok1 l c = true → P (l ++ [c])) :
    ∀ (ones l out : List α), (∀ c ∈ ones, S c) → P l → bestR ok1 ones l out = bestR ok2 ones l out
  | [], _, _, _, _ => rfl
  | c :: r, l, out, hs, hl => by
    have hr := fun d hd => hs d (List.mem_cons_of_mem c hd)
    have hc := hs c List.mem_cons_self
    conv => lhs; unfold bestR
    conv => rhs; unfold bestR
    rw [h l c hl hc]
    split
    · rename_i ho
      rw [← h l c hl hc] at ho
      have hlc := hP l c hl hc ho
      rw [bestR_congr P S h hP r (l ++ [c]) _ hr hlc, bestR_congr P S h hP r l _ hr hl]
    · exact bestR_congr P S h hP r l _ hr hl
section
variable {C : Nat} {M : List (List Bool)}
def goodL (C : Nat) (M : List (List Bool)) (b c : Int × Int) : Bool := decide (c ≠ b) && indepR C M c b
theorem foolR_snoc (l : List (Int × Int)) (c : Int × Int) : foolR C M (l ++ [c]) = (foolR C M l && hasR C M c.1 c.2 && l.all fun b => goodL C M b c) := by
  unfold foolR goodL
  rw [Bool.eq_iff_iff]
  simp only [List.all_append, List.pairwise_append, Bool.and_eq_true, decide_eq_true_eq, List.all_eq_true, List.all_cons, List.all_nil, Bool.and_true, List.mem_singleton, List.pairwise_singleton, true_and, forall_eq]
  constructor
  · rintro ⟨⟨h1, h2⟩, h3, h4⟩
    exact ⟨⟨⟨h1, h3⟩, h2⟩, fun b hb => h4 b hb⟩
  · rintro ⟨⟨⟨h1, h3⟩, h2⟩, h4⟩
    exact ⟨⟨h1, h2⟩, h3, fun b hb => h4 b hb⟩
theorem cz_ones {K : List (Int × Int)} (hC : C ≤ 4096) (hK : K = cz (cellsOf (nsOf C M))) : ∀ c ∈ K, hasR C M c.1 c.2 = true := by
  intro c hc
  rw [hK] at hc
  unfold cz at hc
  obtain ⟨d, hd, rfl⟩ := List.mem_map.1 hc
  exact (cells_has hC hd).2.2
theorem cells_nodup (Ns : List Nat) : (cellsOf Ns).Nodup := by
  unfold cellsOf
  rw [List.nodup_iff_pairwise_ne, List.pairwise_flatMap]
  refine ⟨fun i _ => ?_, ?_⟩
  · rw [List.pairwise_map]
    exact (List.nodup_iff_pairwise_ne.1 (mems_nodup _)).imp fun h e => h (by injection e)
  · refine (List.nodup_iff_pairwise_ne.1 List.nodup_range).imp fun h => ?_
    intro x hx y hy e
    obtain ⟨_, _, rfl⟩ := List.mem_map.1 hx
    obtain ⟨_, _, rfl⟩ := List.mem_map.1 hy
    exact h (by injection e)
theorem cz_nodup {K : List (Nat × Nat)} (h : K.Nodup) : (cz K).Nodup := by
  unfold cz
  rw [List.nodup_iff_pairwise_ne, List.pairwise_map]
  refine (List.nodup_iff_pairwise_ne.1 h).imp fun hne e => hne ?_
  obtain ⟨e1, e2⟩ := Prod.mk.inj e
  exact Prod.ext (by omega) (by omega)
theorem indep_R (hC : C ≤ 4096) (a b : Int × Int) : indep C (nsOf C M) a b = indepR C M b a := by
  unfold indep indepR
  rw [mhas_nsOf _ _ hC, mhas_nsOf _ _ hC, Bool.or_comm]
/-- rank.Best finds what the reference's Best finds, and that are independent ones. -/
theorem best_same (hC : C ≤ 12) (hs : (cellsOf (nsOf C M)).length ≤ 30) : bestP C (nsOf C M) = bestR (fun l c => foolR C M (l ++ [c])) (cz (cellsOf (nsOf C M))) [] [] ∧ foolR C M (bestP C (nsOf C M)) = true := by
  have hg : bestP C (nsOf C M) = bestR (fun l c => l.all fun b => goodL C M b c) (cz (cellsOf (nsOf C M))) [] [] := by
    unfold bestP
    rw [if_neg (by omega)]
    unfold searchP
    rw [show pickL ([] : List (Int × Int)) [] = [] from rfl]
    refine bestE_eq (goodL C M) _ (fun a b h => ?_) _ _ _ _ (Nat.le_refl _) ?_ (fun _ _ => rfl) (Nat.le_refl _)
    · unfold goodL at h
      rw [Bool.and_eq_true] at h
      rw [indep_R (by omega)]; exact h.2
    · refine (List.nodup_iff_pairwise_ne.1 (cz_nodup (cells_nodup _))).imp fun hne hi => ?_
      unfold goodL
      rw [Bool.and_eq_true, decide_eq_true_eq, ← indep_R (by omega)]
      exact ⟨fun e => hne e.symm, hi⟩
  have hS : ∀ c ∈ cz (cellsOf (nsOf C M)), hasR C M c.1 c.2 = true := cz_ones (by omega) rfl
  refine ⟨?_, ?_⟩
  · rw [hg]
    refine bestR_congr (fun l => foolR C M l = true) (fun c => hasR C M c.1 c.2 = true) (fun l c hl hc => ?_) (fun l c hl hc ho => ?_) _ _ _ hS rfl
    · rw [foolR_snoc, hl, hc]; rfl
    · rw [foolR_snoc, hl, hc, ho]; rfl
  · rw [hg]
    have h := bestR_good (goodL C M) (fun c => hasR C M c.1 c.2 = true) _ [] [] hS ⟨by simp, by simp⟩ ⟨by simp, by simp⟩
    unfold foolR
    rw [Bool.and_eq_true, List.all_eq_true, decide_eq_true_eq]
    refine ⟨h.1, h.2.imp fun hgood => ?_⟩
    unfold goodL at hgood
    rw [Bool.and_eq_true, decide_eq_true_eq] at hgood
    exact hgood
theorem bestR_size (ok : List (Int × Int) → (Int × Int) → Bool) (K : List (Int × Int)) : (bestR ok K [] []).length ≤ K.length := by
  have := bestR_len ok K [] []
  simpa using this
/-- The list proves that as many rectangles are necessary. -/
theorem best_sound (hC : C ≤ 12) {l : List (Int × Int)} (hf : foolR C M l = true) (hl : l.length ≤ 256) : checkP C (nsOf C M) l.length [⟨2, 0, 0, [], l⟩] = (1, 0) := by
  have hfp : foolP C (nsOf C M) l = true := by rw [foolP_ref (by omega)]; exact hf
  unfold foolP at hfp
  rw [Bool.and_eq_true] at hfp
  obtain ⟨h1, h2⟩ := hfp
  have hn : firstBad [⟨2, 0, 0, [], l⟩] = none := by
    refine firstBad_none fun n hn => ?_
    obtain rfl : n = 0 := by simpa using hn
    unfold badN badH
    simp
  unfold checkP
  rw [if_neg (by simp; omega), hn]
  dsimp only
  by_cases h0 : (l.length : Int) = 0
  · rw [if_pos h0]
  · rw [if_neg h0, show ([⟨2, 0, 0, [], l⟩] : List Nd).length = 0 + 1 from rfl, nodeP]
    have hx : ([⟨2, 0, 0, [], l⟩] : List Nd).getD ((0 : Nat) : Int).toNat default = ⟨2, 0, 0, [], l⟩ := rfl
    rw [hx]
    dsimp only
    rw [if_pos rfl, if_neg, if_neg]
    · rw [not_or]
      refine ⟨by omega, by rw [h2]; simp⟩
    · rw [Bool.not_eq_true, List.any_eq_false]
      intro c hc
      have hm := h1
      rw [Bool.not_eq_true', List.any_eq_false] at hm
      have hm := hm c hc
      rw [Bool.not_eq_true, Bool.not_eq_false'] at hm
      obtain ⟨a, b, e1, e2, h3, h4, h5⟩ := mhas_parts hm
      rw [Bool.not_eq_true, Bool.not_eq_false', e1, e2]
      unfold hasO hasB
      rw [Bool.and_eq_true, Bool.and_eq_true, Bool.and_eq_true, decide_eq_true_eq, decide_eq_true_eq, decide_eq_true_eq, Int.toNat_natCast, Int.toNat_natCast]
      exact ⟨⟨by omega, by omega⟩, by omega, h5⟩
end
end Go.Proofs.YtlehoomnddcblaaDoor
