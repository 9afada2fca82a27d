/-
  slices.Equal over cells, rank.Best of nil, and both searches as one.
-/
import Derived.Test.YthnphekhgaefdaaDoorRb2
import Derived.Test.YthnphekhgaefdaaDoorRb3
import Derived.Test.YthnphekhgaefdaaDoorRn7
namespace Go.Proofs.YthnphekhgaefdaaDoor
open Go.RowKit

theorem ipairs_of {w : World} {A : Option Addr} {n c : Nat} {l : List (Int × Int)} (h : IsPairs w (.slice A n c) l) : n = l.length ∧ Row w A (cellsP l) ∧ n ≤ c ∧ n ≤ 1000000 := by
  obtain ⟨A', c', e, h1, h2, h3⟩ := h
  injection e with e1 e2 e3
  subst e1; subst e2; subst e3
  exact ⟨rfl, h1, h2, h3⟩
namespace Mix2
end Mix2
/-- The search does not look further than the fitting of cells. -/
theorem bestR_congr {α : Type} {ok1 ok2 : List α → α → Bool} (P : List α → Prop) (S : α → Prop) (h : ∀ l c, P l → S c → ok1 l c = ok2 l c) (hP : ∀ l c, P l → S c → ok1 l c = true → P (l ++ [c])) :
    ∀ (ones l out : List α), (∀ c ∈ ones, S c) → P l → bestR ok1 ones l out = bestR ok2 ones l out
  | [], _, _, _, _ => rfl
  | c :: r, l, out, hs, hl => by
    have hr := fun d hd => hs d (List.mem_cons_of_mem c hd)
    have hc := hs c List.mem_cons_self
    conv => lhs; unfold bestR
    conv => rhs; unfold bestR
    rw [h l c hl hc]
    split
    · rename_i ho
      rw [← h l c hl hc] at ho
      have hlc := hP l c hl hc ho
      rw [bestR_congr P S h hP r (l ++ [c]) _ hr hlc, bestR_congr P S h hP r l _ hr hl]
    · exact bestR_congr P S h hP r l _ hr hl
section
variable {C : Nat} {M : List (List Bool)}
def goodL (C : Nat) (M : List (List Bool)) (b c : Int × Int) : Bool := decide (c ≠ b) && indepR C M c b
theorem foolR_snoc (l : List (Int × Int)) (c : Int × Int) : foolR C M (l ++ [c]) = (foolR C M l && hasR C M c.1 c.2 && l.all fun b => goodL C M b c) := by
  unfold foolR goodL
  rw [Bool.eq_iff_iff]
  simp only [List.all_append, List.pairwise_append, Bool.and_eq_true, decide_eq_true_eq, List.all_eq_true, List.all_cons, List.all_nil, Bool.and_true, List.mem_singleton, List.pairwise_singleton, true_and, forall_eq]
  constructor
  · rintro ⟨⟨h1, h2⟩, h3, h4⟩
    exact ⟨⟨⟨h1, h3⟩, h2⟩, fun b hb => h4 b hb⟩
  · rintro ⟨⟨⟨h1, h3⟩, h2⟩, h4⟩
    exact ⟨⟨h1, h2⟩, h3, fun b hb => h4 b hb⟩
theorem cz_ones {K : List (Int × Int)} (hC : C ≤ 4096) (hK : K = cz (cellsOf (nsOf C M))) : ∀ c ∈ K, hasR C M c.1 c.2 = true := by
  intro c hc
  rw [hK] at hc
  unfold cz at hc
  obtain ⟨d, hd, rfl⟩ := List.mem_map.1 hc
  exact (cells_has hC hd).2.2
theorem cells_nodup (Ns : List Nat) : (cellsOf Ns).Nodup := by
  unfold cellsOf
  rw [List.nodup_iff_pairwise_ne, List.pairwise_flatMap]
  refine ⟨fun i _ => ?_, ?_⟩
  · rw [List.pairwise_map]
    exact (List.nodup_iff_pairwise_ne.1 (mems_nodup _)).imp fun h e => h (by injection e)
  · refine (List.nodup_iff_pairwise_ne.1 List.nodup_range).imp fun h => ?_
    intro x hx y hy e
    obtain ⟨_, _, rfl⟩ := List.mem_map.1 hx
    obtain ⟨_, _, rfl⟩ := List.mem_map.1 hy
    exact h (by injection e)
theorem cz_nodup {K : List (Nat × Nat)} (h : K.Nodup) : (cz K).Nodup := by
  unfold cz
  rw [List.nodup_iff_pairwise_ne, List.pairwise_map]
  refine (List.nodup_iff_pairwise_ne.1 h).imp fun hne e => hne ?_
  obtain ⟨e1, e2⟩ := Prod.mk.inj e
  exact Prod.ext (by omega) (by omega)
theorem indep_R (hC : C ≤ 4096) (a b : Int × Int) : indep C (nsOf C M) a b = indepR C M b a := by
  unfold indep indepR
  rw [mhas_nsOf _ _ hC, mhas_nsOf _ _ hC, Bool.or_comm]
/-- rank.Best finds what the reference's Best finds, and that are independent ones. -/
theorem best_same (hC : C ≤ 12) (hs : (cellsOf (nsOf C M)).length ≤ 30) : bestP C (nsOf C M) = bestR (fun l c => foolR C M (l ++ [c])) (cz (cellsOf (nsOf C M))) [] [] ∧ foolR C M (bestP C (nsOf C M)) = true := by
  have hg : bestP C (nsOf C M) = bestR (fun l c => l.all fun b => goodL C M b c) (cz (cellsOf (nsOf C M))) [] [] := by
    unfold bestP
    rw [if_neg (by omega)]
    unfold searchP
    rw [show pickL ([] : List (Int × Int)) [] = [] from rfl]
    refine bestE_eq (goodL C M) _ (fun a b h => ?_) _ _ _ _ (Nat.le_refl _) ?_ (fun _ _ => rfl) (Nat.le_refl _)
    · unfold goodL at h
      rw [Bool.and_eq_true] at h
      rw [indep_R (by omega)]; exact h.2
    · refine (List.nodup_iff_pairwise_ne.1 (cz_nodup (cells_nodup _))).imp fun hne hi => ?_
      unfold goodL
      rw [Bool.and_eq_true, decide_eq_true_eq, ← indep_R (by omega)]
      exact ⟨fun e => hne e.symm, hi⟩
  have hS : ∀ c ∈ cz (cellsOf (nsOf C M)), hasR C M c.1 c.2 = true := cz_ones (by omega) rfl
  refine ⟨?_, ?_⟩
  · rw [hg]
    refine bestR_congr (fun l => foolR C M l = true) (fun c => hasR C M c.1 c.2 = true) (fun l c hl hc => ?_) (fun l c hl hc ho => ?_) _ _ _ hS rfl
    · rw [foolR_snoc, hl, hc]; rfl
    · rw [foolR_snoc, hl, hc, ho]; rfl
  · rw [hg]
    have h := bestR_good (goodL C M) (fun c => hasR C M c.1 c.2 = true) _ [] [] hS ⟨by simp, by simp⟩ ⟨by simp, by simp⟩
    unfold foolR
    rw [Bool.and_eq_true, List.all_eq_true, decide_eq_true_eq]
    refine ⟨h.1, h.2.imp fun hgood => ?_⟩
    unfold goodL at hgood
    rw [Bool.and_eq_true, decide_eq_true_eq] at hgood
    exact hgood
theorem bestR_size (ok : List (Int × Int) → (Int × Int) → Bool) (K : List (Int × Int)) : (bestR ok K [] []).length ≤ K.length := by
  have := bestR_len ok K [] []
  simpa using this
/-- The list proves that as many rectangles are necessary. -/
theorem best_sound (hC : C ≤ 12) {l : List (Int × Int)} (hf : foolR C M l = true) (hl : l.length ≤ 256) : checkP C (nsOf C M) l.length [⟨2, 0, 0, [], l⟩] = (1, 0) := by
  have hfp : foolP C (nsOf C M) l = true := by rw [foolP_ref (by omega)]; exact hf
  unfold foolP at hfp
  rw [Bool.and_eq_true] at hfp
  obtain ⟨h1, h2⟩ := hfp
  have hn : firstBad [⟨2, 0, 0, [], l⟩] = none := by
    refine firstBad_none fun n hn => ?_
    obtain rfl : n = 0 := by simpa using hn
    unfold badN badH
    simp
  unfold checkP
  rw [if_neg (by simp; omega), hn]
  dsimp only
  by_cases h0 : (l.length : Int) = 0
  · rw [if_pos h0]
  · rw [if_neg h0, show ([⟨2, 0, 0, [], l⟩] : List Nd).length = 0 + 1 from rfl, nodeP]
    have hx : ([⟨2, 0, 0, [], l⟩] : List Nd).getD ((0 : Nat) : Int).toNat default = ⟨2, 0, 0, [], l⟩ := rfl
    rw [hx]
    dsimp only
    rw [if_pos rfl, if_neg, if_neg]
    · rw [not_or]
      refine ⟨by omega, by rw [h2]; simp⟩
    · rw [Bool.not_eq_true, List.any_eq_false]
      intro c hc
      have hm := h1
      rw [Bool.not_eq_true', List.any_eq_false] at hm
      have hm := hm c hc
      rw [Bool.not_eq_true, Bool.not_eq_false'] at hm
      obtain ⟨a, b, e1, e2, h3, h4, h5⟩ := mhas_parts hm
      rw [Bool.not_eq_true, Bool.not_eq_false', e1, e2]
      unfold hasO hasB
      rw [Bool.and_eq_true, Bool.and_eq_true, Bool.and_eq_true, decide_eq_true_eq, decide_eq_true_eq, decide_eq_true_eq, Int.toNat_natCast, Int.toNat_natCast]
      exact ⟨⟨by omega, by omega⟩, by omega, h5⟩
end
end Go.Proofs.YthnphekhgaefdaaDoor
