/-
  Plain: the longest list of independent ones. The program's search (with its cut) finds what the reference's search finds.
-/
import Derived.Test.YthnphekhgaefdaaDoorRkA
namespace Go.Proofs.YthnphekhgaefdaaDoor

section
variable {α : Type}
/-- The longer one of two lists; the first one if they are of one length. -/
def pickL (a x : List α) : List α := if a.length < x.length then x else a
theorem pickL_assoc (a x y : List α) : pickL (pickL a x) y = pickL a (pickL x y) := by
  unfold pickL
  by_cases h1 : a.length < x.length <;> by_cases h2 : x.length < y.length <;> simp only [h1, h2, if_true, if_false]
  · rw [if_pos (by omega)]
  · split <;> first | rfl | (exfalso; omega)
theorem pickL_keep {a x : List α} (h : x.length ≤ a.length) : pickL a x = a := by unfold pickL; rw [if_neg (by omega)]
theorem pickL_len (a x : List α) : (pickL a x).length = max a.length x.length := by unfold pickL; split <;> omega
/-- The reference's search: lists that begin with l and go on with some of the ones. -/
def bestR (ok : List α → α → Bool) : List α → List α → List α → List α
  | [], _, out => out
  | c :: r, l, out => if ok l c = true then bestR ok r l (pickL out (bestR ok r (l ++ [c]) (l ++ [c]))) else bestR ok r l out
/-- The program's search, with its cut. -/
def bestE (ind : α → α → Bool) : Nat → List α → List α → List α → List α
  | 0, _, _, best => best
  | _ + 1, [], _, best => best
  | n + 1, c :: r, l, best => if l.length + (r.length + 1) ≤ best.length then best else bestE ind n r l (bestE ind n (r.filter (ind c)) (l ++ [c]) (pickL best (l ++ [c])))
theorem bestR_pick (ok : List α → α → Bool) (b : List α) : ∀ (ones l out : List α), pickL b (bestR ok ones l out) = bestR ok ones l (pickL b out)
  | [], _, _ => rfl
  | c :: r, l, out => by
    unfold bestR
    split
    · rw [bestR_pick ok b r l, pickL_assoc]
    · exact bestR_pick ok b r l out
theorem bestR_len (ok : List α → α → Bool) : ∀ (ones l out : List α), (bestR ok ones l out).length ≤ max out.length (l.length + ones.length)
  | [], _, _ => by unfold bestR; omega
  | c :: r, l, out => by
    unfold bestR
    split
    · have h1 := bestR_len ok r l (pickL out (bestR ok r (l ++ [c]) (l ++ [c])))
      have h2 := bestR_len ok r (l ++ [c]) (l ++ [c])
      rw [pickL_len] at h1
      simp only [List.length_append, List.length_cons, List.length_nil] at h2 ⊢
      omega
    · have h1 := bestR_len ok r l out
      simp only [List.length_cons]
      omega
theorem bestR_cut (ok : List α → α → Bool) : ∀ (ones l out : List α), l.length + ones.length ≤ out.length → bestR ok ones l out = out
  | [], _, _, _ => rfl
  | c :: r, l, out, h => by
    simp only [List.length_cons] at h
    unfold bestR
    split
    · have h2 := bestR_len ok r (l ++ [c]) (l ++ [c])
      simp only [List.length_append, List.length_cons, List.length_nil] at h2
      rw [pickL_keep (by omega)]
      exact bestR_cut ok r l out (by omega)
    · exact bestR_cut ok r l out (by omega)
/-- Cells that do not fit can be left out. -/
theorem bestR_filter (good : α → α → Bool) (p : α → Bool) : ∀ (ones l out : List α), (∀ c ∈ ones, p c = false → l.all (fun b => good b c) = false) →
    bestR (fun l c => l.all fun b => good b c) (ones.filter p) l out = bestR (fun l c => l.all fun b => good b c) ones l out
  | [], _, _, _ => rfl
  | c :: r, l, out, h => by
    have hr : ∀ l' : List α, (∀ b ∈ l, b ∈ l') → ∀ d ∈ r, p d = false → l'.all (fun b => good b d) = false := fun l' hl d hd hp => by
      have := h d (List.mem_cons_of_mem _ hd) hp
      rw [List.all_eq_false] at this ⊢
      obtain ⟨x, hx, hg⟩ := this
      exact ⟨x, hl x hx, hg⟩
    have i1 := fun out => bestR_filter good p r l out (hr l fun _ h => h)
    have i2 := bestR_filter good p r (l ++ [c]) (l ++ [c]) (hr _ fun _ h => List.mem_append_left _ h)
    cases hp : p c with
    | true =>
      rw [List.filter_cons_of_pos hp]
      conv => lhs; unfold bestR
      conv => rhs; unfold bestR
      rw [i1, i1, i2]
    | false =>
      rw [List.filter_cons_of_neg (by rw [hp]; simp), i1]
      conv => rhs; unfold bestR
      rw [if_neg (by rw [h c List.mem_cons_self hp]; simp)]
/-- Both searches find the same. -/
theorem bestE_eq (good ind : α → α → Bool) (hgi : ∀ a b, good a b = true → ind a b = true) : ∀ (n : Nat) (ones l best : List α), ones.length ≤ n → ones.Pairwise (fun a b => ind a b = true → good a b = true) → (∀ c ∈ ones, l.all (fun b => good b c) = true) → l.length ≤ best.length →
    bestE ind n ones l best = bestR (fun l c => l.all fun b => good b c) ones l best
  | 0, ones, l, best, hn, _, _, _ => by
    obtain rfl : ones = [] := List.length_eq_zero_iff.1 (by omega)
    rfl
  | n + 1, [], l, best, _, _, _, _ => rfl
  | n + 1, c :: r, l, best, hn, hp, hok, hl => by
    simp only [List.length_cons] at hn
    rw [List.pairwise_cons] at hp
    conv => lhs; unfold bestE
    split
    · rename_i h
      rw [bestR_cut _ _ _ _ (by simpa using h)]
    · conv => rhs; unfold bestR
      rw [if_pos (hok c List.mem_cons_self)]
      have hf : ∀ d ∈ r, ind c d = false → (l ++ [c]).all (fun b => good b d) = false := fun d _ hi => by
        rw [List.all_eq_false]
        exact ⟨c, by simp, fun hg => by rw [hgi _ _ hg] at hi; cases hi⟩
      have e1 : bestE ind n (r.filter (ind c)) (l ++ [c]) (pickL best (l ++ [c])) = pickL best (bestR (fun l c => l.all fun b => good b c) r (l ++ [c]) (l ++ [c])) := by
        rw [bestE_eq good ind hgi n _ _ _ (Nat.le_trans (List.length_filter_le _ _) (by omega)) (hp.2.sublist List.filter_sublist) (fun d hd => ?_) (by rw [pickL_len]; omega), ← bestR_pick, bestR_filter good (ind c) r _ _ hf]
        obtain ⟨h1, h2⟩ := List.mem_filter.1 hd
        rw [List.all_append, Bool.and_eq_true]
        refine ⟨hok d (List.mem_cons_of_mem _ h1), ?_⟩
        simpa using hp.1 d h1 h2
      rw [e1]
      exact bestE_eq good ind hgi n r l _ (by omega) hp.2 (fun d hd => hok d (List.mem_cons_of_mem _ hd)) (by rw [pickL_len]; omega)
/-- What is found are some of the ones, any two of which fit. -/
theorem bestR_good (good : α → α → Bool) (S : α → Prop) : ∀ (ones l out : List α), (∀ c ∈ ones, S c) → ((∀ c ∈ l, S c) ∧ l.Pairwise fun a b => good a b = true) → ((∀ c ∈ out, S c) ∧ out.Pairwise fun a b => good a b = true) →
    (∀ c ∈ bestR (fun l c => l.all fun b => good b c) ones l out, S c) ∧ (bestR (fun l c => l.all fun b => good b c) ones l out).Pairwise fun a b => good a b = true
  | [], _, _, _, _, ho => ho
  | c :: r, l, out, hs, hl, ho => by
    unfold bestR
    have hr := fun d hd => hs d (List.mem_cons_of_mem c hd)
    split
    · rename_i h
      have hlc : (∀ d ∈ l ++ [c], S d) ∧ (l ++ [c]).Pairwise fun a b => good a b = true := by
        refine ⟨fun d hd => ?_, ?_⟩
        · rcases List.mem_append.1 hd with h | h
          · exact hl.1 d h
          · rw [List.mem_singleton.1 h]; exact hs c List.mem_cons_self
        · rw [List.pairwise_append]
          refine ⟨hl.2, List.pairwise_singleton _ _, fun a ha b hb => ?_⟩
          rw [List.mem_singleton.1 hb]
          exact List.all_eq_true.1 h a ha
      have h1 := bestR_good good S r (l ++ [c]) (l ++ [c]) hr hlc hlc
      refine bestR_good good S r l _ hr hl ?_
      unfold pickL
      split
      · exact h1
      · exact ho
    · exact bestR_good good S r l out hr hl ho
end
end Go.Proofs.YthnphekhgaefdaaDoor
