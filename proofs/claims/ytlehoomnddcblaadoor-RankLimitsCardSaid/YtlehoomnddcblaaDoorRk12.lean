/-
  Plain: what is told about two rows of k ones.
-/
import Derived.Test.YtlehoomnddcblaaDoorRn6
import Derived.Test.YtlehoomnddcblaaDoorRb4
namespace Go.Proofs.YtlehoomnddcblaaDoor

section
variable {k : Nat}
theorem lim_hav (S : Nat) {i : Nat} (hi : i < 2) : (havN k [lowN k, lowN k] S).testBit i = true := by
  rw [testBit_havN _ _ (by simp)]
  refine ⟨by simpa using hi, fun x _ hx => ?_⟩
  have h2 : i = 0 ∨ i = 1 := by omega
  rcases h2 with rfl | rfl
  · show (lowN k).testBit x = true
    rw [testBit_lowN]; simpa using hx
  · show (lowN k).testBit x = true
    rw [testBit_lowN]; simpa using hx
theorem lim_clo (S : Nat) : cloN k [lowN k, lowN k] S = lowN k := by
  refine nat_ext fun x => ?_
  unfold cloN
  rw [testBit_lowN, decide_eq_true_eq]
  refine ⟨fun h => comN_lt h, fun hx => ?_⟩
  rw [testBit_comN]
  refine ⟨hx, fun i _ hi => ?_⟩
  have h2 : i = 0 ∨ i = 1 := by simp at hi; omega
  rcases h2 with rfl | rfl
  · show (lowN k).testBit x = true
    rw [testBit_lowN]; simpa using hx
  · show (lowN k).testBit x = true
    rw [testBit_lowN]; simpa using hx
theorem card_low20 : ∀ k, k < 21 → card (lowN k) = k := by decide +kernel
theorem lim_mhas {i j : Int} (hi : 0 ≤ i ∧ i < 2) (hj : 0 ≤ j ∧ j < k) : mhas k [lowN k, lowN k] i j = true := by
  obtain ⟨a, rfl⟩ := Int.eq_ofNat_of_zero_le hi.1
  obtain ⟨b, rfl⟩ := Int.eq_ofNat_of_zero_le hj.1
  rw [mhas_in (by simp; omega) (by omega)]
  have h2 : a = 0 ∨ a = 1 := by omega
  rcases h2 with rfl | rfl
  · show (lowN k).testBit b = true
    rw [testBit_lowN]; simp; omega
  · show (lowN k).testBit b = true
    rw [testBit_lowN]; simp; omega
theorem lim_con (hk : k < 13) {j : Nat} (hj : j < k) : conP k [lowN k, lowN k] 0 (j : Nat) = [lowN k] := by
  unfold conP
  rw [if_pos ⟨lim_mhas ⟨by omega, by omega⟩ ⟨by omega, by omega⟩, by show card (lowN k) ≤ 12; rw [card_low20 k (by omega)]; omega⟩]
  refine Lec.ext (conL_lec _ _ _ _) (by simp [Lec]) fun s => ?_
  rw [mem_conL, List.mem_singleton]
  unfold inC
  rw [lim_clo, Bool.and_eq_true, Bool.and_eq_true, decide_eq_true_eq]
  constructor
  · rintro ⟨⟨h, _⟩, _⟩; exact h.symm
  · rintro rfl
    refine ⟨⟨rfl, ?_⟩, lim_hav _ (by decide)⟩
    rw [Int.toNat_natCast, testBit_lowN]; simpa using hj
theorem lim_con_no (h : 12 < k) (hk : k ≤ 20) (j : Int) : conP k [lowN k, lowN k] 0 j = [] := by
  unfold conP
  rw [if_neg]
  rintro ⟨h1, h2⟩
  have : mrow [lowN k, lowN k] 0 = lowN k := rfl
  rw [this, card_low20 k (by omega)] at h2
  omega
theorem lim_cells : ∀ k, k < 21 → (cellsOf [lowN k, lowN k]).length = k + k := by decide +kernel
theorem lim_first : ∀ k, k < 21 → 1 ≤ k → (cz (cellsOf [lowN k, lowN k])).take 1 = [(0, 0)] := by decide +kernel
theorem best_stay {α : Type} {ind : α → α → Bool} {K : List α} (hd : ∀ a ∈ K, ∀ b ∈ K, ind a b = false) (best : List α) (hb : best.length = 1) : ∀ (n : Nat) (r : List α), (∀ x ∈ r, x ∈ K) → bestE ind n r [] best = best
  | 0, _, _ => rfl
  | n + 1, [], _ => rfl
  | n + 1, d :: r, hr => by
    unfold bestE
    split
    · rfl
    · have hf : r.filter (ind d) = [] := List.filter_eq_nil_iff.2 fun x hx => by rw [hd d (hr d List.mem_cons_self) x (hr x (List.mem_cons_of_mem _ hx))]; simp
      rw [hf, show ∀ m, bestE ind m [] ([] ++ [d]) (pickL best ([] ++ [d])) = pickL best ([] ++ [d]) from fun m => by cases m <;> rfl, pickL_keep (by simp; omega)]
      exact best_stay hd best hb n r fun x hx => hr x (List.mem_cons_of_mem _ hx)
theorem best_dep {α : Type} {ind : α → α → Bool} {K : List α} (hd : ∀ a ∈ K, ∀ b ∈ K, ind a b = false) : bestE ind K.length K [] [] = K.take 1 := by
  match K, hd with
  | [], _ => rfl
  | c :: r, hd =>
    rw [List.length_cons, bestE, if_neg (by simp)]
    have hf : r.filter (ind c) = [] := List.filter_eq_nil_iff.2 fun x hx => by rw [hd c List.mem_cons_self x (List.mem_cons_of_mem _ hx)]; simp
    rw [hf, show ∀ m, bestE ind m [] ([] ++ [c]) (pickL [] ([] ++ [c])) = [c] from fun m => by cases m <;> rfl]
    rw [best_stay hd [c] rfl _ r fun x hx => List.mem_cons_of_mem _ hx]
    rfl
theorem lim_best (h1 : 1 ≤ k) (hk : k ≤ 15) : bestP k [lowN k, lowN k] = [(0, 0)] := by
  unfold bestP
  rw [if_neg (by rw [lim_cells k (by omega)]; omega)]
  unfold searchP
  rw [show pickL ([] : List (Int × Int)) [] = [] from rfl, best_dep, lim_first k (by omega) h1]
  intro a ha b hb
  have key : ∀ c ∈ cz (cellsOf [lowN k, lowN k]), (0 ≤ c.1 ∧ c.1 < 2) ∧ 0 ≤ c.2 ∧ c.2 < k := fun c hc => by
    unfold cz at hc
    obtain ⟨d, hd, rfl⟩ := List.mem_map.1 hc
    obtain ⟨e1, e2⟩ := mem_cellsOf.1 hd
    have h3 : d.1 = 0 ∨ d.1 = 1 := by simp at e1; omega
    have h4 : (lowN k).testBit d.2 = true := by
      rcases h3 with h3 | h3 <;> rw [h3] at e2 <;> exact e2
    rw [testBit_lowN, decide_eq_true_eq] at h4
    dsimp only
    omega
  unfold indep
  rw [lim_mhas (key a ha).1 (key b hb).2, lim_mhas (key b hb).1 (key a ha).2]
  rfl
theorem lim_best_no (h : 15 < k) (hk : k ≤ 20) : bestP k [lowN k, lowN k] = [] := by
  unfold bestP
  rw [if_pos (by rw [lim_cells k (by omega)]; omega)]
end
def limP (j : Nat) : List Nd := [⟨1, 0, j, [1], []⟩, ⟨3, 0, 0, [], []⟩]
def limQ : List Nd := [⟨3, 0, 0, [], []⟩]
theorem limP_form (j : Nat) : firstBad (limP j) = none := by
  unfold firstBad
  rw [List.find?_eq_none]
  intro n hn
  have : n < 2 := List.mem_range.1 hn
  have h2 : n = 0 ∨ n = 1 := by omega
  rcases h2 with rfl | rfl
  · simp [badN, badH, badC, limP, earl]
  · simp [badN, badH, badC, limP, earl]
theorem lim_hasO {k j : Nat} (hj : j < k) : hasO [lowN k, lowN k] 0 (j : Nat) = true := by
  unfold hasO hasB
  simp only [List.length_cons, List.length_nil, Int.toNat_natCast, Bool.and_eq_true, decide_eq_true_eq]
  refine ⟨⟨by omega, by omega⟩, by omega, ?_⟩
  show (lowN k).testBit j = true
  rw [testBit_lowN]; simpa using hj
theorem lim_flaw {k j : Nat} (hj : j < k) (hk : k ≤ 20) : checkP k [lowN k, lowN k] 2 (limP j) = if 12 < k then (4, 0) else (5, 1) := by
  unfold checkP
  rw [if_neg (by simp [limP]), limP_form]
  dsimp only
  rw [if_neg (by decide)]
  have hx : (limP j).getD ((0 : Nat) : Int).toNat default = ⟨1, 0, j, [1], []⟩ := rfl
  rw [show (limP j).length = 1 + 1 from rfl, nodeP, hx]
  dsimp only
  rw [if_neg (by decide), if_neg (by decide), if_neg (by rw [lim_hasO hj]; simp), if_neg (by decide)]
  by_cases h12 : 12 < k
  · rw [if_pos h12, lim_con_no h12 hk, if_pos (.inl rfl)]; rfl
  · rw [if_neg h12, lim_con (by omega) hj, if_neg (by simp)]
    simp only [List.zip_cons_cons, List.zip_nil_right]
    have hn : nodeP k [lowN k, lowN k] (limP j) 1 1 (2 - 1 - 1) (lessO k [lowN k, lowN k] [lowN k, lowN k] (lowN k)) = (5, 1) := by
      rw [nodeP]
      have hx : (limP j).getD (1 : Int).toNat default = ⟨3, 0, 0, [], []⟩ := rfl
      rw [hx]
      dsimp only
      rw [if_neg (by decide), if_pos rfl, if_pos]
      refine .inr ?_
      have hm : ∀ N, minusN N N = 0 := fun N => by unfold minusN; rw [Nat.and_self, Nat.xor_self]
      have hh : ∀ i, i < 2 → (havN k [lowN k, lowN k] (lowN k)).testBit i = true := fun i hi => by
        rw [testBit_havN _ _ (by simp)]
        refine ⟨by simpa using hi, fun x h1 _ => ?_⟩
        have : i = 0 ∨ i = 1 := by omega
        rcases this with rfl | rfl <;> exact h1
      have hs : lessO k [lowN k, lowN k] [lowN k, lowN k] (lowN k) = [0, 0] := by
        have e : ∀ i, i < 2 → (if (havN k [lowN k, lowN k] (lowN k)).testBit i = true then minusN ([lowN k, lowN k].getD i 0) (lowN k) else [lowN k, lowN k].getD i 0) = 0 := fun i hi => by
          rw [if_pos (hh i hi)]
          have h2 : i = 0 ∨ i = 1 := by omega
          rcases h2 with rfl | rfl <;> exact hm _
        unfold lessO
        show List.map _ [0, 1] = _
        rw [List.map_cons, List.map_cons, List.map_nil, e 0 (by omega), e 1 (by omega)]
      rw [hs, show sumO [0, 0] [0, 0].length = 0 by decide]
      simp
    rw [kidsF, hn]
    simp
theorem lim_count {k : Nat} (h1 : 1 ≤ k) (hk : k ≤ 20) : checkP k [lowN k, lowN k] 1 limQ = if 12 < k then (5, 0) else (1, 0) := by
  unfold checkP
  have hf : firstBad limQ = none := by decide +kernel
  rw [if_neg (by simp [limQ]), hf]
  dsimp only
  rw [if_neg (by decide), show limQ.length = 0 + 1 from rfl, nodeP]
  have hx : limQ.getD ((0 : Nat) : Int).toNat default = ⟨3, 0, 0, [], []⟩ := rfl
  rw [hx]
  dsimp only
  rw [if_neg (by decide), if_pos rfl]
  by_cases h12 : 12 < k
  · rw [if_pos (.inl h12), if_pos h12]; rfl
  · rw [if_neg h12, if_neg]
    rintro (h | h)
    · exact h12 h
    · have : sumO [lowN k, lowN k] [lowN k, lowN k].length = k + k := by
        rw [sumO_all]
        exact lim_cells k (by omega)
      rw [this] at h
      rw [show (1 : Int) - 1 = 0 from rfl, Int.zero_mul] at h
      omega
theorem lim_rows (k : Nat) : rowsIn k [lowN k, lowN k] := by
  intro i hi
  have : i = 0 ∨ i = 1 := by simp at hi; omega
  rcases this with rfl | rfl
  · exact Nat.and_self _
  · exact Nat.and_self _
end Go.Proofs.YtlehoomnddcblaaDoor
