import Derived.Test.YthkjigggfeejdaaDoorMig10
namespace Go.Proofs.YthkjigggfeejdaaDoor
open Go.RowKit

/-! The plan, moment by moment, in plain words. -/
def uAt (u : Nat → Nat → Bool) (l : List (Nat × Nat × Nat)) (i r : Nat) : Bool := if (1, i, r) ∈ l then true else if (2, i, r) ∈ l then false else u i r
def pAt (p : Nat → Nat → Bool) (l : List (Nat × Nat × Nat)) (i r : Nat) : Bool := if (3, i, r) ∈ l then true else if (4, i, r) ∈ l then false else p i r
theorem mem_difM {kd C : Nat} {M P : List (List Bool)} {n k i j : Nat} : (k, i, j) ∈ difM kd C M P n ↔ k = kd ∧ i < n ∧ j < C ∧ mget P i j = true ∧ mget M i j = false := by
  unfold difM dRow
  simp only [List.mem_flatMap, List.mem_map, List.mem_filter, List.mem_range, Prod.mk.injEq, Bool.and_eq_true, Bool.not_eq_true']
  constructor
  · rintro ⟨a, ha, b, ⟨hb, h1, h2⟩, rfl, rfl, rfl⟩
    exact ⟨rfl, ha, hb, h1, h2⟩
  · rintro ⟨rfl, ha, hb, h1, h2⟩
    exact ⟨i, ha, j, ⟨hb, h1, h2⟩, rfl, rfl, rfl⟩
theorem nodup_difM (kd C : Nat) (M P : List (List Bool)) (n : Nat) : (difM kd C M P n).Nodup := by
  unfold difM List.Nodup
  rw [List.pairwise_flatMap]
  constructor
  · intro i _
    rw [List.pairwise_map]
    have h : (dRow C M P i).Nodup := by unfold dRow; exact List.nodup_range.filter _
    exact h.imp fun hab e => hab (by simpa using e)
  · refine (List.nodup_range (n := n)).imp fun {a b} hab => ?_
    intro x hx y hy e
    subst e
    obtain ⟨j, _, rfl⟩ := List.mem_map.1 hx
    obtain ⟨j', _, e⟩ := List.mem_map.1 hy
    simp at e
    exact hab e.1.symm
/-- Both configurations stand over the same n roles; each role is the same in both, or one of the old one's, or one of the new one's. -/
structure Ali (R n D : Nat) (U P U' P' : List (List Bool)) : Prop where
  wU : Wide n U
  wP : Wide D P
  wU' : Wide n U'
  wP' : Wide D P'
  lU : U.length = R
  lP : P.length = n
  lU' : U'.length = R
  lP' : P'.length = n
  ali : ∀ r, r < n → (∀ j, j < D → mget P r j = mget P' r j) ∨ ((∀ i, i < R → mget U' i r = false) ∧ ∀ j, j < D → mget P' r j = false) ∨ ((∀ i, i < R → mget U i r = false) ∧ ∀ j, j < D → mget P r j = false)
section
variable {R n D : Nat} {U P U' P' : List (List Bool)}
theorem Ali.mem (h : Ali R n D U P U' P') {k x y : Nat} : (k, x, y) ∈ planOf n D U P U' P' ↔
    (k = 1 ∧ x < R ∧ y < n ∧ mget U' x y = true ∧ mget U x y = false) ∨ (k = 2 ∧ x < R ∧ y < n ∧ mget U' x y = false ∧ mget U x y = true) ∨
    (k = 3 ∧ x < n ∧ y < D ∧ mget P' x y = true ∧ mget P x y = false) ∨ (k = 4 ∧ x < n ∧ y < D ∧ mget P' x y = false ∧ mget P x y = true) := by
  unfold planOf
  rw [List.mem_append, List.mem_append, List.mem_append, mem_difM, mem_difM, mem_difM, mem_difM, h.lU, h.lP, h.lU', h.lP']
  constructor
  · rintro (((⟨rfl, h1, h2, h3, h4⟩ | ⟨rfl, h1, h2, h3, h4⟩) | ⟨rfl, h1, h2, h3, h4⟩) | ⟨rfl, h1, h2, h3, h4⟩) <;> simp_all
  · rintro (⟨rfl, h1, h2, h3, h4⟩ | ⟨rfl, h1, h2, h3, h4⟩ | ⟨rfl, h1, h2, h3, h4⟩ | ⟨rfl, h1, h2, h3, h4⟩) <;> simp_all
theorem plan_nodup : (planOf n D U P U' P').Nodup := by
  have key : ∀ {l m : List (Nat × Nat × Nat)} (K : Nat → Prop) (a : Nat), l.Nodup → m.Nodup → (∀ s ∈ l, K s.1) → (∀ s ∈ m, s.1 = a) → ¬ K a → (l ++ m).Nodup := by
    intro l m K a hl hm h1 h2 hK
    rw [List.nodup_append]
    exact ⟨hl, hm, fun s hs t ht e => hK (by rw [← h2 t ht, ← e]; exact h1 s hs)⟩
  have kd : ∀ {kd C : Nat} {M P : List (List Bool)} {q : Nat}, ∀ s ∈ difM kd C M P q, s.1 = kd := by
    intro kd C M P q s hs
    obtain ⟨k, i, j⟩ := s
    exact (mem_difM.1 hs).1
  unfold planOf
  refine key (fun k => k = 3 ∨ k = 1 ∨ k = 2) 4 (key (fun k => k = 3 ∨ k = 1) 2 (key (fun k => k = 3) 1 (nodup_difM _ _ _ _ _) (nodup_difM _ _ _ _ _) kd kd (by decide)) (nodup_difM _ _ _ _ _) ?_ kd (by decide)) (nodup_difM _ _ _ _ _) ?_ kd (by decide)
  · intro s hs
    rcases List.mem_append.1 hs with h | h
    · exact Or.inl (kd s h)
    · exact Or.inr (kd s h)
  · intro s hs
    rcases List.mem_append.1 hs with h | h
    · rcases List.mem_append.1 h with h | h
      · exact Or.inl (kd s h)
      · exact Or.inr (Or.inl (kd s h))
    · exact Or.inr (Or.inr (kd s h))
/-- The configuration behind the first k steps. -/
def momU (R n D : Nat) (U P U' P' : List (List Bool)) (k : Nat) : List (List Bool) := mat R n (uAt (mget U) ((planOf n D U P U' P').take k))
def momP (n D : Nat) (U P U' P' : List (List Bool)) (k : Nat) : List (List Bool) := mat n D (pAt (mget P) ((planOf n D U P U' P').take k))
theorem prod_iff {M P : List (List Bool)} {K i j : Nat} : prodF M P K i j = true ↔ ∃ r, r < K ∧ mget M i r = true ∧ mget P r j = true := by
  unfold prodF anyTo
  simp [List.any_eq_true]
theorem Ali.mom0 (h : Ali R n D U P U' P') : momU R n D U P U' P' 0 = U ∧ momP n D U P U' P' 0 = P := by
  unfold momU momP
  constructor
  · rw [List.take_zero]
    have : uAt (mget U) [] = mget U := by funext i r; simp [uAt]
    rw [this, ← h.lU]; exact mat_self h.wU
  · rw [List.take_zero]
    have : pAt (mget P) [] = mget P := by funext i r; simp [pAt]
    rw [this, ← h.lP]; exact mat_self h.wP
/-- Each step of the plan can be made, and leads to the next moment. -/
theorem Ali.step (h : Ali R n D U P U' P') {k : Nat} {s : Nat × Nat × Nat} (hs : (planOf n D U P U' P')[k]? = some s) :
    stepE n D (momU R n D U P U' P' k) (momP n D U P U' P' k) s.1 s.2.1 s.2.2 = 0 ∧ stepU n (momU R n D U P U' P' k) s.1 s.2.1 s.2.2 = momU R n D U P U' P' (k + 1) ∧ stepP D (momP n D U P U' P' k) s.1 s.2.1 s.2.2 = momP n D U P U' P' (k + 1) := by
  obtain ⟨kd, x, y⟩ := s
  dsimp only
  have hlt := (List.getElem?_eq_some_iff.1 hs).1
  have hT : (planOf n D U P U' P').take (k + 1) = (planOf n D U P U' P').take k ++ [(kd, x, y)] := by
    rw [List.take_add_one, hs]; rfl
  have hN : (kd, x, y) ∉ (planOf n D U P U' P').take k := by
    have hn : ((planOf n D U P U' P').take (k + 1)).Nodup := plan_nodup.sublist (List.take_sublist _ _)
    rw [hT, List.nodup_append] at hn
    exact fun hm => hn.2.2 _ hm _ (by simp) rfl
  have hsub : ∀ t, t ∈ (planOf n D U P U' P').take k → t ∈ planOf n D U P U' P' := fun t ht => List.mem_of_mem_take ht
  have hmem := h.mem.1 (List.mem_of_getElem? hs)
  have n1 : kd = 1 → (2, x, y) ∉ (planOf n D U P U' P').take k := fun e hm => by
    have := h.mem.1 (hsub _ hm); subst e; simp_all
  have n2 : kd = 2 → (1, x, y) ∉ (planOf n D U P U' P').take k := fun e hm => by
    have := h.mem.1 (hsub _ hm); subst e; simp_all
  have n3 : kd = 3 → (4, x, y) ∉ (planOf n D U P U' P').take k := fun e hm => by
    have := h.mem.1 (hsub _ hm); subst e; simp_all
  have n4 : kd = 4 → (3, x, y) ∉ (planOf n D U P U' P').take k := fun e hm => by
    have := h.mem.1 (hsub _ hm); subst e; simp_all
  unfold momU momP
  rw [hT]
  obtain ⟨l, hl⟩ : ∃ l, l = (planOf n D U P U' P').take k := ⟨_, rfl⟩
  rw [← hl] at hN n1 n2 n3 n4 ⊢
  clear hT hl hsub hs hlt
  have eU : ∀ {v : Bool}, (kd = 1 ∧ v = true) ∨ (kd = 2 ∧ v = false) → mat R n (withF (mat R n (uAt (mget U) l)) x y v) = mat R n (uAt (mget U) (l ++ [(kd, x, y)])) := by
    intro v hv
    refine mat_congr fun i hi j hj => ?_
    unfold withF
    rw [mat_get hi hj]
    unfold uAt
    by_cases e : i = x ∧ j = y
    · obtain ⟨rfl, rfl⟩ := e
      rcases hv with ⟨rfl, rfl⟩ | ⟨rfl, rfl⟩
      · simp
      · simp [n2 rfl]
    · rw [if_neg e]
      have : ∀ q, ((q, i, j) ∈ l ++ [(kd, x, y)]) = ((q, i, j) ∈ l) := fun q => by
        rw [List.mem_append]
        simp only [List.mem_singleton, Prod.mk.injEq, eq_iff_iff]
        exact ⟨fun h => h.elim id fun h => absurd h.2 e, Or.inl⟩
      simp only [this]
  have eP : ∀ {v : Bool}, (kd = 3 ∧ v = true) ∨ (kd = 4 ∧ v = false) → mat n D (withF (mat n D (pAt (mget P) l)) x y v) = mat n D (pAt (mget P) (l ++ [(kd, x, y)])) := by
    intro v hv
    refine mat_congr fun i hi j hj => ?_
    unfold withF
    rw [mat_get hi hj]
    unfold pAt
    by_cases e : i = x ∧ j = y
    · obtain ⟨rfl, rfl⟩ := e
      rcases hv with ⟨rfl, rfl⟩ | ⟨rfl, rfl⟩
      · simp
      · simp [n4 rfl]
    · rw [if_neg e]
      have : ∀ q, ((q, i, j) ∈ l ++ [(kd, x, y)]) = ((q, i, j) ∈ l) := fun q => by
        rw [List.mem_append]
        simp only [List.mem_singleton, Prod.mk.injEq, eq_iff_iff]
        exact ⟨fun h => h.elim id fun h => absurd h.2 e, Or.inl⟩
      simp only [this]
  have fU : 3 ≤ kd → uAt (mget U) (l ++ [(kd, x, y)]) = uAt (mget U) l := fun hk => by
    funext i r
    unfold uAt
    have : ∀ q, q ≤ 2 → ((q, i, r) ∈ l ++ [(kd, x, y)]) = ((q, i, r) ∈ l) := fun q hq => by
      rw [List.mem_append]
      simp only [List.mem_singleton, Prod.mk.injEq, eq_iff_iff]
      exact ⟨fun h => h.elim id fun h => by omega, Or.inl⟩
    simp only [this 1 (by omega), this 2 (by omega)]
  have fP : kd ≤ 2 → pAt (mget P) (l ++ [(kd, x, y)]) = pAt (mget P) l := fun hk => by
    funext i r
    unfold pAt
    have : ∀ q, 3 ≤ q → ((q, i, r) ∈ l ++ [(kd, x, y)]) = ((q, i, r) ∈ l) := fun q hq => by
      rw [List.mem_append]
      simp only [List.mem_singleton, Prod.mk.injEq, eq_iff_iff]
      exact ⟨fun h => h.elim id fun h => by omega, Or.inl⟩
    simp only [this 3 (by omega), this 4 (by omega)]
  have hin : ∀ {A B : Nat}, x < A → y < B → insideB A B (x : Int) (y : Int) = true := fun h1 h2 => by unfold insideB; simp; omega
  unfold stepE stepU stepP
  rcases hmem with ⟨rfl, h1, h2, h3, h4⟩ | ⟨rfl, h1, h2, h3, h4⟩ | ⟨rfl, h1, h2, h3, h4⟩ | ⟨rfl, h1, h2, h3, h4⟩
  · refine ⟨?_, ?_, ?_⟩
    · have : uAt (mget U) l x y = false := by unfold uAt; rw [if_neg hN, if_neg (n1 rfl)]; exact h4
      simp [mat_len, hin h1 h2, mat_get h1 h2, this, oneK]
    · rw [if_pos (by omega), mat_len, Int.toNat_natCast, Int.toNat_natCast]; exact eU (Or.inl ⟨rfl, rfl⟩)
    · rw [if_pos (by omega), fP (by omega)]
  · refine ⟨?_, ?_, ?_⟩
    · have : uAt (mget U) l x y = true := by unfold uAt; rw [if_neg (n2 rfl), if_neg hN]; exact h4
      simp [mat_len, hin h1 h2, mat_get h1 h2, this, oneK]
    · rw [if_pos (by omega), mat_len, Int.toNat_natCast, Int.toNat_natCast]; exact eU (Or.inr ⟨rfl, rfl⟩)
    · rw [if_pos (by omega), fP (by omega)]
  · refine ⟨?_, ?_, ?_⟩
    · have : pAt (mget P) l x y = false := by unfold pAt; rw [if_neg hN, if_neg (n3 rfl)]; exact h4
      simp [mat_len, hin h1 h2, mat_get h1 h2, this, oneK]
    · rw [if_neg (by omega), fU (by omega)]
    · rw [if_neg (by omega), mat_len, Int.toNat_natCast, Int.toNat_natCast]; exact eP (Or.inl ⟨rfl, rfl⟩)
  · refine ⟨?_, ?_, ?_⟩
    · have : pAt (mget P) l x y = true := by unfold pAt; rw [if_neg (n4 rfl), if_neg hN]; exact h4
      simp [mat_len, hin h1 h2, mat_get h1 h2, this, oneK]
    · rw [if_neg (by omega), fU (by omega)]
    · rw [if_neg (by omega), mat_len, Int.toNat_natCast, Int.toNat_natCast]; exact eP (Or.inr ⟨rfl, rfl⟩)
/-- Behind all steps the new configuration stands. -/
theorem Ali.end_ (h : Ali R n D U P U' P') : momU R n D U P U' P' (planOf n D U P U' P').length = U' ∧ momP n D U P U' P' (planOf n D U P U' P').length = P' := by
  unfold momU momP
  rw [List.take_length]
  constructor
  · refine Eq.trans ?_ (mat_self h.wU')
    rw [h.lU']
    refine mat_congr fun i hi j hj => ?_
    unfold uAt
    by_cases h1 : (1, i, j) ∈ planOf n D U P U' P'
    · rw [if_pos h1]; have := h.mem.1 h1; simp_all
    · rw [if_neg h1]
      by_cases h2 : (2, i, j) ∈ planOf n D U P U' P'
      · rw [if_pos h2]; have := h.mem.1 h2; simp_all
      · rw [if_neg h2]
        rw [h.mem] at h1 h2
        cases e : mget U i j <;> cases e' : mget U' i j <;> simp_all
  · refine Eq.trans ?_ (mat_self h.wP')
    rw [h.lP']
    refine mat_congr fun i hi j hj => ?_
    unfold pAt
    by_cases h1 : (3, i, j) ∈ planOf n D U P U' P'
    · rw [if_pos h1]; have := h.mem.1 h1; simp_all
    · rw [if_neg h1]
      by_cases h2 : (4, i, j) ∈ planOf n D U P U' P'
      · rw [if_pos h2]; have := h.mem.1 h2; simp_all
      · rw [if_neg h2]
        rw [h.mem] at h1 h2
        cases e : mget P i j <;> cases e' : mget P' i j <;> simp_all
/-- Ahead of the end the new configuration does not stand yet. -/
theorem Ali.unfin (h : Ali R n D U P U' P') {k : Nat} (hk : k < (planOf n D U P U' P').length) : ¬ (momU R n D U P U' P' k = U' ∧ momP n D U P U' P' k = P') := by
  rintro ⟨hU, hP⟩
  obtain ⟨s, hs⟩ : ∃ s, (planOf n D U P U' P')[k]? = some s := ⟨_, List.getElem?_eq_getElem hk⟩
  obtain ⟨h0, h1, h2⟩ := h.step hs
  obtain ⟨kd, x, y⟩ := s
  dsimp only at h0 h1 h2
  rw [hU, hP] at h0
  have hmem := h.mem.1 (List.mem_of_getElem? hs)
  unfold stepE at h0
  rcases hmem with ⟨rfl, a1, a2, a3, a4⟩ | ⟨rfl, a1, a2, a3, a4⟩ | ⟨rfl, a1, a2, a3, a4⟩ | ⟨rfl, a1, a2, a3, a4⟩ <;>
    simp [oneK, a3] at h0 <;> (split at h0 <;> simp at h0)
theorem Ali.upper (h : Ali R n D U P U' P') (k : Nat) : subM D (accM n D (momU R n D U P U' P' k) (momP n D U P U' P' k)) (mat R D (orF (accM n D U P) (accM n D U' P'))) := by
  intro i hi j hj ha
  have hi : i < R := by rw [accM, mat_len, momU, mat_len] at hi; exact hi
  rw [accM, mat_get (by rw [momU, mat_len]; exact hi) hj, prod_iff] at ha
  obtain ⟨r, hr, h1, h2⟩ := ha
  rw [momU, mat_get hi hr] at h1
  rw [momP, mat_get hr hj] at h2
  have u1 : mget U i r = true ∨ mget U' i r = true := by
    unfold uAt at h1
    split at h1
    · rename_i hm; have := h.mem.1 (List.mem_of_mem_take hm); simp_all
    · split at h1
      · cases h1
      · exact Or.inl h1
  have p1 : mget P r j = true ∨ mget P' r j = true := by
    unfold pAt at h2
    split at h2
    · rename_i hm; have := h.mem.1 (List.mem_of_mem_take hm); simp_all
    · split at h2
      · cases h2
      · exact Or.inl h2
  rw [mat_get hi hj]
  unfold orF accM
  rw [mat_get (by rw [h.lU]; exact hi) hj, mat_get (by rw [h.lU']; exact hi) hj, Bool.or_eq_true, prod_iff, prod_iff]
  rcases h.ali r hr with e | ⟨e1, e2⟩ | ⟨e1, e2⟩
  · have := e j hj
    rcases u1 with u | u
    · exact Or.inl ⟨r, hr, u, by rcases p1 with p | p <;> simp_all⟩
    · exact Or.inr ⟨r, hr, u, by rcases p1 with p | p <;> simp_all⟩
  · have := e1 i hi; have := e2 j hj
    exact Or.inl ⟨r, hr, by simp_all, by simp_all⟩
  · have := e1 i hi; have := e2 j hj
    exact Or.inr ⟨r, hr, by simp_all, by simp_all⟩
theorem Ali.lower (h : Ali R n D U P U' P') (k : Nat) : subM D (mat R D (andF (accM n D U P) (accM n D U' P'))) (accM n D (momU R n D U P U' P' k) (momP n D U P U' P' k)) := by
  intro i hi j hj ha
  have hi : i < R := by rw [mat_len] at hi; exact hi
  rw [mat_get hi hj] at ha
  unfold andF accM at ha
  rw [mat_get (by rw [h.lU]; exact hi) hj, mat_get (by rw [h.lU']; exact hi) hj, Bool.and_eq_true, prod_iff, prod_iff] at ha
  rw [accM, mat_get (by rw [momU, mat_len]; exact hi) hj, prod_iff]
  obtain ⟨⟨r, hr, u1, p1⟩, ⟨r', hr', u2, p2⟩⟩ := ha
  have e : planOf n D U P U' P' = (difM 3 D P P' P'.length ++ difM 1 n U U' U'.length) ++ (difM 2 n U' U U.length ++ difM 4 D P' P P.length) := by unfold planOf; simp
  rcases Nat.le_total k (difM 3 D P P' P'.length ++ difM 1 n U U' U'.length).length with hk | hk
  · have hno : ∀ t ∈ (planOf n D U P U' P').take k, t.1 = 3 ∨ t.1 = 1 := by
      intro t ht
      rw [e, List.take_append_of_le_length hk] at ht
      obtain ⟨q, x, y⟩ := t
      rcases List.mem_append.1 (List.mem_of_mem_take ht) with h | h
      · exact Or.inl (mem_difM.1 h).1
      · exact Or.inr (mem_difM.1 h).1
    refine ⟨r, hr, ?_, ?_⟩
    · rw [momU, mat_get hi hr]; unfold uAt
      split
      · rfl
      · rw [if_neg (fun hm => by have := hno _ hm; simp at this)]; exact u1
    · rw [momP, mat_get hr hj]; unfold pAt
      split
      · rfl
      · rw [if_neg (fun hm => by have := hno _ hm; simp at this)]; exact p1
  · have hall : ∀ t, t ∈ difM 3 D P P' P'.length ++ difM 1 n U U' U'.length → t ∈ (planOf n D U P U' P').take k := by
      intro t ht
      rw [e, List.take_append, List.take_of_length_le hk]
      exact List.mem_append_left _ ht
    refine ⟨r', hr', ?_, ?_⟩
    · rw [momU, mat_get hi hr']; unfold uAt
      split
      · rfl
      · rename_i hn1
        rw [if_neg (fun hm => by have := h.mem.1 (List.mem_of_mem_take hm); simp_all)]
        cases e2 : mget U i r'
        · exact absurd (hall _ (List.mem_append_right _ (mem_difM.2 ⟨rfl, by rw [h.lU']; exact hi, hr', u2, e2⟩))) hn1
        · rfl
    · rw [momP, mat_get hr' hj]; unfold pAt
      split
      · rfl
      · rename_i hn1
        rw [if_neg (fun hm => by have := h.mem.1 (List.mem_of_mem_take hm); simp_all)]
        cases e2 : mget P r' j
        · exact absurd (hall _ (List.mem_append_left _ (mem_difM.2 ⟨rfl, by rw [h.lP']; exact hr', hj, p2, e2⟩))) hn1
        · rfl
/-- Steps with natural numbers as steps with any. -/
def zst (l : List (Nat × Nat × Nat)) : List (Nat × Int × Int) := l.map fun s => (s.1, (s.2.1 : Int), (s.2.2 : Int))
theorem cellsZ_zst (l : List (Nat × Nat × Nat)) : cellsZ (zst l) = cellsS l := by
  induction l with
  | nil => rfl
  | cons s l ih => show _ ++ cellsZ (zst l) = _ ++ cellsS l; rw [ih]
theorem zst_len (l : List (Nat × Nat × Nat)) : (zst l).length = l.length := by simp [zst]
/-- The plan's first c steps: no flaw ahead of the end. -/
theorem Ali.ver (h : Ali R n D U P U' P') {c : Nat} (hc : c ≤ (planOf n D U P U' P').length) : ∀ (d k : Nat), k + d = c →
    verR n D (mat R D (orF (accM n D U P) (accM n D U' P'))) (mat R D (andF (accM n D U P) (accM n D U' P'))) U' P' k (zst (((planOf n D U P U' P').take c).drop k)) (momU R n D U P U' P' k) (momP n D U P U' P' k) = (if c = (planOf n D U P U' P').length then 1 else 5, c)
  | 0, k, e => by
    obtain rfl : k = c := by omega
    rw [List.drop_of_length_le (by rw [List.length_take]; omega)]
    show verR _ _ _ _ _ _ _ [] _ _ = _
    rw [verR]
    by_cases e : k = (planOf n D U P U' P').length
    · rw [if_pos (by rw [e]; exact h.end_), if_pos e]
    · rw [if_neg (h.unfin (by omega)), if_neg e]
  | d + 1, k, e => by
    have hk : k < (planOf n D U P U' P').length := by omega
    obtain ⟨s, hs⟩ : ∃ s, (planOf n D U P U' P')[k]? = some s := ⟨_, List.getElem?_eq_getElem hk⟩
    have hd : ((planOf n D U P U' P').take c).drop k = s :: ((planOf n D U P U' P').take c).drop (k + 1) := by
      have hl : k < ((planOf n D U P U' P').take c).length := by rw [List.length_take]; omega
      rw [List.drop_eq_getElem_cons hl, List.getElem_take]
      have := (List.getElem?_eq_some_iff.1 hs).2
      rw [this]
    obtain ⟨h0, h1, h2⟩ := h.step hs
    rw [hd]
    show verR _ _ _ _ _ _ _ ((s.1, (s.2.1 : Int), (s.2.2 : Int)) :: zst _) _ _ = _
    rw [verR]
    dsimp only
    rw [if_neg (by rw [h0]; simp), h1, h2, if_neg (by simpa using h.upper (k + 1)), if_neg (by simpa using h.lower (k + 1))]
    exact h.ver hc d (k + 1) (by omega)
theorem Ali.verOf_take (h : Ali R n D U P U' P') {c : Nat} (hc : c ≤ (planOf n D U P U' P').length) : verOf n D U P U' P' (zst ((planOf n D U P U' P').take c)) = (if c = (planOf n D U P U' P').length then 1 else 5, c) := by
  have := h.ver hc c 0 (by omega)
  rw [List.drop_zero, h.mom0.1, h.mom0.2] at this
  unfold verOf
  rw [h.lU]
  exact this
end
/-! The joint configurations are such. -/
theorem nums_same (P Q : List (List Bool)) : ∀ (r k x : Nat), (nums P Q r).1[k]? = some x → x < P.length → P.getD x [] = Q.getD k []
  | 0, k, x, h, _ => by simp [nums] at h
  | r + 1, k, x, h, hx => by
    have hb := (nums_bd P Q r).1
    have ih := nums_same P Q r k x
    have hlow := nums_lt P Q r
    rw [nums, nStep] at h
    have hk : k < r ∨ k = r := by
      have : k < r + 1 := by
        have := (List.getElem?_eq_some_iff.1 h).1
        revert this
        cases fk (nums P Q r).1 P Q r P.length <;> simp <;> omega
      omega
    cases hf : fk (nums P Q r).1 P Q r P.length with
    | none =>
      rw [hf] at h
      dsimp only at h
      rcases hk with hk | rfl
      · rw [List.getElem?_append_left (by omega)] at h; exact ih h hx
      · rw [List.getElem?_append_right (by omega), hb, Nat.sub_self] at h
        simp at h
        have := hlow.1
        omega
    | some q =>
      rw [hf] at h
      dsimp only at h
      rcases hk with hk | rfl
      · rw [List.getElem?_append_left (by omega)] at h; exact ih h hx
      · rw [List.getElem?_append_right (by omega), hb, Nat.sub_self] at h
        simp at h
        subst h
        have := List.find?_some hf
        unfold pk at this
        simp at this
        simpa using this.2
theorem jl_same (P Q : List (List Bool)) {k x : Nat} (h : (jl P Q)[k]? = some x) (hx : x < P.length) : P.getD x [] = Q.getD k [] := nums_same P Q Q.length k x h hx
theorem joint_ali (R D : Nat) (M P M' P' : List (List Bool)) (hM : M.length = R) (hM' : M'.length = R) :
    Ali R (jn P P') D (jU (jn P P') (List.range P.length) M) (jP (jn P P') D (List.range P.length) P) (jU (jn P P') (jl P P') M') (jP (jn P P') D (jl P P') P') := by
  subst hM
  refine ⟨mat_wide _ _ _, mat_wide _ _ _, mat_wide _ _ _, mat_wide _ _ _, mat_len _ _ _, mat_len _ _ _, by rw [jU, mat_len, hM'], mat_len _ _ _, ?_⟩
  intro r hr
  have oU : ∀ i, i < M.length → mget (jU (jn P P') (List.range P.length) M) i r = (decide (r < P.length) && mget M i r) := fun i hi => by
    rw [jU, mat_get hi hr, ovU, Bool.eq_iff_iff]
    simp only [List.any_eq_true, List.mem_range, Bool.and_eq_true, decide_eq_true_eq, List.length_range]
    constructor
    · rintro ⟨k, hk, e, hm⟩
      have : (List.range P.length).getD k 0 = k := by simp [List.getD_eq_getElem?_getD, hk]
      rw [this] at e; subst e; exact ⟨hk, hm⟩
    · rintro ⟨hk, hm⟩
      exact ⟨r, hk, by simp [List.getD_eq_getElem?_getD, hk], hm⟩
  have oP : ∀ j, j < D → mget (jP (jn P P') D (List.range P.length) P) r j = (decide (r < P.length) && mget P r j) := fun j hj => by
    rw [jP, mat_get hr hj, ovP, Bool.eq_iff_iff]
    simp only [List.any_eq_true, List.mem_range, Bool.and_eq_true, decide_eq_true_eq, List.length_range]
    constructor
    · rintro ⟨k, hk, e, hm⟩
      have : (List.range P.length).getD k 0 = k := by simp [List.getD_eq_getElem?_getD, hk]
      rw [this] at e; subst e; exact ⟨hk, hm⟩
    · rintro ⟨hk, hm⟩
      exact ⟨r, hk, by simp [List.getD_eq_getElem?_getD, hk], hm⟩
  by_cases h1 : r < P.length
  · by_cases h2 : ∃ k : Nat, (jl P P')[k]? = some r
    · obtain ⟨k, hk⟩ := h2
      left
      intro j hj
      have hkl := (List.getElem?_eq_some_iff.1 hk).1
      rw [oP j hj, jP, mat_get hr hj, ovP, Bool.eq_iff_iff]
      have hs := jl_same P P' hk h1
      have hg : mget P r j = mget P' k j := by unfold mget; rw [hs]
      simp only [List.any_eq_true, List.mem_range, Bool.and_eq_true, decide_eq_true_eq]
      constructor
      · rintro ⟨_, hm⟩
        exact ⟨k, hkl, by rw [List.getD_eq_getElem?_getD, hk]; rfl, by rw [← hg]; exact hm⟩
      · rintro ⟨k', hk', e, hm⟩
        have hk2 : (jl P P')[k']? = some r := by
          rw [List.getElem?_eq_getElem hk']
          rw [List.getD_eq_getElem?_getD, List.getElem?_eq_getElem hk'] at e
          exact congrArg some e
        have hs2 := jl_same P P' hk2 h1
        refine ⟨h1, ?_⟩
        have : mget P r j = mget P' k' j := by unfold mget; rw [hs2]
        rw [this]; exact hm
    · right; left
      have hno : ∀ k, k < (jl P P').length → (jl P P').getD k 0 ≠ r := fun k hk e => h2 ⟨k, show (jl P P')[k]? = some r by
        rw [List.getElem?_eq_getElem hk]
        rw [List.getD_eq_getElem?_getD, List.getElem?_eq_getElem hk] at e
        exact congrArg some e⟩
      constructor
      · intro i hi
        rw [jU, mat_get (by omega) hr, ovU, Bool.eq_false_iff]
        simp only [ne_eq, List.any_eq_true, List.mem_range, Bool.and_eq_true, decide_eq_true_eq, not_exists, not_and]
        exact fun k hk e => absurd e (hno k hk)
      · intro j hj
        rw [jP, mat_get hr hj, ovP, Bool.eq_false_iff]
        simp only [ne_eq, List.any_eq_true, List.mem_range, Bool.and_eq_true, decide_eq_true_eq, not_exists, not_and]
        exact fun k hk e => absurd e (hno k hk)
  · right; right
    exact ⟨fun i hi => by rw [oU i hi]; simp [h1], fun j hj => by rw [oP j hj]; simp [h1]⟩
/-- The plan's first c steps, verified. -/
theorem verJ_take (D : Nat) (M P M' P' : List (List Bool)) (hl : M.length = M'.length) {c : Nat} (hc : c ≤ (planJ D M P M' P').length) : verJ D M P M' P' (zst ((planJ D M P M' P').take c)) = (if c = (planJ D M P M' P').length then 1 else 5, c) := by
  unfold verJ
  exact (joint_ali M.length D M P M' P' rfl hl.symm).verOf_take hc
theorem verJ_plan (D : Nat) (M P M' P' : List (List Bool)) (hl : M.length = M'.length) : verJ D M P M' P' (zst (planJ D M P M' P')) = (1, (planJ D M P M' P').length) := by
  have := verJ_take D M P M' P' hl (Nat.le_refl _)
  rwa [List.take_length, if_pos rfl] at this
end Go.Proofs.YthkjigggfeejdaaDoor
