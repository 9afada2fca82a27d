import Derived.Test.YtfbkcdhmggjbaaaGreatDoorCxS4
import Derived.Test.YtfbkcdhmggjbaaaGreatDoorCvR
/-
  For the law CoverNeeds: roles read back, one user less, greedy roles.
-/
namespace Go.Proofs.YtfbkcdhmggjbaaaGreatDoor
open Go.RowKit
section
variable {C : Nat} {Ns : List Nat}
theorem LeQ.clr2 {L M : List (Nat × Nat)} (h : LeQ L M) (r i : Nat) : LeQ (clrQ L r i) (clrQ M r i) := by
  refine ⟨by rw [clrQ_len, clrQ_len, h.1], fun k => ⟨fun x hx => ?_, by rw [clrQ_2, clrQ_2]; exact (h.2 k).2⟩⟩
  by_cases hr : r < L.length
  · rw [clrQ_1 _ _ _ _ _ hr, Bool.and_eq_true] at hx
    rw [clrQ_1 _ _ _ _ _ (by rw [← h.1]; exact hr), Bool.and_eq_true]
    exact ⟨(h.2 k).1 x hx.1, hx.2⟩
  · have e1 : clrQ L r i = L := by unfold clrQ; rw [List.set_eq_of_length_le (by omega)]
    have e2 : clrQ M r i = M := by unfold clrQ; rw [List.set_eq_of_length_le (by rw [← h.1]; omega)]
    rw [e1] at hx; rw [e2]; exact (h.2 k).1 x hx
/-- Taking away in the other order. -/
theorem erase_erase {L : List (Nat × Nat)} {n j : Nat} (h : n ≤ j) : (L.eraseIdx n).eraseIdx j = (L.eraseIdx (j + 1)).eraseIdx n := by
  apply List.ext_getElem?
  intro k
  rw [List.getElem?_eraseIdx, List.getElem?_eraseIdx, List.getElem?_eraseIdx, List.getElem?_eraseIdx, List.getElem?_eraseIdx, List.getElem?_eraseIdx]
  repeat' split
  all_goals first | rfl | omega
/-- Less than what is not enough is not enough. -/
theorem not_mono {L M K : List (Nat × Nat)} (hL : L.length ≤ 4096) (hM : M.length ≤ 4096) (hK : K.length ≤ 4096) (hok : validQ C Ns K = true) (h : SubQ L M) (h' : SubQ M K) (hn : validQ C Ns M = false) : validQ C Ns L = false := by
  rw [Bool.eq_false_iff] at hn ⊢
  intro hl
  refine hn ((validQ_iff hM).2 fun i hi j => ⟨fun g => ((validQ_iff hK).1 hok i hi j).1 (h' i j g), fun g => h i j (((validQ_iff hL).1 hl i hi j).2 g)⟩)
/-- No role of the rest can be removed. -/
theorem simA_fix : ∀ (n : Nat) (L : List (Nat × Nat)), L.length ≤ 4096 → validQ C Ns L = true → n ≤ L.length → (∀ j, n ≤ j → j < L.length → validQ C Ns (L.eraseIdx j) = false) → ∀ j, j < (simA (validQ C Ns) n L).length → validQ C Ns ((simA (validQ C Ns) n L).eraseIdx j) = false
  | 0, L, _, _, _, h => fun j hj => h j (Nat.zero_le _) hj
  | n + 1, L, hl, hok, hn, h => by
    unfold simA
    have he : ∀ (M : List (Nat × Nat)) k, (M.eraseIdx k).length ≤ M.length := fun M k => List.length_eraseIdx_le M k
    split
    · rename_i hh
      refine simA_fix n _ (Nat.le_trans (he _ _) hl) hh (by rw [List.length_eraseIdx, if_pos (by omega)]; omega) fun j hj hjl => ?_
      rw [List.length_eraseIdx, if_pos (by omega)] at hjl
      rw [erase_erase hj]
      exact not_mono (Nat.le_trans (he _ _) (Nat.le_trans (he _ _) hl)) (Nat.le_trans (he _ _) hl) hl hok (SubQ.erase _ _) (SubQ.erase _ _) (h (j + 1) (by omega) (by omega))
    · rename_i hh
      refine simA_fix n L hl hok (by omega) fun j hj hjl => ?_
      by_cases e : j = n
      · subst e; simpa using hh
      · exact h j (by omega) hjl
/-- Clearing keeps the roles and leaves less. -/
theorem foldU_le (ok : List (Nat × Nat) → Bool) (r : Nat) : ∀ (ks : List Nat) (L : List (Nat × Nat)), LeQ (ks.foldl (stepU ok r) L) L
  | [], L => LeQ.refl L
  | k :: ks, L => by
    rw [List.foldl_cons]
    refine (foldU_le ok r ks _).trans ?_
    unfold stepU; split
    · exact LeQ.clr L r k
    · exact LeQ.refl L
theorem simB_le (ok : List (Nat × Nat) → Bool) (L : List (Nat × Nat)) : ∀ n m, LeQ (simB ok L (n + m)) (simB ok L n)
  | n, 0 => LeQ.refl _
  | n, m + 1 => by
    rw [show n + (m + 1) = (n + m) + 1 from rfl, simB_succ]
    exact (foldU_le ok _ _ _).trans (simB_le ok L n m)
/-- Other roles stay while the users of one are looked at. -/
theorem foldU_other (ok : List (Nat × Nat) → Bool) (r : Nat) : ∀ (ks : List Nat) (L : List (Nat × Nat)) (k : Nat), k ≠ r → (ks.foldl (stepU ok r) L).getD k (0, 0) = L.getD k (0, 0)
  | [], L, k, _ => rfl
  | x :: ks, L, k, h => by
    rw [List.foldl_cons, foldU_other ok r ks _ k h]
    unfold stepU; split
    · unfold clrQ; rw [getD_setQ, if_neg (fun hh => h hh.1.symm)]
    · rfl
/-- No user that was looked at can be removed. -/
theorem foldU_fix (r : Nat) : ∀ (ks : List Nat) (L : List (Nat × Nat)), L.length ≤ 4096 → validQ C Ns L = true → r < L.length → ∀ i ∈ ks, ((ks.foldl (stepU (validQ C Ns) r) L).getD r (0, 0)).1.testBit i = true → validQ C Ns (clrQ (ks.foldl (stepU (validQ C Ns) r) L) r i) = false
  | [], _, _, _, _ => fun i hi => by cases hi
  | x :: ks, L, hl, hok, hr => by
    intro i hi hb
    rw [List.foldl_cons] at hb ⊢
    have hlen : (stepU (validQ C Ns) r L x).length = L.length := stepU_len _ _ _
    have hok' : validQ C Ns (stepU (validQ C Ns) r L x) = true := by
      unfold stepU; split
      · rename_i hh; exact hh
      · exact hok
    by_cases hm : i ∈ ks
    · exact foldU_fix r ks _ (by omega) hok' (by omega) i hm hb
    · obtain rfl : i = x := (List.mem_cons.1 hi).resolve_right hm
      have hle := foldU_le (validQ C Ns) r ks (stepU (validQ C Ns) r L i)
      have hlF := hle.1
      have hb2 := (hle.2 r).1 i hb
      by_cases hh : validQ C Ns (clrQ L r i) = true
      · exfalso
        unfold stepU at hb2
        rw [if_pos hh, clrQ_1 _ _ _ _ _ hr] at hb2
        simp at hb2
      · have e : stepU (validQ C Ns) r L i = L := by unfold stepU; rw [if_neg hh]
        rw [e] at hle hlF hb ⊢
        refine not_mono (K := L) (by rw [clrQ_len]; omega) (M := clrQ L r i) (by rw [clrQ_len]; omega) hl hok (hle.clr2 r i).sub (LeQ.clr L r i).sub (by simpa using hh)
/-- After Simplify no user of a role can be removed. -/
theorem simB_fix (L : List (Nat × Nat)) (hl : L.length ≤ 4096) (hok : validQ C Ns L = true) : ∀ n, n ≤ L.length → ∀ r, r < n → ∀ i, ((simB (validQ C Ns) L n).getD r (0, 0)).1.testBit i = true → validQ C Ns (clrQ (simB (validQ C Ns) L n) r i) = false
  | 0, _, r, hr, _ => by omega
  | n + 1, hn, r, hr, i => by
    intro hb
    rw [simB_succ] at hb ⊢
    have hl' : (simB (validQ C Ns) L n).length ≤ 4096 := by rw [simB_len]; exact hl
    have hok' := ok_simB L hok n
    by_cases e : r = n
    · subst e
      unfold simU at hb ⊢
      refine foldU_fix r _ _ hl' hok' (by rw [simB_len]; omega) i ?_ hb
      exact mem_mems.2 (((foldU_le _ r _ _).2 r).1 i hb)
    · have hle := foldU_le (validQ C Ns) n (mems ((simB (validQ C Ns) L n).getD n (0, 0)).1) (simB (validQ C Ns) L n)
      have h1 := simB_fix L hl hok n (by omega) r (by omega) i ((hle.2 r).1 i hb)
      exact not_mono (K := simB (validQ C Ns) L n) (M := clrQ (simB (validQ C Ns) L n) r i) (by rw [clrQ_len]; unfold simU; rw [hle.1]; exact hl') (by rw [clrQ_len]; exact hl') hl' hok' (LeQ.clr2 hle r i).sub (LeQ.clr _ r i).sub h1
/-- After Simplify nothing more can be removed. -/
theorem simQ_fix {L : List (Nat × Nat)} (hl : L.length ≤ 4096) (hok : validQ C Ns L = true) :
    (∀ j, j < (simQ (validQ C Ns) L).length → validQ C Ns ((simQ (validQ C Ns) L).eraseIdx j) = false) ∧ ∀ r, r < (simQ (validQ C Ns) L).length → ∀ i, ((simQ (validQ C Ns) L).getD r (0, 0)).1.testBit i = true → validQ C Ns (clrQ (simQ (validQ C Ns) L) r i) = false := by
  have hA := simA_fix (C := C) (Ns := Ns) L.length L hl hok (Nat.le_refl _) (fun j h1 h2 => by omega)
  have hAl := Nat.le_trans (simA_len (ok := validQ C Ns) L.length L) hl
  have hAo := ok_simA (ok := validQ C Ns) L.length L hok
  unfold simQ
  obtain ⟨K, hK⟩ : ∃ K, K = simA (validQ C Ns) L.length L := ⟨_, rfl⟩
  rw [← hK] at hA hAl hAo ⊢
  have hB := simB_fix K hAl hAo K.length (Nat.le_refl _)
  have hle := simB_le (validQ C Ns) K 0 K.length
  rw [Nat.zero_add] at hle
  have h0 : simB (validQ C Ns) K 0 = K := rfl
  rw [h0] at hle
  have hln := simB_len (ok := validQ C Ns) K K.length
  refine ⟨fun j hj => ?_, fun r hr => hB r (by omega)⟩
  have he : ∀ (M : List (Nat × Nat)) k, (M.eraseIdx k).length ≤ M.length := fun M k => List.length_eraseIdx_le M k
  exact not_mono (K := K) (M := K.eraseIdx j) (Nat.le_trans (he _ _) (by omega)) (Nat.le_trans (he _ _) hAl) hAl hAo (hle.erase j).sub (SubQ.erase _ _) (hA j (by omega))
/-- Where nothing can be removed, Simplify leaves all as it is. -/
theorem simA_same (ok : List (Nat × Nat) → Bool) {L : List (Nat × Nat)} (h : ∀ j, j < L.length → ok (L.eraseIdx j) = false) : ∀ n, n ≤ L.length → simA ok n L = L
  | 0, _ => rfl
  | n + 1, hn => by
    unfold simA
    rw [if_neg (by rw [h n (by omega)]; simp)]
    exact simA_same ok h n (by omega)
theorem simB_same (ok : List (Nat × Nat) → Bool) {L : List (Nat × Nat)} (h : ∀ r, r < L.length → ∀ i, (L.getD r (0, 0)).1.testBit i = true → ok (clrQ L r i) = false) : ∀ n, n ≤ L.length → simB ok L n = L
  | 0, _ => rfl
  | n + 1, hn => by
    rw [simB_succ, simB_same ok h n (by omega)]
    unfold simU
    have : ∀ ks : List Nat, (∀ i ∈ ks, (L.getD n (0, 0)).1.testBit i = true) → ks.foldl (stepU ok n) L = L := by
      intro ks
      induction ks with
      | nil => intro _; rfl
      | cons x ks ih =>
        intro hk
        have e : stepU ok n L x = L := by unfold stepU; rw [if_neg (by rw [h n (by omega) x (hk x List.mem_cons_self)]; simp)]
        rw [List.foldl_cons, e]
        exact ih fun i hi => hk i (List.mem_cons_of_mem _ hi)
    exact this _ fun i hi => mem_mems.1 hi
theorem simQ_again {L : List (Nat × Nat)} (hl : L.length ≤ 4096) (hok : validQ C Ns L = true) : simQ (validQ C Ns) (simQ (validQ C Ns) L) = simQ (validQ C Ns) L := by
  obtain ⟨h1, h2⟩ := simQ_fix hl hok
  obtain ⟨K, hK⟩ : ∃ K, K = simQ (validQ C Ns) L := ⟨_, rfl⟩
  rw [← hK] at h1 h2 ⊢
  have e := simA_same (validQ C Ns) h1 K.length (Nat.le_refl _)
  unfold simQ
  rw [e]
  exact simB_same (validQ C Ns) h2 K.length (Nat.le_refl _)
end
section
variable {R C : Nat} {Ns : List Nat} {K : List (Nat × Nat)}
/-- The roles of the two matrices that build makes are the roles. -/
theorem role_same (hl : K.length ≤ 4096) (hR : R ≤ 4096) (h : WfQ R C K) : roleQ K.length (mtrans R (K.map (·.1)) R) (K.map (·.2)) K.length = K := by
  apply List.ext_getElem?
  intro k
  by_cases h2 : k < K.length
  case neg => rw [List.getElem?_eq_none (by rw [roleQ_len]; omega), List.getElem?_eq_none (by omega)]
  have hg : (roleQ K.length (mtrans R (K.map (·.1)) R) (K.map (·.2)) K.length)[k]? = some (mcol K.length (mtrans R (K.map (·.1)) R) (k : Nat), (K.map (·.2)).getD k 0) := by
    unfold roleQ; rw [List.getElem?_map, List.getElem?_range h2]; rfl
  have hm := h _ (List.getElem_mem h2)
  have e : K.getD k (0, 0) = K[k] := by rw [List.getD_eq_getElem?_getD, List.getElem?_eq_getElem h2]; rfl
  rw [hg, List.getElem?_eq_getElem h2, permsQ_get h2, e]
  congr 1
  refine Prod.ext ?_ rfl
  refine Nat.eq_of_testBit_eq fun i => ?_
  show (mcol K.length (mtrans R (K.map (·.1)) R) (k : Nat)).testBit i = _
  rw [testBit_mcol _ _ _ _ (by rw [mtrans_len]; exact hR)]
  by_cases hi : i < R
  · rw [mhas_in (by rw [mtrans_len]; exact hi) h2, Bool.eq_iff_iff, usersQ_bit hl, e]
    exact ⟨fun h => h.2.2, fun h => ⟨hi, h2, h⟩⟩
  · have h3 : K[k].1.testBit i = false := by
      rw [Bool.eq_false_iff]
      exact fun hh => hi (hm.1 i hh)
    rw [h3]
    unfold mhas insideB
    rw [Bool.and_eq_false_iff]
    left
    rw [mtrans_len]
    simp
    omega
theorem mset_bit {Us : List Nat} {i k x y : Nat} (hi : i < Us.length) : ((mset Us i k false).getD x 0).testBit y = ((Us.getD x 0).testBit y && !(decide (x = i) && decide (y = k))) := by
  unfold mset
  rw [List.getD_eq_getElem?_getD, List.getElem?_set]
  by_cases h : i = x
  · subst h
    rw [if_pos rfl, if_pos hi, Option.getD_some, if_neg (by simp), testBit_withoutB, decide_eq_true (show i = i from rfl)]
    simp
  · rw [if_neg h, decide_eq_false (show ¬ x = i from fun e => h e.symm), List.getD_eq_getElem?_getD]
    simp
theorem mset_len (Us : List Nat) (i k : Nat) (b : Bool) : (mset Us i k b).length = Us.length := by unfold mset; rw [List.length_set]
/-- Without one user: as a matrix, as pairs. -/
theorem valid_clr (hl : K.length ≤ 4096) {i k : Nat} (hi : i < Ns.length) (hk : k < K.length) : validN C Ns K.length (mset (mtrans Ns.length (K.map (·.1)) Ns.length) i k false) C (K.map (·.2)) = validQ C Ns (clrQ K k i) := by
  rw [Bool.eq_iff_iff, validN_iff, validQ_iff (by rw [clrQ_len]; exact hl), mset_len, mtrans_len, List.length_map]
  have key : ∀ x, x < Ns.length → ∀ j, ((∃ y, ((mset (mtrans Ns.length (K.map (·.1)) Ns.length) i k false).getD x 0).testBit y = true ∧ ((K.map (fun s : Nat × Nat => s.2)).getD y 0).testBit j = true) ↔ givQ (clrQ K k i) x j) := fun x hx j => by
    rw [givQ_get, clrQ_len]
    constructor
    · rintro ⟨y, h1, h2⟩
      rw [mset_bit (by rw [mtrans_len]; exact hi), Bool.and_eq_true] at h1
      obtain ⟨_, hy, h3⟩ := (usersQ_bit hl x y).1 h1.1
      rw [permsQ_get hy] at h2
      refine ⟨y, hy, ?_, by rw [clrQ_2]; exact h2⟩
      rw [clrQ_1 _ _ _ _ _ hk, Bool.and_eq_true]
      refine ⟨h3, ?_⟩
      have := h1.2
      rw [Bool.and_comm] at this
      exact this
    · rintro ⟨y, hy, h1, h2⟩
      rw [clrQ_1 _ _ _ _ _ hk, Bool.and_eq_true] at h1
      rw [clrQ_2] at h2
      refine ⟨y, ?_, by rw [permsQ_get hy]; exact h2⟩
      rw [mset_bit (by rw [mtrans_len]; exact hi), Bool.and_eq_true]
      refine ⟨(usersQ_bit hl x y).2 ⟨hx, hy, h1.1⟩, ?_⟩
      have := h1.2
      rw [Bool.and_comm] at this
      exact this
  constructor
  · rintro ⟨_, _, _, h⟩ x hx j
    rw [← key x hx j]
    exact h x hx j
  · intro h
    refine ⟨rfl, rfl, rfl, fun x hx j => ?_⟩
    rw [key x hx j]
    exact h x hx j
end
theorem equal_refl {C : Nat} {Ns : List Nat} : decide (C = C ∧ Ns.length = Ns.length ∧ withinM Ns Ns ∧ withinM Ns Ns) = true := by
  have : withinM Ns Ns := fun k _ => Nat.and_self _
  rw [decide_eq_true_eq]
  exact ⟨rfl, rfl, this, this⟩
section
variable {C : Nat} {Ns : List Nat}
theorem mem_getDG {l : List Nat} {s : Nat} : s ∈ l ↔ ∃ k, k < l.length ∧ l.getD k 0 = s := by
  rw [List.mem_iff_getElem]
  constructor
  · rintro ⟨k, hk, rfl⟩; exact ⟨k, hk, getD_at hk⟩
  · rintro ⟨k, hk, rfl⟩; exact ⟨k, hk, (getD_at hk).symm⟩
theorem users_rowsG {M : List Nat} (hM : M.length ≤ 4096) : rowsIn M.length (usersN C Ns M) := by
  have := rows_trans (C := Ns.length) (Ns := M.map (havN C Ns)) (by rw [List.length_map]; exact hM)
  rwa [List.length_map] at this
theorem greC_len (hin : rowsIn C Ns) (hR : Ns.length ≤ 5) (hC : C ≤ 5) : (greC C Ns).length ≤ 25 := by
  unfold greC atL
  rw [List.length_map]
  exact Nat.le_trans (greedyK_len _ _) (cells_25 hR hC hin (under_self Ns))
/-- What greedy roles are. -/
theorem greC_facts (hl : Ns.length ≤ 4096) (hin : rowsIn C Ns) (hM : (greC C Ns).length ≤ 4096) : validN C Ns (greC C Ns).length (usersN C Ns (greC C Ns)) C (greC C Ns) = true ∧ rowsIn C (greC C Ns) := by
  have hcl0 := allL_clo (C := C) (Ns := Ns)
  have hgs := greedyK_spec (cov_allL (C := C) hl hin) (cellsOf Ns).length (cellsOf Ns) (fun _ h => h) (Nat.le_refl _)
  have hclo : ∀ s ∈ greC C Ns, cloN C Ns s = s := fun s hs => by
    obtain ⟨k, hk, rfl⟩ := List.mem_map.1 hs
    have hlt := hgs.1 k hk
    exact hcl0 _ (by rw [getD_at hlt]; exact List.getElem_mem hlt)
  have hcov : ∀ c ∈ cellsOf Ns, ∃ s ∈ greC C Ns, inS C Ns s c = true := fun c hc => by
    obtain ⟨k, hk, h⟩ := hgs.2 c hc
    exact ⟨_, List.mem_map.2 ⟨k, hk, rfl⟩, h⟩
  obtain ⟨M, hMe⟩ : ∃ M, M = greC C Ns := ⟨_, rfl⟩
  rw [← hMe] at hM hclo hcov ⊢
  refine ⟨valid_of rfl rfl (by unfold usersN; rw [mtrans_len]) fun i hi j => ?_, fun k hk => ?_⟩
  · constructor
    · rintro ⟨k, h1, h2⟩
      obtain ⟨_, q2, q3⟩ := (users_bit hl hM i k).1 h1
      have hm : M.getD k 0 ∈ M := mem_getDG.2 ⟨k, q2, rfl⟩
      have hcl := hclo _ hm
      have hjC : j < C := by rw [← hcl] at h2; exact comN_lt h2
      exact ((testBit_havN C Ns hl _ _).1 q3).2 j h2 hjC
    · intro h
      obtain ⟨s, hs, he⟩ := hcov (i, j) (mem_cellsOf.2 ⟨hi, h⟩)
      obtain ⟨k, hk, rfl⟩ := mem_getDG.1 hs
      unfold inS at he
      rw [Bool.and_eq_true] at he
      exact ⟨k, (users_bit hl hM i k).2 ⟨hi, hk, he.2⟩, he.1⟩
  · refine low_of fun j hj => ?_
    have hm : M.getD k 0 ∈ M := mem_getDG.2 ⟨k, hk, rfl⟩
    rw [← hclo _ hm] at hj
    exact comN_lt hj
end
end Go.Proofs.YtfbkcdhmggjbaaaGreatDoor
