/-
  What Check says of proofs, in plain words: what is accepted is true, and proofs that go through all cases are accepted.
-/
import Derived.Test.YtlakjhhpdbgekaaGreatDoorRn6
import Derived.Test.YtlakjhhpdbgekaaGreatDoorRr6
namespace Go.Proofs.YtlakjhhpdbgekaaGreatDoor
open Go.RowKit

theorem under_refl (Ns : List Nat) : Under Ns Ns := ⟨rfl, fun _ _ _ h => h⟩
theorem firstBad_all {P : List Nd} (h : firstBad P = none) : ∀ n, n < P.length → badN P n = false := fun n hn => by
  unfold firstBad at h
  rw [List.find?_eq_none] at h
  have := h n (List.mem_range.2 hn)
  simpa using this
/-- What is accepted is true. -/
theorem check_sound {C : Nat} {Ns : List Nat} (hC : C ≤ 12) (hl : Ns.length ≤ 4096) (hin : rowsIn C Ns) {size : Int} {P : List Nd} (h : (checkP C Ns size P).1 = 1) : size = 0 ∨ (1 ≤ size ∧ ¬ Cov C Ns (size - 1).toNat (cellsOf Ns)) := by
  unfold checkP at h
  by_cases hb : size < 0 ∨ 256 < size ∨ P.length < 1 ∨ 5000 < P.length
  · rw [if_pos hb] at h; exact absurd h (by simp)
  · rw [if_neg hb] at h
    cases hf : firstBad P with
    | some n => rw [hf] at h; exact absurd h (by simp)
    | none =>
      rw [hf] at h
      dsimp only at h
      by_cases h0 : size = 0
      · exact .inl h0
      · rw [if_neg h0] at h
        refine .inr ⟨by omega, ?_⟩
        rw [nodeP_eq hC hl hin P _ _ _ _ (under_refl Ns)] at h
        exact nodeR_sound hl (form_ok (firstBad_all hf)) P.length 0 (size - 1) _ (by omega) (by omega) (by omega) h
theorem mem_chOf {P : List Nd} {c : Int} (h : c ∈ chOf P) : ∃ (i : Nat) (x : Nd), P[i]? = some x ∧ c ∈ x.ch := by
  unfold chOf at h
  obtain ⟨x, hx, hc⟩ := List.mem_flatMap.1 h
  obtain ⟨i, hi, e⟩ := List.getElem_of_mem hx
  exact ⟨i, x, by rw [List.getElem?_eq_getElem hi, e], hc⟩
theorem chOf_at {P : List Nd} {n : Nat} {x : Nd} (hx : P[n]? = some x) : chOf P = earl P n ++ x.ch ++ chOf (P.drop (n + 1)) := by
  obtain ⟨hn, e⟩ := List.getElem?_eq_some_iff.1 hx
  have : P = P.take n ++ x :: P.drop (n + 1) := by
    conv => lhs; rw [← List.take_append_drop n P, List.drop_eq_getElem_cons hn, e]
  conv => lhs; rw [this]
  rw [chOf_append]
  show _ = (P.take n).flatMap Nd.ch ++ _ ++ _
  rw [List.append_assoc]
  congr 1
/-- The form of a tree is right. -/
theorem tree_form {P : List Nd} (h : Tree P 0) : ∀ n, n < P.length → badN P n = false := fun n hn => by
  obtain ⟨h1, h2⟩ := h
  obtain ⟨x, hx⟩ : ∃ x, P[n]? = some x := ⟨_, List.getElem?_eq_getElem hn⟩
  have hxd : P.getD n default = x := by rw [List.getD_eq_getElem?_getD, hx]; rfl
  obtain ⟨⟨⟨k1, k2⟩, k3⟩, k4⟩ := h1 n hn
  rw [hxd] at k1 k2 k3 k4
  have hnd : (chOf P).Nodup := h2.nodup_iff.2 (by
    unfold List.Nodup
    rw [List.pairwise_map]
    exact (List.nodup_range' (step := 1) (by omega)).imp fun h e => h (Int.ofNat.inj e))
  have hearl : 0 < n → (n : Int) ∈ earl P n := fun h0 => by
    have hm : (n : Int) ∈ chOf P := h2.mem_iff.2 (List.mem_map.2 ⟨n, by rw [List.mem_range'_1]; omega, rfl⟩)
    obtain ⟨i, y, hy, hc⟩ := mem_chOf hm
    have hi := (List.getElem?_eq_some_iff.1 hy).1
    have hb := (h1 i hi).2 (n : Int) (by rw [List.getD_eq_getElem?_getD, hy]; exact hc)
    unfold earl
    rw [List.mem_flatMap]
    exact ⟨y, List.mem_of_getElem? (i := i) (by rw [List.getElem?_take, if_pos (by omega)]; exact hy), hc⟩
  unfold badN
  rw [hxd, Bool.or_eq_false_iff]
  constructor
  · unfold badH
    have e1 : decide (x.kind < 1) = false := decide_eq_false (by omega)
    have e2 : decide (3 < x.kind) = false := decide_eq_false (by omega)
    have e3 : (decide (x.kind ≠ 1) && decide (0 < x.ch.length)) = false := by
      by_cases hk : x.kind = 1
      · simp [hk]
      · rw [k3 hk]; simp
    have e4 : (decide (0 < n) && !decide ((n : Int) ∈ earl P n)) = false := by
      by_cases h0 : 0 < n
      · rw [decide_eq_true (hearl h0)]; simp
      · rw [decide_eq_false h0]; rfl
    rw [e1, e2, e3, e4]; rfl
  · rw [List.any_eq_false]
    intro i hi
    rw [List.mem_range] at hi
    have hc : x.ch.getD i 0 = x.ch[i] := by rw [List.getD_eq_getElem?_getD, List.getElem?_eq_getElem hi]; rfl
    have hm : x.ch[i] ∈ x.ch := List.getElem_mem hi
    have hb := k4 _ hm
    rw [hc]
    unfold badC
    have e1 : decide (x.ch[i] ≤ (n : Int)) = false := decide_eq_false (by omega)
    have e2 : decide ((P.length : Int) ≤ x.ch[i]) = false := decide_eq_false (by omega)
    have e3 : decide (x.ch[i] ∈ earl P n ++ x.ch.take i) = false := decide_eq_false fun hmem => by
      rw [chOf_at hx] at hnd
      have hnd2 := (List.nodup_append.1 hnd).1
      have hsp : earl P n ++ x.ch = (earl P n ++ x.ch.take i) ++ x.ch[i] :: x.ch.drop (i + 1) := by
        conv => lhs; rw [← List.take_append_drop i x.ch, List.drop_eq_getElem_cons hi]
        rw [List.append_assoc]
      rw [hsp, List.nodup_append] at hnd2
      exact hnd2.2.2 _ hmem _ (List.mem_cons_self ..) rfl
    rw [e1, e2, e3]; simp
theorem At.lt {P : List Nd} {off : Nat} {L : List Nd} (h : At P off L) (hL : 0 < L.length) : off < P.length := by
  obtain ⟨pre, post, rfl, rfl⟩ := h
  simp; omega
end Go.Proofs.YtlakjhhpdbgekaaGreatDoor
