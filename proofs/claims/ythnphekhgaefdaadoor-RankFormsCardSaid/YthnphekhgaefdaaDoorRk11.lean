/-
  Plain: the reference's form of a node, and what its Check answers; where children are greater than their node both are those of the program.
-/
import Derived.Test.YthnphekhgaefdaaDoorRn6
namespace Go.Proofs.YthnphekhgaefdaaDoor

/-- The reference's wrong. -/
def wrongC (P : List Nd) (n : Nat) (l : List Int) (i : Nat) : Bool := decide (l.getD i 0 ≤ n) || decide ((P.length : Int) ≤ l.getD i 0) || decide (l.getD i 0 ∈ l.take i) || (P.take n).any fun y => decide (l.getD i 0 ∈ y.ch)
def wrongH (x : Nd) : Bool := decide (x.kind < 1) || decide (3 < x.kind) || (decide (x.kind ≠ 1) && decide (0 < x.ch.length))
def wrongK (P : List Nd) (n : Nat) : Bool := (List.range (P.getD n default).ch.length).any (wrongC P n (P.getD n default).ch)
def wrongR (P : List Nd) (n : Nat) : Bool := wrongH (P.getD n default) || wrongK P n || (decide (0 < n) && !P.any fun y => decide ((n : Int) ∈ y.ch))
def firstWrong (P : List Nd) : Option Nat := (List.range P.length).find? (wrongR P)
def checkR (C : Nat) (Ns : List Nat) (size : Int) (P : List Nd) : Int × Int :=
  if size < 0 ∨ 256 < size ∨ P.length < 1 ∨ 5000 < P.length then (2, 0)
  else match firstWrong P with
    | some n => (2, (n : Int))
    | none => if size = 0 then (1, 0) else nodeR C Ns P P.length (0 : Nat) (size - 1) (cellsOf Ns)
theorem mem_earl {P : List Nd} {n : Nat} {c : Int} : c ∈ earl P n ↔ (P.take n).any (fun y => decide (c ∈ y.ch)) = true := by
  unfold earl
  rw [List.mem_flatMap, List.any_eq_true]
  simp only [decide_eq_true_eq]
theorem wrong_bad {P : List Nd} (h : ∀ (k : Nat) x, P[k]? = some x → ∀ c ∈ x.ch, (k : Int) < c) (n : Nat) : wrongR P n = badN P n := by
  have hk : (P.any fun y => decide ((n : Int) ∈ y.ch)) = decide ((n : Int) ∈ earl P n) := by
    rw [Bool.eq_iff_iff, List.any_eq_true, decide_eq_true_eq, mem_earl, List.any_eq_true]
    simp only [decide_eq_true_eq]
    constructor
    · rintro ⟨y, hy, hn⟩
      obtain ⟨k, hk⟩ := List.mem_iff_getElem?.1 hy
      have := h k y hk _ hn
      refine ⟨y, List.mem_of_getElem? (i := k) ?_, hn⟩
      rw [List.getElem?_take, if_pos (by omega), hk]
    · rintro ⟨y, hy, hn⟩
      exact ⟨y, List.mem_of_mem_take hy, hn⟩
  have hc : ∀ i, wrongC P n (P.getD n default).ch i = badC P n (earl P n ++ (P.getD n default).ch.take i) ((P.getD n default).ch.getD i 0) := fun i => by
    unfold wrongC badC
    generalize (P.getD n default).ch.getD i 0 = c
    generalize (P.getD n default).ch.take i = t
    have : (P.take n).any (fun y => decide (c ∈ y.ch)) = decide (c ∈ earl P n) := by rw [Bool.eq_iff_iff, ← mem_earl, decide_eq_true_eq]
    have h2 : decide (c ∈ earl P n ++ t) = (decide (c ∈ earl P n) || decide (c ∈ t)) := by rw [← Bool.decide_or]; exact decide_eq_decide.2 List.mem_append
    rw [this, h2, Bool.or_assoc, Bool.or_comm (decide (c ∈ t))]
  unfold wrongR badN badH wrongK wrongH
  rw [hk, funext hc]
  simp only [Bool.or_assoc]
  congr 3
  exact Bool.or_comm _ _
theorem checkR_eq {C : Nat} {Ns : List Nat} (hC : C ≤ 12) (hl : Ns.length ≤ 4096) (hin : rowsIn C Ns) {P : List Nd} (h : ∀ (k : Nat) x, P[k]? = some x → ∀ c ∈ x.ch, (k : Int) < c) (size : Int) : checkR C Ns size P = checkP C Ns size P := by
  unfold checkR checkP firstWrong firstBad
  rw [funext (wrong_bad h)]
  have := nodeP_eq hC hl hin P P.length (0 : Nat) (size - 1) Ns ⟨rfl, fun _ _ _ h => h⟩
  rw [this]
  rfl
theorem firstWrong_none {P : List Nd} (h : ∀ n, n < P.length → wrongR P n = false) : firstWrong P = none := by
  unfold firstWrong
  rw [List.find?_eq_none]
  intro n hn
  rw [h n (List.mem_range.1 hn)]; simp
theorem firstWrong_some {P : List Nd} {n : Nat} (hn : n < P.length) (hb : wrongR P n = true) (h : ∀ m, m < n → wrongR P m = false) : firstWrong P = some n := by
  unfold firstWrong
  rw [List.find?_range_eq_some]
  exact ⟨hb, List.mem_range.2 hn, fun m hm => by rw [h m hm]; rfl⟩
theorem form_okR {P : List Nd} (h : ∀ n, n < P.length → wrongR P n = false) : FormOK P := fun n hn => by
  have hb := h n hn
  unfold wrongR at hb
  rw [Bool.or_eq_false_iff, Bool.or_eq_false_iff] at hb
  obtain ⟨⟨h1, h2⟩, _⟩ := hb
  unfold wrongH at h1
  simp only [Bool.or_eq_false_iff, decide_eq_false_iff_not] at h1
  refine ⟨by omega, fun c hc => ?_⟩
  obtain ⟨i, hi, e⟩ := List.getElem_of_mem hc
  unfold wrongK at h2
  rw [List.any_eq_false] at h2
  have := h2 i (List.mem_range.2 hi)
  have e2 : (P.getD n default).ch.getD i 0 = c := by rw [List.getD_eq_getElem?_getD, List.getElem?_eq_getElem hi, e]; rfl
  unfold wrongC at this
  rw [e2] at this
  simp only [Bool.or_eq_true, decide_eq_true_eq, not_or] at this
  omega
end Go.Proofs.YthnphekhgaefdaaDoor
