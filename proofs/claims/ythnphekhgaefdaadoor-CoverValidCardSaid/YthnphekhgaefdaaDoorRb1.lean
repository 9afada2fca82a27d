/-
  rank.Best's search: the closure that calls itself.
-/
import Derived.Test.YthnphekhgaefdaaDoorRk10
import Derived.Test.YthnphekhgaefdaaDoorRq1
import Derived.Test.YthnphekhgaefdaaDoorMix2
import Derived.Test.YthnphekhgaefdaaDoorJoin
namespace Go.Proofs.YthnphekhgaefdaaDoor
open Go.RowKit

/-- A list of cells, or nil. -/
def PN (w : World) (v : Value) (l : List (Int × Int)) : Prop := ∃ A c, v = .slice A l.length c ∧ RowN w A l.length c (cellsP l) ∧ l.length ≤ 1000000
theorem PN.pairs {w : World} {v : Value} {l : List (Int × Int)} (h : PN w v l) : IsPairs w v l := by
  obtain ⟨A, c, e, hr, hl⟩ := h
  exact ⟨A, c, e, hr.1, hr.2.1, hl⟩
theorem PN.below {w w' : World} {v : Value} {l : List (Int × Int)} (h : PN w v l) (hb : Below w.heap.size w w') : PN w' v l := by
  obtain ⟨A, c, e, hr, hl⟩ := h
  exact ⟨A, c, e, hr.below hb, hl⟩
theorem OwnP.pn {w : World} {base : Nat} {v : Value} {l : List (Int × Int)} (h : OwnP w base v l) (hl : l.length ≤ 1000000) : PN w v l := by
  obtain ⟨A, c, rfl, hr⟩ := RowN.of_own h
  exact ⟨A, c, rfl, hr, hl⟩
theorem PN.nil (w : World) : PN w (.slice none 0 0) [] := ⟨none, 0, rfl, ⟨Row.empty _ _, Nat.le_refl _, fun _ => ⟨rfl, rfl⟩⟩, by simp⟩
/-- Rows of numbers stay where a variable that holds a slice is written. -/
theorem row_but {w w' : World} {g6 : Nat} {t : TypeId} {A6 : Option Addr} {n6 c6 : Nat} {A : Option Addr} {l : List (Int × Int)} (h : Row w A (cellsP l)) (hB : Blk w g6 t #[.slice A6 n6 c6]) (k : But (some g6) w w') : Row w' A (cellsP l) := by
  intro hp
  obtain ⟨g, off, hA, hg, hc⟩ := h hp
  have hne : g ≠ g6 := by
    rintro rfl
    obtain ⟨c, hc0⟩ : ∃ c, l[0]? = some c := ⟨_, List.getElem?_eq_getElem (by rw [cellsP_len] at hp; omega)⟩
    have h0 := hc _ _ (cellsP_get l hc0).1
    rw [hB.cell] at h0
    rcases off with _ | off
    · simp at h0
    · simp at h0
  exact ⟨g, off, hA, Nat.lt_of_lt_of_le hg k.1, fun j u hu => (World.cell?_of_block (a := ⟨g, off + j, none⟩) (k.2 g hg fun e => hne (Option.some.inj e))).trans (hc j u hu)⟩
theorem IsPairs.but {w w' : World} {g6 : Nat} {t : TypeId} {A6 : Option Addr} {n6 c6 : Nat} {v : Value} {l : List (Int × Int)} (h : IsPairs w v l) (hB : Blk w g6 t #[.slice A6 n6 c6]) (k : But (some g6) w w') : IsPairs w' v l := by
  obtain ⟨A, c, e, hr, h1, h2⟩ := h
  exact ⟨A, c, e, row_but hr hB k, h1, h2⟩
theorem PN.but {w w' : World} {g6 : Nat} {t : TypeId} {A6 : Option Addr} {n6 c6 : Nat} {v : Value} {l : List (Int × Int)} (h : PN w v l) (hB : Blk w g6 t #[.slice A6 n6 c6]) (k : But (some g6) w w') : PN w' v l := by
  obtain ⟨A, c, e, hr, h1⟩ := h
  exact ⟨A, c, e, ⟨row_but hr.1 hB k, hr.2⟩, h1⟩
theorem cellsP_one (l : List (Int × Int)) : ∀ u ∈ cellsP l, u.oneCell' = true := by
  intro u hu
  unfold cellsP at hu
  obtain ⟨c, _, hc⟩ := List.mem_flatMap.1 hu
  rcases List.mem_cons.1 hc with rfl | hc
  · rfl
  · rw [List.mem_singleton.1 hc]; rfl
theorem clonep_pn {w : World} {v : Value} {l : List (Int × Int)} (h : PN w v l) :
    Calls Tryd.prog 31 #[v] w fun e w' => ∃ u, e = .returned u ∧ OwnP w' w.heap.size u l ∧ Below w.heap.size w w' := by
  obtain ⟨A, c, rfl, hr, hl⟩ := h
  exact cloneP_any A l.length c (cellsP l) w hr (by rw [cellsP_len]; omega) (cellsP_one l) hl
/-- The search's answer. -/
abbrev searchP (C : Nat) (Ns : List Nat) (n : Nat) (rest l best : List (Int × Int)) : List (Int × Int) := bestE (indep C Ns) n rest l (pickL best l)
theorem cellsP_drop (l : List (Int × Int)) (k : Nat) : cellsP (l.drop k) = (cellsP l).drop (2 * k) := by
  induction l generalizing k with
  | nil => simp [cellsP]
  | cons a l ih =>
    cases k with
    | zero => rfl
    | succ k =>
      show cellsP (l.drop k) = _
      rw [ih, show 2 * (k + 1) = 2 * k + 1 + 1 by omega]
      rfl
/-- The rest of a list of cells. -/
theorem IsPairs.drop {w : World} {g o n c k : Nat} {l : List (Int × Int)} (h : IsPairs w (.slice (some ⟨g, o, none⟩) n c) l) (hk : k ≤ n) (ad : Option Addr) (ha : ad = if c = k then some ⟨g, o, none⟩ else some ⟨g, o + k * 2, none⟩) : IsPairs w (.slice ad (n - k) (c - k)) (l.drop k) := by
  obtain ⟨A, c', e, hr, h1, h2⟩ := h
  injection e with e1 e2 e3
  subst e1; subst e2; subst e3
  refine ⟨ad, c - k, by rw [List.length_drop], fun hp => ?_, by rw [List.length_drop]; omega, by rw [List.length_drop]; omega⟩
  rw [cellsP_len, List.length_drop] at hp
  obtain ⟨g', o', e, hg, hc⟩ := hr (by rw [cellsP_len]; omega)
  cases e
  refine ⟨g, o + k * 2, by rw [ha, if_neg (by omega)], hg, fun j u hu => ?_⟩
  rw [cellsP_drop, List.getElem?_drop] at hu
  have := hc _ _ hu
  rw [← this]
  congr 2
  omega
theorem filter_snoc {α : Type} (p : α → Bool) (l : List α) (x : α) : (l ++ [x]).filter p = if p x = true then l.filter p ++ [x] else l.filter p := by
  rw [List.filter_append]
  cases h : p x <;> simp [h]
theorem best_call {a b k d m n T : Nat} (h : a + b ≤ 1000) (hk : k < b) (hd : d = b - (k + 1)) (hT : T ≤ d) (hm : n - k = m + 1) (_hT2 : T ≤ 1000) : m < n ∧ a + 1 + T ≤ 1000 ∧ a + 1 ≤ 1000000 := ⟨by omega, by omega, by omega⟩
theorem best_yes (a b k n : Nat) (hk : k < b) (h : a + (b - (k + 1) + 1) ≤ n) : decide ((a : Int) + (b : Int) - (k : Int) ≤ (n : Int)) = true := decide_eq_true (by omega)
theorem best_no (a b k n : Nat) (hk : k < b) (h : ¬ a + (b - (k + 1) + 1) ≤ n) : decide ((a : Int) + (b : Int) - (k : Int) ≤ (n : Int)) = false := decide_eq_false (by omega)
namespace Mix2
end Mix2
end Go.Proofs.YthnphekhgaefdaaDoor
