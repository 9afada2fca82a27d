/-
  A changed proof: arbaclaw47.Odd.apply.
-/
import Derived.Test.YthnphekhgaefdaaDoorRq2
namespace Go.Proofs.YthnphekhgaefdaaDoor
open Go.RowKit
theorem ON.at {w : World} {base g n r cap : Nat} {P : List Nd} {vss : List (List Value)} {vs : List Value} {u : Value} (h : ON w base (.slice (some ⟨g, 0, none⟩) P.length cap) P vss) (hn : n < P.length) (h1 : vss[n]? = some vs) (hr : r < 5) (hu : vs[r]? = some u) : w.cell? ⟨g, n * 5 + r, none⟩ = some u := by
  rcases id h.own.2 with ⟨hv, h0⟩ | ⟨g', cap', cur, hv, hg, hB, hnc, -, -, -⟩
  · omega
  · cases hv
    have hc := h.own.cellAt (n * 5 + r) (by omega)
    rw [flatten5 vss h.len5 n r _ h1 hr, hu] at hc
    exact hc
/-- A proof of the reference's whose rows' types are known. -/
def PRt (w : World) (v : Value) (size : Int) (P : List Nd) : Prop := ∃ A c, v = .agg #[.int .i64 size, .slice A P.length c] ∧ IsNT w A P ∧ P.length ≤ c ∧ (A = none → P.length = 0 ∧ c = 0)
theorem PRt.prf {w : World} {v : Value} {size : Int} {P : List Nd} (h : PRt w v size P) : PRf w v size P := by
  obtain ⟨A, c, h1, h2, h3⟩ := h; exact ⟨A, c, h1, h2.nr, h3⟩
theorem PRt.far {w : World} {v : Value} {size : Int} {P : List Nd} {p : Addr} {t : TypeId} {cs : Array Value} (h : PRt w v size P) (hB : Blk w p.block t cs) (n1 : t ≠ 39) (n2 : t ≠ 3) (n3 : t ≠ 40) (u : Value) : PRt (w.setCell p u) v size P := by
  obtain ⟨A, c, h1, h2, h3⟩ := h; exact ⟨A, c, h1, h2.far hB n1 n2 n3 u, h3⟩
theorem nt_PRf {V : World} {A : Option Addr} {P : List Nd} {p n c : Nat} {cs : Array Value} {u0 u1 : Value} {size : Int} (h : IsNT V A P) (hY : Blk V p 33 cs) (hn : P.length = n) (hc : n ≤ c) (hA : A = none → n = 0 ∧ c = 0) : PRt ((V.setCell ⟨p, 0, none⟩ u0).setCell ⟨p, 1, none⟩ u1) (.agg #[.int .i64 size, .slice A n c]) size P := by
  subst hn
  exact ⟨A, c, rfl, ((h.far (p := ⟨p, 0, none⟩) hY (by decide) (by decide) (by decide) u0).far (p := ⟨p, 1, none⟩) (hY.set_ 0 u0) (by decide) (by decide) (by decide) u1), hc, hA⟩
theorem nd_set {B n : Nat} {P : List Nd} {x : Nd} (h : ∀ y ∈ P, NdB B y) (hx : NdB (B + 1) x) : ∀ y ∈ P.set n x, NdB (B + 1) y := fun y hy => by
  rcases List.mem_or_eq_of_mem_set hy with h' | rfl
  · exact (h y h').mono (by omega)
  · exact hx
theorem RowT.tail {w : World} {e : TypeId} {A : Option Addr} {n c s : Nat} {xs : List Value} (h : RowT w e A n c xs) (hn : 0 < n) (hx : xs.length = n * s) (hs : 0 < s) :
    ∃ A', (∀ (inst : Decidable (c = 1)) (f : Addr → Addr), (∀ g off, f ⟨g, off, none⟩ = ⟨g, off + s, none⟩) → @ite _ (c = 1) inst A (Option.map f A) = A') ∧ RowT w e A' (n - 1) (c - 1) (xs.drop s) := by
  obtain ⟨⟨hr, hnc, hA⟩, ht⟩ := h
  have hpos : 0 < xs.length := by rw [hx]; exact Nat.mul_pos hn hs
  obtain ⟨g, off, rfl, hg, hc⟩ := hr hpos
  by_cases h1 : c = 1
  · refine ⟨some ⟨g, off, none⟩, fun _ f hf => by rw [if_pos h1], ⟨fun hl => ?_, by omega, fun e => by cases e⟩, ht⟩
    obtain rfl : n = 1 := by omega
    rw [List.length_drop, hx] at hl
    omega
  · refine ⟨some ⟨g, off + s, none⟩, fun _ f hf => by rw [if_neg h1, Option.map_some, hf], ⟨fun hl => ⟨g, off + s, rfl, hg, fun k u hu => ?_⟩, by omega, fun e => by cases e⟩, fun ad ha => ?_⟩
    · rw [List.getElem?_drop] at hu
      have := hc (s + k) u hu
      rwa [← Nat.add_assoc] at this
    · cases ha
      exact ht ⟨g, off, none⟩ rfl
theorem cellsP_tail (l : List (Int × Int)) : cellsP l.tail = (cellsP l).drop 2 := by
  cases l with
  | nil => rfl
  | cons c l => rfl
theorem kid_facts (n a : Nat) (hn : n ≤ 100000000) (ha : a ≤ 255) : ∃ cN : Nat, cN ≤ 255 ∧ wrap64 ((n : Int) + 2) = ((n + 2 : Nat) : Int) ∧ IntKind.i64.wrap ((n : Int) + 2) = ((n + 2 : Nat) : Int) ∧ Int.tmod (IntKind.i64.wrap (a : Int)) (((n + 2 : Nat) : Int)) = (cN : Int) ∧ Int.tmod (IntKind.i64.wrap (a : Int)) ((n : Int) + 2) = (cN : Int) ∧ ¬ (((n + 2 : Nat) : Int) = 0) ∧ ¬ ((n : Int) + 2 = 0) := by
  refine ⟨a % (n + 2), ?_, ?_, ?_, ?_, ?_, ?_, ?_⟩
  · exact Nat.le_trans (Nat.mod_le _ _) ha
  · rw [IntWalk.wrap64_in _ ⟨by omega, by omega⟩]; omega
  · rw [i64w ⟨by omega, by omega⟩]; omega
  · rw [i64w ⟨by omega, by omega⟩]; rfl
  · rw [i64w ⟨by omega, by omega⟩]; rfl
  · omega
  · omega
theorem nd_app {B : Nat} {P : List Nd} {x : Nd} (h : ∀ y ∈ P, NdB B y) (hx : NdB (B + 1) x) : ∀ y ∈ P ++ [x], NdB (B + 1) y := fun y hy => by
  rcases List.mem_append.1 hy with h' | h'
  · exact (h y h').mono (by omega)
  · obtain rfl : y = x := by simpa using h'
    exact hx
namespace Mix2
end Mix2
end Go.Proofs.YthnphekhgaefdaaDoor
