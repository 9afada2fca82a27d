/-
  The parameters of chapter 47's laws: rows of pairs of bytes, changes of proofs, raw proofs.
-/
import Derived.Test.YthnphekhgaefdaaDoorBits
namespace Go.Proofs.YthnphekhgaefdaaDoor
open Go.RowKit
/-- A row of pairs of bytes. -/
def cellsB (l : List (Nat × Nat)) : List Value := l.flatMap fun c => [.int .u8 c.1, .int .u8 c.2]
theorem cellsB_len (l : List (Nat × Nat)) : (cellsB l).length = 2 * l.length := by
  induction l with
  | nil => rfl
  | cons c l ih => unfold cellsB at *; rw [List.flatMap_cons, List.length_append, ih]; simp; omega
theorem cellsB_get : ∀ (l : List (Nat × Nat)) {k : Nat} {c : Nat × Nat}, l[k]? = some c → (cellsB l)[2 * k]? = some (.int .u8 c.1) ∧ (cellsB l)[2 * k + 1]? = some (.int .u8 c.2)
  | [], _, _, h => by simp at h
  | d :: l, 0, c, h => by
    obtain rfl : d = c := by simpa using h
    exact ⟨rfl, rfl⟩
  | d :: l, k + 1, c, h => by
    have ih := cellsB_get l (k := k) (c := c) (by simpa using h)
    unfold cellsB at *
    rw [List.flatMap_cons]
    exact ⟨by rw [show 2 * (k + 1) = (2 * k) + 1 + 1 by omega]; exact ih.1, by rw [show 2 * (k + 1) + 1 = (2 * k + 1) + 1 + 1 by omega]; exact ih.2⟩
def IsOcts (w : World) (v : Value) (l : List (Nat × Nat)) : Prop := ∃ A c, v = .slice A l.length c ∧ Row w A (cellsB l) ∧ l.length ≤ c ∧ l.length ≤ maxLen ∧ ∀ x ∈ l, x.1 ≤ 255 ∧ x.2 ≤ 255
theorem row_octs {w : World} {A : Option Addr} {l : List (Nat × Nat)} (h : Row w A (cellsB l)) {k : Nat} {c : Nat × Nat} (hk : l[k]? = some c) :
    ∃ g off, A = some ⟨g, off, none⟩ ∧ g < w.heap.size ∧ w.cell? ⟨g, off + k * 2, none⟩ = some (.int .u8 c.1) ∧ w.cell? ⟨g, off + k * 2 + 1, none⟩ = some (.int .u8 c.2) := by
  have hlt := (List.getElem?_eq_some_iff.1 hk).1
  obtain ⟨g, off, rfl, hg, hc⟩ := h (by rw [cellsB_len]; omega)
  obtain ⟨h1, h2⟩ := cellsB_get l hk
  have e1 := hc _ _ h1
  have e2 := hc _ _ h2
  rw [← Nat.add_assoc] at e2
  rw [Nat.mul_comm] at e1 e2
  exact ⟨g, off, rfl, hg, e1, e2⟩
/-- Changes of proofs: kind, node, a, b. -/
abbrev Odd4 := Nat × Nat × Nat × Nat
def oddV (x : Odd4) : Value := .agg #[.int .u8 x.1, .int .u8 x.2.1, .int .u8 x.2.2.1, .int .u8 x.2.2.2]
def OddOK (x : Odd4) : Prop := x.1 ≤ 255 ∧ x.2.1 ≤ 255 ∧ x.2.2.1 ≤ 255 ∧ x.2.2.2 ≤ 255
/-- The cells of a row of them, in whatever block. -/
def OddsAt (w : World) (A : Option Addr) (l : List Odd4) : Prop := 0 < l.length → ∃ g off, A = some ⟨g, off, none⟩ ∧ g < w.heap.size ∧ ∀ (k : Nat) x, l[k]? = some x →
  w.cell? ⟨g, off + k * 4, none⟩ = some (.int .u8 x.1) ∧ w.cell? ⟨g, off + k * 4 + 1, none⟩ = some (.int .u8 x.2.1) ∧ w.cell? ⟨g, off + k * 4 + 2, none⟩ = some (.int .u8 x.2.2.1) ∧ w.cell? ⟨g, off + k * 4 + 3, none⟩ = some (.int .u8 x.2.2.2)
theorem OddsAt.below {w w' : World} {A : Option Addr} {l : List Odd4} (h : OddsAt w A l) (hb : Below w.heap.size w w') : OddsAt w' A l := fun hl => by
  obtain ⟨g, off, rfl, hg, hc⟩ := h hl
  exact ⟨g, off, rfl, Nat.lt_of_lt_of_le hg hb.size, fun k x hx => by
    obtain ⟨h1, h2, h3, h4⟩ := hc k x hx
    exact ⟨onB hb h1, onB hb h2, onB hb h3, onB hb h4⟩⟩
def IsOdds (w : World) (v : Value) (l : List Odd4) : Prop := ∃ A c, v = .slice A l.length c ∧ OddsAt w A l ∧ l.length ≤ c ∧ l.length ≤ maxLen ∧ ∀ x ∈ l, OddOK x
theorem IsOdds.below {w w' : World} {v : Value} {l : List Odd4} (h : IsOdds w v l) (hb : Below w.heap.size w w') : IsOdds w' v l := by
  obtain ⟨A, c, h1, h2, h3⟩ := h; exact ⟨A, c, h1, h2.below hb, h3⟩
theorem IsOcts.below {w w' : World} {v : Value} {l : List (Nat × Nat)} (h : IsOcts w v l) (hb : Below w.heap.size w w') : IsOcts w' v l := by
  obtain ⟨A, c, h1, h2, h3⟩ := h; exact ⟨A, c, h1, h2.below hb, h3⟩
/-- A raw proof. -/
def IsRaw47 (w : World) (v : Value) (less : Nat) (last : Bool) (l : List Odd4) : Prop := ∃ u, v = .agg #[.int .u8 less, .bool last, u] ∧ less ≤ 255 ∧ IsOdds w u l
theorem IsRaw47.below {w w' : World} {v : Value} {less : Nat} {last : Bool} {l : List Odd4} (h : IsRaw47 w v less last l) (hb : Below w.heap.size w w') : IsRaw47 w' v less last l := by
  obtain ⟨u, h1, h2, h3⟩ := h; exact ⟨u, h1, h2, h3.below hb⟩
end Go.Proofs.YthnphekhgaefdaaDoor
