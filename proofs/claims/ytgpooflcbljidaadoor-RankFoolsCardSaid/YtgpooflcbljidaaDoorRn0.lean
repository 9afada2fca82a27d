/-
  Lists of cells: pairs of numbers.
-/
import Derived.Test.YtgpooflcbljidaaDoorRk3
import Derived.ChangeKeysEq
namespace Go.Proofs.YtgpooflcbljidaaDoor
open Go.RowKit

/-! Pairs are compared. -/
theorem cells_int2 : Tryd.prog.cellsOf 3 = 1 := by kernel_rfl
theorem plain_int2 : Tryd.prog.plainKey 3 = true := by kernel_rfl
theorem int_eqr (d : Nat) (x y : Int) (W : World) : (Op.equalIn (d + 1) 3 (.int .i64 x) (.int .i64 y)).run Tryd.prog W = .ok (x == y) W := by
  have := run_equalIn_int (P := Tryd.prog) W d 3 .i64 .i64 x y Tryd.underlying3
  exact this
theorem pair_run (a b : Int × Int) (W : World) : (Op.equalIn 10000 55 (.agg #[.int .i64 a.1, .int .i64 a.2]) (.agg #[.int .i64 b.1, .int .i64 b.2])).run Tryd.prog W = .ok (decide (a = b)) W := by
  obtain ⟨i0, hi0, hz0, hz1, hz2⟩ := info_parts info_int
  rw [show (10000 : Nat) = 9998 + 1 + 1 from rfl, run_equalIn_array (w := W) (9998 + 1) _ _ Tryd.underlying55 hi0, cells_int2]
  have h0 : List.range 2 = [0, 1] := by decide
  rw [h0]
  have p0 : ∀ c : Int × Int, (part 3 #[.int .i64 c.1, .int .i64 c.2] 0).run Tryd.prog W = .ok (.int .i64 c.1) W := fun c => run_part_plain W plain_int2 rfl
  have p1 : ∀ c : Int × Int, (part 3 #[.int .i64 c.1, .int .i64 c.2] 1).run Tryd.prog W = .ok (.int .i64 c.2) W := fun c => run_part_plain W plain_int2 rfl
  simp only [Op.eqItems, Sem.run_bind, Nat.zero_mul, Nat.one_mul, p0, Result.andThen_ok, int_eqr]
  have e : a = b ↔ a.1 = b.1 ∧ a.2 = b.2 := Prod.ext_iff
  by_cases h1 : a.1 = b.1
  · by_cases h2 : a.2 = b.2
    · rw [decide_eq_true (e.2 ⟨h1, h2⟩), beq_iff_eq.2 h1, if_neg (by decide)]
      simp only [Sem.run_bind, p1, Result.andThen_ok, int_eqr]
      rw [beq_iff_eq.2 h2]; rfl
    · rw [decide_eq_false (fun h => h2 (e.1 h).2), beq_iff_eq.2 h1, if_neg (by decide)]
      simp only [Sem.run_bind, p1, Result.andThen_ok, int_eqr]
      rw [beq_eq_false_iff_ne.2 h2]; rfl
  · rw [decide_eq_false (fun h => h1 (e.1 h).1), beq_eq_false_iff_ne.2 h1]; rfl
/-! A row of pairs of numbers. -/
def cellsP (l : List (Int × Int)) : List Value := l.flatMap fun c => [.int .i64 c.1, .int .i64 c.2]
theorem cellsP_app (l m : List (Int × Int)) : cellsP (l ++ m) = cellsP l ++ cellsP m := by unfold cellsP; rw [List.flatMap_append]
theorem cellsP_len (l : List (Int × Int)) : (cellsP l).length = 2 * l.length := by
  induction l with
  | nil => rfl
  | cons c l ih => unfold cellsP at *; rw [List.flatMap_cons, List.length_append, ih]; simp; omega
theorem cellsP_get : ∀ (l : List (Int × Int)) {k : Nat} {c : Int × Int}, l[k]? = some c → (cellsP l)[2 * k]? = some (.int .i64 c.1) ∧ (cellsP l)[2 * k + 1]? = some (.int .i64 c.2)
  | [], _, _, h => by simp at h
  | d :: l, 0, c, h => by
    obtain rfl : d = c := by simpa using h
    exact ⟨rfl, rfl⟩
  | d :: l, k + 1, c, h => by
    have ih := cellsP_get l (k := k) (c := c) (by simpa using h)
    unfold cellsP at *
    rw [List.flatMap_cons]
    exact ⟨by rw [show 2 * (k + 1) = (2 * k) + 1 + 1 by omega]; exact ih.1, by rw [show 2 * (k + 1) + 1 = (2 * k + 1) + 1 + 1 by omega]; exact ih.2⟩
def IsPairs (w : World) (v : Value) (l : List (Int × Int)) : Prop := ∃ A c, v = .slice A l.length c ∧ Row w A (cellsP l) ∧ l.length ≤ c ∧ l.length ≤ 1000000
theorem IsPairs.below {w w' : World} {v : Value} {l : List (Int × Int)} (h : IsPairs w v l) (hb : Below w.heap.size w w') : IsPairs w' v l := by
  obtain ⟨A, c, h1, h2, h3⟩ := h; exact ⟨A, c, h1, h2.below hb, h3⟩
theorem row_pairs {w : World} {A : Option Addr} {l : List (Int × Int)} (h : Row w A (cellsP l)) {k : Nat} {c : Int × Int} (hk : l[k]? = some c) :
    ∃ g off, A = some ⟨g, off, none⟩ ∧ g < w.heap.size ∧ w.cell? ⟨g, off + k * 2, none⟩ = some (.int .i64 c.1) ∧ w.cell? ⟨g, off + k * 2 + 1, none⟩ = some (.int .i64 c.2) := by
  have hlt := (List.getElem?_eq_some_iff.1 hk).1
  obtain ⟨g, off, rfl, hg, hc⟩ := h (by rw [cellsP_len]; omega)
  obtain ⟨h1, h2⟩ := cellsP_get l hk
  have e1 := hc _ _ h1
  have e2 := hc _ _ h2
  rw [← Nat.add_assoc] at e2
  rw [Nat.mul_comm] at e1 e2
  exact ⟨g, off, rfl, hg, e1, e2⟩
end Go.Proofs.YtgpooflcbljidaaDoor
