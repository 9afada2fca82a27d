import Derived.Test.YtfbkcdhmggjbaaaGreatDoorClo13
import Derived.Test.YtfbkcdhmggjbaaaGreatDoorRkA
import Derived.Test.YtfbkcdhmggjbaaaGreatDoorMix2
import Derived.Test.YtfbkcdhmggjbaaaGreatDoorLaw3
import Derived.Test.YtfbkcdhmggjbaaaGreatDoorJoin
import Derived.Deep.CutBlock
import Derived.Laws.AppendOwnNone
import Derived.Test.YtfbkcdhmggjbaaaGreatDoorRnA
/-
  The reference of chapter 47: the lectic order of numbers.
-/
namespace Go.Proofs.YtfbkcdhmggjbaaaGreatDoor
open Go.RowKit
end Go.Proofs.YtfbkcdhmggjbaaaGreatDoor

/-
  The reference of chapter 47: all concepts with a one, in lectic order.
-/
namespace Go.Proofs.YtfbkcdhmggjbaaaGreatDoor
open Go.RowKit

theorem own_low {w : World} {base b0 : Nat} {e : TypeId} {size : Nat} {v : Value} {n : Nat} {xs : List Value} (h : w.ownsRow base e size v n xs) (hb : b0 ≤ base) : w.ownsRow b0 e size v n xs :=
  ⟨h.1, h.2.imp id fun ⟨g, cap, cur, hv, hg, r⟩ => ⟨g, cap, cur, hv, Nat.le_trans hb hg, r⟩⟩
theorem addr_add (g o j : Nat) : (⟨g, o, none⟩ : Addr).add j = ⟨g, o + j, none⟩ := by unfold Addr.add; split <;> simp_all
namespace Mix2
end Mix2
end Go.Proofs.YtfbkcdhmggjbaaaGreatDoor

/-
  The reference of chapter 47: in, Concepts.
-/
namespace Go.Proofs.YtfbkcdhmggjbaaaGreatDoor
open Go.RowKit
end Go.Proofs.YtfbkcdhmggjbaaaGreatDoor

/-
  The reference of chapter 47: cells: Ones, is, without, independent, Fool.
-/
namespace Go.Proofs.YtfbkcdhmggjbaaaGreatDoor
open Go.RowKit

theorem info_pair : (Tryz.prog.info? 146).map (fun i => (i.zero, i.size, i.bytes)) = some (some (.agg #[.int .i64 0, .int .i64 0]), 2, 16) := by kernel_rfl
/-- Cells, as the program's numbers. -/
def cz (o : List (Nat × Nat)) : List (Int × Int) := o.map fun c => ((c.1 : Int), (c.2 : Int))
theorem cz_len (o : List (Nat × Nat)) : (cz o).length = o.length := by simp [cz]
theorem cz_get {o : List (Nat × Nat)} {k : Nat} {c : Nat × Nat} (h : o[k]? = some c) : (cz o)[k]? = some ((c.1 : Int), (c.2 : Int)) := by unfold cz; rw [List.getElem?_map, h]; rfl
theorem cellsP_snoc (l : List (Int × Int)) (c : Int × Int) : cellsP (l ++ [c]) = cellsP l ++ [.int .i64 c.1, .int .i64 c.2] := by rw [cellsP_app]; rfl
def OwnP (w : World) (base : Nat) (v : Value) (l : List (Int × Int)) : Prop := w.ownsRow base 146 2 v l.length (cellsP l)
theorem OwnP.nil (w : World) (base : Nat) : OwnP w base (.slice none 0 0) [] := World.ownsRow_nil _ _ _ _
theorem OwnP.below {w w' : World} {base : Nat} {v : Value} {l : List (Int × Int)} (h : OwnP w base v l) (hb : Below w.heap.size w w') : OwnP w' base v l := own_below h hb
theorem OwnP.low {w : World} {base b0 : Nat} {v : Value} {l : List (Int × Int)} (h : OwnP w base v l) (hb : b0 ≤ base) : OwnP w b0 v l := own_low h hb
theorem OwnP.mk_ {w : World} {base n : Nat} {v : Value} {l : List (Int × Int)} {xs : List Value} (h : w.ownsRow base 146 2 v n xs) (hx : xs = cellsP l) : OwnP w base v l := by
  subst hx
  have : n = l.length := by have := h.1; rw [cellsP_len] at this; omega
  unfold OwnP
  rw [← this]; exact h
theorem OwnP.pairs {w : World} {base : Nat} {v : Value} {l : List (Int × Int)} (h : OwnP w base v l) (hl : l.length ≤ 1000000) : IsPairs w v l := by
  rcases id h.2 with ⟨hv, hn⟩ | ⟨g, cap, cur, hv, hg, hb, hnc, hm, hs, ht⟩
  · have : l = [] := List.eq_nil_of_length_eq_zero hn
    subst this
    exact ⟨none, 0, hv, Row.empty _ _, Nat.le_refl _, by decide⟩
  · refine ⟨_, cap, hv, Row.of_blk (t := 146) (cs := cur) hb fun k u hu => ?_, hnc, hl⟩
    rw [← ht] at hu
    rw [List.getElem?_take] at hu
    split at hu
    · simpa using hu
    · cases hu
/-- The ones of the rows below k. -/
def onesC (Ns : List Nat) (k : Nat) : List (Nat × Nat) := (List.range k).flatMap fun i => (mems (Ns.getD i 0)).map fun j => (i, j)
theorem onesC_all (Ns : List Nat) : onesC Ns Ns.length = cellsOf Ns := rfl
theorem onesC_succ (Ns : List Nat) (k : Nat) : onesC Ns (k + 1) = onesC Ns k ++ (mems (Ns.getD k 0)).map fun j => (k, j) := by
  unfold onesC; rw [List.range_succ, List.flatMap_append]; simp
end Go.Proofs.YtfbkcdhmggjbaaaGreatDoor
