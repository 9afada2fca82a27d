/-
  The reference of chapter 45: all, compare, Common, Having, Close.
-/
import Derived.Test.YtfbkcdhmggjbaaaGreatDoorCloA
import Derived.Test.YtfbkcdhmggjbaaaGreatDoorLaw
import Derived.Test.YtfbkcdhmggjbaaaGreatDoorLoop
namespace Go.Proofs.YtfbkcdhmggjbaaaGreatDoor
open Go.RowKit

/-- A bit is cleared. -/
def clr (N j : Nat) : Nat := N &&& (18446744073709551615 - 2 ^ j)
/-- The element of a matrix by its numbers. -/
theorem nsOf_bit {C : Nat} {M : List (List Bool)} (hC : C ≤ 4096) {i j : Nat} (hi : i < M.length) (hj : j < C) : ((nsOf C M).getD i 0).testBit j = mget M i j := by
  rw [nsOf_get hi, testBit_rowN _ _ _ _ hC, hasR_in hi hj]
end Go.Proofs.YtfbkcdhmggjbaaaGreatDoor
