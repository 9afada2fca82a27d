/-
  Plain: the longest list of independent ones. The program's search (with its cut) finds what the reference's search finds.
-/
import Derived.Test.YtfbkcdhmggjbaaaGreatDoorRkA
namespace Go.Proofs.YtfbkcdhmggjbaaaGreatDoor

section
variable {α : Type}
/-- The longer one of two lists; the first one if they are of one length. -/
def pickL (a x : List α) : List α := if a.length < x.length then x else a
theorem pickL_len (a x : List α) : (pickL a x).length = max a.length x.length := by unfold pickL; split <;> omega
/-- The program's search, with its cut. -/
def bestE (ind : α → α → Bool) : Nat → List α → List α → List α → List α
  | 0, _, _, best => best
  | _ + 1, [], _, best => best
  | n + 1, c :: r, l, best => if l.length + (r.length + 1) ≤ best.length then best else bestE ind n r l (bestE ind n (r.filter (ind c)) (l ++ [c]) (pickL best (l ++ [c])))
end
end Go.Proofs.YtfbkcdhmggjbaaaGreatDoor
