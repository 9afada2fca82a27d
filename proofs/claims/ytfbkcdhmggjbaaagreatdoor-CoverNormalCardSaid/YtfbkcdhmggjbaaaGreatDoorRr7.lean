/-
  The reference of chapter 47: grow, Prove.
-/
import Derived.Test.YtfbkcdhmggjbaaaGreatDoorRr6
namespace Go.Proofs.YtfbkcdhmggjbaaaGreatDoor
open Go.RowKit

theorem own5 {w : World} {base n : Nat} {v : Value} {xs : List Value} {e : TypeId} {size : Nat} (h : w.ownsRow base e size v n xs) : ∃ A c, v = .slice A n c ∧ n ≤ c := by
  rcases id h.2 with ⟨hv, hn⟩ | ⟨g, cap, cur, hv, _, _, hnc, _⟩
  · exact ⟨none, 0, by rw [hv, hn], by omega⟩
  · exact ⟨_, cap, hv, hnc⟩
namespace Mix2

end Mix2
end Go.Proofs.YtfbkcdhmggjbaaaGreatDoor
