/-
  The reference of chapter 47: Prove.
-/
import Derived.Test.YtfbkcdhmggjbaaaGreatDoorRr7
namespace Go.Proofs.YtfbkcdhmggjbaaaGreatDoor
open Go.RowKit
namespace Mix2

end Mix2
end Go.Proofs.YtfbkcdhmggjbaaaGreatDoor
