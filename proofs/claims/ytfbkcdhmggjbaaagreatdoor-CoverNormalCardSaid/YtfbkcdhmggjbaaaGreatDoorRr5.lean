/-
  The reference of chapter 47: covers, Least.
-/
import Derived.Test.YtfbkcdhmggjbaaaGreatDoorRrA
import Derived.Test.YtfbkcdhmggjbaaaGreatDoorRnA
namespace Go.Proofs.YtfbkcdhmggjbaaaGreatDoor
open Go.RowKit

namespace Mix2
end Mix2
end Go.Proofs.YtfbkcdhmggjbaaaGreatDoor
