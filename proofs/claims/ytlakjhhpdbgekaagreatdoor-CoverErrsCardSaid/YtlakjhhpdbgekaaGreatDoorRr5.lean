/-
  The reference of chapter 47: covers, Least.
-/
import Derived.Test.YtlakjhhpdbgekaaGreatDoorRrA
import Derived.Test.YtlakjhhpdbgekaaGreatDoorRnA
namespace Go.Proofs.YtlakjhhpdbgekaaGreatDoor
open Go.RowKit

namespace Mix2
end Mix2
end Go.Proofs.YtlakjhhpdbgekaaGreatDoor
