/-
  The reference of chapter 47: Prove.
-/
import Derived.Test.YtlakjhhpdbgekaaGreatDoorRr7
namespace Go.Proofs.YtlakjhhpdbgekaaGreatDoor
open Go.RowKit
namespace Mix2

end Mix2
end Go.Proofs.YtlakjhhpdbgekaaGreatDoor
