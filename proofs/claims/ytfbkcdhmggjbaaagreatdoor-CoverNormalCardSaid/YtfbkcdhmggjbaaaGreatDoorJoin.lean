import Derived.Test.YtfbkcdhmggjbaaaGreatDoorBits
namespace Go.Proofs.YtfbkcdhmggjbaaaGreatDoor
open Go.RowKit

/-- Where the orders of a region meet again: the rest is walked once. F: the frame over free slots; R: what holds. -/
theorem m_join {P : Program} {l : List Oper} {Q : Exit → Act → World → Prop} {n : Nat} {ls : Array Bool} {S : World → Prop} {a : Act} {W : World} {β : Type} (ls' : Array Bool) (n' : Nat) (F : β → (Nat → Value) → Array Value) (R : β → List Deferred → World → Prop)
    (leaf : ∀ b f ds W, R b ds W → wpM P l Q n' ls' S { tmps := F b f, defers := ds } W)
    (h : (∀ b (a' : Act) W' (ls'' : Array Bool), ls'' = ls' → a'.tmps = F b (fun i => a'.tmps.getD i undef) → R b a'.defers W' → wpM P l Q n' ls'' S a' W') → wpM P l Q n ls S a W) : wpM P l Q n ls S a W :=
  h fun b ⟨tmps, ds⟩ W' ls'' e1 e2 hR => by
    subst e1
    dsimp only at e2 hR
    rw [e2]
    exact leaf b _ ds W' hR
section
variable {P : Program} {ops : Array Oper} {Q : Exit → Act → World → Prop} {a : Act} {w : World} {rest : List Oper} {o : Oper} {v : Value}
end
end Go.Proofs.YtfbkcdhmggjbaaaGreatDoor
