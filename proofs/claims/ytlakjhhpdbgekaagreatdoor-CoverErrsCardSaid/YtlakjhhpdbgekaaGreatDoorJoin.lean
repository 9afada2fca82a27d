import Derived.Test.YtlakjhhpdbgekaaGreatDoorBits
namespace Go.Proofs.YtlakjhhpdbgekaaGreatDoor
open Go.RowKit

/-- Where the orders of a region meet again: the rest is walked once. F: the frame over free slots; R: what holds. -/
theorem m_join {P : Program} {l : List Oper} {Q : Exit → Act → World → Prop} {n : Nat} {ls : Array Bool} {S : World → Prop} {a : Act} {W : World} {β : Type} (ls' : Array Bool) (n' : Nat) (F : β → (Nat → Value) → Array Value) (R : β → List Deferred → World → Prop)
    (leaf : ∀ b f ds W, R b ds W → wpM P l Q n' ls' S { tmps := F b f, defers := ds } W)
    (h : (∀ b (a' : Act) W' (ls'' : Array Bool), ls'' = ls' → a'.tmps = F b (fun i => a'.tmps.getD i undef) → R b a'.defers W' → wpM P l Q n' ls'' S a' W') → wpM P l Q n ls S a W) : wpM P l Q n ls S a W :=
  h fun b ⟨tmps, ds⟩ W' ls'' e1 e2 hR => by
    subst e1
    dsimp only at e2 hR
    rw [e2]
    exact leaf b _ ds W' hR
/-- The frame over free slots: what is not named is forgotten. -/
theorem wp_frame {P : Program} {Q : Exit → Act → World → Prop} {c : Code} {a : Act} {w : World} (F : (Nat → Value) → Array Value) (hs : a.tmps = F fun i => a.tmps.getD i undef) (h : ∀ g, c.wp P Q { tmps := F g, defers := a.defers } w) : c.wp P Q a w := by
  obtain ⟨tmps, ds⟩ := a
  dsimp only at hs h
  rw [hs]
  exact h _
/-- A region of many operations, one after the other: the laws for quiet ones. -/
theorem wp_seq {P : Program} {id : Nat} {ops : Array Oper} {Q : Exit → Act → World → Prop} {a : Act} {w : World} (h : wpList P ops Q ops.toList a w) : (Code.region id ops false).wp P Q a w := by
  refine wp_region ?_
  have := wpOps_eq_wpList (P := P) (ops := ops) (Q := Q) ops.toList 0 (fun j => by simp)
  rw [Array.length_toList] at this
  rw [List.range_eq_range', this]
  exact h
section
variable {P : Program} {ops : Array Oper} {Q : Exit → Act → World → Prop} {a : Act} {w : World} {rest : List Oper} {o : Oper} {v : Value}
theorem wpL_y (hg : Region.wanted o (yielded ops a.tmps) = true) (h : (execOp a.eval o).run P w = .ok (.value v) w) (hk : wpList P ops Q rest (a.put o.dst v) w) : wpList P ops Q (o :: rest) a w := by
  unfold wpList
  rw [if_pos hg]
  refine .inl ?_
  unfold Oper.wp
  rw [h]
  exact hk
theorem wpL_q (hg : o.guard = none) (h : (execOp a.eval o).run P w = .ok (.value v) w) (hk : wpList P ops Q rest (a.put o.dst v) w) : wpList P ops Q (o :: rest) a w := wpL_y (by simp only [Region.wanted, hg]) h hk
theorem wpL_n (hg : Region.wanted o (yielded ops a.tmps) = false) (hk : wpList P ops Q rest (a.put o.dst undef) w) : wpList P ops Q (o :: rest) a w := by
  unfold wpList
  rw [if_neg (by rw [hg]; simp)]
  exact hk
theorem wpL_end (h : Q .normal a w) : wpList P ops Q [] a w := h
end
end Go.Proofs.YtlakjhhpdbgekaaGreatDoor
