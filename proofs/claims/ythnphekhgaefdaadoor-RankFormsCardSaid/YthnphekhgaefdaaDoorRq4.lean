/-
  A proof that is laid and changed: arbaclaw47.Raw.fit.
-/
import Derived.Test.YthnphekhgaefdaaDoorRq3
import Derived.Test.YthnphekhgaefdaaDoorRk9
namespace Go.Proofs.YthnphekhgaefdaaDoor
open Go.RowKit
theorem abs5f {P : Program} {c : Code} {Q : Exit → Act → World → Prop} {a : Act} {w : World} {c1 c2 c3 c4 c5 : Array Value} {t1 t2 t3 t4 t5 : TypeId} (h : ∀ W, Blk W w.heap.size t1 c1 → Blk W (w.heap.size + 1) t2 c2 → Blk W (w.heap.size + 2) t3 c3 → Blk W (w.heap.size + 3) t4 c4 → Blk W (w.heap.size + 4) t5 c5 → Below w.heap.size w W → W.heap.size = w.heap.size + 5 → c.wp P Q a W) :
    c.wp P Q a (((((w.alloc (.cells c1 t1)).alloc (.cells c2 t2)).alloc (.cells c3 t3)).alloc (.cells c4 t4)).alloc (.cells c5 t5)) :=
  h _ (((((Blk.new _ _ _).alloc _).alloc _).alloc _).alloc _) ((((Blk.new_ (by simp) _ _).alloc _).alloc _).alloc _) (((Blk.new_ (by simp) _ _).alloc _).alloc _) ((Blk.new_ (by simp) _ _).alloc _) (Blk.new_ (by simp) _ _) ((((((Below.refl _ _).alloc (Nat.le_refl _) _).alloc (by simp) _).alloc (by simp; omega) _).alloc (by simp; omega) _).alloc (by simp; omega) _) (by simp)
theorem size_facts (b less : Nat) (h1 : 1 ≤ b) (h5 : b ≤ 5) : ∃ s : Nat, 1 ≤ s ∧ s ≤ b ∧ wrap64 (1 + wrap64 ((wrap64 (((b : Int) - 1) * (3 - (less : Int) % 3))).tdiv 3)) = (s : Int) := by
  have key : ∀ b : Fin 6, ∀ r : Fin 3, 1 ≤ b.1 → 1 ≤ 1 + (b.1 - 1) * (3 - r.1) / 3 ∧ 1 + (b.1 - 1) * (3 - r.1) / 3 ≤ b.1 ∧ wrap64 (1 + wrap64 ((wrap64 ((((b.1 : Nat) : Int) - 1) * (3 - ((r.1 : Nat) : Int)))).tdiv 3)) = ((1 + (b.1 - 1) * (3 - r.1) / 3 : Nat) : Int) := by decide +kernel
  have e : (less : Int) % 3 = ((less % 3 : Nat) : Int) := rfl
  rw [e]
  exact ⟨_, key ⟨b, by omega⟩ ⟨less % 3, Nat.mod_lt _ (by omega)⟩ h1⟩
namespace Mix2
end Mix2
end Go.Proofs.YthnphekhgaefdaaDoor
