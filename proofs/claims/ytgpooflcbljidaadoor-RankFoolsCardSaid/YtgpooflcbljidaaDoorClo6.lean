/-
  closure.least: whether every column of a set is needed for its rows.
-/
import Derived.Test.YtgpooflcbljidaaDoorClo5
namespace Go.Proofs.YtgpooflcbljidaaDoor
open Go.RowKit
attribute [local go_sem] Oper.semAt_some

theorem absC4 {P : Program} {w : World} {f : FuncId} {args : Array Value} {R : Ending → World → Prop} {c1 c2 c3 c4 : Array Value} {t1 t2 t3 t4 : TypeId} (h : ∀ W, Blk W w.heap.size t1 c1 → Blk W (w.heap.size + 1) t2 c2 → Blk W (w.heap.size + 2) t3 c3 → Blk W (w.heap.size + 3) t4 c4 → Below w.heap.size w W → W.heap.size = w.heap.size + 4 → Calls P f args W R) :
    Calls P f args ((((w.alloc (.cells c1 t1)).alloc (.cells c2 t2)).alloc (.cells c3 t3)).alloc (.cells c4 t4)) R :=
  h _ ((((Blk.new _ _ _).alloc _).alloc _).alloc _) (((Blk.new_ (by simp) _ _).alloc _).alloc _) ((Blk.new_ (by simp) _ _).alloc _) (Blk.new_ (by simp) _ _) (((((Below.refl _ _).alloc (Nat.le_refl _) _).alloc (by simp) _).alloc (by simp; omega) _).alloc (by simp; omega) _) (by simp)
def leastB (C : Nat) (Ns : List Nat) (S T : Nat) : Bool := (mems S).all fun j => !decide (havN C Ns (withoutB S (j : Nat)) = T)
end Go.Proofs.YtgpooflcbljidaaDoor
