/-
  bits.Set.Compare: its answer, and a world behind it that is the old one but for draws and new blocks.
-/
import Derived.Test.YtgpooflcbljidaaDoorClo6
import Derived.Test.YtgpooflcbljidaaDoorShelf
import Derived.Test.YtgpooflcbljidaaDoorLoop
import Derived.Sort.Grow
namespace Go.Proofs.YtgpooflcbljidaaDoor
open Go.RowKit

/-- New blocks and draws, nothing else. -/
def Gw (w w' : World) : Prop := ∃ q os, w' = Go.Sort.grow (w.drewN q) os
theorem Gw.refl (w : World) : Gw w w := ⟨0, #[], by simp [World.drewN]⟩
theorem Gw.trans {a b c : World} (h : Gw a b) (k : Gw b c) : Gw a c := by
  obtain ⟨q, os, rfl⟩ := h
  obtain ⟨q', os', rfl⟩ := k
  refine ⟨q + q', os ++ os', ?_⟩
  unfold Go.Sort.grow World.drewN
  dsimp only
  rw [Array.append_assoc, Nat.add_assoc]
theorem Gw.alloc (w : World) (o : Obj) : Gw w (w.alloc o) := ⟨0, #[o], by rw [Go.Sort.alloc_eq_grow]; rfl⟩
theorem Gw.drew (w : World) : Gw w w.drew := ⟨1, #[], by rw [Go.Sort.grow_empty]; rfl⟩
theorem Gw.below {w w' : World} (h : Gw w w') : Below w.heap.size w w' := by
  obtain ⟨q, os, rfl⟩ := h
  exact ⟨rfl, rfl, rfl, by simp [Go.Sort.grow, World.drewN], fun k hk => by simp [Go.Sort.grow, World.drewN, Array.getElem?_append_left hk]⟩
theorem gabs1 {P : Program} {c : Code} {Q : Exit → Act → World → Prop} {a : Act} {w : World} {c1 : Array Value} {t1 : TypeId} (h : ∀ W, Blk W w.heap.size t1 c1 → Gw w W → c.wp P Q a W) : c.wp P Q a (w.alloc (.cells c1 t1)) :=
  h _ (Blk.new _ _ _) (Gw.alloc _ _)
theorem gabs2 {P : Program} {c : Code} {Q : Exit → Act → World → Prop} {a : Act} {w : World} {c1 c2 : Array Value} {t1 t2 : TypeId} (h : ∀ W, Blk W w.heap.size t1 c1 → Blk W (w.heap.size + 1) t2 c2 → Gw w W → c.wp P Q a W) : c.wp P Q a ((w.alloc (.cells c1 t1)).alloc (.cells c2 t2)) :=
  h _ ((Blk.new _ _ _).alloc _) (Blk.new_ (by simp) _ _) ((Gw.alloc _ _).trans (Gw.alloc _ _))
theorem gabsC1 {P : Program} {w : World} {f : FuncId} {args : Array Value} {R : Ending → World → Prop} {c1 : Array Value} {t1 : TypeId} (h : ∀ W, Blk W w.heap.size t1 c1 → Gw w W → Calls P f args W R) : Calls P f args (w.alloc (.cells c1 t1)) R :=
  h _ (Blk.new _ _ _) (Gw.alloc _ _)
set_option maxHeartbeats 400000 in
theorem word_g (v : Value) (N k : Nat) (w : World) (hs : IsSet w v N) :
    Calls Tryd.prog 70 #[.agg #[v], .int .i64 k] w fun e w' => e = .returned (u64 (wd N k)) ∧ Gw w w' := by
  obtain ⟨A, c, rfl, h1, _, _, h4⟩ := hs
  by_cases hk : k < nw N
  · obtain ⟨g, cs, rfl, hb, hc⟩ := h4 (by omega)
    have hlt := hb.lt
    have hcell : w.cell? ⟨g, k, none⟩ = some (u64 (wd N k)) := (hb.cell k).trans (hc k hk)
    clear h4 hc hb
    go_enter Tryd.func70, Tryd.ntmps70
    go_wp2
    go_ret
    exact ⟨rfl, Gw.alloc _ _⟩
  · rw [wd_ge (by omega)]
    clear h4
    go_enter Tryd.func70, Tryd.ntmps70
    go_wp2
    go_ret
    exact ⟨rfl, Gw.alloc _ _⟩
set_option maxRecDepth 100000 in
set_option maxHeartbeats 400000 in
theorem has_g (v : Value) (N i : Nat) (w : World) (hs : IsSet w v N) (hi : i ≤ 4095) :
    Calls Tryd.prog 25 #[.agg #[v], .int .i64 i] w fun e w' => e = .returned (.bool (N.testBit i)) ∧ Gw w w' := by
  obtain ⟨A, c, rfl, hN, _⟩ := id hs
  have h1 : (0 : Int) ≤ i := by omega
  go_enter Tryd.func25, Tryd.ntmps25
  have hs1 := hs.keep (KeepW.alloc w (.cells #[Value.slice A (nw N) c] 66))
  go_wp2_with (go_at_call 70; refine (word_g _ N (i / 64) _ hs1).mono ?_; rintro e w1 ⟨rfl, hb1⟩)
  go_ret
  exact ⟨ret_bool (has_form N i), (Gw.alloc _ _).trans hb1⟩
/-- A member greater than i. -/
def beyB (N i : Nat) : Bool := decide (N / 2 ^ (i + 1) ≠ 0)
theorem beyB_log {N i : Nat} (h : N ≠ 0) : beyB N i = decide (i < N.log2) := by
  unfold beyB
  rw [decide_eq_decide]
  have e : i < N.log2 ↔ 2 ^ (i + 1) ≤ N := by rw [← Nat.le_log2 h]; omega
  rw [e, ne_eq, Nat.div_eq_zero_iff]
  have := Nat.two_pow_pos (i + 1)
  omega
theorem u64_xor_nat (a b : Nat) (ha : a < 18446744073709551616) (hb : b < 18446744073709551616) : bits .xor .u64 (a : Int) (b : Int) = ((a ^^^ b : Nat) : Int) := by
  have hx : a ^^^ b < 2 ^ 64 := Nat.xor_lt_two_pow (by omega) (by omega)
  show IntKind.u64.wrap ((BitVec.ofInt 64 (a : Int) ^^^ BitVec.ofInt 64 (b : Int)).toNat : Int) = _
  rw [BitVec.toNat_xor, ofInt_u64 a ha, ofInt_u64 b hb, IntKind.wrap_u64]
  omega
end Go.Proofs.YtgpooflcbljidaaDoor
