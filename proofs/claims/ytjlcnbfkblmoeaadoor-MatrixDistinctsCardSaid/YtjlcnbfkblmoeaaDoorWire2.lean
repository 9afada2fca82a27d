import Derived.Test.YtjlcnbfkblmoeaaDoorWire1
import Derived.Laws.AppendOwnNone
import Derived.Deep.AppendLies
namespace Go.Proofs.YtjlcnbfkblmoeaaDoor
open Go.RowKit

/-- A writer at block b that holds the bytes xs. -/
def IsWr (base b : Nat) (xs : List Int) (W : World) : Prop := base ≤ b ∧ ∃ v, Blk W b 124 #[v] ∧ W.ownsRow base 5 1 v xs.length (xs.map enc8)
theorem IsWr.below {base b : Nat} {xs : List Int} {W W' : World} (h : IsWr base b xs W) (hb : Below W.heap.size W W') : IsWr base b xs W' := by
  obtain ⟨h1, v, h2, h3⟩ := h
  exact ⟨h1, v, h2.below hb h2.lt, own_below h3 hb⟩
/-- A slice of the bytes ys. -/
def IsBytes (W : World) (p : Value) (ys : List Int) : Prop := (p = .slice none 0 0 ∧ ys = []) ∨ ∃ g c, 0 < ys.length ∧ p = .slice (some ⟨g, 0, none⟩) ys.length c ∧ g < W.heap.size ∧ ∀ (j : Nat) u, (ys.map enc8)[j]? = some u → W.cell? ⟨g, j, none⟩ = some u
theorem IsBytes.below {W W' : World} {p : Value} {ys : List Int} (h : IsBytes W p ys) (hb : Below W.heap.size W W') : IsBytes W' p ys := by
  rcases h with h | ⟨g, c, h0, h1, h2, h3⟩
  · exact .inl h
  · exact .inr ⟨g, c, h0, h1, Nat.lt_of_lt_of_le h2 hb.size, fun j u hu => onB hb (h3 j u hu)⟩

/-- Block g is none of the writer's own. -/
def Apart (W : World) (b g : Nat) : Prop := g < W.heap.size ∧ g ≠ b ∧ ∀ v, W.cell? ⟨b, 0, none⟩ = some v → some g ≠ v.ownBlock
/-- What is not the writer's stays, and stays apart. -/
def Frame (b : Nat) (W W' : World) : Prop := ∀ g, Apart W b g → Apart W' b g ∧ W'.heap[g]? = W.heap[g]?
theorem Frame.refl (b : Nat) (W : World) : Frame b W W := fun _ h => ⟨h, rfl⟩
theorem Frame.trans {b : Nat} {A B C : World} (h : Frame b A B) (k : Frame b B C) : Frame b A C := fun g hg => ⟨(k g (h g hg).1).1, (k g (h g hg).1).2.trans (h g hg).2⟩
theorem Frame.of_below {b : Nat} {W W' : World} (h : Below W.heap.size W W') (hb : b < W.heap.size) : Frame b W W' := fun g hg =>
  ⟨⟨Nat.lt_of_lt_of_le hg.1 h.size, hg.2.1, fun v hv => hg.2.2 v (by rwa [h.cell (p := ⟨b, 0, none⟩) hb] at hv)⟩, h.block g hg.1⟩
theorem IsBytes.frame {b : Nat} {W W' : World} {p : Value} {ys : List Int} (h : IsBytes W p ys) (hf : Frame b W W') (ha : ∀ g o c n, p = .slice (some ⟨g, o, none⟩) n c → Apart W b g) : IsBytes W' p ys := by
  rcases h with h | ⟨g, c, h0, h1, h2, h3⟩
  · exact .inl h
  · have hg := hf g (ha g 0 c _ h1)
    exact .inr ⟨g, c, h0, h1, hg.1.1, fun j u hu => (World.cell?_of_block (a := ⟨g, j, none⟩) hg.2).trans (h3 j u hu)⟩
theorem Apart.new {W W' : World} {b g base : Nat} {xs : List Int} (h : IsWr base b xs W) (hb : Below W.heap.size W W') (hg : W.heap.size ≤ g) (hg' : g < W'.heap.size) : Apart W' b g := by
  obtain ⟨h1, v, h2, h3⟩ := h
  refine ⟨hg', by have := h2.lt; omega, fun u hu e => ?_⟩
  rw [hb.cell (p := ⟨b, 0, none⟩) h2.lt, h2.cell 0] at hu
  cases hu
  have := (h3.lt g e.symm).2
  omega
set_option maxRecDepth 100000 in
set_option maxHeartbeats 1000000 in
theorem newWriter_any (w : World) :
    Calls Tryd.prog 79 #[] w fun e w' => e = .returned (ptr w.heap.size) ∧ IsWr w.heap.size w.heap.size [] w' ∧ Below w.heap.size w w' := by
  go_enter Tryd.func79, Tryd.ntmps79
  go_wp2
  go_ret
  exact ⟨rfl, ⟨Nat.le_refl _, _, Blk.new _ _ _, World.ownsRow_nil _ _ _ _⟩, (Below.refl _ _).alloc (Nat.le_refl _) _⟩
set_option maxRecDepth 100000 in
set_option maxHeartbeats 1000000 in
theorem raw_any (base b : Nat) (xs ys : List Int) (p : Value) (w : World) (h : IsWr base b xs w) (hp : IsBytes w p ys) (hl : xs.length + ys.length ≤ 1000000000) (hbase : base ≤ w.heap.size) :
    Calls Tryd.prog 96 #[ptr b, p] w fun e w' => e = .returned (.tuple #[]) ∧ IsWr base b (xs ++ ys) w' ∧ Below base w w' ∧ Frame b w w' := by
  obtain ⟨i0, hi0, hz0, hz1, hz2⟩ := info_parts info_byte
  obtain ⟨h1, v, h2, h3⟩ := h
  have c0 : w.cell? ⟨b, 0, none⟩ = some v := h2.cell 0
  have f0 := h2.frozen 0
  have hne := own_ne h3 h2 (by decide)
  rcases hp with ⟨rfl, rfl⟩ | ⟨g, c, hpos, rfl, hg, hc⟩
  · obtain ⟨A, cv, rfl, _⟩ := row_of_own h3
    go_enter Tryd.func96, Tryd.ntmps96
    go_wp2_with (at_builtin; refine wpList_append_own_none rfl _ _ 22 rfl base 5 i0 1 Tryd.underlying22 hi0 _ _ _ rfl h3 rfl ?_)
    go_end0
    have h4 := ownsRow_setCell_other h3 (a := ⟨b, 0, none⟩) (fun e => hne e.symm) (.slice A xs.length cv)
    refine ⟨rfl, ⟨h1, _, h2.set_ 0 _, by simpa using h4⟩, (Below.refl _ _).setCell (p := ⟨b, 0, none⟩) h1 _, fun q hq => ⟨⟨by simpa [World.setCell] using hq.1, hq.2.1, fun u hu => ?_⟩, Below.heap_setCell w ⟨b, 0, none⟩ _ q hq.2.1⟩⟩
    rw [(h2.set_ 0 (.slice A xs.length cv)).cell 0] at hu
    cases hu
    exact hq.2.2 _ c0
  · have hadd : ∀ (j : Nat) u, (ys.map enc8)[j]? = some u → w.cell? ((⟨g, 0, none⟩ : Addr).add j) = some u := fun j u hu => by
      have := hc j u hu
      have e : (⟨g, 0, none⟩ : Addr).add j = ⟨g, j, none⟩ := by unfold Addr.add; split <;> simp_all
      rw [e]; exact this
    have HADD := Lib.hid hadd; clear hadd hc
    go_enter Tryd.func96, Tryd.ntmps96
    go_wp2_with (at_builtin; refine wpList_append_lies _ rfl _ _ 22 rfl base 5 i0 (.int .u8 0) 1 1 Tryd.underlying22 hi0 hz0 hz1 hz2 rfl (by decide) _ _ _ rfl h3 ⟨g, 0, none⟩ ys.length c (ys.map enc8) rfl (by simp) HADD.out (by intro u hu; obtain ⟨x, _, rfl⟩ := List.mem_map.1 hu; rfl) hpos (by unfold maxLen; omega) (by omega) hbase w.heap.size rfl ?_)
    intro g5 cap5 w3 hown' hgrow hlies hlt5
    have hB3 := h2.grown hgrow hne
    have c3 := hB3.cell 0
    have f3 := hB3.frozen 0
    have hne3 := own_ne hown' hB3 (by decide)
    have hbe3 := (Below.refl base w).grown hgrow hbase (fun q hq => (h3.lt q hq).1)
    go_wp2_with fail
    go_end0
    have h4 := ownsRow_setCell_other hown' (a := ⟨b, 0, none⟩) (fun e => hne3 e.symm) (.slice (some ⟨g5, 0, none⟩) (xs.length + ys.length) cap5)
    refine ⟨rfl, ⟨h1, _, hB3.set_ 0 _, by simpa using h4⟩, hbe3.setCell (p := ⟨b, 0, none⟩) h1 _, fun q hq => ⟨⟨by have := hgrow.size; have := hq.1; simp [World.setCell]; omega, hq.2.1, fun u hu => ?_⟩, (Below.heap_setCell w3 ⟨b, 0, none⟩ _ q hq.2.1).trans (hgrow.block q hq.1 (hq.2.2 _ c0))⟩⟩
    rw [(hB3.set_ 0 (.slice (some ⟨g5, 0, none⟩) (xs.length + ys.length) cap5)).cell 0] at hu
    cases hu
    intro e
    have e : q = g5 := by simpa [Value.ownBlock] using e
    rcases hlies with hl | hl
    · exact hq.2.2 _ c0 (by rw [hl, e])
    · have := hq.1; omega
end Go.Proofs.YtjlcnbfkblmoeaaDoor
