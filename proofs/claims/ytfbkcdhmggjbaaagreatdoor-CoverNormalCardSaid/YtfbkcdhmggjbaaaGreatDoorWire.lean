import Derived.Test.YtfbkcdhmggjbaaaGreatDoorText
import Derived.Shelf.RegionOpenPlain
import Derived.Deep.LoopGhost
import Derived.Sort.WalkB12
import Derived.Lib.SlicesMore
import Derived.Lib.OwnBridge
import Derived.Laws.Bits128
import Derived.Laws.AppendOwnNone
import Derived.Deep.AppendLies
import Derived.Deep.Onto
import Derived.Laws.IdiomStrings
import Derived.Lib.BitFns
namespace Go.Proofs.YtfbkcdhmggjbaaaGreatDoor
open Go.RowKit Go.Sort
/-- A byte as a value. -/
abbrev enc8 (x : Int) : Value := .int .u8 x

end Go.Proofs.YtfbkcdhmggjbaaaGreatDoor

namespace Go.Proofs.YtfbkcdhmggjbaaaGreatDoor
open Go.RowKit

theorem bitLenAux_eq : ∀ (f x : Nat), x < 2 ^ f → Lib.bitLenAux f x = if x = 0 then 0 else x.log2 + 1
  | 0, x, h => by
    have : x = 0 := by simpa using h
    subst this; rfl
  | f + 1, x, h => by
    unfold Lib.bitLenAux
    by_cases h0 : x = 0
    · rw [if_pos h0, if_pos h0]
    · rw [if_neg h0, if_neg h0, bitLenAux_eq f (x / 2) (by rw [Nat.pow_succ] at h; omega), Nat.log2_def x]
      by_cases h2 : 2 ≤ x
      · rw [if_pos h2, if_neg (by omega)]; omega
      · rw [if_neg h2, if_pos (by omega)]
theorem top_log (N : Nat) (h : N ≠ 0) : 64 * (nw N - 1) + Lib.bitLen (wd N (nw N - 1)) - 1 = N.log2 := by
  have hq : nw N - 1 = N.log2 / 64 := by rw [nw, if_neg h]; rfl
  have hlt : N < 2 ^ (N.log2 + 1) := Nat.lt_log2_self
  have hle : 2 ^ N.log2 ≤ N := Nat.log2_self_le h
  rw [hq]
  generalize hL : N.log2 = L at *
  have hd : 64 * (L / 64) ≤ L := by omega
  have hw : wd N (L / 64) = N / 2 ^ (64 * (L / 64)) := by
    rw [wd, Nat.shiftRight_eq_div_pow, Nat.mod_eq_of_lt]
    rw [Nat.div_lt_iff_lt_mul (Nat.two_pow_pos _), ← Nat.pow_add]
    exact Nat.lt_of_lt_of_le hlt (Nat.pow_le_pow_right (by omega) (by omega))
  have h1 : 2 ^ (L - 64 * (L / 64)) ≤ N / 2 ^ (64 * (L / 64)) := by
    rw [Nat.le_div_iff_mul_le (Nat.two_pow_pos _), ← Nat.pow_add, show L - 64 * (L / 64) + 64 * (L / 64) = L by omega]; exact hle
  have h2 : N / 2 ^ (64 * (L / 64)) < 2 ^ (L - 64 * (L / 64) + 1) := by
    rw [Nat.div_lt_iff_lt_mul (Nat.two_pow_pos _), ← Nat.pow_add, show L - 64 * (L / 64) + 1 + 64 * (L / 64) = L + 1 by omega]; exact hlt
  have h3 : N / 2 ^ (64 * (L / 64)) ≠ 0 := Nat.ne_of_gt (Nat.lt_of_lt_of_le (Nat.two_pow_pos _) h1)
  have hl : (N / 2 ^ (64 * (L / 64))).log2 = L - 64 * (L / 64) := (Nat.log2_eq_iff h3).2 ⟨h1, h2⟩
  have hb : Lib.bitLen (wd N (L / 64)) = L - 64 * (L / 64) + 1 := by
    show Lib.bitLenAux 64 _ = _
    rw [bitLenAux_eq 64 _ (wd_lt _ _), hw, if_neg h3, hl]
  rw [hb]; omega


end Go.Proofs.YtfbkcdhmggjbaaaGreatDoor

namespace Go.Proofs.YtfbkcdhmggjbaaaGreatDoor
open Go.RowKit

/-- A slice of the bytes ys. -/
def IsBytes (W : World) (p : Value) (ys : List Int) : Prop := (p = .slice none 0 0 ∧ ys = []) ∨ ∃ g c, 0 < ys.length ∧ p = .slice (some ⟨g, 0, none⟩) ys.length c ∧ g < W.heap.size ∧ ∀ (j : Nat) u, (ys.map enc8)[j]? = some u → W.cell? ⟨g, j, none⟩ = some u
theorem IsBytes.below {W W' : World} {p : Value} {ys : List Int} (h : IsBytes W p ys) (hb : Below W.heap.size W W') : IsBytes W' p ys := by
  rcases h with h | ⟨g, c, h0, h1, h2, h3⟩
  · exact .inl h
  · exact .inr ⟨g, c, h0, h1, Nat.lt_of_lt_of_le h2 hb.size, fun j u hu => onB hb (h3 j u hu)⟩

/-- Block g is none of the writer's own. -/
def Apart (W : World) (b g : Nat) : Prop := g < W.heap.size ∧ g ≠ b ∧ ∀ v, W.cell? ⟨b, 0, none⟩ = some v → some g ≠ v.ownBlock
/-- What is not the writer's stays, and stays apart. -/
def Frame (b : Nat) (W W' : World) : Prop := ∀ g, Apart W b g → Apart W' b g ∧ W'.heap[g]? = W.heap[g]?
theorem Frame.refl (b : Nat) (W : World) : Frame b W W := fun _ h => ⟨h, rfl⟩
theorem Frame.trans {b : Nat} {A B C : World} (h : Frame b A B) (k : Frame b B C) : Frame b A C := fun g hg => ⟨(k g (h g hg).1).1, (k g (h g hg).1).2.trans (h g hg).2⟩
theorem Frame.of_below {b : Nat} {W W' : World} (h : Below W.heap.size W W') (hb : b < W.heap.size) : Frame b W W' := fun g hg =>
  ⟨⟨Nat.lt_of_lt_of_le hg.1 h.size, hg.2.1, fun v hv => hg.2.2 v (by rwa [h.cell (p := ⟨b, 0, none⟩) hb] at hv)⟩, h.block g hg.1⟩
theorem IsBytes.frame {b : Nat} {W W' : World} {p : Value} {ys : List Int} (h : IsBytes W p ys) (hf : Frame b W W') (ha : ∀ g o c n, p = .slice (some ⟨g, o, none⟩) n c → Apart W b g) : IsBytes W' p ys := by
  rcases h with h | ⟨g, c, h0, h1, h2, h3⟩
  · exact .inl h
  · have hg := hf g (ha g 0 c _ h1)
    exact .inr ⟨g, c, h0, h1, hg.1.1, fun j u hu => (World.cell?_of_block (a := ⟨g, j, none⟩) hg.2).trans (h3 j u hu)⟩
end Go.Proofs.YtfbkcdhmggjbaaaGreatDoor

namespace Go.Proofs.YtfbkcdhmggjbaaaGreatDoor
open Go.RowKit

theorem IsBytes.of_own {W : World} {base g cap : Nat} {xs : List Int} (h : W.ownsRow base 5 1 (.slice (some ⟨g, 0, none⟩) xs.length cap) xs.length (xs.map enc8)) (h0 : 0 < xs.length) : IsBytes W (.slice (some ⟨g, 0, none⟩) xs.length cap) xs :=
  .inr ⟨g, cap, h0, rfl, (h.lt g rfl).2, fun j u hu => by
    have hj : j < xs.length := by have := (List.getElem?_eq_some_iff.1 hu).1; simpa using this
    rw [h.cellAt j (by omega)]; exact hu⟩
theorem IsBytes.of_blk {W : World} {g c : Nat} {xs : List Int} (h : Blk W g 5 (xs.map enc8).toArray) (h0 : 0 < xs.length) : IsBytes W (.slice (some ⟨g, 0, none⟩) xs.length c) xs :=
  .inr ⟨g, c, h0, rfl, h.lt, fun j u hu => by rw [h.cell j, List.getElem?_toArray]; exact hu⟩
end Go.Proofs.YtfbkcdhmggjbaaaGreatDoor

namespace Go.Proofs.YtfbkcdhmggjbaaaGreatDoor
open Go.RowKit

theorem run_eql_some_nil {P : Program} {t e : TypeId} (h : P.underlying t = some (.slice e)) (a : Addr) (l c : Nat) (w : World) : (binOp .eql t (.slice (some a) l c) (.slice none 0 0)).run P w = .ok (.bool false) w := by
  simp only [binOp]
  simp [run_equal_slice_nil w t e (some a) l c h]

end Go.Proofs.YtfbkcdhmggjbaaaGreatDoor

namespace Go.Proofs.YtfbkcdhmggjbaaaGreatDoor
open Go.RowKit


theorem parse_at (s : ByteArray) (C : Nat) (Ns : List Nat) (hC : pC s.data.toList = C) (hN : pNs s.data.toList = Ns) (hok : pOK s.data.toList) (hs : s.size ≤ 4096) (w : World) :
    Calls Tryz.prog 31 #[.string s] w fun e w' => ∃ q, e = pair (ptr q) 0 ∧ IsMat w' q C Ns ∧ Below w.heap.size w w' := by
  refine (parse_any s w hs).mono ?_
  rintro e w' ⟨hb, ⟨_, h⟩ | ⟨q, rfl, _, hm⟩⟩
  · exact absurd hok h
  · subst hC; subst hN
    exact ⟨q, rfl, hm, hb⟩

end Go.Proofs.YtfbkcdhmggjbaaaGreatDoor
