import Derived.Test.YtfbkcdhmggjbaaaGreatDoorCloA
import Derived.Test.YtfbkcdhmggjbaaaGreatDoorMinus
import Derived.Test.YtfbkcdhmggjbaaaGreatDoorRkA
import Derived.Test.YtfbkcdhmggjbaaaGreatDoorMix2
import Derived.Test.YtfbkcdhmggjbaaaGreatDoorLoop
/-
  The lectic order of the program: its answer, and a world behind it that is the old one but for draws and new blocks.
-/
namespace Go.Proofs.YtfbkcdhmggjbaaaGreatDoor
open Go.RowKit

/-- Draws are not taken back. -/
def Dn (w w' : World) : Prop := w.drawn ≤ w'.drawn
theorem Dn.refl (w : World) : Dn w w := Nat.le_refl _
theorem Dn.trans {a b c : World} (h : Dn a b) (k : Dn b c) : Dn a c := Nat.le_trans h k
theorem Dn.drew {a b : World} (h : Dn a b) : Dn a b.drew := Nat.le_trans h (Nat.le_succ _)
theorem Dn.alloc {a b : World} (h : Dn a b) (o : Obj) : Dn a (b.alloc o) := h
theorem Dn.setCell {a b : World} (h : Dn a b) (p : Addr) (v : Value) : Dn a (b.setCell p v) := h
theorem Gw.dn {w w' : World} (h : Gw w w') : Dn w w' := by
  obtain ⟨q, os, rfl⟩ := h
  exact Nat.le_add_right _ _
theorem Gw.of {w w' : World} (hb : Below w.heap.size w w') (hd : Dn w w') : Gw w w' := by
  refine ⟨w'.drawn - w.drawn, w'.heap.extract w.heap.size w'.heap.size, ?_⟩
  obtain ⟨h1, h2, h3, h4, h5⟩ := hb
  have hd' : w.drawn + (w'.drawn - w.drawn) = w'.drawn := Nat.add_sub_cancel' hd
  have hh : w.heap ++ w'.heap.extract w.heap.size w'.heap.size = w'.heap := by
    apply Array.ext_getElem?
    intro i
    by_cases hi : i < w.heap.size
    · rw [Array.getElem?_append_left hi, h5 i hi]
    · rw [Array.getElem?_append_right (by omega), Array.getElem?_extract]
      by_cases hj : i < w'.heap.size
      · rw [if_pos (by omega), show w.heap.size + (i - w.heap.size) = i by omega]
      · rw [if_neg (by omega), Array.getElem?_eq_none (by omega)]
  unfold Go.Sort.grow World.drewN
  dsimp only
  rw [hh, hd']
  cases w; cases w'
  simp_all
section
variable {P : Program} {c : Code} {Q : Exit → Act → World → Prop} {a : Act} {w : World}
end
end Go.Proofs.YtfbkcdhmggjbaaaGreatDoor

/-
  bits.Set.Least, and rank.lectic: the answers; behind them the world is the old one but for draws and new blocks.
-/
namespace Go.Proofs.YtfbkcdhmggjbaaaGreatDoor
open Go.RowKit

theorem wd_all {N : Nat} (h : ∀ i, i < nw N → wd N i = 0) : N = 0 := wd_ext fun k => by
  rw [wd_zero]
  by_cases hk : k < nw N
  · exact h k hk
  · exact wd_ge (by omega)
set_option maxRecDepth 100000 in
set_option maxHeartbeats 2000000 in
theorem least_yes (v : Value) (N L : Nat) (w : World) (hs : IsSet w v N) (hL : N.testBit L = true) (hlo : ∀ j, j < L → N.testBit j = false) (hT : Tab w) :
    Calls Tryz.prog 183 #[.agg #[v]] w fun e w' => e = .returned (.tuple #[.int .i64 L, .bool true]) ∧ Below w.heap.size w w' ∧ Dn w w' := by
  obtain ⟨A, c, rfl, hN, hNc, _, h4⟩ := id hs
  have hN0 : N ≠ 0 := by rintro rfl; simp at hL
  have hLl : L < 64 * nw N := by
    by_cases h : L < 64 * nw N
    · exact h
    · rw [testBit_ge (Nat.le_refl _) (by omega)] at hL; cases hL
  have hn0 : 0 < nw N := by omega
  obtain ⟨g, cs, rfl, hg, hcs⟩ := h4 hn0
  clear h4
  go_enter Tryz.func183, Tryz.ntmps183
  go_wp2_with fail
  refine wp_loopF (β := Nat) (fun k f => #[f 0, f 1, f 2, f 3, f 4, f 5, f 6, .slice (some ⟨g, 0, none⟩) (nw N) c, .int .i64 (nw N : Int), .int .i64 (k : Int), f 10, f 11, f 12, f 13, f 14, f 15, f 16, f 17, f 18, f 19, f 20, f 21])
    (fun k ds wr => k ≤ nw N ∧ ds = [] ∧ Below w.heap.size w wr ∧ Dn w wr ∧ ∀ i, i < k → wd N i = 0) (fun k => nw N - k) 0 rfl ⟨Nat.zero_le _, rfl, (Below.refl _ _).alloc (Nat.le_refl _) _, Dn.refl _, fun i hi => by omega⟩ ?_
  rintro k f ds wr ⟨hk, rfl, hb, hd, hz⟩
  dsimp only at hk ⊢
  have HZ := Lib.hid hz; clear hz
  by_cases hlt : k < nw N
  · have cN := ((hg.below hb hg.lt).cell k).trans (hcs k hlt)
    have lg := (hg.below hb hg.lt).lt
    by_cases h0 : wd N k = 0
    · have e0 : ((wd N k : Int) != 0) = false := by simp [h0]
      have H0 := Lib.hid h0
      clear h0 hcs
      go_wp2_with fail
      exact ⟨k + 1, rfl, ⟨by omega, by first | rfl | trivial, hb, hd, fun i hi => by
        by_cases e : i = k
        · subst e; exact H0.out
        · exact HZ.out i (by omega)⟩, by omega⟩
    · obtain ⟨b, hbe, hb64, hbt, hblow, _⟩ := ctz_spec (wd N k) h0 (wd_lt N k)
      have htz := tz_any (wd N k) h0 (wd_lt N k) wr (fun j hj => onB hb (hT j hj))
      rw [hbe] at htz
      have hLe : 64 * k + b = L := by
        have h1 : N.testBit (64 * k + b) = true := by
          have := hbt; rw [testBit_wd] at this; simp at this; exact this.2
        rcases Nat.lt_trichotomy (64 * k + b) L with h | h | h
        · rw [hlo _ h] at h1; cases h1
        · exact h
        · -- L lies below: its word is zero, or the bit below b
          exfalso
          have hq : (wd N (L / 64)).testBit (L % 64) = true := by
            rw [testBit_wd, show 64 * (L / 64) + L % 64 = L by omega, hL]; simp; omega
          by_cases hlk : L / 64 < k
          · rw [HZ.out _ hlk] at hq; simp at hq
          · have e : L / 64 = k := by omega
            rw [e, hblow _ (by omega)] at hq; cases hq
      have e0 : ((wd N k : Int) != 0) = true := by rw [bne_iff_ne]; omega
      have HTZ := hideC htz
      have HLE := Lib.hid hLe
      clear h0 hcs htz hbt hblow hbe hlo hL hLe
      go_wp2_with fail
      refine HTZ.out.mono ?_
      rintro e w1 ⟨rfl, rfl⟩
      have e9 : (64 : Int) * (k : Int) + (b : Int) = (L : Int) := by have := HLE.out; omega
      go_wp2_with fail
      go_ret2
      exact ⟨by first | rfl | rw [e9], hb, hd⟩
  · obtain rfl : k = nw N := by omega
    exact absurd (wd_all HZ.out) hN0
/-! The order of the program. -/
namespace Mix2
end Mix2
end Go.Proofs.YtfbkcdhmggjbaaaGreatDoor

/-
  rank.Concepts: the concepts that contain a cell, in lectic order.
-/
namespace Go.Proofs.YtfbkcdhmggjbaaaGreatDoor
open Go.RowKit

section
variable {C : Nat} {Ns : List Nat} {i j D K : Nat}
end
theorem res3 {P : Program} {f : FuncId} {args : Array Value} {w : World} {N N' : Nat} (hN : N = N') (h : Calls P f args w fun e w' => ∃ r, e = .returned (.agg #[r]) ∧ IsSet w' r N ∧ Below w.heap.size w w') :
    Calls P f args w fun e w' => ∃ A n c, e = .returned (.agg #[.slice A n c]) ∧ IsSet w' (.slice A n c) N' ∧ Below w.heap.size w w' := by
  refine h.mono ?_
  rintro e w' ⟨r, rfl, hr, hb⟩
  obtain ⟨A, c, rfl, _⟩ := id hr
  rw [← hN]
  exact ⟨_, _, _, rfl, hr, hb⟩
theorem has_v {w : World} {m : Option Addr} {C : Nat} {Ns : List Nat} (h : IsMV w m C Ns) (i j : Int) :
    Calls Tryz.prog 17 #[.pointer m, .int .i64 i, .int .i64 j] w fun e w' => e = .returned (.bool (mhas C Ns i j)) ∧ Below w.heap.size w w' := by
  rcases h with ⟨rfl, rfl, rfl⟩ | ⟨p, rfl, h⟩
  · refine (hasm_nil i j w).mono ?_
    rintro e w' ⟨rfl, rfl⟩
    refine ⟨ret_bool ?_, Below.refl _ _⟩
    rw [eq_comm]; unfold mhas insideB; rw [decide_eq_false (by simp)]; rfl
  · exact hasm_any p C Ns i j w h
end Go.Proofs.YtfbkcdhmggjbaaaGreatDoor
