/-
  bits.Set.Compare: its answer, and a world behind it that is the old one but for draws and new blocks.
-/
import Derived.Test.YtiicgbbgiedknaaDoorClo6
import Derived.Test.YtiicgbbgiedknaaDoorShelf
import Derived.Test.YtiicgbbgiedknaaDoorLoop
import Derived.Sort.Grow
namespace Go.Proofs.YtiicgbbgiedknaaDoor
open Go.RowKit

/-- New blocks and draws, nothing else. -/
def Gw (w w' : World) : Prop := ∃ q os, w' = Go.Sort.grow (w.drewN q) os
theorem Gw.refl (w : World) : Gw w w := ⟨0, #[], by simp [World.drewN]⟩
theorem Gw.trans {a b c : World} (h : Gw a b) (k : Gw b c) : Gw a c := by
  obtain ⟨q, os, rfl⟩ := h
  obtain ⟨q', os', rfl⟩ := k
  refine ⟨q + q', os ++ os', ?_⟩
  unfold Go.Sort.grow World.drewN
  dsimp only
  rw [Array.append_assoc, Nat.add_assoc]
theorem Gw.alloc (w : World) (o : Obj) : Gw w (w.alloc o) := ⟨0, #[o], by rw [Go.Sort.alloc_eq_grow]; rfl⟩
theorem Gw.drew (w : World) : Gw w w.drew := ⟨1, #[], by rw [Go.Sort.grow_empty]; rfl⟩
theorem Gw.below {w w' : World} (h : Gw w w') : Below w.heap.size w w' := by
  obtain ⟨q, os, rfl⟩ := h
  exact ⟨rfl, rfl, rfl, by simp [Go.Sort.grow, World.drewN], fun k hk => by simp [Go.Sort.grow, World.drewN, Array.getElem?_append_left hk]⟩
theorem gabs1 {P : Program} {c : Code} {Q : Exit → Act → World → Prop} {a : Act} {w : World} {c1 : Array Value} {t1 : TypeId} (h : ∀ W, Blk W w.heap.size t1 c1 → Gw w W → c.wp P Q a W) : c.wp P Q a (w.alloc (.cells c1 t1)) :=
  h _ (Blk.new _ _ _) (Gw.alloc _ _)
theorem gabs2 {P : Program} {c : Code} {Q : Exit → Act → World → Prop} {a : Act} {w : World} {c1 c2 : Array Value} {t1 t2 : TypeId} (h : ∀ W, Blk W w.heap.size t1 c1 → Blk W (w.heap.size + 1) t2 c2 → Gw w W → c.wp P Q a W) : c.wp P Q a ((w.alloc (.cells c1 t1)).alloc (.cells c2 t2)) :=
  h _ ((Blk.new _ _ _).alloc _) (Blk.new_ (by simp) _ _) ((Gw.alloc _ _).trans (Gw.alloc _ _))
theorem gabsC1 {P : Program} {w : World} {f : FuncId} {args : Array Value} {R : Ending → World → Prop} {c1 : Array Value} {t1 : TypeId} (h : ∀ W, Blk W w.heap.size t1 c1 → Gw w W → Calls P f args W R) : Calls P f args (w.alloc (.cells c1 t1)) R :=
  h _ (Blk.new _ _ _) (Gw.alloc _ _)
set_option maxHeartbeats 400000 in
theorem word_g (v : Value) (N k : Nat) (w : World) (hs : IsSet w v N) :
    Calls Tryd.prog 56 #[.agg #[v], .int .i64 k] w fun e w' => e = .returned (u64 (wd N k)) ∧ Gw w w' := by
  obtain ⟨A, c, rfl, h1, _, _, h4⟩ := hs
  by_cases hk : k < nw N
  · obtain ⟨g, cs, rfl, hb, hc⟩ := h4 (by omega)
    have hlt := hb.lt
    have hcell : w.cell? ⟨g, k, none⟩ = some (u64 (wd N k)) := (hb.cell k).trans (hc k hk)
    clear h4 hc hb
    go_enter Tryd.func56, Tryd.ntmps56
    go_wp2
    go_ret
    exact ⟨rfl, Gw.alloc _ _⟩
  · rw [wd_ge (by omega)]
    clear h4
    go_enter Tryd.func56, Tryd.ntmps56
    go_wp2
    go_ret
    exact ⟨rfl, Gw.alloc _ _⟩
set_option maxRecDepth 100000 in
set_option maxHeartbeats 400000 in
theorem has_g (v : Value) (N i : Nat) (w : World) (hs : IsSet w v N) (hi : i ≤ 4095) :
    Calls Tryd.prog 38 #[.agg #[v], .int .i64 i] w fun e w' => e = .returned (.bool (N.testBit i)) ∧ Gw w w' := by
  obtain ⟨A, c, rfl, hN, _⟩ := id hs
  have h1 : (0 : Int) ≤ i := by omega
  go_enter Tryd.func38, Tryd.ntmps38
  have hs1 := hs.keep (KeepW.alloc w (.cells #[Value.slice A (nw N) c] 25))
  go_wp2_with (go_at_call 56; refine (word_g _ N (i / 64) _ hs1).mono ?_; rintro e w1 ⟨rfl, hb1⟩)
  go_ret
  exact ⟨ret_bool (has_form N i), (Gw.alloc _ _).trans hb1⟩
set_option maxRecDepth 100000 in
set_option maxHeartbeats 400000 in
theorem empty_g (v : Value) (N : Nat) (w : World) (hs : IsSet w v N) :
    Calls Tryd.prog 18 #[.agg #[v]] w fun e w' => e = .returned (.bool (decide (N = 0))) ∧ Gw w w' := by
  obtain ⟨A, c, rfl, hN, _, _, h4⟩ := hs
  go_enter Tryd.func18, Tryd.ntmps18
  go_wp2
  go_ret
  refine ⟨ret_bool ?_, Gw.alloc _ _⟩
  rw [Bool.eq_iff_iff, beq_iff_eq, decide_eq_true_eq, ← nw_eq_zero]; omega
set_option maxRecDepth 100000 in
set_option maxHeartbeats 1000000 in
theorem greatest_no_g (v : Value) (w : World) (hs : IsSet w v 0) :
    Calls Tryd.prog 85 #[.agg #[v]] w fun e w' => e = .returned (.tuple #[.int .i64 0, .bool false]) ∧ Gw w w' := by
  obtain ⟨A, c, rfl, hN, _⟩ := id hs
  go_enter Tryd.func85, Tryd.ntmps85
  go_wp2_with fail
  refine gabsC1 fun W0 hA0 hg0 => ?_
  have hbel0 := hg0.below
  refine (empty_g _ _ _ (hs.below hbel0)).mono ?_
  rintro e w1 ⟨rfl, hg1⟩
  have hb1 := hg1.below
  go_wp2_with fail
  go_ret2
  exact ⟨rfl, hg0.trans hg1⟩
set_option maxRecDepth 100000 in
set_option maxHeartbeats 1000000 in
theorem greatest_yes_g (v : Value) (N : Nat) (w : World) (hs : IsSet w v N) (h0 : N ≠ 0) :
    Calls Tryd.prog 85 #[.agg #[v]] w fun e w' => e = .returned (.tuple #[.int .i64 N.log2, .bool true]) ∧ Gw w w' := by
  obtain ⟨A, c, rfl, hN, hNc, _, h4⟩ := id hs
  have hn0 : 0 < nw N := Nat.pos_of_ne_zero fun h => h0 (nw_eq_zero.1 h)
  obtain ⟨g, cs, rfl, hg, hcs⟩ := h4 hn0
  obtain ⟨m, hm⟩ : ∃ m, nw N = m + 1 := ⟨nw N - 1, by omega⟩
  have htop := top_log N h0
  rw [hm, Nat.add_sub_cancel] at htop
  have hcell := hcs m (by omega)
  have hbl : Lib.bitLen (wd N m) ≤ 64 := Lib.bitLen_le (wd N m) 64 (by omega) (wd_lt _ _)
  have hbp : 0 < Lib.bitLen (wd N m) := by
    show 0 < Lib.bitLenAux 64 _
    have hne : wd N m ≠ 0 := by have := wd_top hn0; rwa [hm, Nat.add_sub_cancel] at this
    rw [bitLenAux_eq 64 _ (wd_lt _ _), if_neg hne]; omega
  have HLEN := hideC (fun W => Tryd.bits_Len64 (wd N m) W (by omega) (by have := wd_lt N m; omega))
  obtain ⟨bl, hble⟩ : ∃ bl, bl = Lib.bitLen (wd N m) := ⟨_, rfl⟩
  rw [← hble] at htop hbl hbp
  clear h4 hcs
  have HTOP := Lib.hid htop; clear htop
  rw [hm]
  go_enter Tryd.func85, Tryd.ntmps85
  go_wp2_with fail
  refine gabsC1 fun W0 hA0 hg0 => ?_
  have hbel0 := hg0.below
  have hset := hs.below hbel0
  rw [hm] at hset
  refine (empty_g _ N _ hset).mono ?_
  rw [decide_eq_false h0]
  rintro e w1 ⟨rfl, hg1⟩
  have hb1 := hg1.below
  have cA := onB hb1 (hA0.cell 0)
  have hbw := hbel0.trans (hb1.mono hbel0.size)
  have cg := ((hg.below hbw hg.lt).cell m).trans hcell
  have hm64 : m < 64 := by omega
  clear hm hn0 hNc hN
  go_wp2_with fail
  refine (HLEN.out _).mono ?_
  rintro e w2 ⟨rfl, rfl⟩
  rw [Int.toNat_natCast]
  rw [hble] at hbl hbp
  have e9 : (64 : Int) * (m : Int) + ((Lib.bitLen (wd N m) : Nat) : Int) - 1 = (N.log2 : Int) := by have := HTOP.out; omega
  go_wp2_with fail
  go_ret2
  exact ⟨by first | rfl | rw [e9], hg0.trans hg1⟩
/-- A member greater than i. -/
def beyB (N i : Nat) : Bool := decide (N / 2 ^ (i + 1) ≠ 0)
theorem beyB_log {N i : Nat} (h : N ≠ 0) : beyB N i = decide (i < N.log2) := by
  unfold beyB
  rw [decide_eq_decide]
  have e : i < N.log2 ↔ 2 ^ (i + 1) ≤ N := by rw [← Nat.le_log2 h]; omega
  rw [e, ne_eq, Nat.div_eq_zero_iff]
  have := Nat.two_pow_pos (i + 1)
  omega
set_option maxRecDepth 100000 in
set_option maxHeartbeats 1000000 in
theorem beyond_g (v : Value) (N i : Nat) (w : World) (hs : IsSet w v N) :
    Calls Tryd.prog 68 #[.agg #[v], .int .i64 i] w fun e w' => e = .returned (.bool (beyB N i)) ∧ Gw w w' := by
  obtain ⟨A, c, rfl, hN, _⟩ := id hs
  by_cases h0 : N = 0
  · subst h0
    have e : beyB 0 i = false := by unfold beyB; simp
    rw [e]
    go_enter Tryd.func68, Tryd.ntmps68
    go_wp2_with fail
    refine gabsC1 fun W0 hA0 hg0 => ?_
    refine (greatest_no_g _ _ (hs.below hg0.below)).mono ?_
    rintro e w1 ⟨rfl, hg1⟩
    go_wp2_with fail
    go_ret
    exact ⟨rfl, hg0.trans hg1⟩
  · rw [beyB_log h0]
    obtain ⟨L, hL⟩ : ∃ L, L = N.log2 := ⟨_, rfl⟩
    have HG := hideC (fun W h => greatest_yes_g (.slice A (nw N) c) N W h h0)
    rw [← hL] at HG ⊢
    clear hL
    go_enter Tryd.func68, Tryd.ntmps68
    go_wp2_with fail
    refine gabsC1 fun W0 hA0 hg0 => ?_
    refine (HG.out _ (hs.below hg0.below)).mono ?_
    rintro e w1 ⟨rfl, hg1⟩
    go_wp2_with fail
    go_ret
    exact ⟨by first | rfl | (apply ret_bool; rw [Bool.eq_iff_iff]; simp), hg0.trans hg1⟩
theorem u64_xor_nat (a b : Nat) (ha : a < 18446744073709551616) (hb : b < 18446744073709551616) : bits .xor .u64 (a : Int) (b : Int) = ((a ^^^ b : Nat) : Int) := by
  have hx : a ^^^ b < 2 ^ 64 := Nat.xor_lt_two_pow (by omega) (by omega)
  show IntKind.u64.wrap ((BitVec.ofInt 64 (a : Int) ^^^ BitVec.ofInt 64 (b : Int)).toNat : Int) = _
  rw [BitVec.toNat_xor, ofInt_u64 a ha, ofInt_u64 b hb, IntKind.wrap_u64]
  omega
end Go.Proofs.YtiicgbbgiedknaaDoor
