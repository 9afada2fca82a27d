import Derived.Test.YtjlcnbfkblmoeaaDoorRev
namespace Go.Proofs.YtjlcnbfkblmoeaaDoor
open Go.RowKit

theorem bitLenAux_eq : ∀ (f x : Nat), x < 2 ^ f → Lib.bitLenAux f x = if x = 0 then 0 else x.log2 + 1
  | 0, x, h => by
    have : x = 0 := by simpa using h
    subst this; rfl
  | f + 1, x, h => by
    unfold Lib.bitLenAux
    by_cases h0 : x = 0
    · rw [if_pos h0, if_pos h0]
    · rw [if_neg h0, if_neg h0, bitLenAux_eq f (x / 2) (by rw [Nat.pow_succ] at h; omega), Nat.log2_def x]
      by_cases h2 : 2 ≤ x
      · rw [if_pos h2, if_neg (by omega)]; omega
      · rw [if_neg h2, if_pos (by omega)]
theorem top_log (N : Nat) (h : N ≠ 0) : 64 * (nw N - 1) + Lib.bitLen (wd N (nw N - 1)) - 1 = N.log2 := by
  have hq : nw N - 1 = N.log2 / 64 := by rw [nw, if_neg h]; rfl
  have hlt : N < 2 ^ (N.log2 + 1) := Nat.lt_log2_self
  have hle : 2 ^ N.log2 ≤ N := Nat.log2_self_le h
  rw [hq]
  generalize hL : N.log2 = L at *
  have hd : 64 * (L / 64) ≤ L := by omega
  have hw : wd N (L / 64) = N / 2 ^ (64 * (L / 64)) := by
    rw [wd, Nat.shiftRight_eq_div_pow, Nat.mod_eq_of_lt]
    rw [Nat.div_lt_iff_lt_mul (Nat.two_pow_pos _), ← Nat.pow_add]
    exact Nat.lt_of_lt_of_le hlt (Nat.pow_le_pow_right (by omega) (by omega))
  have h1 : 2 ^ (L - 64 * (L / 64)) ≤ N / 2 ^ (64 * (L / 64)) := by
    rw [Nat.le_div_iff_mul_le (Nat.two_pow_pos _), ← Nat.pow_add, show L - 64 * (L / 64) + 64 * (L / 64) = L by omega]; exact hle
  have h2 : N / 2 ^ (64 * (L / 64)) < 2 ^ (L - 64 * (L / 64) + 1) := by
    rw [Nat.div_lt_iff_lt_mul (Nat.two_pow_pos _), ← Nat.pow_add, show L - 64 * (L / 64) + 1 + 64 * (L / 64) = L + 1 by omega]; exact hlt
  have h3 : N / 2 ^ (64 * (L / 64)) ≠ 0 := Nat.ne_of_gt (Nat.lt_of_lt_of_le (Nat.two_pow_pos _) h1)
  have hl : (N / 2 ^ (64 * (L / 64))).log2 = L - 64 * (L / 64) := (Nat.log2_eq_iff h3).2 ⟨h1, h2⟩
  have hb : Lib.bitLen (wd N (L / 64)) = L - 64 * (L / 64) + 1 := by
    show Lib.bitLenAux 64 _ = _
    rw [bitLenAux_eq 64 _ (wd_lt _ _), hw, if_neg h3, hl]
  rw [hb]; omega

set_option maxRecDepth 100000 in
set_option maxHeartbeats 1000000 in
theorem greatest_no (v : Value) (w : World) (hs : IsSet w v 0) :
    Calls Tryd.prog 110 #[.agg #[v]] w fun e w' => e = .returned (.tuple #[.int .i64 0, .bool false]) ∧ Below w.heap.size w w' := by
  obtain ⟨A, c, rfl, hN, _⟩ := id hs
  go_enter Tryd.func110, Tryd.ntmps110
  go_wp2_with fail
  refine absC1 fun W0 hA0 hbel0 hz => ?_
  refine (empty_any _ _ _ (hs.below hbel0)).mono ?_
  rintro e w1 ⟨rfl, hb1⟩
  go_wp2_with fail
  go_ret2
  exact ⟨rfl, hbel0.trans (hb1.mono hbel0.size)⟩
set_option maxRecDepth 100000 in
set_option maxHeartbeats 1000000 in
theorem greatest_yes (v : Value) (N : Nat) (w : World) (hs : IsSet w v N) (h0 : N ≠ 0) :
    Calls Tryd.prog 110 #[.agg #[v]] w fun e w' => e = .returned (.tuple #[.int .i64 N.log2, .bool true]) ∧ Below w.heap.size w w' := by
  obtain ⟨A, c, rfl, hN, hNc, _, h4⟩ := id hs
  have hn0 : 0 < nw N := Nat.pos_of_ne_zero fun h => h0 (nw_eq_zero.1 h)
  obtain ⟨g, cs, rfl, hg, hcs⟩ := h4 hn0
  obtain ⟨m, hm⟩ : ∃ m, nw N = m + 1 := ⟨nw N - 1, by omega⟩
  have htop := top_log N h0
  rw [hm, Nat.add_sub_cancel] at htop
  have hcell := hcs m (by omega)
  have hbl : Lib.bitLen (wd N m) ≤ 64 := Lib.bitLen_le (wd N m) 64 (by omega) (wd_lt _ _)
  have hbp : 0 < Lib.bitLen (wd N m) := by
    show 0 < Lib.bitLenAux 64 _
    have hne : wd N m ≠ 0 := by have := wd_top hn0; rwa [hm, Nat.add_sub_cancel] at this
    rw [bitLenAux_eq 64 _ (wd_lt _ _), if_neg hne]; omega
  have HLEN := hideC (fun W => Tryd.bits_Len64 (wd N m) W (by omega) (by have := wd_lt N m; omega))
  obtain ⟨bl, hble⟩ : ∃ bl, bl = Lib.bitLen (wd N m) := ⟨_, rfl⟩
  rw [← hble] at htop hbl hbp
  clear h4 hcs
  have HTOP := Lib.hid htop; clear htop
  rw [hm]
  go_enter Tryd.func110, Tryd.ntmps110
  go_wp2_with fail
  refine absC1 fun W0 hA0 hbel0 hz => ?_
  have hset := hs.below hbel0
  rw [hm] at hset
  refine (empty_any _ N _ hset).mono ?_
  rw [decide_eq_false h0]
  rintro e w1 ⟨rfl, hb1⟩
  have cA := onB hb1 (hA0.cell 0)
  have hbw := hbel0.trans (hb1.mono hbel0.size)
  have cg := ((hg.below hbw hg.lt).cell m).trans hcell
  have hm64 : m < 64 := by omega
  clear hm hn0 hNc hN
  go_wp2_with fail
  refine (HLEN.out _).mono ?_
  rintro e w2 ⟨rfl, rfl⟩
  rw [Int.toNat_natCast]
  rw [hble] at hbl hbp
  have e9 : (64 : Int) * (m : Int) + ((Lib.bitLen (wd N m) : Nat) : Int) - 1 = (N.log2 : Int) := by have := HTOP.out; omega
  go_wp2_with fail
  go_ret2
  exact ⟨by first | rfl | rw [e9], hbw⟩

theorem filled_full (z : Value) (f : Nat → Int) (L : Nat) : filled z (fun j => enc8 (f j)) L L = (((List.range L).map f).map enc8).toArray := by
  apply Array.ext
  · simp [filled]
  · intro i h1 h2
    have hi : i < L := by simpa [filled] using h1
    simp [filled, hi]
/-- Byte k of N. -/
def byteN (N k : Nat) : Nat := (N >>> (8 * k)) % 256
/-- A set's bytes. -/
def setBytes (N : Nat) : List Int := if N = 0 then [] else (List.range (N.log2 / 8 + 1)).map fun k => (byteN N k : Int)
theorem byteN_wd (N k : Nat) : wd N (k / 8) / 2 ^ (8 * (k % 8)) % 256 = byteN N k := by
  apply Nat.eq_of_testBit_eq
  intro i
  have h256 : (256 : Nat) = 2 ^ 8 := rfl
  rw [byteN, h256, Nat.testBit_mod_two_pow, Nat.testBit_mod_two_pow, Nat.testBit_shiftRight, Nat.testBit_div_two_pow, testBit_wd]
  by_cases hi : i < 8
  · simp only [hi, decide_true, Bool.true_and, show i + 8 * (k % 8) < 64 by omega]
    congr 1; omega
  · simp [hi]
set_option maxRecDepth 100000 in
set_option maxHeartbeats 2000000 in
theorem setBytes_any (v : Value) (N : Nat) (w : World) (hs : IsSet w v N) :
    Calls Tryd.prog 99 #[.agg #[v]] w fun e w' => Below w.heap.size w w' ∧ ((N = 0 ∧ e = .returned (.slice none 0 0)) ∨
      ∃ g, N ≠ 0 ∧ e = .returned (.slice (some ⟨g, 0, none⟩) (setBytes N).length (setBytes N).length) ∧ w.heap.size ≤ g ∧ Blk w' g 5 ((setBytes N).map enc8).toArray) := by
  by_cases h0 : N = 0
  · subst h0
    obtain ⟨A, c, rfl, hN, _⟩ := id hs
    go_enter Tryd.func99, Tryd.ntmps99
    go_wp2_with fail
    refine absC1 fun W0 hA0 hbel0 hz => ?_
    refine (greatest_no _ _ (hs.below hbel0)).mono ?_
    rintro e w1 ⟨rfl, hb1⟩
    go_wp2_with fail
    go_ret
    exact ⟨hbel0.trans (hb1.mono hbel0.size), .inl ⟨trivial, rfl⟩⟩
  · obtain ⟨A, c, rfl, hN, hNc, _, h4⟩ := id hs
    have hn0 : 0 < nw N := Nat.pos_of_ne_zero fun h => h0 (nw_eq_zero.1 h)
    obtain ⟨g, cs, rfl, hg, hcs⟩ := h4 hn0
    have hnw : nw N = N.log2 / 64 + 1 := by rw [nw, if_neg h0]
    obtain ⟨L, hL⟩ : ∃ L, L = N.log2 / 8 + 1 := ⟨_, rfl⟩
    have hL5 : L ≤ 512 := by omega
    have hmk := make_run (P := Tryd.prog) 22 5 _ 1 Tryd.underlying22 info_byte rfl L (by omega) (by omega)
    have hsb : setBytes N = (List.range L).map fun k => (byteN N k : Int) := by rw [setBytes, if_neg h0, hL]
    have eL : (N.log2 : Int) / 8 + 1 = (L : Int) := by omega
    have HS := Lib.hid hsb; clear hsb
    have HG := hideC (fun W hW => greatest_yes _ N W (hs.below (w' := W) hW) h0)
    have HNW := Lib.hid hnw; clear hnw
    have HL := Lib.hid hL; clear hL
    have HN0 := Lib.hid h0; clear h0
    have h4096 : N.log2 ≤ 4095 := by have := HNW.out; omega
    go_enter Tryd.func99, Tryd.ntmps99
    go_wp2_with fail
    refine absC1 fun W0 hA0 hbel0 hz => ?_
    refine (HG.out _ hbel0).mono ?_
    rintro e w1 ⟨rfl, hb1⟩
    have cA := onB hb1 (hA0.cell 0)
    have hbw := hbel0.trans (hb1.mono hbel0.size)
    go_wp2_with fail
    have hz1 := (Blk.new w1 5 (zeros (.int .u8 0) L)).fill0 (fun j => enc8 (byteN N j : Int))
    have hbz := (Below.refl w1.heap.size w1).alloc (Nat.le_refl _) (.cells (zeros (.int .u8 0) L) 5)
    have lA := hA0.lt
    have hw1 := hbw.size
    go_loopw [20] (fun i wr => ∃ k : Nat, k ≤ L ∧ i = .int .i64 k ∧ Blk wr w1.heap.size 5 (filled (.int .u8 0) (fun j => enc8 (byteN N j : Int)) k L) ∧ Below w1.heap.size w1 wr) (fun i _ => L - (intOf i).toNat)
    case atStart => exact ⟨0, Nat.zero_le _, rfl, hz1, hbz⟩
    case round =>
      obtain ⟨k, hk, rfl, hb, hbel⟩ := hrel
      have HSET := Lib.hid (filled_set (z := .int .u8 0) (fun j => enc8 (byteN N j : Int)) (k := k) (n := L))
      by_cases hlt : k < L
      · have hk8 : k / 8 < nw N := by have := HNW.out; have := HL.out; omega
        have cg := onB hbel (((hg.below hbw hg.lt).cell (k / 8)).trans (hcs _ hk8))
        have cAr := onB hbel cA
        have cb := (hb.cell k).trans (filled_get _ _ hlt)
        have fb := hb.frozen k
        have ew : IntKind.u8.wrap ((wd N (k / 8) : Int) / 2 ^ (8 * (k % 8))) = (byteN N k : Int) := by
          rw [← byteN_wd]
          rw [show ((wd N (k / 8) : Int) / 2 ^ (8 * (k % 8))) = ((wd N (k / 8) / 2 ^ (8 * (k % 8)) : Nat) : Int) by simp]
          show ((wd N (k / 8) / 2 ^ (8 * (k % 8)) : Nat) : Int) % 256 = _
          omega
        have q2 : (k : Int).tmod 8 = (k : Int) % 8 := Int.tmod_eq_emod_of_nonneg (by omega)
        have q3 : (0 : Int) ≤ (k : Int) / 8 := by omega
        have q4 : (k : Int) / 8 < (nw N : Int) := by omega
        have q5 : ((k : Int) / 8).toNat = k / 8 := by omega
        have q6 : ((8 : Int) * ((k : Int) % 8)).toNat = 8 * (k % 8) := by omega
        have q7 : (0 : Int) ≤ 8 * ((k : Int) % 8) := by omega
        have q8 : (8 : Int) * ((k : Int) % 8) < 64 := by omega
        clear hcs
        go_wp2_with fail
        have hb2 := hb.set_ k (enc8 (byteN N k : Int))
        rw [HSET.out hlt] at hb2
        exact ⟨⟨k + 1, by omega, by go_num, hb2, hbel.setCell (Nat.le_refl _) _⟩, by simp [intOf]; omega⟩
      · obtain rfl : k = L := by omega
        have hfull : filled (.int .u8 0) (fun j => enc8 (byteN N j : Int)) k k = ((setBytes N).map enc8).toArray := by
          rw [HS.out]; exact filled_full _ _ _
        rw [hfull] at hb
        have hlen : (setBytes N).length = k := by rw [HS.out]; simp
        clear hfull
        go_wp2_with fail
        go_ret
        exact ⟨hbw.trans (hbel.mono hw1), .inr ⟨w1.heap.size, HN0.out, by rw [hlen]; rfl, hw1, hb⟩⟩
end Go.Proofs.YtjlcnbfkblmoeaaDoor
