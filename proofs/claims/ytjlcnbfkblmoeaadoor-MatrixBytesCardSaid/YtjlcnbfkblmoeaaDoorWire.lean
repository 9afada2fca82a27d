import Derived.Test.YtjlcnbfkblmoeaaDoorText
import Derived.Shelf.RegionOpenPlain
import Derived.Deep.LoopGhost
import Derived.Sort.WalkB12
import Derived.Lib.SlicesMore
import Derived.Lib.OwnBridge
import Derived.Laws.Bits128
import Derived.Laws.AppendOwnNone
import Derived.Deep.AppendLies
import Derived.Deep.Onto
import Derived.Laws.IdiomStrings
namespace Go.Proofs.YtjlcnbfkblmoeaaDoor
open Go.RowKit Go.Sort
/-- A byte as a value. -/
abbrev enc8 (x : Int) : Value := .int .u8 x
set_option maxHeartbeats 1600000 in
set_option maxRecDepth 1000000 in
theorem reverse_arr (blk off cap : Nat) (d : Array Int) (w : World) (hH : Holds enc8 w blk off d) (hsz : d.size ≤ 9223372036854775807) :
    Calls Tryd.prog 116 #[.slice (some ⟨blk, off, none⟩) d.size cap] w fun e w' => e = .returned (.tuple #[]) ∧ ∃ n, w' = putRow enc8 (Sort.ahead w n) blk off d.reverse := by
  go_enter Tryd.func116, Tryd.ntmps116
  go_wp2
  go_loopg [2, 3] d.size (fun k s2 s3 wr => ∃ (i jn : Nat) (jz : Int) (dk : Array Int) (n : Nat), s2 = .int .i64 i ∧ s3 = .int .i64 jz ∧ ((i : Int) < jz → jz = jn ∧ jn < d.size) ∧ (¬ (i : Int) < jz → ¬ i < jn) ∧ jn - i ≤ k ∧
    dk.size = d.size ∧ wr = putRow enc8 (Sort.ahead w n) blk off dk ∧ reverseLoop i jn dk = reverseLoop 0 (d.size - 1) d)
  case atStart => exact ⟨0, d.size - 1, (d.size : Int) - 1, d, 0, rfl, rfl, fun h => ⟨by omega, by omega⟩, fun h => by omega, by omega, rfl, (putRow_self enc8 w blk off d hH).symm, rfl⟩
  case round =>
    obtain ⟨i, jn, jz, dk, n, rfl, rfl, h1, h2, hk, hds, hwr, heq⟩ := hrel
    by_cases hlt : (i : Int) < jz
    · obtain ⟨rfl, hjn⟩ := h1 hlt
      have hij : i < jn := by omega
      have hHk : Holds enc8 wr blk off dk := by rw [hwr]; exact holds_putRow enc8 _ blk off d dk (holds_ahead enc8 w n blk off d hH) hds
      obtain ⟨ci, fi⟩ := hHk i (by omega)
      obtain ⟨cj, fj⟩ := hHk jn (by omega)
      have A : Aside (wr = putRow enc8 (Sort.ahead w n) blk off dk) := hwr
      clear hwr hHk hH h1 h2
      go_wp2_with fail
      go_region
      go_wp2
      go_roundg (jn - 1 - (i + 1))
      case measure => omega
      case rel =>
        rw [reverseLoop, if_pos hij] at heq
        exact ⟨i + 1, jn - 1, (jn : Int) - 1, swp dk i jn, n + 1, by simp, rfl, fun h => ⟨by omega, by omega⟩, fun h => by omega, Nat.le_refl _, by rw [size_swp]; exact hds,
          swap_world enc8 (by omega) (by omega) A.out (by first | rfl | simp [enc8, getElem!_pos, show jn < dk.size by omega]) (by first | rfl | simp [enc8, getElem!_pos, show i < dk.size by omega]), heq⟩
    · have hnot := h2 hlt
      go_wp2
      go_end0
      refine ⟨rfl, n, ?_⟩
      rw [reverseLoop, if_neg hnot] at heq
      rw [← Lib.reverseLoop_reverse, ← heq]
theorem reverse_own (base g cap n : Nat) (xs : List Int) (w : World) (h : w.ownsRow base 5 1 (.slice (some ⟨g, 0, none⟩) n cap) n (xs.map enc8)) (hn : n ≤ maxLen) :
    Calls Tryd.prog 116 #[.slice (some ⟨g, 0, none⟩) n cap] w fun e w' => e = .returned (.tuple #[]) ∧ w'.ownsRow base 5 1 (.slice (some ⟨g, 0, none⟩) n cap) n (xs.reverse.map enc8) ∧ Below base w w' := by
  have hl : xs.length = n := by have := h.1; simpa using this
  have hH : Holds enc8 w g 0 xs.toArray := fun j hj => by
    have hj' : j < n := by simpa [hl] using hj
    rw [Nat.zero_add]
    refine ⟨?_, h.frozenAt j⟩
    rw [h.cellAt j (by omega), List.getElem?_map, List.getElem?_eq_getElem (by omega)]
    simp [getElem!_pos, show j < xs.length by omega]
  have hr := reverse_arr g 0 cap xs.toArray w hH (by unfold maxLen at hn; simp; omega)
  have e : xs.toArray.size = n := by simpa using hl
  rw [e] at hr
  refine hr.mono ?_
  rintro e w' ⟨rfl, q, rfl⟩
  have h2 := Lib.ownsRow_putRow (enc := enc8) (q := q) (k := n) (ys := xs.reverse) h (by simpa using hl) (Nat.le_refl _)
  rw [List.take_of_length_le (by simp; omega)] at h2
  refine ⟨rfl, by simpa using h2, Lib.below_putRow (Below.refl _ _) (h.lt g rfl).1⟩

/-- The groups of seven bits, the low ones first, each marked. -/
def grps : Nat → Nat → List Int
  | 0, _ => []
  | f + 1, r => if r = 0 then [] else ((r % 128 + 128 : Nat) : Int) :: grps f (r / 128)
theorem grps_zero (f : Nat) : grps f 0 = [] := by cases f <;> simp [grps]
/-- A number's bytes. -/
def encN (v : Nat) : List Int := (((v % 128 : Nat) : Int) :: grps 10 (v / 128)).reverse
theorem and127 (r : Nat) : r &&& 127 = r % 128 := Nat.and_two_pow_sub_one_eq_mod r 7
theorem or128 (r : Nat) (h : r < 128) : r ||| 128 = r + 128 := by
  have this : 128 + r = 128 ||| r := Nat.two_pow_add_eq_or_of_lt (i := 7) (b := r) h 1
  rw [Nat.or_comm, ← this]
  omega
set_option maxHeartbeats 2000000 in
set_option maxRecDepth 100000 in
theorem groups_any (v : Nat) (w : World) (hv : v < 2 ^ 64) :
    Calls Tryd.prog 97 #[u64 v] w fun e w' => ∃ g cap, e = .returned (.slice (some ⟨g, 0, none⟩) (encN v).length cap) ∧ w'.ownsRow w.heap.size 5 1 (.slice (some ⟨g, 0, none⟩) (encN v).length cap) (encN v).length ((encN v).map enc8) ∧ (encN v).length ≤ 11 ∧ Below w.heap.size w w' := by
  obtain ⟨i0, hi0, hz0, hz1, hz2⟩ := info_parts info_byte
  have e1 : bits .and .u64 (v : Int) 127 = ((v % 128 : Nat) : Int) := by
    rw [show (127 : Int) = ((127 : Nat) : Int) from rfl, u64_and_nat v 127 hv (by decide), and127]
  have e2 : IntKind.u8.wrap ((v % 128 : Nat) : Int) = ((v % 128 : Nat) : Int) := IntWalk.u8_in _ (by omega)
  obtain ⟨T, hT⟩ : ∃ T, T = ((v % 128 : Nat) : Int) :: grps 10 (v / 128) := ⟨_, rfl⟩
  have hTe : encN v = T.reverse := by rw [hT]; rfl
  rw [hTe]
  have HT := Lib.hid hT; clear hT hTe
  go_enter Tryd.func97, Tryd.ntmps97
  go_wp2_with fail
  have own0 := World.ownsRow_lit (base := w.heap.size) (e := 5) (size := 1) w #[.int .u8 ((v : Int) % 128)] 1 (Nat.le_refl _) (by decide) rfl
  have hb0 := (Below.refl w.heap.size w).alloc (Nat.le_refl _) (.cells #[.int .u8 ((v : Int) % 128)] 5)
  go_loopw [0, 3] (fun t l wr => ∃ (f r : Nat) (ys : List Int), f ≤ 10 ∧ r < 2 ^ 64 ∧ r < 128 ^ f ∧ t = .int .u64 r ∧ ys ++ grps f r = T ∧ ys.length + f = 11 ∧ wr.ownsRow w.heap.size 5 1 l ys.length (ys.map enc8) ∧ Below w.heap.size w wr) (fun t _ _ => (intOf t).toNat)
  case atStart => exact ⟨10, v / 128, [((v % 128 : Nat) : Int)], Nat.le_refl _, by omega, by omega, by simp, by rw [HT.out]; rfl, rfl, by simpa using own0, hb0⟩
  case round =>
    obtain ⟨f, r, ys, hf, hr64, hrf, rfl, hys, hyl, hown, hbel⟩ := hrel
    have HYS := Lib.hid hys; clear hys
    obtain ⟨g, cap, hl⟩ : ∃ g cap, u3 = .slice (some ⟨g, 0, none⟩) ys.length cap := by
      obtain ⟨m, hm⟩ : ∃ m, ys.length = m + 1 := ⟨ys.length - 1, by omega⟩
      rw [hm] at hown ⊢
      exact ownsRow_succ hown
    subst hl
    by_cases h0 : r = 0
    · subst h0
      have e3 : ys = T := by rw [← HYS.out, grps_zero, List.append_nil]
      subst e3
      have hrev := reverse_own w.heap.size g cap ys.length ys wr hown (by unfold maxLen; omega)
      have HR := hideC hrev; clear hrev
      go_wp2_with fail
      refine HR.out.mono ?_
      rintro e w2 ⟨rfl, hown2, hb2⟩
      go_wp2_with fail
      go_ret
      exact ⟨g, cap, by simp, by simpa using hown2, by simp; omega, hbel.trans hb2⟩
    · have e3 : (0 : Int) < (r : Int) := by omega
      obtain ⟨f', rfl⟩ : ∃ f', f = f' + 1 := ⟨f - 1, by
        cases f with
        | zero => simp at hrf; omega
        | succ f => rfl⟩
      have e4 : bits .and .u64 (r : Int) 127 = (r : Int) % 128 := by
        rw [show (127 : Int) = ((127 : Nat) : Int) from rfl, u64_and_nat r 127 hr64 (by decide), and127]; rfl
      have e5 : bits .or .u8 ((r : Int) % 128) 128 = (r : Int) % 128 + 128 := u8_or128_right _ (by omega) (by omega)
      have hstep : grps (f' + 1) r = ((r % 128 + 128 : Nat) : Int) :: grps f' (r / 128) := by rw [grps, if_neg h0]
      have HSTEP := Lib.hid hstep; clear hstep
      have hsz := hbel.size
      have hown4 := hown.alloc (.cells #[.int .u8 ((r : Int) % 128 + 128)] 5)
      clear h0
      go_wp2_with (at_builtin; refine wpList_append_own _ rfl _ _ 22 rfl (w.heap.size) 5 i0 (.int .u8 0) 1 1 Tryd.underlying22 hi0 hz0 hz1 hz2 rfl (by decide) _ _ _ rfl (hown4) ⟨wr.heap.size, 0, none⟩ 1 1 [.int .u8 ((r : Int) % 128 + 128)] rfl rfl (cell_one_new _ _ _) (by simp [Value.oneCell']) (by unfold maxLen; omega) (by omega) (by simp; omega) ?_; intro v' w3 hown' hgrow _)
      have hrf' : r / 128 < 128 ^ f' := by rw [Nat.pow_succ] at hrf; omega
      exact ⟨⟨f', r / 128, ys ++ [(r : Int) % 128 + 128], by omega, by omega, hrf', by go_num, by rw [← HYS.out, HSTEP.out, List.append_assoc]; rfl, by simp; omega, by simpa using hown', (hbel.alloc hbel.size _).grown hgrow (by simp; omega) (fun q hq => (hown4.lt q hq).1)⟩, by simp [intOf]; omega⟩
end Go.Proofs.YtjlcnbfkblmoeaaDoor

namespace Go.Proofs.YtjlcnbfkblmoeaaDoor
open Go.RowKit

theorem bitLenAux_eq : ∀ (f x : Nat), x < 2 ^ f → Lib.bitLenAux f x = if x = 0 then 0 else x.log2 + 1
  | 0, x, h => by
    have : x = 0 := by simpa using h
    subst this; rfl
  | f + 1, x, h => by
    unfold Lib.bitLenAux
    by_cases h0 : x = 0
    · rw [if_pos h0, if_pos h0]
    · rw [if_neg h0, if_neg h0, bitLenAux_eq f (x / 2) (by rw [Nat.pow_succ] at h; omega), Nat.log2_def x]
      by_cases h2 : 2 ≤ x
      · rw [if_pos h2, if_neg (by omega)]; omega
      · rw [if_neg h2, if_pos (by omega)]
theorem top_log (N : Nat) (h : N ≠ 0) : 64 * (nw N - 1) + Lib.bitLen (wd N (nw N - 1)) - 1 = N.log2 := by
  have hq : nw N - 1 = N.log2 / 64 := by rw [nw, if_neg h]; rfl
  have hlt : N < 2 ^ (N.log2 + 1) := Nat.lt_log2_self
  have hle : 2 ^ N.log2 ≤ N := Nat.log2_self_le h
  rw [hq]
  generalize hL : N.log2 = L at *
  have hd : 64 * (L / 64) ≤ L := by omega
  have hw : wd N (L / 64) = N / 2 ^ (64 * (L / 64)) := by
    rw [wd, Nat.shiftRight_eq_div_pow, Nat.mod_eq_of_lt]
    rw [Nat.div_lt_iff_lt_mul (Nat.two_pow_pos _), ← Nat.pow_add]
    exact Nat.lt_of_lt_of_le hlt (Nat.pow_le_pow_right (by omega) (by omega))
  have h1 : 2 ^ (L - 64 * (L / 64)) ≤ N / 2 ^ (64 * (L / 64)) := by
    rw [Nat.le_div_iff_mul_le (Nat.two_pow_pos _), ← Nat.pow_add, show L - 64 * (L / 64) + 64 * (L / 64) = L by omega]; exact hle
  have h2 : N / 2 ^ (64 * (L / 64)) < 2 ^ (L - 64 * (L / 64) + 1) := by
    rw [Nat.div_lt_iff_lt_mul (Nat.two_pow_pos _), ← Nat.pow_add, show L - 64 * (L / 64) + 1 + 64 * (L / 64) = L + 1 by omega]; exact hlt
  have h3 : N / 2 ^ (64 * (L / 64)) ≠ 0 := Nat.ne_of_gt (Nat.lt_of_lt_of_le (Nat.two_pow_pos _) h1)
  have hl : (N / 2 ^ (64 * (L / 64))).log2 = L - 64 * (L / 64) := (Nat.log2_eq_iff h3).2 ⟨h1, h2⟩
  have hb : Lib.bitLen (wd N (L / 64)) = L - 64 * (L / 64) + 1 := by
    show Lib.bitLenAux 64 _ = _
    rw [bitLenAux_eq 64 _ (wd_lt _ _), hw, if_neg h3, hl]
  rw [hb]; omega

set_option maxRecDepth 100000 in
set_option maxHeartbeats 1000000 in
theorem greatest_no (v : Value) (w : World) (hs : IsSet w v 0) :
    Calls Tryd.prog 110 #[.agg #[v]] w fun e w' => e = .returned (.tuple #[.int .i64 0, .bool false]) ∧ Below w.heap.size w w' := by
  obtain ⟨A, c, rfl, hN, _⟩ := id hs
  go_enter Tryd.func110, Tryd.ntmps110
  go_wp2_with fail
  refine absC1 fun W0 hA0 hbel0 hz => ?_
  refine (empty_any _ _ _ (hs.below hbel0)).mono ?_
  rintro e w1 ⟨rfl, hb1⟩
  go_wp2_with fail
  go_ret2
  exact ⟨rfl, hbel0.trans (hb1.mono hbel0.size)⟩
set_option maxRecDepth 100000 in
set_option maxHeartbeats 1000000 in
theorem greatest_yes (v : Value) (N : Nat) (w : World) (hs : IsSet w v N) (h0 : N ≠ 0) :
    Calls Tryd.prog 110 #[.agg #[v]] w fun e w' => e = .returned (.tuple #[.int .i64 N.log2, .bool true]) ∧ Below w.heap.size w w' := by
  obtain ⟨A, c, rfl, hN, hNc, _, h4⟩ := id hs
  have hn0 : 0 < nw N := Nat.pos_of_ne_zero fun h => h0 (nw_eq_zero.1 h)
  obtain ⟨g, cs, rfl, hg, hcs⟩ := h4 hn0
  obtain ⟨m, hm⟩ : ∃ m, nw N = m + 1 := ⟨nw N - 1, by omega⟩
  have htop := top_log N h0
  rw [hm, Nat.add_sub_cancel] at htop
  have hcell := hcs m (by omega)
  have hbl : Lib.bitLen (wd N m) ≤ 64 := Lib.bitLen_le (wd N m) 64 (by omega) (wd_lt _ _)
  have hbp : 0 < Lib.bitLen (wd N m) := by
    show 0 < Lib.bitLenAux 64 _
    have hne : wd N m ≠ 0 := by have := wd_top hn0; rwa [hm, Nat.add_sub_cancel] at this
    rw [bitLenAux_eq 64 _ (wd_lt _ _), if_neg hne]; omega
  have HLEN := hideC (fun W => Tryd.bits_Len64 (wd N m) W (by omega) (by have := wd_lt N m; omega))
  obtain ⟨bl, hble⟩ : ∃ bl, bl = Lib.bitLen (wd N m) := ⟨_, rfl⟩
  rw [← hble] at htop hbl hbp
  clear h4 hcs
  have HTOP := Lib.hid htop; clear htop
  rw [hm]
  go_enter Tryd.func110, Tryd.ntmps110
  go_wp2_with fail
  refine absC1 fun W0 hA0 hbel0 hz => ?_
  have hset := hs.below hbel0
  rw [hm] at hset
  refine (empty_any _ N _ hset).mono ?_
  rw [decide_eq_false h0]
  rintro e w1 ⟨rfl, hb1⟩
  have cA := onB hb1 (hA0.cell 0)
  have hbw := hbel0.trans (hb1.mono hbel0.size)
  have cg := ((hg.below hbw hg.lt).cell m).trans hcell
  have hm64 : m < 64 := by omega
  clear hm hn0 hNc hN
  go_wp2_with fail
  refine (HLEN.out _).mono ?_
  rintro e w2 ⟨rfl, rfl⟩
  rw [Int.toNat_natCast]
  rw [hble] at hbl hbp
  have e9 : (64 : Int) * (m : Int) + ((Lib.bitLen (wd N m) : Nat) : Int) - 1 = (N.log2 : Int) := by have := HTOP.out; omega
  go_wp2_with fail
  go_ret2
  exact ⟨by first | rfl | rw [e9], hbw⟩

theorem filled_full (z : Value) (f : Nat → Int) (L : Nat) : filled z (fun j => enc8 (f j)) L L = (((List.range L).map f).map enc8).toArray := by
  apply Array.ext
  · simp [filled]
  · intro i h1 h2
    have hi : i < L := by simpa [filled] using h1
    simp [filled, hi]
/-- Byte k of N. -/
def byteN (N k : Nat) : Nat := (N >>> (8 * k)) % 256
/-- A set's bytes. -/
def setBytes (N : Nat) : List Int := if N = 0 then [] else (List.range (N.log2 / 8 + 1)).map fun k => (byteN N k : Int)
theorem byteN_wd (N k : Nat) : wd N (k / 8) / 2 ^ (8 * (k % 8)) % 256 = byteN N k := by
  apply Nat.eq_of_testBit_eq
  intro i
  have h256 : (256 : Nat) = 2 ^ 8 := rfl
  rw [byteN, h256, Nat.testBit_mod_two_pow, Nat.testBit_mod_two_pow, Nat.testBit_shiftRight, Nat.testBit_div_two_pow, testBit_wd]
  by_cases hi : i < 8
  · simp only [hi, decide_true, Bool.true_and, show i + 8 * (k % 8) < 64 by omega]
    congr 1; omega
  · simp [hi]
set_option maxRecDepth 100000 in
set_option maxHeartbeats 2000000 in
theorem setBytes_any (v : Value) (N : Nat) (w : World) (hs : IsSet w v N) :
    Calls Tryd.prog 99 #[.agg #[v]] w fun e w' => Below w.heap.size w w' ∧ ((N = 0 ∧ e = .returned (.slice none 0 0)) ∨
      ∃ g, N ≠ 0 ∧ e = .returned (.slice (some ⟨g, 0, none⟩) (setBytes N).length (setBytes N).length) ∧ w.heap.size ≤ g ∧ Blk w' g 5 ((setBytes N).map enc8).toArray) := by
  by_cases h0 : N = 0
  · subst h0
    obtain ⟨A, c, rfl, hN, _⟩ := id hs
    go_enter Tryd.func99, Tryd.ntmps99
    go_wp2_with fail
    refine absC1 fun W0 hA0 hbel0 hz => ?_
    refine (greatest_no _ _ (hs.below hbel0)).mono ?_
    rintro e w1 ⟨rfl, hb1⟩
    go_wp2_with fail
    go_ret
    exact ⟨hbel0.trans (hb1.mono hbel0.size), .inl ⟨trivial, rfl⟩⟩
  · obtain ⟨A, c, rfl, hN, hNc, _, h4⟩ := id hs
    have hn0 : 0 < nw N := Nat.pos_of_ne_zero fun h => h0 (nw_eq_zero.1 h)
    obtain ⟨g, cs, rfl, hg, hcs⟩ := h4 hn0
    have hnw : nw N = N.log2 / 64 + 1 := by rw [nw, if_neg h0]
    obtain ⟨L, hL⟩ : ∃ L, L = N.log2 / 8 + 1 := ⟨_, rfl⟩
    have hL5 : L ≤ 512 := by omega
    have hmk := make_run (P := Tryd.prog) 22 5 _ 1 Tryd.underlying22 info_byte rfl L (by omega) (by omega)
    have hsb : setBytes N = (List.range L).map fun k => (byteN N k : Int) := by rw [setBytes, if_neg h0, hL]
    have eL : (N.log2 : Int) / 8 + 1 = (L : Int) := by omega
    have HS := Lib.hid hsb; clear hsb
    have HG := hideC (fun W hW => greatest_yes _ N W (hs.below (w' := W) hW) h0)
    have HNW := Lib.hid hnw; clear hnw
    have HL := Lib.hid hL; clear hL
    have HN0 := Lib.hid h0; clear h0
    have h4096 : N.log2 ≤ 4095 := by have := HNW.out; omega
    go_enter Tryd.func99, Tryd.ntmps99
    go_wp2_with fail
    refine absC1 fun W0 hA0 hbel0 hz => ?_
    refine (HG.out _ hbel0).mono ?_
    rintro e w1 ⟨rfl, hb1⟩
    have cA := onB hb1 (hA0.cell 0)
    have hbw := hbel0.trans (hb1.mono hbel0.size)
    go_wp2_with fail
    have hz1 := (Blk.new w1 5 (zeros (.int .u8 0) L)).fill0 (fun j => enc8 (byteN N j : Int))
    have hbz := (Below.refl w1.heap.size w1).alloc (Nat.le_refl _) (.cells (zeros (.int .u8 0) L) 5)
    have lA := hA0.lt
    have hw1 := hbw.size
    go_loopw [20] (fun i wr => ∃ k : Nat, k ≤ L ∧ i = .int .i64 k ∧ Blk wr w1.heap.size 5 (filled (.int .u8 0) (fun j => enc8 (byteN N j : Int)) k L) ∧ Below w1.heap.size w1 wr) (fun i _ => L - (intOf i).toNat)
    case atStart => exact ⟨0, Nat.zero_le _, rfl, hz1, hbz⟩
    case round =>
      obtain ⟨k, hk, rfl, hb, hbel⟩ := hrel
      have HSET := Lib.hid (filled_set (z := .int .u8 0) (fun j => enc8 (byteN N j : Int)) (k := k) (n := L))
      by_cases hlt : k < L
      · have hk8 : k / 8 < nw N := by have := HNW.out; have := HL.out; omega
        have cg := onB hbel (((hg.below hbw hg.lt).cell (k / 8)).trans (hcs _ hk8))
        have cAr := onB hbel cA
        have cb := (hb.cell k).trans (filled_get _ _ hlt)
        have fb := hb.frozen k
        have ew : IntKind.u8.wrap ((wd N (k / 8) : Int) / 2 ^ (8 * (k % 8))) = (byteN N k : Int) := by
          rw [← byteN_wd]
          rw [show ((wd N (k / 8) : Int) / 2 ^ (8 * (k % 8))) = ((wd N (k / 8) / 2 ^ (8 * (k % 8)) : Nat) : Int) by simp]
          show ((wd N (k / 8) / 2 ^ (8 * (k % 8)) : Nat) : Int) % 256 = _
          omega
        have q2 : (k : Int).tmod 8 = (k : Int) % 8 := Int.tmod_eq_emod_of_nonneg (by omega)
        have q3 : (0 : Int) ≤ (k : Int) / 8 := by omega
        have q4 : (k : Int) / 8 < (nw N : Int) := by omega
        have q5 : ((k : Int) / 8).toNat = k / 8 := by omega
        have q6 : ((8 : Int) * ((k : Int) % 8)).toNat = 8 * (k % 8) := by omega
        have q7 : (0 : Int) ≤ 8 * ((k : Int) % 8) := by omega
        have q8 : (8 : Int) * ((k : Int) % 8) < 64 := by omega
        clear hcs
        go_wp2_with fail
        have hb2 := hb.set_ k (enc8 (byteN N k : Int))
        rw [HSET.out hlt] at hb2
        exact ⟨⟨k + 1, by omega, by go_num, hb2, hbel.setCell (Nat.le_refl _) _⟩, by simp [intOf]; omega⟩
      · obtain rfl : k = L := by omega
        have hfull : filled (.int .u8 0) (fun j => enc8 (byteN N j : Int)) k k = ((setBytes N).map enc8).toArray := by
          rw [HS.out]; exact filled_full _ _ _
        rw [hfull] at hb
        have hlen : (setBytes N).length = k := by rw [HS.out]; simp
        clear hfull
        go_wp2_with fail
        go_ret
        exact ⟨hbw.trans (hbel.mono hw1), .inr ⟨w1.heap.size, HN0.out, by rw [hlen]; rfl, hw1, hb⟩⟩
end Go.Proofs.YtjlcnbfkblmoeaaDoor

namespace Go.Proofs.YtjlcnbfkblmoeaaDoor
open Go.RowKit

/-- A writer at block b that holds the bytes xs. -/
def IsWr (base b : Nat) (xs : List Int) (W : World) : Prop := base ≤ b ∧ ∃ v, Blk W b 124 #[v] ∧ W.ownsRow base 5 1 v xs.length (xs.map enc8)
theorem IsWr.below {base b : Nat} {xs : List Int} {W W' : World} (h : IsWr base b xs W) (hb : Below W.heap.size W W') : IsWr base b xs W' := by
  obtain ⟨h1, v, h2, h3⟩ := h
  exact ⟨h1, v, h2.below hb h2.lt, own_below h3 hb⟩
/-- A slice of the bytes ys. -/
def IsBytes (W : World) (p : Value) (ys : List Int) : Prop := (p = .slice none 0 0 ∧ ys = []) ∨ ∃ g c, 0 < ys.length ∧ p = .slice (some ⟨g, 0, none⟩) ys.length c ∧ g < W.heap.size ∧ ∀ (j : Nat) u, (ys.map enc8)[j]? = some u → W.cell? ⟨g, j, none⟩ = some u
theorem IsBytes.below {W W' : World} {p : Value} {ys : List Int} (h : IsBytes W p ys) (hb : Below W.heap.size W W') : IsBytes W' p ys := by
  rcases h with h | ⟨g, c, h0, h1, h2, h3⟩
  · exact .inl h
  · exact .inr ⟨g, c, h0, h1, Nat.lt_of_lt_of_le h2 hb.size, fun j u hu => onB hb (h3 j u hu)⟩

/-- Block g is none of the writer's own. -/
def Apart (W : World) (b g : Nat) : Prop := g < W.heap.size ∧ g ≠ b ∧ ∀ v, W.cell? ⟨b, 0, none⟩ = some v → some g ≠ v.ownBlock
/-- What is not the writer's stays, and stays apart. -/
def Frame (b : Nat) (W W' : World) : Prop := ∀ g, Apart W b g → Apart W' b g ∧ W'.heap[g]? = W.heap[g]?
theorem Frame.refl (b : Nat) (W : World) : Frame b W W := fun _ h => ⟨h, rfl⟩
theorem Frame.trans {b : Nat} {A B C : World} (h : Frame b A B) (k : Frame b B C) : Frame b A C := fun g hg => ⟨(k g (h g hg).1).1, (k g (h g hg).1).2.trans (h g hg).2⟩
theorem Frame.of_below {b : Nat} {W W' : World} (h : Below W.heap.size W W') (hb : b < W.heap.size) : Frame b W W' := fun g hg =>
  ⟨⟨Nat.lt_of_lt_of_le hg.1 h.size, hg.2.1, fun v hv => hg.2.2 v (by rwa [h.cell (p := ⟨b, 0, none⟩) hb] at hv)⟩, h.block g hg.1⟩
theorem IsBytes.frame {b : Nat} {W W' : World} {p : Value} {ys : List Int} (h : IsBytes W p ys) (hf : Frame b W W') (ha : ∀ g o c n, p = .slice (some ⟨g, o, none⟩) n c → Apart W b g) : IsBytes W' p ys := by
  rcases h with h | ⟨g, c, h0, h1, h2, h3⟩
  · exact .inl h
  · have hg := hf g (ha g 0 c _ h1)
    exact .inr ⟨g, c, h0, h1, hg.1.1, fun j u hu => (World.cell?_of_block (a := ⟨g, j, none⟩) hg.2).trans (h3 j u hu)⟩
theorem Apart.new {W W' : World} {b g base : Nat} {xs : List Int} (h : IsWr base b xs W) (hb : Below W.heap.size W W') (hg : W.heap.size ≤ g) (hg' : g < W'.heap.size) : Apart W' b g := by
  obtain ⟨h1, v, h2, h3⟩ := h
  refine ⟨hg', by have := h2.lt; omega, fun u hu e => ?_⟩
  rw [hb.cell (p := ⟨b, 0, none⟩) h2.lt, h2.cell 0] at hu
  cases hu
  have := (h3.lt g e.symm).2
  omega
set_option maxRecDepth 100000 in
set_option maxHeartbeats 1000000 in
theorem newWriter_any (w : World) :
    Calls Tryd.prog 79 #[] w fun e w' => e = .returned (ptr w.heap.size) ∧ IsWr w.heap.size w.heap.size [] w' ∧ Below w.heap.size w w' := by
  go_enter Tryd.func79, Tryd.ntmps79
  go_wp2
  go_ret
  exact ⟨rfl, ⟨Nat.le_refl _, _, Blk.new _ _ _, World.ownsRow_nil _ _ _ _⟩, (Below.refl _ _).alloc (Nat.le_refl _) _⟩
set_option maxRecDepth 100000 in
set_option maxHeartbeats 1000000 in
theorem raw_any (base b : Nat) (xs ys : List Int) (p : Value) (w : World) (h : IsWr base b xs w) (hp : IsBytes w p ys) (hl : xs.length + ys.length ≤ 1000000000) (hbase : base ≤ w.heap.size) :
    Calls Tryd.prog 96 #[ptr b, p] w fun e w' => e = .returned (.tuple #[]) ∧ IsWr base b (xs ++ ys) w' ∧ Below base w w' ∧ Frame b w w' := by
  obtain ⟨i0, hi0, hz0, hz1, hz2⟩ := info_parts info_byte
  obtain ⟨h1, v, h2, h3⟩ := h
  have c0 : w.cell? ⟨b, 0, none⟩ = some v := h2.cell 0
  have f0 := h2.frozen 0
  have hne := own_ne h3 h2 (by decide)
  rcases hp with ⟨rfl, rfl⟩ | ⟨g, c, hpos, rfl, hg, hc⟩
  · obtain ⟨A, cv, rfl, _⟩ := row_of_own h3
    go_enter Tryd.func96, Tryd.ntmps96
    go_wp2_with (at_builtin; refine wpList_append_own_none rfl _ _ 22 rfl base 5 i0 1 Tryd.underlying22 hi0 _ _ _ rfl h3 rfl ?_)
    go_end0
    have h4 := ownsRow_setCell_other h3 (a := ⟨b, 0, none⟩) (fun e => hne e.symm) (.slice A xs.length cv)
    refine ⟨rfl, ⟨h1, _, h2.set_ 0 _, by simpa using h4⟩, (Below.refl _ _).setCell (p := ⟨b, 0, none⟩) h1 _, fun q hq => ⟨⟨by simpa [World.setCell] using hq.1, hq.2.1, fun u hu => ?_⟩, Below.heap_setCell w ⟨b, 0, none⟩ _ q hq.2.1⟩⟩
    rw [(h2.set_ 0 (.slice A xs.length cv)).cell 0] at hu
    cases hu
    exact hq.2.2 _ c0
  · have hadd : ∀ (j : Nat) u, (ys.map enc8)[j]? = some u → w.cell? ((⟨g, 0, none⟩ : Addr).add j) = some u := fun j u hu => by
      have := hc j u hu
      have e : (⟨g, 0, none⟩ : Addr).add j = ⟨g, j, none⟩ := by unfold Addr.add; split <;> simp_all
      rw [e]; exact this
    have HADD := Lib.hid hadd; clear hadd hc
    go_enter Tryd.func96, Tryd.ntmps96
    go_wp2_with (at_builtin; refine wpList_append_lies _ rfl _ _ 22 rfl base 5 i0 (.int .u8 0) 1 1 Tryd.underlying22 hi0 hz0 hz1 hz2 rfl (by decide) _ _ _ rfl h3 ⟨g, 0, none⟩ ys.length c (ys.map enc8) rfl (by simp) HADD.out (by intro u hu; obtain ⟨x, _, rfl⟩ := List.mem_map.1 hu; rfl) hpos (by unfold maxLen; omega) (by omega) hbase w.heap.size rfl ?_)
    intro g5 cap5 w3 hown' hgrow hlies hlt5
    have hB3 := h2.grown hgrow hne
    have c3 := hB3.cell 0
    have f3 := hB3.frozen 0
    have hne3 := own_ne hown' hB3 (by decide)
    have hbe3 := (Below.refl base w).grown hgrow hbase (fun q hq => (h3.lt q hq).1)
    go_wp2_with fail
    go_end0
    have h4 := ownsRow_setCell_other hown' (a := ⟨b, 0, none⟩) (fun e => hne3 e.symm) (.slice (some ⟨g5, 0, none⟩) (xs.length + ys.length) cap5)
    refine ⟨rfl, ⟨h1, _, hB3.set_ 0 _, by simpa using h4⟩, hbe3.setCell (p := ⟨b, 0, none⟩) h1 _, fun q hq => ⟨⟨by have := hgrow.size; have := hq.1; simp [World.setCell]; omega, hq.2.1, fun u hu => ?_⟩, (Below.heap_setCell w3 ⟨b, 0, none⟩ _ q hq.2.1).trans (hgrow.block q hq.1 (hq.2.2 _ c0))⟩⟩
    rw [(hB3.set_ 0 (.slice (some ⟨g5, 0, none⟩) (xs.length + ys.length) cap5)).cell 0] at hu
    cases hu
    intro e
    have e : q = g5 := by simpa [Value.ownBlock] using e
    rcases hlies with hl | hl
    · exact hq.2.2 _ c0 (by rw [hl, e])
    · have := hq.1; omega
end Go.Proofs.YtjlcnbfkblmoeaaDoor

namespace Go.Proofs.YtjlcnbfkblmoeaaDoor
open Go.RowKit

theorem IsBytes.of_own {W : World} {base g cap : Nat} {xs : List Int} (h : W.ownsRow base 5 1 (.slice (some ⟨g, 0, none⟩) xs.length cap) xs.length (xs.map enc8)) (h0 : 0 < xs.length) : IsBytes W (.slice (some ⟨g, 0, none⟩) xs.length cap) xs :=
  .inr ⟨g, cap, h0, rfl, (h.lt g rfl).2, fun j u hu => by
    have hj : j < xs.length := by have := (List.getElem?_eq_some_iff.1 hu).1; simpa using this
    rw [h.cellAt j (by omega)]; exact hu⟩
theorem IsBytes.of_blk {W : World} {g c : Nat} {xs : List Int} (h : Blk W g 5 (xs.map enc8).toArray) (h0 : 0 < xs.length) : IsBytes W (.slice (some ⟨g, 0, none⟩) xs.length c) xs :=
  .inr ⟨g, c, h0, rfl, h.lt, fun j u hu => by rw [h.cell j, List.getElem?_toArray]; exact hu⟩
theorem encN_len (v : Nat) : 0 < (encN v).length ∧ (encN v).length ≤ 11 := by
  have : ∀ f r, (grps f r).length ≤ f := by
    intro f
    induction f with
    | zero => intro r; simp [grps]
    | succ f ih => intro r; rw [grps]; split <;> simp; exact ih _
  have := this 10 (v / 128)
  unfold encN
  simp; omega
set_option maxRecDepth 100000 in
set_option maxHeartbeats 1000000 in
theorem uint_any (base b v : Nat) (xs : List Int) (w : World) (h : IsWr base b xs w) (hv : v < 2 ^ 64) (hl : xs.length ≤ 900000000) (hbase : base ≤ w.heap.size) :
    Calls Tryd.prog 80 #[ptr b, u64 v] w fun e w' => e = .returned (.tuple #[]) ∧ IsWr base b (xs ++ encN v) w' ∧ Below base w w' ∧ Frame b w w' := by
  have HG := hideC (groups_any v w hv)
  have hlb : b < w.heap.size := by obtain ⟨_, v, h2, _⟩ := h; exact h2.lt
  go_enter Tryd.func80, Tryd.ntmps80
  go_wp2_with fail
  refine HG.out.mono ?_
  rintro e w1 ⟨g, cap, rfl, hown, hle, hb1⟩
  have HR := hideC (raw_any base b xs (encN v) _ w1 (h.below hb1) (IsBytes.of_own hown (encN_len v).1) (by omega) (Nat.le_trans hbase hb1.size))
  go_wp2_with fail
  refine HR.out.mono ?_
  rintro e w2 ⟨rfl, hw2, hb2, hf2⟩
  go_wp2_with fail
  go_end0
  exact ⟨rfl, hw2, (hb1.mono hbase).trans hb2, (Frame.of_below hb1 hlb).trans hf2⟩
/-- A byte string's bytes. -/
def encB (ys : List Int) : List Int := encN ys.length ++ ys
theorem encB_len (ys : List Int) : (encB ys).length ≤ ys.length + 11 := by have := (encN_len ys.length).2; unfold encB; simp; omega
set_option maxRecDepth 100000 in
set_option maxHeartbeats 1000000 in
theorem wbytes_any (base b : Nat) (xs ys : List Int) (A : Option Addr) (c : Nat) (w : World) (h : IsWr base b xs w) (hp : IsBytes w (.slice A ys.length c) ys) (ha : ∀ g o, A = some ⟨g, o, none⟩ → Apart w b g) (hl : xs.length ≤ 100000000) (hy : ys.length ≤ 100000000) (hbase : base ≤ w.heap.size) :
    Calls Tryd.prog 98 #[ptr b, .slice A ys.length c] w fun e w' => e = .returned (.tuple #[]) ∧ IsWr base b (xs ++ encB ys) w' ∧ Below base w w' ∧ Frame b w w' := by
  have HU := hideC (uint_any base b ys.length xs w h (by omega) (by omega) hbase)
  have hen := encN_len ys.length
  go_enter Tryd.func98, Tryd.ntmps98
  go_wp2_with fail
  refine HU.out.mono ?_
  rintro e w1 ⟨rfl, hw1, hb1, hf1⟩
  have hp1 := hp.frame hf1 (fun g o c n e => ha g o (by cases e; rfl))
  have HR := hideC (raw_any base b (xs ++ encN ys.length) ys _ w1 hw1 hp1 (by simp; omega) (Nat.le_trans hbase hb1.size))
  go_wp2_with fail
  refine HR.out.mono ?_
  rintro e w2 ⟨rfl, hw2, hb2, hf2⟩
  go_wp2_with fail
  go_end0
  exact ⟨rfl, by rw [encB, ← List.append_assoc]; exact hw2, hb1.trans hb2, hf1.trans hf2⟩
theorem setBytes_len (N : Nat) (h : nw N ≤ 64) : (setBytes N).length ≤ 512 := by
  unfold setBytes
  by_cases h0 : N = 0
  · simp [h0]
  · have : nw N = N.log2 / 64 + 1 := by rw [nw, if_neg h0]
    rw [if_neg h0]; simp; omega
set_option maxRecDepth 100000 in
set_option maxHeartbeats 1000000 in
theorem wset_any (base b N : Nat) (xs : List Int) (v : Value) (w : World) (h : IsWr base b xs w) (hs : IsSet w v N) (hl : xs.length ≤ 100000000) (hbase : base ≤ w.heap.size) :
    Calls Tryd.prog 81 #[ptr b, .agg #[v]] w fun e w' => e = .returned (.tuple #[]) ∧ IsWr base b (xs ++ encB (setBytes N)) w' ∧ Below base w w' ∧ Frame b w w' := by
  obtain ⟨A, c, rfl, hN, _⟩ := id hs
  have hlb : b < w.heap.size := by obtain ⟨_, v, h2, _⟩ := h; exact h2.lt
  have hsl := setBytes_len N hN
  go_enter Tryd.func81, Tryd.ntmps81
  go_wp2_with fail
  refine absC1 fun W0 hA0 hbel0 hz => ?_
  refine (setBytes_any _ N _ (hs.below hbel0)).mono ?_
  rintro e w1 ⟨hb1, hcase⟩
  have hbw := hbel0.trans (hb1.mono hbel0.size)
  have key : ∃ A1 c1, e = .returned (.slice A1 (setBytes N).length c1) ∧ IsBytes w1 (.slice A1 (setBytes N).length c1) (setBytes N) ∧ ∀ g o, A1 = some ⟨g, o, none⟩ → Apart w1 b g := by
    rcases hcase with ⟨rfl, rfl⟩ | ⟨g, hne, rfl, hge, hblk⟩
    · exact ⟨none, 0, rfl, .inl ⟨rfl, rfl⟩, fun g o e => by cases e⟩
    · refine ⟨_, _, rfl, IsBytes.of_blk hblk ?_, fun g' o e => ?_⟩
      · unfold setBytes; rw [if_neg hne]; simp
      · cases e; exact Apart.new h hbw (by have := hbel0.size; omega) hblk.lt
  obtain ⟨A1, c1, rfl, hby, hap⟩ := key
  have HB := hideC (wbytes_any base b xs (setBytes N) A1 c1 w1 (h.below hbw) hby hap hl (by omega) (Nat.le_trans hbase hbw.size))
  go_wp2_with fail
  refine HB.out.mono ?_
  rintro e w2 ⟨rfl, hw2, hb2, hf2⟩
  go_wp2_with fail
  go_end0
  exact ⟨rfl, hw2, (hbw.mono hbase).trans hb2, (Frame.of_below hbw hlb).trans hf2⟩
end Go.Proofs.YtjlcnbfkblmoeaaDoor

namespace Go.Proofs.YtjlcnbfkblmoeaaDoor
open Go.RowKit

theorem run_eql_some_nil {P : Program} {t e : TypeId} (h : P.underlying t = some (.slice e)) (a : Addr) (l c : Nat) (w : World) : (binOp .eql t (.slice (some a) l c) (.slice none 0 0)).run P w = .ok (.bool false) w := by
  simp only [binOp]
  simp [run_equal_slice_nil w t e (some a) l c h]
set_option maxRecDepth 100000 in
set_option maxHeartbeats 1000000 in
theorem clone8_any (g c : Nat) (ys : List Int) (w : World) (hp : IsBytes w (.slice (some ⟨g, 0, none⟩) ys.length c) ys) (hy : ys.length ≤ 1000000000) :
    Calls Tryd.prog 100 #[.slice (some ⟨g, 0, none⟩) ys.length c] w fun e w' => ∃ g' c', e = .returned (.slice (some ⟨g', 0, none⟩) ys.length c') ∧ w'.ownsRow w.heap.size 5 1 (.slice (some ⟨g', 0, none⟩) ys.length c') ys.length (ys.map enc8) ∧ ys.length ≤ c' ∧ Below w.heap.size w w' := by
  obtain ⟨i0, hi0, hz0, hz1, hz2⟩ := info_parts info_byte
  rcases hp with ⟨h, _⟩ | ⟨g1, c1, hpos, h, hg, hc⟩
  · cases h
  · injection h with h h2 h3
    injection h with h
    injection h with h
    subst h; subst h3
    have hadd : ∀ (j : Nat) u, (ys.map enc8)[j]? = some u → (w.alloc (.cells #[] 5)).cell? ((⟨g, 0, none⟩ : Addr).add j) = some u := fun j u hu => by
      have := hc j u hu
      have e : (⟨g, 0, none⟩ : Addr).add j = ⟨g, j, none⟩ := by unfold Addr.add; split <;> simp_all
      rw [e]; exact (World.cell?_alloc_lt _ _ _ hg).trans this
    have HADD := Lib.hid hadd; clear hadd hc
    have own0 := World.ownsRow_lit (base := w.heap.size) (e := 5) (size := 1) w #[] 0 (Nat.le_refl _) (by decide) rfl
    have hb0 := (Below.refl w.heap.size w).alloc (Nat.le_refl _) (.cells #[] 5)
    have hnil := fun W => run_eql_some_nil (P := Tryd.prog) Tryd.underlying22 ⟨g, 0, none⟩ ys.length c W
    go_enter Tryd.func100, Tryd.ntmps100
    go_wp2_with (at_builtin; refine wpList_append_lies _ rfl _ _ 22 rfl w.heap.size 5 i0 (.int .u8 0) 1 1 Tryd.underlying22 hi0 hz0 hz1 hz2 rfl (by decide) _ _ _ rfl own0 ⟨g, 0, none⟩ ys.length c (ys.map enc8) rfl (by simp) HADD.out (by intro u hu; obtain ⟨x, _, rfl⟩ := List.mem_map.1 hu; rfl) hpos (by unfold maxLen; omega) (by omega) (by simp) _ rfl ?_)
    intro g5 cap5 w3 hown' hgrow hlies hlt5
    have hbe3 := hb0.grown hgrow (by simp) (fun q hq => (own0.lt q hq).1)
    go_wp2_with fail
    go_ret
    have hown2 : w3.ownsRow w.heap.size 5 1 (.slice (some ⟨g5, 0, none⟩) ys.length cap5) ys.length (ys.map enc8) := by simpa using hown'
    obtain ⟨_, _, e, h6, _⟩ := row_of_own hown2
    exact ⟨g5, cap5, by simp, hown2, by cases e; exact h6, hbe3⟩
set_option maxRecDepth 100000 in
set_option maxHeartbeats 1000000 in
theorem out_any (base b : Nat) (xs : List Int) (w : World) (h : IsWr base b xs w) (h0 : 0 < xs.length) (hl : xs.length ≤ 1000000000) :
    Calls Tryd.prog 82 #[ptr b] w fun e w' => ∃ g' c', e = .returned (.slice (some ⟨g', 0, none⟩) xs.length c') ∧ w'.ownsRow w.heap.size 5 1 (.slice (some ⟨g', 0, none⟩) xs.length c') xs.length (xs.map enc8) ∧ xs.length ≤ c' ∧ Below w.heap.size w w' := by
  obtain ⟨h1, v, h2, h3⟩ := h
  obtain ⟨g, c, rfl, _, _⟩ := h3.form h0
  have c0 := h2.cell 0
  have HC := hideC (clone8_any g c xs w (IsBytes.of_own h3 h0) hl)
  go_enter Tryd.func82, Tryd.ntmps82
  go_wp2_with fail
  refine HC.out.mono ?_
  rintro e w1 ⟨g', c', rfl, hown, hcc, hb⟩
  go_wp2_with fail
  go_ret
  exact ⟨g', c', rfl, hown, hcc, hb⟩

/-- A matrix's bytes, the first k rows. -/
def mbytes (C : Nat) (Ns : List Nat) (k : Nat) : List Int := encN Ns.length ++ encN C ++ ((Ns.take k).map fun N => encB (setBytes N)).flatten
theorem mbytes_succ {C : Nat} {Ns : List Nat} {k : Nat} (h : k < Ns.length) : mbytes C Ns (k + 1) = mbytes C Ns k ++ encB (setBytes Ns[k]) := by
  unfold mbytes
  rw [List.take_add_one, List.getElem?_eq_getElem h, List.map_append, List.flatten_append, ← List.append_assoc]
  congr 1
  exact List.append_nil _
set_option maxRecDepth 100000 in
set_option maxHeartbeats 2000000 in
theorem mbytes_any (p C : Nat) (Ns : List Nat) (w : World) (h : IsMat w p C Ns) :
    Calls Tryd.prog 54 #[ptr p] w fun e w' => ∃ g' c', e = .returned (.slice (some ⟨g', 0, none⟩) (mbytes C Ns Ns.length).length c') ∧ w'.ownsRow w.heap.size 5 1 (.slice (some ⟨g', 0, none⟩) (mbytes C Ns Ns.length).length c') (mbytes C Ns Ns.length).length ((mbytes C Ns Ns.length).map enc8) ∧ 0 < (mbytes C Ns Ns.length).length ∧ (mbytes C Ns Ns.length).length ≤ c' ∧ Below w.heap.size w w' := by
  obtain ⟨h1, h2, A, c, vs, hB, hc, hr, hs⟩ := id h
  have HN := hideC (newWriter_any w)
  go_enter Tryd.func54, Tryd.ntmps54
  go_wp2_with fail
  refine HN.out.mono ?_
  rintro e w1 ⟨rfl, hw1, hb1⟩
  have m1 := onB hb1 (hB.cell 1)
  have e1 := encN_len Ns.length
  have e2 := encN_len C
  have HU := hideC (uint_any w.heap.size w.heap.size Ns.length [] w1 hw1 (by omega) (by simp) hb1.size)
  go_wp2_with fail
  refine HU.out.mono ?_
  rintro e w2 ⟨rfl, hw2, hb2, _⟩
  have hbw2 := hb1.trans hb2
  have m0 := onB hbw2 (hB.cell 0)
  have HU2 := hideC (uint_any w.heap.size w.heap.size C ([] ++ encN Ns.length) w2 hw2 (by omega) (by simp; omega) hbw2.size)
  go_wp2_with fail
  refine HU2.out.mono ?_
  rintro e w3 ⟨rfl, hw3, hb3, _⟩
  have hbw3 := hbw2.trans hb3
  have m13 := onB hbw3 (hB.cell 1)
  clear m1 m0
  go_wp2_with fail
  go_loopw [29] (fun i wr => ∃ k : Nat, k ≤ Ns.length ∧ i = .int .i64 k ∧ IsWr w.heap.size w.heap.size (mbytes C Ns k) wr ∧ (mbytes C Ns k).length ≤ 22 + 523 * k ∧ 0 < (mbytes C Ns k).length ∧ Below w.heap.size w wr) (fun i _ => Ns.length - (intOf i).toNat)
  case atStart => exact ⟨0, Nat.zero_le _, rfl, by simpa [mbytes] using hw3, by simp [mbytes]; omega, by simp [mbytes]; omega, hbw3⟩
  case round =>
    obtain ⟨k, hk, rfl, hwk, hlk, hpk, hbel⟩ := hrel
    by_cases hlt : k < Ns.length
    · obtain ⟨A1, c1, hv, hset⟩ := hs.at_ hlt
      obtain ⟨g, off, rfl, hg, hcell⟩ := hr (by rw [hs.1]; omega)
      have cv := onB hbel (hcell k _ hv)
      have hsl := setBytes_len Ns[k] (by obtain ⟨_, _, _, x, _⟩ := hset; exact x)
      have hel := encB_len (setBytes Ns[k])
      have HST := Lib.hid (mbytes_succ (C := C) hlt)
      clear hcell hr hs hv
      go_wp2_with fail
      refine absC1 fun W1 hX hbx hz1 => ?_
      have hbel1 := hbel.trans (hbx.mono hbel.size)
      refine (wset_any w.heap.size w.heap.size Ns[k] _ _ W1 (hwk.below hbx) ((hset.below hbel).below hbx) (by omega) hbel1.size).mono ?_
      rintro e w4 ⟨rfl, hw4, hb4, _⟩
      go_wp2_with fail
      exact ⟨⟨k + 1, by omega, by go_num, by rw [HST.out]; exact hw4, by rw [HST.out, List.length_append]; omega, by rw [HST.out, List.length_append]; omega, hbel1.trans hb4⟩, by simp [intOf]; omega⟩
    · obtain rfl : k = Ns.length := by omega
      have HO := hideC (out_any w.heap.size w.heap.size _ wr hwk hpk (by omega))
      go_wp2_with fail
      refine HO.out.mono ?_
      rintro e w5 ⟨g', c', rfl, hown, hcc, hb5⟩
      go_wp2_with fail
      go_ret
      exact ⟨g', c', rfl, hown.mono hbel.size, hpk, hcc, hbel.trans (hb5.mono hbel.size)⟩
set_option maxRecDepth 100000 in
theorem mbytes_nil (w : World) :
    Calls Tryd.prog 54 #[.pointer none] w fun e w' => e = .returned (.slice none 0 0) ∧ w = w' := by
  go_enter Tryd.func54, Tryd.ntmps54
  go_wp2
  go_ret
  exact ⟨rfl, rfl⟩
end Go.Proofs.YtjlcnbfkblmoeaaDoor

namespace Go.Proofs.YtjlcnbfkblmoeaaDoor
open Go.RowKit

theorem conv_own {W : World} {base g c : Nat} (l : List UInt8) (h : W.ownsRow base 5 1 (.slice (some ⟨g, 0, none⟩) l.length c) l.length ((l.map fun b => (b.toNat : Int)).map enc8)) :
    (convert 22 9 (.slice (some ⟨g, 0, none⟩) l.length c)).run Tryd.prog W = .ok (.string ⟨l.toArray⟩) W :=
  run_convert_bytes_back W _ _ 5 ⟨g, 0, none⟩ c l Tryd.underlying22 Tryd.underlying5 Tryd.underlying9 fun j hj => by
    have e : (⟨g, 0, none⟩ : Addr).add j = ⟨g, j, none⟩ := by unfold Addr.add; split <;> simp_all
    rw [e, h.cellAt j (by omega), List.getElem?_map, List.getElem?_map, List.getElem?_eq_getElem hj]; rfl

theorem parse_at (s : ByteArray) (C : Nat) (Ns : List Nat) (hC : pC s.data.toList = C) (hN : pNs s.data.toList = Ns) (hok : pOK s.data.toList) (hs : s.size ≤ 4096) (w : World) :
    Calls Tryd.prog 26 #[.string s] w fun e w' => ∃ q, e = pair (ptr q) 0 ∧ IsMat w' q C Ns ∧ Below w.heap.size w w' := by
  refine (parse_any s w hs).mono ?_
  rintro e w' ⟨hb, ⟨_, h⟩ | ⟨q, rfl, _, hm⟩⟩
  · exact absurd hok h
  · subst hC; subst hN
    exact ⟨q, rfl, hm, hb⟩
theorem aw1 : pC [49, 48, 10, 48, 49, 10, 49, 49, 10] = 2 ∧ pNs [49, 48, 10, 48, 49, 10, 49, 49, 10] = [1, 2, 3] ∧ pOK [49, 48, 10, 48, 49, 10, 49, 49, 10] := by decide +kernel
theorem aw2 : pC [48, 49, 49, 10, 49, 48, 48, 10] = 3 ∧ pNs [48, 49, 49, 10, 49, 48, 48, 10] = [6, 1] ∧ pOK [48, 49, 49, 10, 49, 48, 48, 10] := by decide +kernel
theorem aw3 : pC [49, 48, 10, 48, 49, 10, 49, 48, 10] = 2 ∧ pNs [49, 48, 10, 48, 49, 10, 49, 48, 10] = [1, 2, 1] ∧ pOK [49, 48, 10, 48, 49, 10, 49, 48, 10] := by decide +kernel
theorem aw4 : mprod [1, 2, 3] [6, 1] 3 = [6, 1, 7] := by decide +kernel
theorem aw5 : mdist [1, 2, 1] 3 = ([1, 2], [0, 1, 0]) := by decide +kernel
theorem aw6 : mtext 3 [6, 1, 7] 3 = [48, 49, 49, 10, 49, 48, 48, 10, 49, 49, 49, 10] := by decide +kernel
theorem aw7 : mtext 2 [1, 2] 2 = [49, 48, 10, 48, 49, 10] := by decide +kernel
theorem aw8 : mbytes 2 [1, 2, 3] 3 = [3, 2, 1, 1, 1, 2, 1, 3] := by decide +kernel
theorem aw9 : rowsIn 2 [1, 2, 3] := by unfold rowsIn; decide +kernel

theorem below_drewN_ (W : World) (q : Nat) : Below W.heap.size W (W.drewN q) := ⟨rfl, rfl, rfl, Nat.le_refl _, fun _ _ => rfl⟩
theorem cell_new_l' (W : World) (cs : Array Value) (t : TypeId) (j : Nat) : (W.alloc (.cells cs t)).cell? ⟨W.heap.size, j, none⟩ = cs[j]? := (Blk.new W t cs).cell j
set_option maxRecDepth 100000 in
set_option maxHeartbeats 2000000 in
theorem awake_any (w : World) (hT : Tab w) :
    Calls Tryd.prog 13 #[] w fun e w' => e = .returned (.bool true) ∧ Below w.heap.size w w' := by
  have HP1 := hideC (parse_at ⟨#[49, 48, 10, 48, 49, 10, 49, 49, 10]⟩ 2 [1, 2, 3] aw1.1 aw1.2.1 aw1.2.2 (by decide) w)
  go_enter Tryd.func13, Tryd.ntmps13
  go_wp2_with fail
  refine HP1.out.mono ?_
  rintro e w1 ⟨p1, rfl, hm1, hb1⟩
  have HP2 := hideC (parse_at ⟨#[48, 49, 49, 10, 49, 48, 48, 10]⟩ 3 [6, 1] aw2.1 aw2.2.1 aw2.2.2 (by decide) w1)
  go_wp2_with fail
  refine HP2.out.mono ?_
  rintro e w2 ⟨p2, rfl, hm2, hb2⟩
  have b2 := hb1.trans (hb2.mono hb1.size)
  have HP3 := hideC (prod_any p1 p2 2 3 [1, 2, 3] [6, 1] w2 (hm1.below hb2) hm2 rfl aw9 (hT.below b2))
  go_wp2_with fail
  refine HP3.out.mono ?_
  rintro e w3 ⟨p3, rfl, hm3, hb3⟩
  have b3 := b2.trans (hb3.mono b2.size)
  rw [show ([1, 2, 3] : List Nat).length = 3 from rfl, aw4] at hm3
  have HP4 := hideC (parse_at ⟨#[49, 48, 10, 48, 49, 10, 49, 48, 10]⟩ 2 [1, 2, 1] aw3.1 aw3.2.1 aw3.2.2 (by decide) w3)
  go_wp2_with fail
  refine HP4.out.mono ?_
  rintro e w4 ⟨p4, rfl, hm4, hb4⟩
  have b4 := b3.trans (hb4.mono b3.size)
  have HP5 := hideC (dist_any p4 2 [1, 2, 1] w4 hm4)
  go_wp2_with fail
  refine HP5.out.mono ?_
  rintro e w5 ⟨p5, A, c, rfl, hm5, hc5, hr5, hb5⟩
  rw [show ([1, 2, 1] : List Nat).length = 3 from rfl, aw5] at hm5 hc5 hr5 ⊢
  have b5 := b4.trans (hb5.mono b4.size)
  have hm3' := hm3.below (hb4.trans (hb5.mono hb4.size))
  have hT3 := text_any p3 3 [6, 1, 7] w5 hm3'
  rw [show ([6, 1, 7] : List Nat).length = 3 from rfl, aw6] at hT3
  have HT3 := hideC hT3; clear hT3
  go_wp2_with fail
  refine HT3.out.mono ?_
  rintro e w6 ⟨rfl, hb6⟩
  have b6 := b5.trans (hb6.mono b5.size)
  have hT5 := text_any p5 2 [1, 2] w6 (hm5.below hb6)
  rw [show ([1, 2] : List Nat).length = 2 from rfl, aw7] at hT5
  have HT5 := hideC hT5; clear hT5
  go_wp2_with fail
  refine HT5.out.mono ?_
  rintro e w7 ⟨rfl, hb7⟩
  have b7 := b6.trans (hb7.mono b6.size)
  obtain ⟨g, off, rfl, hg, hcell⟩ := hr5 (by simp)
  go_wp2_with fail
  have hb8 := (Below.refl w7.heap.size w7).alloc (Nat.le_refl _) (.cells #[Value.int IntKind.i64 0, Value.int IntKind.i64 1, Value.int IntKind.i64 0] 3)
  have b8 := b7.trans (hb8.mono b7.size)
  have heq := Tryd.slices_Equal_int g off 3 c w7.heap.size 0 3 3 [0, 1, 0] [0, 1, 0] (w7.alloc (.cells #[Value.int IntKind.i64 0, Value.int IntKind.i64 1, Value.int IntKind.i64 0] 3)) (by decide) (by decide) (by decide) (by decide)
    (fun j hj => by
      have h7 := hb6.trans (hb7.mono hb6.size)
      have h8 := h7.trans (hb8.mono h7.size)
      have hc := hcell j (.int .i64 (([0, 1, 0] : List Int).getD j 0)) (by
        match j, hj with
        | 0, _ => rfl
        | 1, _ => rfl
        | 2, _ => rfl)
      exact onB h8 hc)
    (fun j hj => by
      rw [Nat.zero_add, cell_new_l' w7]
      match j, hj with
      | 0, _ => rfl
      | 1, _ => rfl
      | 2, _ => rfl)
  refine heq.mono ?_
  rintro e w9 ⟨rfl, q9, rfl⟩
  have b9 := b8.trans ((below_drewN_ _ q9).mono b8.size)
  have k3 := hb2.trans (hb3.mono hb2.size)
  have k4 := k3.trans (hb4.mono k3.size)
  have k5 := k4.trans (hb5.mono k4.size)
  have k6 := k5.trans (hb6.mono k5.size)
  have k7 := k6.trans (hb7.mono k6.size)
  have k8 := k7.trans (hb8.mono k7.size)
  have hm1' := hm1.below (k8.trans ((below_drewN_ _ q9).mono k8.size))
  have hBy := mbytes_any p1 2 [1, 2, 3] _ hm1'
  rw [show ([1, 2, 3] : List Nat).length = 3 from rfl, aw8] at hBy
  have HBY := hideC hBy; clear hBy
  go_wp2_with fail
  refine HBY.out.mono ?_
  rintro e w10 ⟨g', c', rfl, hown, _, _, hb10⟩
  have hcv : (convert 22 9 (.slice (some ⟨g', 0, none⟩) 8 c')).run Tryd.prog w10 = .ok (.string ⟨#[3, 2, 1, 1, 1, 2, 1, 3]⟩) w10 := conv_own (W := w10) [3, 2, 1, 1, 1, 2, 1, 3] hown
  go_wp2_with fail
  go_ret
  exact ⟨rfl, b9.trans (hb10.mono b9.size)⟩
end Go.Proofs.YtjlcnbfkblmoeaaDoor
