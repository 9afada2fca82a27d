import Derived.Test.YtjlcnbfkblmoeaaDoorDist
import Derived.Shelf.RegionOpenPlain
import Derived.Deep.LoopGhost
import Derived.Sort.WalkB12
import Derived.Lib.SlicesMore
import Derived.Lib.OwnBridge
import Derived.Laws.Bits128
namespace Go.Proofs.YtjlcnbfkblmoeaaDoor
open Go.RowKit Go.Sort
/-- A byte as a value. -/
abbrev enc8 (x : Int) : Value := .int .u8 x
set_option maxHeartbeats 1600000 in
set_option maxRecDepth 1000000 in
theorem reverse_arr (blk off cap : Nat) (d : Array Int) (w : World) (hH : Holds enc8 w blk off d) (hsz : d.size ≤ 9223372036854775807) :
    Calls Tryd.prog 116 #[.slice (some ⟨blk, off, none⟩) d.size cap] w fun e w' => e = .returned (.tuple #[]) ∧ ∃ n, w' = putRow enc8 (Sort.ahead w n) blk off d.reverse := by
  go_enter Tryd.func116, Tryd.ntmps116
  go_wp2
  go_loopg [2, 3] d.size (fun k s2 s3 wr => ∃ (i jn : Nat) (jz : Int) (dk : Array Int) (n : Nat), s2 = .int .i64 i ∧ s3 = .int .i64 jz ∧ ((i : Int) < jz → jz = jn ∧ jn < d.size) ∧ (¬ (i : Int) < jz → ¬ i < jn) ∧ jn - i ≤ k ∧
    dk.size = d.size ∧ wr = putRow enc8 (Sort.ahead w n) blk off dk ∧ reverseLoop i jn dk = reverseLoop 0 (d.size - 1) d)
  case atStart => exact ⟨0, d.size - 1, (d.size : Int) - 1, d, 0, rfl, rfl, fun h => ⟨by omega, by omega⟩, fun h => by omega, by omega, rfl, (putRow_self enc8 w blk off d hH).symm, rfl⟩
  case round =>
    obtain ⟨i, jn, jz, dk, n, rfl, rfl, h1, h2, hk, hds, hwr, heq⟩ := hrel
    by_cases hlt : (i : Int) < jz
    · obtain ⟨rfl, hjn⟩ := h1 hlt
      have hij : i < jn := by omega
      have hHk : Holds enc8 wr blk off dk := by rw [hwr]; exact holds_putRow enc8 _ blk off d dk (holds_ahead enc8 w n blk off d hH) hds
      obtain ⟨ci, fi⟩ := hHk i (by omega)
      obtain ⟨cj, fj⟩ := hHk jn (by omega)
      have A : Aside (wr = putRow enc8 (Sort.ahead w n) blk off dk) := hwr
      clear hwr hHk hH h1 h2
      go_wp2_with fail
      go_region
      go_wp2
      go_roundg (jn - 1 - (i + 1))
      case measure => omega
      case rel =>
        rw [reverseLoop, if_pos hij] at heq
        exact ⟨i + 1, jn - 1, (jn : Int) - 1, swp dk i jn, n + 1, by simp, rfl, fun h => ⟨by omega, by omega⟩, fun h => by omega, Nat.le_refl _, by rw [size_swp]; exact hds,
          swap_world enc8 (by omega) (by omega) A.out (by first | rfl | simp [enc8, getElem!_pos, show jn < dk.size by omega]) (by first | rfl | simp [enc8, getElem!_pos, show i < dk.size by omega]), heq⟩
    · have hnot := h2 hlt
      go_wp2
      go_end0
      refine ⟨rfl, n, ?_⟩
      rw [reverseLoop, if_neg hnot] at heq
      rw [← Lib.reverseLoop_reverse, ← heq]
theorem reverse_own (base g cap n : Nat) (xs : List Int) (w : World) (h : w.ownsRow base 5 1 (.slice (some ⟨g, 0, none⟩) n cap) n (xs.map enc8)) (hn : n ≤ maxLen) :
    Calls Tryd.prog 116 #[.slice (some ⟨g, 0, none⟩) n cap] w fun e w' => e = .returned (.tuple #[]) ∧ w'.ownsRow base 5 1 (.slice (some ⟨g, 0, none⟩) n cap) n (xs.reverse.map enc8) ∧ Below base w w' := by
  have hl : xs.length = n := by have := h.1; simpa using this
  have hH : Holds enc8 w g 0 xs.toArray := fun j hj => by
    have hj' : j < n := by simpa [hl] using hj
    rw [Nat.zero_add]
    refine ⟨?_, h.frozenAt j⟩
    rw [h.cellAt j (by omega), List.getElem?_map, List.getElem?_eq_getElem (by omega)]
    simp [getElem!_pos, show j < xs.length by omega]
  have hr := reverse_arr g 0 cap xs.toArray w hH (by unfold maxLen at hn; simp; omega)
  have e : xs.toArray.size = n := by simpa using hl
  rw [e] at hr
  refine hr.mono ?_
  rintro e w' ⟨rfl, q, rfl⟩
  have h2 := Lib.ownsRow_putRow (enc := enc8) (q := q) (k := n) (ys := xs.reverse) h (by simpa using hl) (Nat.le_refl _)
  rw [List.take_of_length_le (by simp; omega)] at h2
  refine ⟨rfl, by simpa using h2, Lib.below_putRow (Below.refl _ _) (h.lt g rfl).1⟩

/-- The groups of seven bits, the low ones first, each marked. -/
def grps : Nat → Nat → List Int
  | 0, _ => []
  | f + 1, r => if r = 0 then [] else ((r % 128 + 128 : Nat) : Int) :: grps f (r / 128)
theorem grps_zero (f : Nat) : grps f 0 = [] := by cases f <;> simp [grps]
/-- A number's bytes. -/
def encN (v : Nat) : List Int := (((v % 128 : Nat) : Int) :: grps 10 (v / 128)).reverse
theorem and127 (r : Nat) : r &&& 127 = r % 128 := Nat.and_two_pow_sub_one_eq_mod r 7
theorem or128 (r : Nat) (h : r < 128) : r ||| 128 = r + 128 := by
  have this : 128 + r = 128 ||| r := Nat.two_pow_add_eq_or_of_lt (i := 7) (b := r) h 1
  rw [Nat.or_comm, ← this]
  omega
set_option maxHeartbeats 2000000 in
set_option maxRecDepth 100000 in
theorem groups_any (v : Nat) (w : World) (hv : v < 2 ^ 64) :
    Calls Tryd.prog 97 #[u64 v] w fun e w' => ∃ g cap, e = .returned (.slice (some ⟨g, 0, none⟩) (encN v).length cap) ∧ w'.ownsRow w.heap.size 5 1 (.slice (some ⟨g, 0, none⟩) (encN v).length cap) (encN v).length ((encN v).map enc8) ∧ (encN v).length ≤ 11 ∧ Below w.heap.size w w' := by
  obtain ⟨i0, hi0, hz0, hz1, hz2⟩ := info_parts info_byte
  have e1 : bits .and .u64 (v : Int) 127 = ((v % 128 : Nat) : Int) := by
    rw [show (127 : Int) = ((127 : Nat) : Int) from rfl, u64_and_nat v 127 hv (by decide), and127]
  have e2 : IntKind.u8.wrap ((v % 128 : Nat) : Int) = ((v % 128 : Nat) : Int) := IntWalk.u8_in _ (by omega)
  obtain ⟨T, hT⟩ : ∃ T, T = ((v % 128 : Nat) : Int) :: grps 10 (v / 128) := ⟨_, rfl⟩
  have hTe : encN v = T.reverse := by rw [hT]; rfl
  rw [hTe]
  have HT := Lib.hid hT; clear hT hTe
  go_enter Tryd.func97, Tryd.ntmps97
  go_wp2_with fail
  have own0 := World.ownsRow_lit (base := w.heap.size) (e := 5) (size := 1) w #[.int .u8 ((v : Int) % 128)] 1 (Nat.le_refl _) (by decide) rfl
  have hb0 := (Below.refl w.heap.size w).alloc (Nat.le_refl _) (.cells #[.int .u8 ((v : Int) % 128)] 5)
  go_loopw [0, 3] (fun t l wr => ∃ (f r : Nat) (ys : List Int), f ≤ 10 ∧ r < 2 ^ 64 ∧ r < 128 ^ f ∧ t = .int .u64 r ∧ ys ++ grps f r = T ∧ ys.length + f = 11 ∧ wr.ownsRow w.heap.size 5 1 l ys.length (ys.map enc8) ∧ Below w.heap.size w wr) (fun t _ _ => (intOf t).toNat)
  case atStart => exact ⟨10, v / 128, [((v % 128 : Nat) : Int)], Nat.le_refl _, by omega, by omega, by simp, by rw [HT.out]; rfl, rfl, by simpa using own0, hb0⟩
  case round =>
    obtain ⟨f, r, ys, hf, hr64, hrf, rfl, hys, hyl, hown, hbel⟩ := hrel
    have HYS := Lib.hid hys; clear hys
    obtain ⟨g, cap, hl⟩ : ∃ g cap, u3 = .slice (some ⟨g, 0, none⟩) ys.length cap := by
      obtain ⟨m, hm⟩ : ∃ m, ys.length = m + 1 := ⟨ys.length - 1, by omega⟩
      rw [hm] at hown ⊢
      exact ownsRow_succ hown
    subst hl
    by_cases h0 : r = 0
    · subst h0
      have e3 : ys = T := by rw [← HYS.out, grps_zero, List.append_nil]
      subst e3
      have hrev := reverse_own w.heap.size g cap ys.length ys wr hown (by unfold maxLen; omega)
      have HR := hideC hrev; clear hrev
      go_wp2_with fail
      refine HR.out.mono ?_
      rintro e w2 ⟨rfl, hown2, hb2⟩
      go_wp2_with fail
      go_ret
      exact ⟨g, cap, by simp, by simpa using hown2, by simp; omega, hbel.trans hb2⟩
    · have e3 : (0 : Int) < (r : Int) := by omega
      obtain ⟨f', rfl⟩ : ∃ f', f = f' + 1 := ⟨f - 1, by
        cases f with
        | zero => simp at hrf; omega
        | succ f => rfl⟩
      have e4 : bits .and .u64 (r : Int) 127 = (r : Int) % 128 := by
        rw [show (127 : Int) = ((127 : Nat) : Int) from rfl, u64_and_nat r 127 hr64 (by decide), and127]; rfl
      have e5 : bits .or .u8 ((r : Int) % 128) 128 = (r : Int) % 128 + 128 := u8_or128_right _ (by omega) (by omega)
      have hstep : grps (f' + 1) r = ((r % 128 + 128 : Nat) : Int) :: grps f' (r / 128) := by rw [grps, if_neg h0]
      have HSTEP := Lib.hid hstep; clear hstep
      have hsz := hbel.size
      have hown4 := hown.alloc (.cells #[.int .u8 ((r : Int) % 128 + 128)] 5)
      clear h0
      go_wp2_with (at_builtin; refine wpList_append_own _ rfl _ _ 22 rfl (w.heap.size) 5 i0 (.int .u8 0) 1 1 Tryd.underlying22 hi0 hz0 hz1 hz2 rfl (by decide) _ _ _ rfl (hown4) ⟨wr.heap.size, 0, none⟩ 1 1 [.int .u8 ((r : Int) % 128 + 128)] rfl rfl (cell_one_new _ _ _) (by simp [Value.oneCell']) (by unfold maxLen; omega) (by omega) (by simp; omega) ?_; intro v' w3 hown' hgrow _)
      have hrf' : r / 128 < 128 ^ f' := by rw [Nat.pow_succ] at hrf; omega
      exact ⟨⟨f', r / 128, ys ++ [(r : Int) % 128 + 128], by omega, by omega, hrf', by go_num, by rw [← HYS.out, HSTEP.out, List.append_assoc]; rfl, by simp; omega, by simpa using hown', (hbel.alloc hbel.size _).grown hgrow (by simp; omega) (fun q hq => (hown4.lt q hq).1)⟩, by simp [intOf]; omega⟩
end Go.Proofs.YtjlcnbfkblmoeaaDoor
