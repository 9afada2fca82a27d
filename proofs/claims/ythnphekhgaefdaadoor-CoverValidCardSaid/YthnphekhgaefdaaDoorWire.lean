import Derived.Test.YthnphekhgaefdaaDoorText
import Derived.Shelf.RegionOpenPlain
import Derived.Deep.LoopGhost
import Derived.Sort.WalkB12
import Derived.Lib.SlicesMore
import Derived.Lib.OwnBridge
import Derived.Laws.Bits128
import Derived.Laws.AppendOwnNone
import Derived.Deep.AppendLies
import Derived.Deep.Onto
import Derived.Laws.IdiomStrings
import Derived.Lib.BitFns
namespace Go.Proofs.YthnphekhgaefdaaDoor
open Go.RowKit Go.Sort
/-- A byte as a value. -/
abbrev enc8 (x : Int) : Value := .int .u8 x

/-- The groups of seven bits, the low ones first, each marked. -/
def grps : Nat → Nat → List Int
  | 0, _ => []
  | f + 1, r => if r = 0 then [] else ((r % 128 + 128 : Nat) : Int) :: grps f (r / 128)
theorem grps_zero (f : Nat) : grps f 0 = [] := by cases f <;> simp [grps]
/-- A number's bytes. -/
def encN (v : Nat) : List Int := (((v % 128 : Nat) : Int) :: grps 10 (v / 128)).reverse
theorem and127 (r : Nat) : r &&& 127 = r % 128 := Nat.and_two_pow_sub_one_eq_mod r 7
theorem or128 (r : Nat) (h : r < 128) : r ||| 128 = r + 128 := by
  have this : 128 + r = 128 ||| r := Nat.two_pow_add_eq_or_of_lt (i := 7) (b := r) h 1
  rw [Nat.or_comm, ← this]
  omega
end Go.Proofs.YthnphekhgaefdaaDoor

namespace Go.Proofs.YthnphekhgaefdaaDoor
open Go.RowKit

theorem bitLenAux_eq : ∀ (f x : Nat), x < 2 ^ f → Lib.bitLenAux f x = if x = 0 then 0 else x.log2 + 1
  | 0, x, h => by
    have : x = 0 := by simpa using h
    subst this; rfl
  | f + 1, x, h => by
    unfold Lib.bitLenAux
    by_cases h0 : x = 0
    · rw [if_pos h0, if_pos h0]
    · rw [if_neg h0, if_neg h0, bitLenAux_eq f (x / 2) (by rw [Nat.pow_succ] at h; omega), Nat.log2_def x]
      by_cases h2 : 2 ≤ x
      · rw [if_pos h2, if_neg (by omega)]; omega
      · rw [if_neg h2, if_pos (by omega)]
theorem top_log (N : Nat) (h : N ≠ 0) : 64 * (nw N - 1) + Lib.bitLen (wd N (nw N - 1)) - 1 = N.log2 := by
  have hq : nw N - 1 = N.log2 / 64 := by rw [nw, if_neg h]; rfl
  have hlt : N < 2 ^ (N.log2 + 1) := Nat.lt_log2_self
  have hle : 2 ^ N.log2 ≤ N := Nat.log2_self_le h
  rw [hq]
  generalize hL : N.log2 = L at *
  have hd : 64 * (L / 64) ≤ L := by omega
  have hw : wd N (L / 64) = N / 2 ^ (64 * (L / 64)) := by
    rw [wd, Nat.shiftRight_eq_div_pow, Nat.mod_eq_of_lt]
    rw [Nat.div_lt_iff_lt_mul (Nat.two_pow_pos _), ← Nat.pow_add]
    exact Nat.lt_of_lt_of_le hlt (Nat.pow_le_pow_right (by omega) (by omega))
  have h1 : 2 ^ (L - 64 * (L / 64)) ≤ N / 2 ^ (64 * (L / 64)) := by
    rw [Nat.le_div_iff_mul_le (Nat.two_pow_pos _), ← Nat.pow_add, show L - 64 * (L / 64) + 64 * (L / 64) = L by omega]; exact hle
  have h2 : N / 2 ^ (64 * (L / 64)) < 2 ^ (L - 64 * (L / 64) + 1) := by
    rw [Nat.div_lt_iff_lt_mul (Nat.two_pow_pos _), ← Nat.pow_add, show L - 64 * (L / 64) + 1 + 64 * (L / 64) = L + 1 by omega]; exact hlt
  have h3 : N / 2 ^ (64 * (L / 64)) ≠ 0 := Nat.ne_of_gt (Nat.lt_of_lt_of_le (Nat.two_pow_pos _) h1)
  have hl : (N / 2 ^ (64 * (L / 64))).log2 = L - 64 * (L / 64) := (Nat.log2_eq_iff h3).2 ⟨h1, h2⟩
  have hb : Lib.bitLen (wd N (L / 64)) = L - 64 * (L / 64) + 1 := by
    show Lib.bitLenAux 64 _ = _
    rw [bitLenAux_eq 64 _ (wd_lt _ _), hw, if_neg h3, hl]
  rw [hb]; omega


theorem filled_full (z : Value) (f : Nat → Int) (L : Nat) : filled z (fun j => enc8 (f j)) L L = (((List.range L).map f).map enc8).toArray := by
  apply Array.ext
  · simp [filled]
  · intro i h1 h2
    have hi : i < L := by simpa [filled] using h1
    simp [filled, hi]
/-- Byte k of N. -/
def byteN (N k : Nat) : Nat := (N >>> (8 * k)) % 256
/-- A set's bytes. -/
def setBytes (N : Nat) : List Int := if N = 0 then [] else (List.range (N.log2 / 8 + 1)).map fun k => (byteN N k : Int)
theorem byteN_wd (N k : Nat) : wd N (k / 8) / 2 ^ (8 * (k % 8)) % 256 = byteN N k := by
  apply Nat.eq_of_testBit_eq
  intro i
  have h256 : (256 : Nat) = 2 ^ 8 := rfl
  rw [byteN, h256, Nat.testBit_mod_two_pow, Nat.testBit_mod_two_pow, Nat.testBit_shiftRight, Nat.testBit_div_two_pow, testBit_wd]
  by_cases hi : i < 8
  · simp only [hi, decide_true, Bool.true_and, show i + 8 * (k % 8) < 64 by omega]
    congr 1; omega
  · simp [hi]
end Go.Proofs.YthnphekhgaefdaaDoor

namespace Go.Proofs.YthnphekhgaefdaaDoor
open Go.RowKit

/-- A slice of the bytes ys. -/
def IsBytes (W : World) (p : Value) (ys : List Int) : Prop := (p = .slice none 0 0 ∧ ys = []) ∨ ∃ g c, 0 < ys.length ∧ p = .slice (some ⟨g, 0, none⟩) ys.length c ∧ g < W.heap.size ∧ ∀ (j : Nat) u, (ys.map enc8)[j]? = some u → W.cell? ⟨g, j, none⟩ = some u
theorem IsBytes.below {W W' : World} {p : Value} {ys : List Int} (h : IsBytes W p ys) (hb : Below W.heap.size W W') : IsBytes W' p ys := by
  rcases h with h | ⟨g, c, h0, h1, h2, h3⟩
  · exact .inl h
  · exact .inr ⟨g, c, h0, h1, Nat.lt_of_lt_of_le h2 hb.size, fun j u hu => onB hb (h3 j u hu)⟩

/-- Block g is none of the writer's own. -/
def Apart (W : World) (b g : Nat) : Prop := g < W.heap.size ∧ g ≠ b ∧ ∀ v, W.cell? ⟨b, 0, none⟩ = some v → some g ≠ v.ownBlock
/-- What is not the writer's stays, and stays apart. -/
def Frame (b : Nat) (W W' : World) : Prop := ∀ g, Apart W b g → Apart W' b g ∧ W'.heap[g]? = W.heap[g]?
theorem Frame.refl (b : Nat) (W : World) : Frame b W W := fun _ h => ⟨h, rfl⟩
theorem Frame.trans {b : Nat} {A B C : World} (h : Frame b A B) (k : Frame b B C) : Frame b A C := fun g hg => ⟨(k g (h g hg).1).1, (k g (h g hg).1).2.trans (h g hg).2⟩
theorem Frame.of_below {b : Nat} {W W' : World} (h : Below W.heap.size W W') (hb : b < W.heap.size) : Frame b W W' := fun g hg =>
  ⟨⟨Nat.lt_of_lt_of_le hg.1 h.size, hg.2.1, fun v hv => hg.2.2 v (by rwa [h.cell (p := ⟨b, 0, none⟩) hb] at hv)⟩, h.block g hg.1⟩
theorem IsBytes.frame {b : Nat} {W W' : World} {p : Value} {ys : List Int} (h : IsBytes W p ys) (hf : Frame b W W') (ha : ∀ g o c n, p = .slice (some ⟨g, o, none⟩) n c → Apart W b g) : IsBytes W' p ys := by
  rcases h with h | ⟨g, c, h0, h1, h2, h3⟩
  · exact .inl h
  · have hg := hf g (ha g 0 c _ h1)
    exact .inr ⟨g, c, h0, h1, hg.1.1, fun j u hu => (World.cell?_of_block (a := ⟨g, j, none⟩) hg.2).trans (h3 j u hu)⟩
end Go.Proofs.YthnphekhgaefdaaDoor

namespace Go.Proofs.YthnphekhgaefdaaDoor
open Go.RowKit

theorem IsBytes.of_own {W : World} {base g cap : Nat} {xs : List Int} (h : W.ownsRow base 5 1 (.slice (some ⟨g, 0, none⟩) xs.length cap) xs.length (xs.map enc8)) (h0 : 0 < xs.length) : IsBytes W (.slice (some ⟨g, 0, none⟩) xs.length cap) xs :=
  .inr ⟨g, cap, h0, rfl, (h.lt g rfl).2, fun j u hu => by
    have hj : j < xs.length := by have := (List.getElem?_eq_some_iff.1 hu).1; simpa using this
    rw [h.cellAt j (by omega)]; exact hu⟩
theorem IsBytes.of_blk {W : World} {g c : Nat} {xs : List Int} (h : Blk W g 5 (xs.map enc8).toArray) (h0 : 0 < xs.length) : IsBytes W (.slice (some ⟨g, 0, none⟩) xs.length c) xs :=
  .inr ⟨g, c, h0, rfl, h.lt, fun j u hu => by rw [h.cell j, List.getElem?_toArray]; exact hu⟩
theorem encN_len (v : Nat) : 0 < (encN v).length ∧ (encN v).length ≤ 11 := by
  have : ∀ f r, (grps f r).length ≤ f := by
    intro f
    induction f with
    | zero => intro r; simp [grps]
    | succ f ih => intro r; rw [grps]; split <;> simp; exact ih _
  have := this 10 (v / 128)
  unfold encN
  simp; omega
/-- A byte string's bytes. -/
def encB (ys : List Int) : List Int := encN ys.length ++ ys
theorem encB_len (ys : List Int) : (encB ys).length ≤ ys.length + 11 := by have := (encN_len ys.length).2; unfold encB; simp; omega
theorem setBytes_len (N : Nat) (h : nw N ≤ 64) : (setBytes N).length ≤ 512 := by
  unfold setBytes
  by_cases h0 : N = 0
  · simp [h0]
  · have : nw N = N.log2 / 64 + 1 := by rw [nw, if_neg h0]
    rw [if_neg h0]; simp; omega
end Go.Proofs.YthnphekhgaefdaaDoor

namespace Go.Proofs.YthnphekhgaefdaaDoor
open Go.RowKit

theorem run_eql_some_nil {P : Program} {t e : TypeId} (h : P.underlying t = some (.slice e)) (a : Addr) (l c : Nat) (w : World) : (binOp .eql t (.slice (some a) l c) (.slice none 0 0)).run P w = .ok (.bool false) w := by
  simp only [binOp]
  simp [run_equal_slice_nil w t e (some a) l c h]

/-- A matrix's bytes, the first k rows. -/
def mbytes (C : Nat) (Ns : List Nat) (k : Nat) : List Int := encN Ns.length ++ encN C ++ ((Ns.take k).map fun N => encB (setBytes N)).flatten
theorem mbytes_succ {C : Nat} {Ns : List Nat} {k : Nat} (h : k < Ns.length) : mbytes C Ns (k + 1) = mbytes C Ns k ++ encB (setBytes Ns[k]) := by
  unfold mbytes
  rw [List.take_add_one, List.getElem?_eq_getElem h, List.map_append, List.flatten_append, ← List.append_assoc]
  congr 1
  exact List.append_nil _
end Go.Proofs.YthnphekhgaefdaaDoor

namespace Go.Proofs.YthnphekhgaefdaaDoor
open Go.RowKit

theorem conv_own {W : World} {base g c : Nat} (l : List UInt8) (h : W.ownsRow base 5 1 (.slice (some ⟨g, 0, none⟩) l.length c) l.length ((l.map fun b => (b.toNat : Int)).map enc8)) :
    (convert 22 9 (.slice (some ⟨g, 0, none⟩) l.length c)).run Tryd.prog W = .ok (.string ⟨l.toArray⟩) W :=
  run_convert_bytes_back W _ _ 5 ⟨g, 0, none⟩ c l Tryd.underlying22 Tryd.underlying5 Tryd.underlying9 fun j hj => by
    have e : (⟨g, 0, none⟩ : Addr).add j = ⟨g, j, none⟩ := by unfold Addr.add; split <;> simp_all
    rw [e, h.cellAt j (by omega), List.getElem?_map, List.getElem?_map, List.getElem?_eq_getElem hj]; rfl

theorem parse_at (s : ByteArray) (C : Nat) (Ns : List Nat) (hC : pC s.data.toList = C) (hN : pNs s.data.toList = Ns) (hok : pOK s.data.toList) (hs : s.size ≤ 4096) (w : World) :
    Calls Tryd.prog 35 #[.string s] w fun e w' => ∃ q, e = pair (ptr q) 0 ∧ IsMat w' q C Ns ∧ Below w.heap.size w w' := by
  refine (parse_any s w hs).mono ?_
  rintro e w' ⟨hb, ⟨_, h⟩ | ⟨q, rfl, _, hm⟩⟩
  · exact absurd hok h
  · subst hC; subst hN
    exact ⟨q, rfl, hm, hb⟩
theorem aw1 : pC [49, 48, 10, 48, 49, 10, 49, 49, 10] = 2 ∧ pNs [49, 48, 10, 48, 49, 10, 49, 49, 10] = [1, 2, 3] ∧ pOK [49, 48, 10, 48, 49, 10, 49, 49, 10] := by decide +kernel
theorem aw2 : pC [48, 49, 49, 10, 49, 48, 48, 10] = 3 ∧ pNs [48, 49, 49, 10, 49, 48, 48, 10] = [6, 1] ∧ pOK [48, 49, 49, 10, 49, 48, 48, 10] := by decide +kernel
theorem aw3 : pC [49, 48, 10, 48, 49, 10, 49, 48, 10] = 2 ∧ pNs [49, 48, 10, 48, 49, 10, 49, 48, 10] = [1, 2, 1] ∧ pOK [49, 48, 10, 48, 49, 10, 49, 48, 10] := by decide +kernel
theorem aw4 : mprod [1, 2, 3] [6, 1] 3 = [6, 1, 7] := by decide +kernel
theorem aw5 : mdist [1, 2, 1] 3 = ([1, 2], [0, 1, 0]) := by decide +kernel
theorem aw6 : mtext 3 [6, 1, 7] 3 = [48, 49, 49, 10, 49, 48, 48, 10, 49, 49, 49, 10] := by decide +kernel
theorem aw7 : mtext 2 [1, 2] 2 = [49, 48, 10, 48, 49, 10] := by decide +kernel
theorem aw8 : mbytes 2 [1, 2, 3] 3 = [3, 2, 1, 1, 1, 2, 1, 3] := by decide +kernel
theorem aw9 : rowsIn 2 [1, 2, 3] := by unfold rowsIn; decide +kernel

theorem below_drewN_ (W : World) (q : Nat) : Below W.heap.size W (W.drewN q) := ⟨rfl, rfl, rfl, Nat.le_refl _, fun _ _ => rfl⟩
theorem cell_new_l' (W : World) (cs : Array Value) (t : TypeId) (j : Nat) : (W.alloc (.cells cs t)).cell? ⟨W.heap.size, j, none⟩ = cs[j]? := (Blk.new W t cs).cell j
end Go.Proofs.YthnphekhgaefdaaDoor
