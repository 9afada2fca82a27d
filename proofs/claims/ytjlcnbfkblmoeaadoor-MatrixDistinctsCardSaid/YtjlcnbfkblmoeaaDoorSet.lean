/-
  How a set of package bits lies in memory, and that it lies on.
-/
import Derived.Test.YtjlcnbfkblmoeaaDoorRows
import Derived.Test.YtjlcnbfkblmoeaaDoorBase
import Derived.Test.YtjlcnbfkblmoeaaDoorBit
namespace Go.Proofs.YtjlcnbfkblmoeaaDoor
open Go.RowKit

/-- A word as a value. -/
abbrev u64 (x : Nat) : Value := .int .u64 (x : Int)

/-- The slice value v holds the words of N: no words, or they begin a block of words. -/
def IsSet (w : World) (v : Value) (N : Nat) : Prop :=
  ∃ (A : Option Addr) (c : Nat), v = .slice A (nw N) c ∧ nw N ≤ 64 ∧ nw N ≤ c ∧ c ≤ 64 ∧
    (0 < nw N → ∃ g cs, A = some ⟨g, 0, none⟩ ∧ Blk w g 105 cs ∧ ∀ k, k < nw N → cs[k]? = some (u64 (wd N k)))

section
variable {w w' : World} {v : Value} {N : Nat}
/-- Blocks of words that lie keep lying. -/
def KeepW (w w' : World) : Prop := w.heap.size ≤ w'.heap.size ∧ ∀ g cs, Blk w g 105 cs → Blk w' g 105 cs
theorem KeepW.refl (w : World) : KeepW w w := ⟨Nat.le_refl _, fun _ _ h => h⟩
theorem KeepW.trans {a b c : World} (h : KeepW a b) (k : KeepW b c) : KeepW a c := ⟨Nat.le_trans h.1 k.1, fun g cs hg => k.2 g cs (h.2 g cs hg)⟩
theorem KeepW.of_below (hb : Below w.heap.size w w') : KeepW w w' := ⟨hb.size, fun _ _ h => h.below hb h.lt⟩
theorem KeepW.alloc (w : World) (o : Obj) : KeepW w (w.alloc o) := ⟨by simp, fun _ _ h => h.alloc o⟩
theorem KeepW.drew (w : World) : KeepW w w.drew := ⟨Nat.le_refl _, fun _ _ h => h⟩
theorem KeepW.setCell {p : Addr} {t : TypeId} {cs : Array Value} (h : Blk w p.block t cs) (ht : 105 ≠ t) (u : Value) : KeepW w (w.setCell p u) :=
  ⟨by simp [World.setCell], fun _ _ hg => hg.far (hg.ne_ h ht) u⟩
theorem IsSet.keep (h : IsSet w v N) (hk : KeepW w w') : IsSet w' v N := by
  obtain ⟨A, c, hv, h1, h2, h3, h4⟩ := h
  refine ⟨A, c, hv, h1, h2, h3, fun hn => ?_⟩
  obtain ⟨g, cs, hA, hb, hc⟩ := h4 hn
  exact ⟨g, cs, hA, hk.2 _ _ hb, hc⟩
theorem IsSet.below (h : IsSet w v N) (hb : Below w.heap.size w w') : IsSet w' v N := h.keep (.of_below hb)
theorem IsSet.empty (w : World) : IsSet w (.slice none 0 0) 0 := ⟨none, 0, rfl, by decide, by decide, by decide, fun h => absurd h (by decide)⟩
/-- An array of words, all of which are the words of N. -/
theorem IsSet.mk_ {g c : Nat} {cs : Array Value} (hb : Blk w g 105 cs) (hn : nw N ≤ 64) (hc : nw N ≤ c) (hc' : c ≤ 64) (h : ∀ k, k < nw N → cs[k]? = some (u64 (wd N k))) :
    IsSet w (.slice (some ⟨g, 0, none⟩) (nw N) c) N := ⟨_, c, rfl, hn, hc, hc', fun _ => ⟨g, cs, rfl, hb, h⟩⟩
end

theorem ret_bool {a b : Bool} (h : a = b) : Ending.returned (.bool a) = .returned (.bool b) := by rw [h]
theorem ret_int {k : IntKind} {a b : Int} (h : a = b) : Ending.returned (.int k a) = .returned (.int k b) := by rw [h]
theorem u64_one (x : Nat) (hx : x < 2 ^ 64) : bits .and .u64 (x : Int) 1 = ((x % 2 : Nat) : Int) := by
  rw [show (1 : Int) = ((1 : Nat) : Int) from rfl, u64_and_nat x 1 hx (by decide), Nat.and_one_is_mod]
/-- 's.word(i/64)>>(i%64)&1 == 1', as the walk writes it. -/
theorem has_form (N i : Nat) : (bits .and .u64 ((wd N (i / 64) : Int) / 2 ^ (i % 64)) 1 == 1) = N.testBit i := by
  have e : ((wd N (i / 64) : Int) / 2 ^ (i % 64)) = ((wd N (i / 64) / 2 ^ (i % 64) : Nat) : Int) := by simp
  rw [e, u64_one _ (Nat.lt_of_le_of_lt (Nat.div_le_self _ _) (wd_lt _ _)), testBit_div N i, Bool.eq_iff_iff, ← testBit_mod]
  simp only [beq_iff_eq]
  omega
set_option maxHeartbeats 400000 in
theorem word_any (v : Value) (N k : Nat) (w : World) (hs : IsSet w v N) :
    Calls Tryd.prog 92 #[.agg #[v], .int .i64 k] w fun e w' => e = .returned (u64 (wd N k)) ∧ Below w.heap.size w w' := by
  obtain ⟨A, c, rfl, h1, _, _, h4⟩ := hs
  by_cases hk : k < nw N
  · obtain ⟨g, cs, rfl, hb, hc⟩ := h4 (by omega)
    have hlt := hb.lt
    have hcell : w.cell? ⟨g, k, none⟩ = some (u64 (wd N k)) := (hb.cell k).trans (hc k hk)
    clear h4 hc hb
    go_enter Tryd.func92, Tryd.ntmps92
    go_wp2
    go_ret
    exact ⟨rfl, (Below.refl _ _).alloc (Nat.le_refl _) _⟩
  · rw [wd_ge (by omega)]
    clear h4
    go_enter Tryd.func92, Tryd.ntmps92
    go_wp2
    go_ret
    exact ⟨rfl, (Below.refl _ _).alloc (Nat.le_refl _) _⟩

/-- What bits.Set.Has answers: of whatever number. -/
def hasB (N : Nat) (i : Int) : Bool := decide (0 ≤ i) && N.testBit i.toNat
theorem hasB_nat (N i : Nat) : hasB N i = N.testBit i := by simp [hasB]
theorem hasB_neg (N : Nat) {i : Int} (h : i < 0) : hasB N i = false := by simp [hasB]; omega
theorem testBit_big {N i : Nat} (h : nw N ≤ 64) (hi : 4096 ≤ i) : N.testBit i = false := testBit_ge h (by omega)

set_option maxRecDepth 100000 in
set_option maxHeartbeats 400000 in
theorem has_in (v : Value) (N i : Nat) (w : World) (hs : IsSet w v N) (hi : i ≤ 4095) :
    Calls Tryd.prog 78 #[.agg #[v], .int .i64 i] w fun e w' => e = .returned (.bool (N.testBit i)) ∧ Below w.heap.size w w' := by
  obtain ⟨A, c, rfl, hN, _⟩ := id hs
  have h1 : (0 : Int) ≤ i := by omega
  go_enter Tryd.func78, Tryd.ntmps78
  have hs1 := hs.keep (KeepW.alloc w (.cells #[Value.slice A (nw N) c] 65))
  go_wp2_with (go_at_call 92; refine (word_any _ N (i / 64) _ hs1).mono ?_; rintro e w1 ⟨rfl, hb1⟩)
  go_ret
  exact ⟨ret_bool (has_form N i), ((Below.refl _ _).alloc (Nat.le_refl _) _).trans (hb1.mono (by simp))⟩
set_option maxRecDepth 100000 in
set_option maxHeartbeats 400000 in
theorem has_out (v : Value) (i : Int) (w : World) (hi : i < 0 ∨ 4095 < i) :
    Calls Tryd.prog 78 #[.agg #[v], .int .i64 i] w fun e w' => e = .returned (.bool false) ∧ Below w.heap.size w w' := by
  rcases hi with h | h
  · go_enter Tryd.func78, Tryd.ntmps78
    go_wp2
    go_ret
    exact ⟨rfl, (Below.refl _ _).alloc (Nat.le_refl _) _⟩
  · have h0 : 0 ≤ i := by omega
    have h2 : ¬ i ≤ 4095 := by omega
    go_enter Tryd.func78, Tryd.ntmps78
    go_wp2
    go_ret
    exact ⟨rfl, (Below.refl _ _).alloc (Nat.le_refl _) _⟩
theorem has_any (v : Value) (N : Nat) (i : Int) (w : World) (hs : IsSet w v N) :
    Calls Tryd.prog 78 #[.agg #[v], .int .i64 i] w fun e w' => e = .returned (.bool (hasB N i)) ∧ Below w.heap.size w w' := by
  by_cases h : 0 ≤ i
  · obtain ⟨n, rfl⟩ := Int.eq_ofNat_of_zero_le h
    rw [hasB_nat]
    by_cases h2 : n ≤ 4095
    · exact has_in v N n w hs h2
    · rw [testBit_big (by obtain ⟨_, _, _, h, _⟩ := hs; exact h) (by omega)]
      exact has_out v _ w (by omega)
  · rw [hasB_neg N (by omega)]
    exact has_out v _ w (by omega)
end Go.Proofs.YtjlcnbfkblmoeaaDoor
