import Derived.Test.YtjlcnbfkblmoeaaDoorWire2
namespace Go.Proofs.YtjlcnbfkblmoeaaDoor
open Go.RowKit

theorem IsBytes.of_own {W : World} {base g cap : Nat} {xs : List Int} (h : W.ownsRow base 5 1 (.slice (some ⟨g, 0, none⟩) xs.length cap) xs.length (xs.map enc8)) (h0 : 0 < xs.length) : IsBytes W (.slice (some ⟨g, 0, none⟩) xs.length cap) xs :=
  .inr ⟨g, cap, h0, rfl, (h.lt g rfl).2, fun j u hu => by
    have hj : j < xs.length := by have := (List.getElem?_eq_some_iff.1 hu).1; simpa using this
    rw [h.cellAt j (by omega)]; exact hu⟩
theorem IsBytes.of_blk {W : World} {g c : Nat} {xs : List Int} (h : Blk W g 5 (xs.map enc8).toArray) (h0 : 0 < xs.length) : IsBytes W (.slice (some ⟨g, 0, none⟩) xs.length c) xs :=
  .inr ⟨g, c, h0, rfl, h.lt, fun j u hu => by rw [h.cell j, List.getElem?_toArray]; exact hu⟩
theorem encN_len (v : Nat) : 0 < (encN v).length ∧ (encN v).length ≤ 11 := by
  have : ∀ f r, (grps f r).length ≤ f := by
    intro f
    induction f with
    | zero => intro r; simp [grps]
    | succ f ih => intro r; rw [grps]; split <;> simp; exact ih _
  have := this 10 (v / 128)
  unfold encN
  simp; omega
set_option maxRecDepth 100000 in
set_option maxHeartbeats 1000000 in
theorem uint_any (base b v : Nat) (xs : List Int) (w : World) (h : IsWr base b xs w) (hv : v < 2 ^ 64) (hl : xs.length ≤ 900000000) (hbase : base ≤ w.heap.size) :
    Calls Tryd.prog 80 #[ptr b, u64 v] w fun e w' => e = .returned (.tuple #[]) ∧ IsWr base b (xs ++ encN v) w' ∧ Below base w w' ∧ Frame b w w' := by
  have HG := hideC (groups_any v w hv)
  have hlb : b < w.heap.size := by obtain ⟨_, v, h2, _⟩ := h; exact h2.lt
  go_enter Tryd.func80, Tryd.ntmps80
  go_wp2_with fail
  refine HG.out.mono ?_
  rintro e w1 ⟨g, cap, rfl, hown, hle, hb1⟩
  have HR := hideC (raw_any base b xs (encN v) _ w1 (h.below hb1) (IsBytes.of_own hown (encN_len v).1) (by omega) (Nat.le_trans hbase hb1.size))
  go_wp2_with fail
  refine HR.out.mono ?_
  rintro e w2 ⟨rfl, hw2, hb2, hf2⟩
  go_wp2_with fail
  go_end0
  exact ⟨rfl, hw2, (hb1.mono hbase).trans hb2, (Frame.of_below hb1 hlb).trans hf2⟩
/-- A byte string's bytes. -/
def encB (ys : List Int) : List Int := encN ys.length ++ ys
theorem encB_len (ys : List Int) : (encB ys).length ≤ ys.length + 11 := by have := (encN_len ys.length).2; unfold encB; simp; omega
set_option maxRecDepth 100000 in
set_option maxHeartbeats 1000000 in
theorem wbytes_any (base b : Nat) (xs ys : List Int) (A : Option Addr) (c : Nat) (w : World) (h : IsWr base b xs w) (hp : IsBytes w (.slice A ys.length c) ys) (ha : ∀ g o, A = some ⟨g, o, none⟩ → Apart w b g) (hl : xs.length ≤ 100000000) (hy : ys.length ≤ 100000000) (hbase : base ≤ w.heap.size) :
    Calls Tryd.prog 98 #[ptr b, .slice A ys.length c] w fun e w' => e = .returned (.tuple #[]) ∧ IsWr base b (xs ++ encB ys) w' ∧ Below base w w' ∧ Frame b w w' := by
  have HU := hideC (uint_any base b ys.length xs w h (by omega) (by omega) hbase)
  have hen := encN_len ys.length
  go_enter Tryd.func98, Tryd.ntmps98
  go_wp2_with fail
  refine HU.out.mono ?_
  rintro e w1 ⟨rfl, hw1, hb1, hf1⟩
  have hp1 := hp.frame hf1 (fun g o c n e => ha g o (by cases e; rfl))
  have HR := hideC (raw_any base b (xs ++ encN ys.length) ys _ w1 hw1 hp1 (by simp; omega) (Nat.le_trans hbase hb1.size))
  go_wp2_with fail
  refine HR.out.mono ?_
  rintro e w2 ⟨rfl, hw2, hb2, hf2⟩
  go_wp2_with fail
  go_end0
  exact ⟨rfl, by rw [encB, ← List.append_assoc]; exact hw2, hb1.trans hb2, hf1.trans hf2⟩
theorem setBytes_len (N : Nat) (h : nw N ≤ 64) : (setBytes N).length ≤ 512 := by
  unfold setBytes
  by_cases h0 : N = 0
  · simp [h0]
  · have : nw N = N.log2 / 64 + 1 := by rw [nw, if_neg h0]
    rw [if_neg h0]; simp; omega
set_option maxRecDepth 100000 in
set_option maxHeartbeats 1000000 in
theorem wset_any (base b N : Nat) (xs : List Int) (v : Value) (w : World) (h : IsWr base b xs w) (hs : IsSet w v N) (hl : xs.length ≤ 100000000) (hbase : base ≤ w.heap.size) :
    Calls Tryd.prog 81 #[ptr b, .agg #[v]] w fun e w' => e = .returned (.tuple #[]) ∧ IsWr base b (xs ++ encB (setBytes N)) w' ∧ Below base w w' ∧ Frame b w w' := by
  obtain ⟨A, c, rfl, hN, _⟩ := id hs
  have hlb : b < w.heap.size := by obtain ⟨_, v, h2, _⟩ := h; exact h2.lt
  have hsl := setBytes_len N hN
  go_enter Tryd.func81, Tryd.ntmps81
  go_wp2_with fail
  refine absC1 fun W0 hA0 hbel0 hz => ?_
  refine (setBytes_any _ N _ (hs.below hbel0)).mono ?_
  rintro e w1 ⟨hb1, hcase⟩
  have hbw := hbel0.trans (hb1.mono hbel0.size)
  have key : ∃ A1 c1, e = .returned (.slice A1 (setBytes N).length c1) ∧ IsBytes w1 (.slice A1 (setBytes N).length c1) (setBytes N) ∧ ∀ g o, A1 = some ⟨g, o, none⟩ → Apart w1 b g := by
    rcases hcase with ⟨rfl, rfl⟩ | ⟨g, hne, rfl, hge, hblk⟩
    · exact ⟨none, 0, rfl, .inl ⟨rfl, rfl⟩, fun g o e => by cases e⟩
    · refine ⟨_, _, rfl, IsBytes.of_blk hblk ?_, fun g' o e => ?_⟩
      · unfold setBytes; rw [if_neg hne]; simp
      · cases e; exact Apart.new h hbw (by have := hbel0.size; omega) hblk.lt
  obtain ⟨A1, c1, rfl, hby, hap⟩ := key
  have HB := hideC (wbytes_any base b xs (setBytes N) A1 c1 w1 (h.below hbw) hby hap hl (by omega) (Nat.le_trans hbase hbw.size))
  go_wp2_with fail
  refine HB.out.mono ?_
  rintro e w2 ⟨rfl, hw2, hb2, hf2⟩
  go_wp2_with fail
  go_end0
  exact ⟨rfl, hw2, (hbw.mono hbase).trans hb2, (Frame.of_below hbw hlb).trans hf2⟩
end Go.Proofs.YtjlcnbfkblmoeaaDoor
