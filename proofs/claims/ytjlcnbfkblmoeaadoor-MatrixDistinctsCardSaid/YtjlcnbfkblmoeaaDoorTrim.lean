import Derived.Test.YtjlcnbfkblmoeaaDoorSet
import Derived.Test.YtjlcnbfkblmoeaaDoorRegion
namespace Go.Proofs.YtjlcnbfkblmoeaaDoor
open Go.RowKit

/-- n words, of a slice with room c, that make up N. -/
def Words (w : World) (A : Option Addr) (n : Nat) (N : Nat) : Prop :=
  (0 < n → ∃ g cs, A = some ⟨g, 0, none⟩ ∧ Blk w g 105 cs ∧ ∀ k, k < n → cs[k]? = some (u64 (wd N k))) ∧ ∀ k, n ≤ k → wd N k = 0
theorem Words.below {w w' : World} {A : Option Addr} {n N : Nat} (h : Words w A n N) (hb : Below w.heap.size w w') : Words w' A n N :=
  ⟨fun hn => by
    obtain ⟨g, cs, hA, hB, hc⟩ := h.1 hn
    exact ⟨g, cs, hA, hB.below hb hB.lt, hc⟩, h.2⟩

def slen : Value → Nat | .slice _ m _ => m | _ => 0

set_option maxRecDepth 100000 in
set_option maxHeartbeats 400000 in
theorem trim_any (A : Option Addr) (n c N : Nat) (w : World) (hw : Words w A n N) (hn : n ≤ 64) (hc : n ≤ c) (hc' : c ≤ 64) :
    Calls Tryd.prog 76 #[.slice A n c] w fun e w' => ∃ r, e = .returned (.agg #[r]) ∧ IsSet w' r N ∧ Below w.heap.size w w' := by
  go_enter Tryd.func76, Tryd.ntmps76
  go_wp2_with fail
  refine abs1 fun W0 hA0 hbel0 hz => ?_
  have hw0 := hw.below hbel0
  have cR := hA0.cell 0
  have fR := hA0.frozen 0
  go_loop [0] (fun s => ∃ m : Nat, m ≤ n ∧ s = .slice A m c ∧ Words W0 A m N) (fun s => slen s)
  case atStart => exact ⟨n, Nat.le_refl _, rfl, hw0⟩
  case round =>
    obtain ⟨m, hm, rfl, hwm⟩ := hrel
    by_cases h0 : 0 < m
    · obtain ⟨g, cs, rfl, hB, hcs⟩ := hwm.1 h0
      have cW := (hB.cell (m - 1)).trans (hcs (m - 1) (by omega))
      by_cases hzz : wd N (m - 1) = 0
      · have e0 : ((wd N (m - 1) : Int) == 0) = true := by simp [hzz]
        have hz2 : ∀ k, m - 1 ≤ k → wd N k = 0 := fun k hk => by
          by_cases hkm : k = m - 1
          · rw [hkm]; exact hzz
          · exact hwm.2 k (by omega)
        have HZ2 := Lib.hid hz2; clear hz2
        have HZZ := Lib.hid hzz; clear hzz
        clear hw
        have HCS := Lib.hid hcs; clear hcs
        go_wp2
        exact ⟨⟨m - 1, by omega, rfl, fun hm0 => ⟨g, cs, rfl, hB, fun k hk => HCS.out k (by omega)⟩, HZ2.out⟩, by simp [slen]; omega⟩
      · have e0 : ((wd N (m - 1) : Int) == 0) = false := by simp [hzz]
        have hm2 : m = nw N := (nw_of_top hwm.2 (.inr hzz)).symm
        have HZZ := Lib.hid hzz; clear hzz
        have HM := Lib.hid hm2; clear hm2
        clear hw
        have HCS := Lib.hid hcs; clear hcs
        go_wp2
        have cX := (hA0.set_ 0 (.slice (some ⟨g, 0, none⟩) m c)).cell 0
        refine bodyPost_ret (v := .agg #[.slice (some ⟨g, 0, none⟩) m c]) (by simp [results, Tryd.results76, go_sem, cX]) rfl ⟨_, rfl, ?_, hbel0.setCell (by simp) _⟩
        have e := HM.out; subst e
        exact IsSet.mk_ (hB.far (p := ⟨w.heap.size, 0, none⟩) (hB.ne_ hA0 (by decide)) _) (by omega) (by omega) hc' HCS.out
    · obtain rfl : m = 0 := by omega
      have hN : N = 0 := wd_ext fun k => by rw [hwm.2 k (by omega), wd_zero]
      subst hN
      clear hw
      go_wp2
      have cX := (hA0.set_ 0 (.slice A 0 c)).cell 0
      refine bodyPost_ret (v := .agg #[.slice A 0 c]) (by simp [results, Tryd.results76, go_sem, cX]) rfl ⟨_, rfl, ⟨A, c, rfl, by decide, by simp [nw_zero], hc', fun h => absurd h (by decide)⟩, hbel0.setCell (by simp) _⟩
end Go.Proofs.YtjlcnbfkblmoeaaDoor
