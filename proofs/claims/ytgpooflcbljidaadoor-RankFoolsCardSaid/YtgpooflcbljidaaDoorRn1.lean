/-
  Lists of cells; rank.independent, rank.apart.
-/
import Derived.Test.YtgpooflcbljidaaDoorRg4
import Derived.Test.YtgpooflcbljidaaDoorRk3
import Derived.Test.YtgpooflcbljidaaDoorRn0
namespace Go.Proofs.YtgpooflcbljidaaDoor
open Go.RowKit

set_option maxRecDepth 100000 in
set_option maxHeartbeats 2000000 in
theorem independent_any (m : Option Addr) (C : Nat) (Ns : List Nat) (a b : Int × Int) (w : World) (h : IsMV w m C Ns) :
    Calls Tryd.prog 91 #[.pointer m, .agg #[.int .i64 a.1, .int .i64 a.2], .agg #[.int .i64 b.1, .int .i64 b.2]] w fun e w' => e = .returned (.bool (indep C Ns a b)) ∧ Below w.heap.size w w' := by
  obtain ⟨x, hx⟩ : ∃ x, x = mhas C Ns a.1 b.2 := ⟨_, rfl⟩
  obtain ⟨y, hy⟩ : ∃ y, y = mhas C Ns b.1 a.2 := ⟨_, rfl⟩
  have hI : indep C Ns a b = (!x || !y) := by rw [hx, hy]; rfl
  rw [hI]
  have h1 : ∀ W, Below w.heap.size w W → _ := fun W hb => has_v (h.below hb) a.1 b.2
  have h2 : ∀ W, Below w.heap.size w W → _ := fun W hb => has_v (h.below hb) b.1 a.2
  rw [← hx] at h1
  rw [← hy] at h2
  have HH := Lib.hid h1; have H2 := Lib.hid h2
  clear h1 h2 hx hy hI
  go_enter Tryd.func91, Tryd.ntmps91
  go_wp2_with fail
  refine absC2 fun W0 hA hB hb0 hz => ?_
  have a0 := hA.cell 0
  have a1 := hA.cell 1
  have b0 := hB.cell 0
  have b1 := hB.cell 1
  cases x with
  | false =>
    refine (HH.out _ hb0).mono ?_
    rintro e w1 ⟨rfl, hb⟩
    go_wp2_with fail
    go_ret
    exact ⟨rfl, hb0.trans (hb.mono hb0.size)⟩
  | true =>
    refine (HH.out _ hb0).mono ?_
    rintro e w1 ⟨rfl, hb⟩
    have k := hb0.trans (hb.mono hb0.size)
    have c0 := onB hb a0
    have c1 := onB hb a1
    have d0 := onB hb b0
    have d1 := onB hb b1
    clear a0 a1 b0 b1
    go_wp2_with fail
    refine (H2.out _ k).mono ?_
    rintro e w2 ⟨rfl, hb2⟩
    go_wp2_with fail
    go_ret
    exact ⟨rfl, k.trans (hb2.mono k.size)⟩
def goodP (C : Nat) (Ns : List Nat) (a b : Int × Int) : Bool := decide (a ≠ b) && indep C Ns a b
theorem apartB_iff (C : Nat) (Ns : List Nat) (l : List (Int × Int)) : apartB C Ns l = true ↔ ∀ (y z : Nat) (a b : Int × Int), z < y → l[y]? = some a → l[z]? = some b → goodP C Ns a b = true := by
  unfold apartB goodP
  rw [decide_eq_true_eq, List.pairwise_iff_getElem]
  constructor
  · intro h y z a b hzy ha hb
    obtain ⟨ly, ea⟩ := List.getElem?_eq_some_iff.1 ha
    obtain ⟨lz, eb⟩ := List.getElem?_eq_some_iff.1 hb
    have := h z y lz ly hzy
    rw [ea, eb] at this
    rw [Bool.and_eq_true, decide_eq_true_eq]; exact this
  · intro h z y lz ly hzy
    have := h y z _ _ hzy (List.getElem?_eq_getElem ly) (List.getElem?_eq_getElem lz)
    rw [Bool.and_eq_true, decide_eq_true_eq] at this; exact this
set_option maxRecDepth 100000 in
set_option maxHeartbeats 4000000 in
theorem apart_any (m : Option Addr) (C : Nat) (Ns : List Nat) (v : Value) (l : List (Int × Int)) (w : World) (h : IsMV w m C Ns) (hp : IsPairs w v l) :
    Calls Tryd.prog 80 #[.pointer m, v] w fun e w' => e = .returned (.bool (apartB C Ns l)) ∧ Below w.heap.size w w' := by
  obtain ⟨A, c, rfl, hrow, hlc, hlm⟩ := hp
  go_enter Tryd.func80, Tryd.ntmps80
  go_wp2_with fail
  refine wp_loopF (β := Nat) (fun i f => #[.pointer m, .slice A l.length c, f 2, f 3, .bool false, f 5, f 6, f 7, f 8, .slice A l.length c, .int .i64 (l.length : Int), .int .i64 (i : Int), f 12, f 13, f 14, f 15, f 16, f 17, f 18, f 19, f 20, f 21, f 22, f 23, f 24, f 25, f 26, f 27, f 28, f 29, f 30, f 31, f 32, f 33, f 34, f 35])
    (fun i ds W => i ≤ l.length ∧ ds = [] ∧ Below w.heap.size w W ∧ ∀ (y z : Nat) (a b : Int × Int), y < i → z < y → l[y]? = some a → l[z]? = some b → goodP C Ns a b = true) (fun i => l.length - i) 0 rfl
    ⟨Nat.zero_le _, rfl, Below.refl _ _, fun y z a b hy => by omega⟩ ?_
  rintro i f ds W ⟨hi, rfl, hb, hgood⟩
  dsimp only at hi ⊢
  have HG := Lib.hid hgood
  clear hgood
  by_cases hlt : i < l.length
  · obtain ⟨a, ha⟩ : ∃ a, l[i]? = some a := ⟨_, List.getElem?_eq_getElem hlt⟩
    obtain ⟨g, off, rfl, hg, c0, c1⟩ := row_pairs (hrow.below hb) ha
    have hic : i ≤ c := by omega
    go_wp2_with fail
    refine abs1 fun W1 hA1 hb1 hz1 => ?_
    have hb' := hb.trans (hb1.mono hb.size)
    obtain ⟨q, hq⟩ : ∃ q, q = W.heap.size := ⟨_, rfl⟩
    rw [← hq] at hA1 ⊢
    clear hq c0 c1 hz1
    refine wp_loopF (β := Nat) (fun z f => #[.pointer m, .slice (some ⟨g, off, none⟩) l.length c, f 2, f 3, .bool false, .int .i64 (i : Int), .pointer (some ⟨q, 0, none⟩), f 7, f 8, .slice (some ⟨g, off, none⟩) l.length c, .int .i64 (l.length : Int), .int .i64 (i : Int), f 12, f 13, f 14, f 15, f 16, f 17, .slice (some ⟨g, off, none⟩) i c, .int .i64 (i : Int), .int .i64 (z : Int), f 21, f 22, f 23, f 24, f 25, f 26, f 27, f 28, f 29, f 30, f 31, f 32, f 33, f 34, f 35])
      (fun z ds V => z ≤ i ∧ ds = [] ∧ Below W1.heap.size W1 V ∧ ∀ (y : Nat) (b : Int × Int), y < z → l[y]? = some b → goodP C Ns a b = true) (fun z => i - z) 0 rfl
      ⟨Nat.zero_le _, rfl, Below.refl _ _, fun y b hy => by omega⟩ ?_
    rintro z f ds V ⟨hz, rfl, hbV, hgz⟩
    dsimp only at hz ⊢
    have HGZ := Lib.hid hgz
    clear hgz
    have kV := hb'.trans (hbV.mono hb'.size)
    by_cases hzi : z < i
    · obtain ⟨b, hbe⟩ : ∃ b, l[z]? = some b := ⟨_, List.getElem?_eq_getElem (by omega)⟩
      obtain ⟨g2, off2, e2, hg2, d0, d1⟩ := row_pairs (hrow.below kV) hbe
      cases e2
      have hAV := hA1.below hbV hA1.lt
      have a0 := hAV.cell 0
      have a1 := hAV.cell 1
      have lA := hAV.lt
      have HI := hideC (fun W hW => independent_any m C Ns a b W (h.below (w' := W) hW))
      have hgp : goodP C Ns a b = (decide (a ≠ b) && indep C Ns a b) := rfl
      obtain ⟨x, hx⟩ : ∃ x, x = indep C Ns a b := ⟨_, rfl⟩
      rw [← hx] at HI hgp
      have HGP := Lib.hid hgp
      clear hgp hx
      have hpr := fun W => pair_run a b W
      by_cases hab : a = b
      · have hd : decide (a = b) = true := decide_eq_true hab
        rw [hd] at hpr
        have hbad : goodP C Ns a b = false := by rw [HGP.out, decide_eq_false (fun h => h hab)]; rfl
        have hno : apartB C Ns l = false := by
          rw [Bool.eq_false_iff]; intro hh
          have := (apartB_iff C Ns l).1 hh i z a b hzi ha hbe
          rw [hbad] at this; cases this
        have HNO := Lib.hid hno
        clear hd hbad hno HI hab ha hbe
        go_wp2_with fail
        go_ret
        exact ⟨by rw [HNO.out]; rfl, (kV.alloc kV.size _)⟩
      · have hd : decide (a = b) = false := decide_eq_false hab
        rw [hd] at hpr
        have hg2 := HGP.out
        rw [decide_eq_true hab, Bool.true_and] at hg2
        have HGP := Lib.hid hg2
        clear hd hab hg2
        go_wp2_with fail
        refine absC1 fun V1 hB1 hb8 hz8 => ?_
        have k1 := kV.trans (hb8.mono kV.size)
        refine (HI.out V1 k1).mono ?_
        rintro e V2 ⟨rfl, hb9⟩
        have k2 := hbV.trans ((hb8.trans (hb9.mono hb8.size)).mono hbV.size)
        have k3 := k1.trans (hb9.mono k1.size)
        cases x with
        | true =>
          have hn : ∀ (y : Nat) (b' : Int × Int), y < z + 1 → l[y]? = some b' → goodP C Ns a b' = true := fun y b' hy h1 => by
            by_cases e : y = z
            · subst e
              rw [hbe] at h1; cases h1
              exact HGP.out
            · exact HGZ.out y b' (by omega) h1
          have HN := Lib.hid hn
          clear hn hbe ha
          go_wp2_with fail
          exact ⟨z + 1, rfl, ⟨by omega, by first | rfl | trivial, k2, HN.out⟩, by omega⟩
        | false =>
          have hno : apartB C Ns l = false := by
            rw [Bool.eq_false_iff]; intro hh
            have := (apartB_iff C Ns l).1 hh i z a b hzi ha hbe
            rw [HGP.out] at this; cases this
          have HNO := Lib.hid hno
          clear hno ha hbe
          go_wp2_with fail
          go_ret
          exact ⟨by rw [HNO.out]; rfl, k3⟩
    · obtain rfl : z = i := by omega
      have hnext : ∀ (y z' : Nat) (a' b' : Int × Int), y < z + 1 → z' < y → l[y]? = some a' → l[z']? = some b' → goodP C Ns a' b' = true := fun y z' a' b' hy hz' h1 h2 => by
        by_cases e : y = z
        · subst e
          rw [ha] at h1; cases h1
          exact HGZ.out z' b' hz' h2
        · exact HG.out y z' a' b' (by omega) hz' h1 h2
      have HN := Lib.hid hnext
      clear hnext ha
      go_wp2_with fail
      exact ⟨z + 1, rfl, ⟨by omega, by first | rfl | trivial, kV, HN.out⟩, by omega⟩
  · obtain rfl : i = l.length := by omega
    have hyes : apartB C Ns l = true := (apartB_iff C Ns l).2 fun y z a b hzy ha hb => HG.out y z a b (List.getElem?_eq_some_iff.1 ha).1 hzy ha hb
    have HY := Lib.hid hyes
    clear hyes
    go_wp2_with fail
    go_ret
    exact ⟨by rw [HY.out]; rfl, hb⟩
end Go.Proofs.YtgpooflcbljidaaDoor
