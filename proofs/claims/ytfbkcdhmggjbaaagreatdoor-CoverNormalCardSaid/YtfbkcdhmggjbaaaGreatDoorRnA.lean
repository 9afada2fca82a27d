import Derived.Test.YtfbkcdhmggjbaaaGreatDoorRkA
import Derived.ChangeKeysEq
import Derived.Test.YtfbkcdhmggjbaaaGreatDoorRgA
/-
  Lists of cells: pairs of numbers.
-/
namespace Go.Proofs.YtfbkcdhmggjbaaaGreatDoor
open Go.RowKit

/-! Pairs are compared. -/
theorem cells_int2 : Tryz.prog.cellsOf 3 = 1 := by kernel_rfl
theorem plain_int2 : Tryz.prog.plainKey 3 = true := by kernel_rfl
theorem int_eqr (d : Nat) (x y : Int) (W : World) : (Op.equalIn (d + 1) 3 (.int .i64 x) (.int .i64 y)).run Tryz.prog W = .ok (x == y) W := by
  have := run_equalIn_int (P := Tryz.prog) W d 3 .i64 .i64 x y Tryz.underlying3
  exact this
theorem pair_run (a b : Int × Int) (W : World) : (Op.equalIn 10000 146 (.agg #[.int .i64 a.1, .int .i64 a.2]) (.agg #[.int .i64 b.1, .int .i64 b.2])).run Tryz.prog W = .ok (decide (a = b)) W := by
  obtain ⟨i0, hi0, hz0, hz1, hz2⟩ := info_parts info_int
  rw [show (10000 : Nat) = 9998 + 1 + 1 from rfl, run_equalIn_array (w := W) (9998 + 1) _ _ Tryz.underlying146 hi0, cells_int2]
  have h0 : List.range 2 = [0, 1] := by decide
  rw [h0]
  have p0 : ∀ c : Int × Int, (part 3 #[.int .i64 c.1, .int .i64 c.2] 0).run Tryz.prog W = .ok (.int .i64 c.1) W := fun c => run_part_plain W plain_int2 rfl
  have p1 : ∀ c : Int × Int, (part 3 #[.int .i64 c.1, .int .i64 c.2] 1).run Tryz.prog W = .ok (.int .i64 c.2) W := fun c => run_part_plain W plain_int2 rfl
  simp only [Op.eqItems, Sem.run_bind, Nat.zero_mul, Nat.one_mul, p0, Result.andThen_ok, int_eqr]
  have e : a = b ↔ a.1 = b.1 ∧ a.2 = b.2 := Prod.ext_iff
  by_cases h1 : a.1 = b.1
  · by_cases h2 : a.2 = b.2
    · rw [decide_eq_true (e.2 ⟨h1, h2⟩), beq_iff_eq.2 h1, if_neg (by decide)]
      simp only [Sem.run_bind, p1, Result.andThen_ok, int_eqr]
      rw [beq_iff_eq.2 h2]; rfl
    · rw [decide_eq_false (fun h => h2 (e.1 h).2), beq_iff_eq.2 h1, if_neg (by decide)]
      simp only [Sem.run_bind, p1, Result.andThen_ok, int_eqr]
      rw [beq_eq_false_iff_ne.2 h2]; rfl
  · rw [decide_eq_false (fun h => h1 (e.1 h).1), beq_eq_false_iff_ne.2 h1]; rfl
/-! A row of pairs of numbers. -/
def cellsP (l : List (Int × Int)) : List Value := l.flatMap fun c => [.int .i64 c.1, .int .i64 c.2]
theorem cellsP_app (l m : List (Int × Int)) : cellsP (l ++ m) = cellsP l ++ cellsP m := by unfold cellsP; rw [List.flatMap_append]
theorem cellsP_len (l : List (Int × Int)) : (cellsP l).length = 2 * l.length := by
  induction l with
  | nil => rfl
  | cons c l ih => unfold cellsP at *; rw [List.flatMap_cons, List.length_append, ih]; simp; omega
theorem cellsP_get : ∀ (l : List (Int × Int)) {k : Nat} {c : Int × Int}, l[k]? = some c → (cellsP l)[2 * k]? = some (.int .i64 c.1) ∧ (cellsP l)[2 * k + 1]? = some (.int .i64 c.2)
  | [], _, _, h => by simp at h
  | d :: l, 0, c, h => by
    obtain rfl : d = c := by simpa using h
    exact ⟨rfl, rfl⟩
  | d :: l, k + 1, c, h => by
    have ih := cellsP_get l (k := k) (c := c) (by simpa using h)
    unfold cellsP at *
    rw [List.flatMap_cons]
    exact ⟨by rw [show 2 * (k + 1) = (2 * k) + 1 + 1 by omega]; exact ih.1, by rw [show 2 * (k + 1) + 1 = (2 * k + 1) + 1 + 1 by omega]; exact ih.2⟩
def IsPairs (w : World) (v : Value) (l : List (Int × Int)) : Prop := ∃ A c, v = .slice A l.length c ∧ Row w A (cellsP l) ∧ l.length ≤ c ∧ l.length ≤ 1000000
theorem IsPairs.below {w w' : World} {v : Value} {l : List (Int × Int)} (h : IsPairs w v l) (hb : Below w.heap.size w w') : IsPairs w' v l := by
  obtain ⟨A, c, h1, h2, h3⟩ := h; exact ⟨A, c, h1, h2.below hb, h3⟩
theorem row_pairs {w : World} {A : Option Addr} {l : List (Int × Int)} (h : Row w A (cellsP l)) {k : Nat} {c : Int × Int} (hk : l[k]? = some c) :
    ∃ g off, A = some ⟨g, off, none⟩ ∧ g < w.heap.size ∧ w.cell? ⟨g, off + k * 2, none⟩ = some (.int .i64 c.1) ∧ w.cell? ⟨g, off + k * 2 + 1, none⟩ = some (.int .i64 c.2) := by
  have hlt := (List.getElem?_eq_some_iff.1 hk).1
  obtain ⟨g, off, rfl, hg, hc⟩ := h (by rw [cellsP_len]; omega)
  obtain ⟨h1, h2⟩ := cellsP_get l hk
  have e1 := hc _ _ h1
  have e2 := hc _ _ h2
  rw [← Nat.add_assoc] at e2
  rw [Nat.mul_comm] at e1 e2
  exact ⟨g, off, rfl, hg, e1, e2⟩
end Go.Proofs.YtfbkcdhmggjbaaaGreatDoor

/-
  Lists of cells; rank.independent, rank.apart.
-/
namespace Go.Proofs.YtfbkcdhmggjbaaaGreatDoor
open Go.RowKit

set_option maxRecDepth 100000 in
set_option maxHeartbeats 2000000 in
theorem independent_any (m : Option Addr) (C : Nat) (Ns : List Nat) (a b : Int × Int) (w : World) (h : IsMV w m C Ns) :
    Calls Tryz.prog 86 #[.pointer m, .agg #[.int .i64 a.1, .int .i64 a.2], .agg #[.int .i64 b.1, .int .i64 b.2]] w fun e w' => e = .returned (.bool (indep C Ns a b)) ∧ Below w.heap.size w w' := by
  obtain ⟨x, hx⟩ : ∃ x, x = mhas C Ns a.1 b.2 := ⟨_, rfl⟩
  obtain ⟨y, hy⟩ : ∃ y, y = mhas C Ns b.1 a.2 := ⟨_, rfl⟩
  have hI : indep C Ns a b = (!x || !y) := by rw [hx, hy]; rfl
  rw [hI]
  have h1 : ∀ W, Below w.heap.size w W → _ := fun W hb => has_v (h.below hb) a.1 b.2
  have h2 : ∀ W, Below w.heap.size w W → _ := fun W hb => has_v (h.below hb) b.1 a.2
  rw [← hx] at h1
  rw [← hy] at h2
  have HH := Lib.hid h1; have H2 := Lib.hid h2
  clear h1 h2 hx hy hI
  go_enter Tryz.func86, Tryz.ntmps86
  go_wp2_with fail
  refine absC2 fun W0 hA hB hb0 hz => ?_
  have a0 := hA.cell 0
  have a1 := hA.cell 1
  have b0 := hB.cell 0
  have b1 := hB.cell 1
  cases x with
  | false =>
    refine (HH.out _ hb0).mono ?_
    rintro e w1 ⟨rfl, hb⟩
    go_wp2_with fail
    go_ret
    exact ⟨rfl, hb0.trans (hb.mono hb0.size)⟩
  | true =>
    refine (HH.out _ hb0).mono ?_
    rintro e w1 ⟨rfl, hb⟩
    have k := hb0.trans (hb.mono hb0.size)
    have c0 := onB hb a0
    have c1 := onB hb a1
    have d0 := onB hb b0
    have d1 := onB hb b1
    clear a0 a1 b0 b1
    go_wp2_with fail
    refine (H2.out _ k).mono ?_
    rintro e w2 ⟨rfl, hb2⟩
    go_wp2_with fail
    go_ret
    exact ⟨rfl, k.trans (hb2.mono k.size)⟩
def goodP (C : Nat) (Ns : List Nat) (a b : Int × Int) : Bool := decide (a ≠ b) && indep C Ns a b
theorem apartB_iff (C : Nat) (Ns : List Nat) (l : List (Int × Int)) : apartB C Ns l = true ↔ ∀ (y z : Nat) (a b : Int × Int), z < y → l[y]? = some a → l[z]? = some b → goodP C Ns a b = true := by
  unfold apartB goodP
  rw [decide_eq_true_eq, List.pairwise_iff_getElem]
  constructor
  · intro h y z a b hzy ha hb
    obtain ⟨ly, ea⟩ := List.getElem?_eq_some_iff.1 ha
    obtain ⟨lz, eb⟩ := List.getElem?_eq_some_iff.1 hb
    have := h z y lz ly hzy
    rw [ea, eb] at this
    rw [Bool.and_eq_true, decide_eq_true_eq]; exact this
  · intro h z y lz ly hzy
    have := h y z _ _ hzy (List.getElem?_eq_getElem ly) (List.getElem?_eq_getElem lz)
    rw [Bool.and_eq_true, decide_eq_true_eq] at this; exact this
set_option maxRecDepth 100000 in
set_option maxHeartbeats 4000000 in
theorem apart_any (m : Option Addr) (C : Nat) (Ns : List Nat) (v : Value) (l : List (Int × Int)) (w : World) (h : IsMV w m C Ns) (hp : IsPairs w v l) :
    Calls Tryz.prog 126 #[.pointer m, v] w fun e w' => e = .returned (.bool (apartB C Ns l)) ∧ Below w.heap.size w w' := by
  obtain ⟨A, c, rfl, hrow, hlc, hlm⟩ := hp
  go_enter Tryz.func126, Tryz.ntmps126
  go_wp2_with fail
  refine wp_loopF (β := Nat) (fun i f => #[.pointer m, .slice A l.length c, f 2, f 3, .bool false, f 5, f 6, f 7, f 8, .slice A l.length c, .int .i64 (l.length : Int), .int .i64 (i : Int), f 12, f 13, f 14, f 15, f 16, f 17, f 18, f 19, f 20, f 21, f 22, f 23, f 24, f 25, f 26, f 27, f 28, f 29, f 30, f 31, f 32, f 33, f 34, f 35])
    (fun i ds W => i ≤ l.length ∧ ds = [] ∧ Below w.heap.size w W ∧ ∀ (y z : Nat) (a b : Int × Int), y < i → z < y → l[y]? = some a → l[z]? = some b → goodP C Ns a b = true) (fun i => l.length - i) 0 rfl
    ⟨Nat.zero_le _, rfl, Below.refl _ _, fun y z a b hy => by omega⟩ ?_
  rintro i f ds W ⟨hi, rfl, hb, hgood⟩
  dsimp only at hi ⊢
  have HG := Lib.hid hgood
  clear hgood
  by_cases hlt : i < l.length
  · obtain ⟨a, ha⟩ : ∃ a, l[i]? = some a := ⟨_, List.getElem?_eq_getElem hlt⟩
    obtain ⟨g, off, rfl, hg, c0, c1⟩ := row_pairs (hrow.below hb) ha
    have hic : i ≤ c := by omega
    go_wp2_with fail
    refine abs1 fun W1 hA1 hb1 hz1 => ?_
    have hb' := hb.trans (hb1.mono hb.size)
    obtain ⟨q, hq⟩ : ∃ q, q = W.heap.size := ⟨_, rfl⟩
    rw [← hq] at hA1 ⊢
    clear hq c0 c1 hz1
    refine wp_loopF (β := Nat) (fun z f => #[.pointer m, .slice (some ⟨g, off, none⟩) l.length c, f 2, f 3, .bool false, .int .i64 (i : Int), .pointer (some ⟨q, 0, none⟩), f 7, f 8, .slice (some ⟨g, off, none⟩) l.length c, .int .i64 (l.length : Int), .int .i64 (i : Int), f 12, f 13, f 14, f 15, f 16, f 17, .slice (some ⟨g, off, none⟩) i c, .int .i64 (i : Int), .int .i64 (z : Int), f 21, f 22, f 23, f 24, f 25, f 26, f 27, f 28, f 29, f 30, f 31, f 32, f 33, f 34, f 35])
      (fun z ds V => z ≤ i ∧ ds = [] ∧ Below W1.heap.size W1 V ∧ ∀ (y : Nat) (b : Int × Int), y < z → l[y]? = some b → goodP C Ns a b = true) (fun z => i - z) 0 rfl
      ⟨Nat.zero_le _, rfl, Below.refl _ _, fun y b hy => by omega⟩ ?_
    rintro z f ds V ⟨hz, rfl, hbV, hgz⟩
    dsimp only at hz ⊢
    have HGZ := Lib.hid hgz
    clear hgz
    have kV := hb'.trans (hbV.mono hb'.size)
    by_cases hzi : z < i
    · obtain ⟨b, hbe⟩ : ∃ b, l[z]? = some b := ⟨_, List.getElem?_eq_getElem (by omega)⟩
      obtain ⟨g2, off2, e2, hg2, d0, d1⟩ := row_pairs (hrow.below kV) hbe
      cases e2
      have hAV := hA1.below hbV hA1.lt
      have a0 := hAV.cell 0
      have a1 := hAV.cell 1
      have lA := hAV.lt
      have HI := hideC (fun W hW => independent_any m C Ns a b W (h.below (w' := W) hW))
      have hgp : goodP C Ns a b = (decide (a ≠ b) && indep C Ns a b) := rfl
      obtain ⟨x, hx⟩ : ∃ x, x = indep C Ns a b := ⟨_, rfl⟩
      rw [← hx] at HI hgp
      have HGP := Lib.hid hgp
      clear hgp hx
      have hpr := fun W => pair_run a b W
      by_cases hab : a = b
      · have hd : decide (a = b) = true := decide_eq_true hab
        rw [hd] at hpr
        have hbad : goodP C Ns a b = false := by rw [HGP.out, decide_eq_false (fun h => h hab)]; rfl
        have hno : apartB C Ns l = false := by
          rw [Bool.eq_false_iff]; intro hh
          have := (apartB_iff C Ns l).1 hh i z a b hzi ha hbe
          rw [hbad] at this; cases this
        have HNO := Lib.hid hno
        clear hd hbad hno HI hab ha hbe
        go_wp2_with fail
        go_ret
        exact ⟨by rw [HNO.out]; rfl, (kV.alloc kV.size _)⟩
      · have hd : decide (a = b) = false := decide_eq_false hab
        rw [hd] at hpr
        have hg2 := HGP.out
        rw [decide_eq_true hab, Bool.true_and] at hg2
        have HGP := Lib.hid hg2
        clear hd hab hg2
        go_wp2_with fail
        refine absC1 fun V1 hB1 hb8 hz8 => ?_
        have k1 := kV.trans (hb8.mono kV.size)
        refine (HI.out V1 k1).mono ?_
        rintro e V2 ⟨rfl, hb9⟩
        have k2 := hbV.trans ((hb8.trans (hb9.mono hb8.size)).mono hbV.size)
        have k3 := k1.trans (hb9.mono k1.size)
        cases x with
        | true =>
          have hn : ∀ (y : Nat) (b' : Int × Int), y < z + 1 → l[y]? = some b' → goodP C Ns a b' = true := fun y b' hy h1 => by
            by_cases e : y = z
            · subst e
              rw [hbe] at h1; cases h1
              exact HGP.out
            · exact HGZ.out y b' (by omega) h1
          have HN := Lib.hid hn
          clear hn hbe ha
          go_wp2_with fail
          exact ⟨z + 1, rfl, ⟨by omega, by first | rfl | trivial, k2, HN.out⟩, by omega⟩
        | false =>
          have hno : apartB C Ns l = false := by
            rw [Bool.eq_false_iff]; intro hh
            have := (apartB_iff C Ns l).1 hh i z a b hzi ha hbe
            rw [HGP.out] at this; cases this
          have HNO := Lib.hid hno
          clear hno ha hbe
          go_wp2_with fail
          go_ret
          exact ⟨by rw [HNO.out]; rfl, k3⟩
    · obtain rfl : z = i := by omega
      have hnext : ∀ (y z' : Nat) (a' b' : Int × Int), y < z + 1 → z' < y → l[y]? = some a' → l[z']? = some b' → goodP C Ns a' b' = true := fun y z' a' b' hy hz' h1 h2 => by
        by_cases e : y = z
        · subst e
          rw [ha] at h1; cases h1
          exact HGZ.out z' b' hz' h2
        · exact HG.out y z' a' b' (by omega) hz' h1 h2
      have HN := Lib.hid hnext
      clear hnext ha
      go_wp2_with fail
      exact ⟨z + 1, rfl, ⟨by omega, by first | rfl | trivial, kV, HN.out⟩, by omega⟩
  · obtain rfl : i = l.length := by omega
    have hyes : apartB C Ns l = true := (apartB_iff C Ns l).2 fun y z a b hzy ha hb => HG.out y z a b (List.getElem?_eq_some_iff.1 ha).1 hzy ha hb
    have HY := Lib.hid hyes
    clear hyes
    go_wp2_with fail
    go_ret
    exact ⟨by rw [HY.out]; rfl, hb⟩
end Go.Proofs.YtfbkcdhmggjbaaaGreatDoor

/-
  slices.ContainsFunc over cells, at whatever predicate; the closures of rank.node and rank.Fool.
-/
namespace Go.Proofs.YtfbkcdhmggjbaaaGreatDoor
open Go.RowKit

set_option maxRecDepth 100000 in
set_option maxHeartbeats 2000000 in
theorem index_fool (cp fv : Value) (hfv : fv = .func (.func 213) #[] #[cp]) (p : Int × Int → Bool) (v : Value) (l : List (Int × Int)) (w : World) (hp : IsPairs w v l)
    (hf : ∀ W, Below w.heap.size w W → ∀ c, Calls Tryz.prog 213 #[.agg #[.int .i64 c.1, .int .i64 c.2], cp] W fun e w' => e = .returned (.bool (p c)) ∧ Below W.heap.size W w') :
    Calls Tryz.prog 172 #[v, fv] w fun e w' => ∃ r : Int, e = .returned (.int .i64 r) ∧ decide (0 ≤ r) = l.any p ∧ Below w.heap.size w w' := by
  obtain ⟨A, c, rfl, hrow, hlc, hlm⟩ := hp
  have HF := Lib.hid hf
  clear hf
  go_enter Tryz.func172, Tryz.ntmps172
  go_wp2_with fail
  refine wp_loopF (β := Nat) (fun i f => #[.slice A l.length c, fv, f 2, f 3, .int .i64 0, f 5, f 6, .int .i64 (l.length : Int), .int .i64 (i : Int), f 9, f 10, f 11, f 12, f 13, f 14, f 15, f 16, f 17, f 18])
    (fun i ds W => i ≤ l.length ∧ ds = [] ∧ Below w.heap.size w W ∧ (l.take i).any p = false) (fun i => l.length - i) 0 rfl
    ⟨Nat.zero_le _, rfl, Below.refl _ _, by simp⟩ ?_
  rintro i f ds W ⟨hi, rfl, hb, hno⟩
  dsimp only at hi ⊢
  have HN := Lib.hid hno
  clear hno
  by_cases hlt : i < l.length
  · obtain ⟨a, ha⟩ : ∃ a, l[i]? = some a := ⟨_, List.getElem?_eq_getElem hlt⟩
    obtain ⟨g, off, rfl, hg, c0, c1⟩ := row_pairs (hrow.below hb) ha
    have hc := HF.out W hb a
    obtain ⟨x, hx⟩ : ∃ x, x = p a := ⟨_, rfl⟩
    rw [← hx] at hc
    have HC := hideC hc
    have htk : (l.take (i + 1)).any p = x := by
      rw [List.take_add_one, List.any_append, HN.out, ha, hx]; simp
    have HT := Lib.hid htk
    clear hc htk hx
    have HA := Lib.hid ha
    clear ha
    subst hfv
    go_wp2_with fail
    refine HC.out.mono ?_
    rintro e w1 ⟨rfl, hb1⟩
    have k1 := hb.trans (hb1.mono hb.size)
    cases x with
    | true =>
      go_wp2_with fail
      go_ret
      refine ⟨(i : Int), rfl, ?_, k1⟩
      rw [decide_eq_true (by omega), eq_comm, List.any_eq_true]
      have := HT.out
      rw [List.any_eq_true] at this
      obtain ⟨y, hy, hp⟩ := this
      exact ⟨y, List.mem_of_mem_take hy, hp⟩
    | false =>
      go_wp2_with fail
      exact ⟨i + 1, rfl, ⟨by omega, by first | rfl | trivial, k1, HT.out⟩, by omega⟩
  · obtain rfl : i = l.length := by omega
    have hn := HN.out
    rw [List.take_length] at hn
    have HN2 := Lib.hid hn
    clear hn
    go_wp2_with fail
    go_ret
    exact ⟨-1, rfl, by rw [HN2.out]; rfl, hb⟩
set_option maxRecDepth 100000 in
set_option maxHeartbeats 2000000 in
theorem contains_fool (cp : Value) (p : Int × Int → Bool) (v : Value) (l : List (Int × Int)) (w : World) (hp : IsPairs w v l)
    (hf : ∀ W, Below w.heap.size w W → ∀ c, Calls Tryz.prog 213 #[.agg #[.int .i64 c.1, .int .i64 c.2], cp] W fun e w' => e = .returned (.bool (p c)) ∧ Below W.heap.size W w') :
    Calls Tryz.prog 124 #[v, .func (.func 213) #[] #[cp]] w fun e w' => e = .returned (.bool (l.any p)) ∧ Below w.heap.size w w' := by
  have HI := hideC (index_fool cp _ rfl p v l w hp hf)
  obtain ⟨x, hx⟩ : ∃ x, x = l.any p := ⟨_, rfl⟩
  rw [← hx] at HI ⊢
  clear hx
  obtain ⟨A, c, rfl, _⟩ := id hp
  go_enter Tryz.func124, Tryz.ntmps124
  go_wp2_with fail
  refine HI.out.mono ?_
  rintro e w1 ⟨r, rfl, hr, hb⟩
  have HR := Lib.hid hr
  clear hr
  go_wp2_with fail
  go_ret
  exact ⟨ret_bool HR.out, hb⟩
/-! The closures. -/
/-- A row of sets, held in a variable of its own. -/
def IsOpen (w : World) (g : Nat) (Os : List Nat) : Prop := ∃ A c vs, Blk w g 71 #[.slice A Os.length c] ∧ Row w A vs ∧ Sets w vs Os ∧ Os.length ≤ c
theorem IsOpen.below {w w' : World} {g : Nat} {Os : List Nat} (h : IsOpen w g Os) (hb : Below w.heap.size w w') : IsOpen w' g Os := by
  obtain ⟨A, c, vs, h1, h2, h3, h4⟩ := h
  exact ⟨A, c, vs, h1.below hb h1.lt, h2.below hb, h3.below hb, h4⟩
set_option maxRecDepth 100000 in
set_option maxHeartbeats 2000000 in
theorem fool1_any (m : Option Addr) (C : Nat) (Ns : List Nat) (q : Nat) (t : TypeId) (c : Int × Int) (w : World) (h : IsMV w m C Ns) (hq : Blk w q t #[.pointer m]) :
    Calls Tryz.prog 213 #[.agg #[.int .i64 c.1, .int .i64 c.2], .pointer (some ⟨q, 0, none⟩)] w fun e w' => e = .returned (.bool (!mhas C Ns c.1 c.2)) ∧ Below w.heap.size w w' := by
  have HH := Lib.hid (fun W hb => has_v (h.below (w' := W) hb) c.1 c.2)
  have q0 := hq.cell 0
  have lq := hq.lt
  go_enter Tryz.func213, Tryz.ntmps213
  go_wp2_with fail
  refine absC1 fun W0 hA hb0 hz => ?_
  refine (HH.out W0 hb0).mono ?_
  rintro e w1 ⟨rfl, hb⟩
  go_wp2_with fail
  go_ret
  exact ⟨rfl, hb0.trans (hb.mono hb0.size)⟩
end Go.Proofs.YtfbkcdhmggjbaaaGreatDoor
