/-
  slices.EqualFunc over nodes, with the law's function and with rank.Equal's; rank.Equal.
-/
import Derived.Test.YtlehoomnddcblaaDoorRb4
import Derived.Test.YtlehoomnddcblaaDoorRq3
namespace Go.Proofs.YtlehoomnddcblaaDoor
open Go.RowKit

/-- Two nodes, field by field. -/
def eqN (x y : Nd) : Bool := decide (x.kind = y.kind) && decide (x.row = y.row) && decide (x.col = y.col) && decide (x.ch = y.ch) && decide (x.cells = y.cells)
def eqNs (P Q : List Nd) : Bool := decide (P.length = Q.length) && (List.range P.length).all fun i => eqN (P.getD i default) (Q.getD i default)
theorem eqN_self (x : Nd) : eqN x x = true := by simp [eqN]
theorem eqNs_self (P : List Nd) : eqNs P P = true := by
  unfold eqNs
  rw [Bool.and_eq_true, List.all_eq_true]
  exact ⟨by simp, fun i _ => eqN_self _⟩
theorem getD_of {P : List Nd} {i : Nat} {x : Nd} (h : P[i]? = some x) : P.getD i default = x := by rw [List.getD_eq_getElem?_getD, h]; rfl
theorem eqNs_no {P Q : List Nd} {i : Nat} {x y : Nd} (hx : P[i]? = some x) (hy : Q[i]? = some y) (h : eqN x y = false) : eqNs P Q = false := by
  unfold eqNs
  rw [Bool.and_eq_false_iff]
  refine .inr ?_
  rw [List.all_eq_false]
  exact ⟨i, List.mem_range.2 (List.getElem?_eq_some_iff.1 hx).1, by rw [getD_of hx, getD_of hy, h]; simp⟩
theorem eqNs_yes {P Q : List Nd} (hl : P.length = Q.length) (h : ∀ k, k < P.length → eqN (P.getD k default) (Q.getD k default) = true) : eqNs P Q = true := by
  unfold eqNs
  rw [Bool.and_eq_true, decide_eq_true_eq, List.all_eq_true]
  exact ⟨hl, fun i hi => h i (List.mem_range.1 hi)⟩
theorem seq_is {A B : Option Addr} {c d n m : Nat} {xs ys : List Int} {w : World} {b : Bool} (hb : decide (xs = ys) = b) (hn : xs.length = n) (hm : ys.length = m) (hx : Row w A (xs.map (.int .i64))) (hy : Row w B (ys.map (.int .i64))) (hxl : n ≤ 1000000) (hyl : m ≤ 1000000) :
    Calls Tryd.prog 19 #[.slice A n c, .slice B m d] w fun e w' => e = .returned (.bool b) ∧ Below w.heap.size w w' := by
  subst hn; subst hm
  have := seq_any A B c d xs ys w hx hy hxl hyl
  rwa [hb] at this

set_option maxRecDepth 100000 in
set_option maxHeartbeats 8000000 in
theorem eqnode_ref (kx rx cx ky ry cy : Int) (xs ys : List Int) (l m : List (Int × Int)) (A B A2 B2 : Option Addr) (n n' c c' k2 k2' d d' : Nat) (w : World) (hn : xs.length = n) (hn' : ys.length = n') (h1 : Row w A (xs.map (.int .i64))) (h2 : Row w B (ys.map (.int .i64))) (hp : IsPairs w (.slice A2 k2 d) l) (hq : IsPairs w (.slice B2 k2' d') m) (hxl : n ≤ 1000000) (hyl : n' ≤ 1000000) :
    Calls Tryd.prog 18 #[.agg #[.int .i64 kx, .int .i64 rx, .int .i64 cx, .slice A n c, .slice A2 k2 d], .agg #[.int .i64 ky, .int .i64 ry, .int .i64 cy, .slice B n' c', .slice B2 k2' d']] w fun e w' =>
      e = .returned (.bool (decide (kx = ky) && decide (rx = ry) && decide (cx = cy) && decide (xs = ys) && decide (l = m))) ∧ Below w.heap.size w w' := by
  obtain ⟨r, hr⟩ : ∃ r, r = (decide (kx = ky) && decide (rx = ry) && decide (cx = cy) && decide (xs = ys) && decide (l = m)) := ⟨_, rfl⟩
  rw [← hr]
  have HR := Lib.hid hr
  clear hr
  go_enter Tryd.func18, Tryd.ntmps18
  go_upto_region 1 with fail
  refine abs2 fun w1 hX hY hb hz => ?_
  clear hz
  have HS := fun W b (hW : Below w1.heap.size w1 W) (hbb : decide (xs = ys) = b) => seq_is (c := c) (d := c') hbb hn hn' (h1.below (hb.trans (hW.mono hb.size))) (h2.below (hb.trans (hW.mono hb.size))) hxl hyl
  have HP := fun W b (hW : Below w1.heap.size w1 W) (hbb : decide (l = m) = b) => eqp_is hbb (hp.below (hb.trans (hW.mono hb.size))) (hq.below (hb.trans (hW.mono hb.size)))
  have HS2 := Lib.hid HS; have HP2 := Lib.hid HP
  obtain ⟨X, hXe⟩ : ∃ X, X = w.heap.size := ⟨_, rfl⟩
  rw [← hXe] at hX hY ⊢
  clear HS HP hn hn' h1 h2 hp hq hxl hyl hXe
  have x0 := hX.cell 0; have x1 := hX.cell 1; have x2 := hX.cell 2; have x3 := hX.cell 3; have x4 := hX.cell 4
  have y0 := hY.cell 0; have y1 := hY.cell 1; have y2 := hY.cell 2; have y3 := hY.cell 3; have y4 := hY.cell 4
  by_cases e1 : kx = ky
  · subst e1
    by_cases e2 : rx = ry
    · subst e2
      by_cases e3 : cx = cy
      · subst e3
        obtain ⟨b4, hb4⟩ : ∃ b, decide (xs = ys) = b := ⟨_, rfl⟩
        have HS3 := hideC (HS2.out w1 b4 (Below.refl _ _) hb4)
        obtain ⟨b5, hb5⟩ : ∃ b, decide (l = m) = b := ⟨_, rfl⟩
        have hre : r = (b4 && b5) := by rw [HR.out, hb4, hb5]; simp
        have HRE := Lib.hid hre
        have HB5 := Lib.hid hb5
        clear hb4 hre HR HS2 hb5
        cases b4 with
        | false =>
          go_wp2_with fail
          refine HS3.out.mono ?_
          rintro e w2 ⟨rfl, hb2⟩
          go_wp2_with fail
          go_ret
          exact ⟨by rw [HRE.out]; rfl, hb.trans (hb2.mono hb.size)⟩
        | true =>
          go_wp2_with fail
          refine HS3.out.mono ?_
          rintro e w2 ⟨rfl, hb2⟩
          have HP3 := hideC (HP2.out w2 b5 hb2 HB5.out)
          replace x4 := onB hb2 x4
          replace y4 := onB hb2 y4
          clear x0 x1 x2 x3 y0 y1 y2 y3 HP2
          go_wp2_with fail
          refine HP3.out.mono ?_
          rintro e w3 ⟨rfl, hb3⟩
          go_wp2_with fail
          go_ret
          exact ⟨by rw [HRE.out]; rfl, hb.trans ((hb2.trans (hb3.mono hb2.size)).mono hb.size)⟩
      · have hre : r = false := by rw [HR.out, decide_eq_false e3]; simp
        have HRE := Lib.hid hre
        have e3b : (cx == cy) = false := by rw [beq_eq_false_iff_ne]; exact e3
        clear hre HR
        go_wp2_with fail
        go_ret
        exact ⟨by rw [HRE.out]; rfl, hb⟩
    · have hre : r = false := by rw [HR.out, decide_eq_false e2]; simp
      have HRE := Lib.hid hre
      have e2b : (rx == ry) = false := by rw [beq_eq_false_iff_ne]; exact e2
      clear hre HR
      go_wp2_with fail
      go_ret
      exact ⟨by rw [HRE.out]; rfl, hb⟩
  · have hre : r = false := by rw [HR.out, decide_eq_false e1]; simp
    have HRE := Lib.hid hre
    have e1b : (kx == ky) = false := by rw [beq_eq_false_iff_ne]; exact e1
    clear hre HR
    go_wp2_with fail
    go_ret
    exact ⟨by rw [HRE.out]; rfl, hb⟩
/-- The function that is handed on. -/
def fnv_ref : Value := .func (.func 18) #[] #[]
set_option maxRecDepth 100000 in
set_option maxHeartbeats 8000000 in
theorem eqf_ref (A B : Option Addr) (c d : Nat) (P Q : List Nd) (w : World) (hP : IsNR w A P) (hQ : IsNR w B Q) (hPo : ∀ x ∈ P, NdOK x) (hQo : ∀ x ∈ Q, NdOK x) (hPl : P.length ≤ 100000000) (hQl : Q.length ≤ 100000000) :
    Calls Tryd.prog 17 #[.slice A P.length c, .slice B Q.length d, .func (.func 18) #[] #[]] w fun e w' => e = .returned (.bool (eqNs P Q)) ∧ Below w.heap.size w w' := by
  obtain ⟨r, hr⟩ : ∃ r, r = eqNs P Q := ⟨_, rfl⟩
  rw [← hr]
  have HR := Lib.hid hr
  have HPO := Lib.hid hPo; have HQO := Lib.hid hQo
  clear hr hPo hQo
  go_enter Tryd.func17, Tryd.ntmps17
  by_cases hll : P.length = Q.length
  · have HLL := Lib.hid hll
    obtain ⟨n, hn⟩ : ∃ n, n = P.length := ⟨_, rfl⟩
    rw [← hll] at hQl ⊢
    rw [← hn] at hPl hQl ⊢
    have HN := Lib.hid hn
    clear hll hn
    go_wp2_with fail
    refine wp_loopF (β := Nat) (fun i f => #[.slice A n c, .slice B n d, fnv_ref, f 3, f 4, f 5, .bool false, f 7, f 8, f 9, f 10, f 11, f 12, f 13, f 14, .slice A n c, .int .i64 (n : Int), .int .i64 (i : Int), f 18, f 19, f 20, f 21, f 22, f 23, f 24, f 25, f 26, f 27, f 28, f 29, f 30, f 31])
      (fun i ds W => i ≤ n ∧ ds = [] ∧ Below w.heap.size w W ∧ ∀ k, k < i → eqN (P.getD k default) (Q.getD k default) = true) (fun i => n - i) 0 rfl ⟨Nat.zero_le _, rfl, Below.refl _ _, fun k hk => by omega⟩ ?_
    rintro i f ds W ⟨hi, rfl, hbW, hpre⟩
    dsimp only at hi ⊢
    unfold fnv_ref
    have HP := Lib.hid hpre
    clear hpre
    by_cases hlt : i < n
    · obtain ⟨x, hx⟩ : ∃ x, P[i]? = some x := ⟨_, List.getElem?_eq_getElem (by have := HN.out; omega)⟩
      obtain ⟨y, hy⟩ : ∃ y, Q[i]? = some y := ⟨_, List.getElem?_eq_getElem (by have := HN.out; have := HLL.out; omega)⟩
      obtain ⟨gx, ox, A1, k1, A2, k2, rfl, lgx, x0, x1, x2, x3, x4, hx1, hx2⟩ := nr_at (hP.below hbW) hx
      obtain ⟨gy, oy, B1, l1, B2, l2, rfl, lgy, y0, y1, y2, y3, y4, hy1, hy2⟩ := nr_at (hQ.below hbW) hy
      obtain ⟨ox1, ox2, ox3, ox4⟩ := HPO.out x (List.mem_of_getElem? hx)
      obtain ⟨oy1, oy2, oy3, oy4⟩ := HQO.out y (List.mem_of_getElem? hy)
      have HX := Lib.hid hx; have HY := Lib.hid hy
      have rx1 := hx1.1; have ry1 := hy1.1
      have rx2 : IsPairs W (.slice A2 x.cells.length k2) x.cells := ⟨A2, k2, rfl, hx2.1, hx2.2.1, ox2⟩
      have ry2 : IsPairs W (.slice B2 y.cells.length l2) y.cells := ⟨B2, l2, rfl, hy2.1, hy2.2.1, oy2⟩
      clear hx1 hx2 hy1 hy2
      have HE : eqN x y = (decide (x.kind = y.kind) && decide (x.row = y.row) && decide (x.col = y.col) && decide (x.ch = y.ch) && decide (x.cells = y.cells)) := rfl
      have HEN := Lib.hid (fun V (hV : Below W.heap.size W V) => (by rw [HE]; exact eqnode_ref x.kind x.row x.col y.kind y.row y.col x.ch y.ch x.cells y.cells A1 B1 A2 B2 x.ch.length y.ch.length k1 l1 x.cells.length y.cells.length k2 l2 V rfl rfl (rx1.below hV) (ry1.below hV) (rx2.below hV) (ry2.below hV) ox1 oy1 :
        Calls Tryd.prog 18 #[.agg #[.int .i64 x.kind, .int .i64 x.row, .int .i64 x.col, .slice A1 x.ch.length k1, .slice A2 x.cells.length k2], .agg #[.int .i64 y.kind, .int .i64 y.row, .int .i64 y.col, .slice B1 y.ch.length l1, .slice B2 y.cells.length l2]] V fun e w' => e = .returned (.bool (eqN x y)) ∧ Below V.heap.size V w'))
      obtain ⟨b, hb⟩ : ∃ b, eqN x y = b := ⟨_, rfl⟩
      rw [hb] at HEN
      have HB := Lib.hid hb
      obtain ⟨xk, hxk⟩ : ∃ z, z = x.kind := ⟨_, rfl⟩
      obtain ⟨xr, hxr⟩ : ∃ z, z = x.row := ⟨_, rfl⟩
      obtain ⟨xc, hxc⟩ : ∃ z, z = x.col := ⟨_, rfl⟩
      obtain ⟨yk, hyk⟩ : ∃ z, z = y.kind := ⟨_, rfl⟩
      obtain ⟨yr, hyr⟩ : ∃ z, z = y.row := ⟨_, rfl⟩
      obtain ⟨yc, hyc⟩ : ∃ z, z = y.col := ⟨_, rfl⟩
      obtain ⟨n1, hn1⟩ : ∃ z, z = x.ch.length := ⟨_, rfl⟩
      obtain ⟨n2, hn2⟩ : ∃ z, z = x.cells.length := ⟨_, rfl⟩
      obtain ⟨m1, hm1⟩ : ∃ z, z = y.ch.length := ⟨_, rfl⟩
      obtain ⟨m2, hm2⟩ : ∃ z, z = y.cells.length := ⟨_, rfl⟩
      rw [← hxk, ← hxr, ← hxc, ← hyk, ← hyr, ← hyc, ← hn1, ← hn2, ← hm1, ← hm2] at HEN
      rw [← hxk] at x0; rw [← hxr] at x1; rw [← hxc] at x2; rw [← hn1] at x3; rw [← hn2] at x4
      rw [← hyk] at y0; rw [← hyr] at y1; rw [← hyc] at y2; rw [← hm1] at y3; rw [← hm2] at y4
      clear hb HE hx hy hxk hxr hxc hyk hyr hyc hn1 hn2 hm1 hm2 ox1 ox2 ox3 ox4 oy1 oy2 oy3 oy4 rx1 rx2 ry1 ry2 hP hQ
      go_upto_region 6 with fail
      refine abs1 fun W1 h8 hb1 hz => ?_
      clear hz
      obtain ⟨g8, hg8⟩ : ∃ g, g = W.heap.size := ⟨_, rfl⟩
      rw [← hg8] at h8 ⊢
      clear hg8
      replace y0 := onB hb1 y0; replace y1 := onB hb1 y1; replace y2 := onB hb1 y2; replace y3 := onB hb1 y3; replace y4 := onB hb1 y4
      clear x0 x1 x2 x3 x4
      go_upto_region 7 with fail
      refine abs1 fun W2 h9 hb2 hz => ?_
      clear hz
      have b2 := hb1.trans (hb2.mono hb1.size)
      obtain ⟨g9, hg9⟩ : ∃ g, g = W1.heap.size := ⟨_, rfl⟩
      rw [← hg9] at h9 ⊢
      clear hg9
      have h82 := h8.below hb2 h8.lt
      clear y0 y1 y2 y3 y4 h8
      have z0 := h82.cell 0; have z1 := h82.cell 1; have z2 := h82.cell 2; have z3 := h82.cell 3; have z4 := h82.cell 4
      have u0 := h9.cell 0; have u1 := h9.cell 1; have u2 := h9.cell 2; have u3 := h9.cell 3; have u4 := h9.cell 4
      have HE2 := hideC (HEN.out W2 b2)
      go_wp2_with fail
      refine HE2.out.mono ?_
      rintro e W3 ⟨rfl, hb3⟩
      have b3 := b2.trans (hb3.mono b2.size)
      have bw := hbW.trans (b3.mono hbW.size)
      clear z0 z1 z2 z3 z4 u0 u1 u2 u3 u4 hb1 hb2 hb3 b2 HE2 HEN h82 h9
      cases b with
      | true =>
        have HN2 := Lib.hid (fun k (hk : k < i + 1) => (by
          by_cases e : k = i
          · subst e; rw [getD_of HX.out, getD_of HY.out]; exact HB.out
          · exact HP.out k (by omega) : eqN (P.getD k default) (Q.getD k default) = true))
        go_wp2_with fail
        exact ⟨i + 1, rfl, ⟨by omega, by first | rfl | trivial, bw, HN2.out⟩, by omega⟩
      | false =>
        have HRE := Lib.hid (show r = false by rw [HR.out]; exact eqNs_no HX.out HY.out HB.out)
        go_wp2_with fail
        go_ret
        exact ⟨by rw [HRE.out]; rfl, bw⟩
    · obtain rfl : i = n := by omega
      have HRE := Lib.hid (show r = true by rw [HR.out]; exact eqNs_yes HLL.out fun k hk => HP.out k (by have := HN.out; omega))
      go_wp2_with fail
      go_ret
      exact ⟨by rw [HRE.out]; rfl, hbW⟩
  · have HRE := Lib.hid (show r = false by rw [HR.out]; unfold eqNs; rw [decide_eq_false hll]; rfl)
    have hli : ¬ (P.length : Int) = (Q.length : Int) := by omega
    have hlb : ((P.length : Int) != (Q.length : Int)) = true := by rw [bne_iff_ne]; exact hli
    clear hll
    go_wp2_with fail
    go_ret
    exact ⟨by rw [HRE.out]; rfl, Below.refl _ _⟩

set_option maxRecDepth 100000 in
set_option maxHeartbeats 8000000 in
theorem eqnode_rank (kx rx cx ky ry cy : Int) (xs ys : List Int) (l m : List (Int × Int)) (A B A2 B2 : Option Addr) (n n' c c' k2 k2' d d' : Nat) (w : World) (hn : xs.length = n) (hn' : ys.length = n') (h1 : Row w A (xs.map (.int .i64))) (h2 : Row w B (ys.map (.int .i64))) (hp : IsPairs w (.slice A2 k2 d) l) (hq : IsPairs w (.slice B2 k2' d') m) (hxl : n ≤ 1000000) (hyl : n' ≤ 1000000) :
    Calls Tryd.prog 51 #[.agg #[.int .u8 kx, .int .i64 rx, .int .i64 cx, .slice A n c, .slice A2 k2 d], .agg #[.int .u8 ky, .int .i64 ry, .int .i64 cy, .slice B n' c', .slice B2 k2' d']] w fun e w' =>
      e = .returned (.bool (decide (kx = ky) && decide (rx = ry) && decide (cx = cy) && decide (xs = ys) && decide (l = m))) ∧ Below w.heap.size w w' := by
  obtain ⟨r, hr⟩ : ∃ r, r = (decide (kx = ky) && decide (rx = ry) && decide (cx = cy) && decide (xs = ys) && decide (l = m)) := ⟨_, rfl⟩
  rw [← hr]
  have HR := Lib.hid hr
  clear hr
  go_enter Tryd.func51, Tryd.ntmps51
  go_upto_region 1 with fail
  refine abs2 fun w1 hX hY hb hz => ?_
  clear hz
  have HS := fun W b (hW : Below w1.heap.size w1 W) (hbb : decide (xs = ys) = b) => seq_is (c := c) (d := c') hbb hn hn' (h1.below (hb.trans (hW.mono hb.size))) (h2.below (hb.trans (hW.mono hb.size))) hxl hyl
  have HP := fun W b (hW : Below w1.heap.size w1 W) (hbb : decide (l = m) = b) => eqp_is hbb (hp.below (hb.trans (hW.mono hb.size))) (hq.below (hb.trans (hW.mono hb.size)))
  have HS2 := Lib.hid HS; have HP2 := Lib.hid HP
  obtain ⟨X, hXe⟩ : ∃ X, X = w.heap.size := ⟨_, rfl⟩
  rw [← hXe] at hX hY ⊢
  clear HS HP hn hn' h1 h2 hp hq hxl hyl hXe
  have x0 := hX.cell 0; have x1 := hX.cell 1; have x2 := hX.cell 2; have x3 := hX.cell 3; have x4 := hX.cell 4
  have y0 := hY.cell 0; have y1 := hY.cell 1; have y2 := hY.cell 2; have y3 := hY.cell 3; have y4 := hY.cell 4
  by_cases e1 : kx = ky
  · subst e1
    by_cases e2 : rx = ry
    · subst e2
      by_cases e3 : cx = cy
      · subst e3
        obtain ⟨b4, hb4⟩ : ∃ b, decide (xs = ys) = b := ⟨_, rfl⟩
        have HS3 := hideC (HS2.out w1 b4 (Below.refl _ _) hb4)
        obtain ⟨b5, hb5⟩ : ∃ b, decide (l = m) = b := ⟨_, rfl⟩
        have hre : r = (b4 && b5) := by rw [HR.out, hb4, hb5]; simp
        have HRE := Lib.hid hre
        have HB5 := Lib.hid hb5
        clear hb4 hre HR HS2 hb5
        cases b4 with
        | false =>
          go_wp2_with fail
          refine HS3.out.mono ?_
          rintro e w2 ⟨rfl, hb2⟩
          go_wp2_with fail
          go_ret
          exact ⟨by rw [HRE.out]; rfl, hb.trans (hb2.mono hb.size)⟩
        | true =>
          go_wp2_with fail
          refine HS3.out.mono ?_
          rintro e w2 ⟨rfl, hb2⟩
          have HP3 := hideC (HP2.out w2 b5 hb2 HB5.out)
          replace x4 := onB hb2 x4
          replace y4 := onB hb2 y4
          clear x0 x1 x2 x3 y0 y1 y2 y3 HP2
          go_wp2_with fail
          refine HP3.out.mono ?_
          rintro e w3 ⟨rfl, hb3⟩
          go_wp2_with fail
          go_ret
          exact ⟨by rw [HRE.out]; rfl, hb.trans ((hb2.trans (hb3.mono hb2.size)).mono hb.size)⟩
      · have hre : r = false := by rw [HR.out, decide_eq_false e3]; simp
        have HRE := Lib.hid hre
        have e3b : (cx == cy) = false := by rw [beq_eq_false_iff_ne]; exact e3
        clear hre HR
        go_wp2_with fail
        go_ret
        exact ⟨by rw [HRE.out]; rfl, hb⟩
    · have hre : r = false := by rw [HR.out, decide_eq_false e2]; simp
      have HRE := Lib.hid hre
      have e2b : (rx == ry) = false := by rw [beq_eq_false_iff_ne]; exact e2
      clear hre HR
      go_wp2_with fail
      go_ret
      exact ⟨by rw [HRE.out]; rfl, hb⟩
  · have hre : r = false := by rw [HR.out, decide_eq_false e1]; simp
    have HRE := Lib.hid hre
    have e1b : (kx == ky) = false := by rw [beq_eq_false_iff_ne]; exact e1
    clear hre HR
    go_wp2_with fail
    go_ret
    exact ⟨by rw [HRE.out]; rfl, hb⟩
/-- The function that is handed on. -/
def fnv_rank : Value := .func (.func 51) #[] #[]
set_option maxRecDepth 100000 in
set_option maxHeartbeats 8000000 in
theorem eqf_rank (A B : Option Addr) (c d : Nat) (P Q : List Nd) (w : World) (hP : IsNodes w A P) (hQ : IsNodes w B Q) (hPo : ∀ x ∈ P, NdOK x) (hQo : ∀ x ∈ Q, NdOK x) (hPl : P.length ≤ 100000000) (hQl : Q.length ≤ 100000000) :
    Calls Tryd.prog 50 #[.slice A P.length c, .slice B Q.length d, .func (.func 51) #[] #[]] w fun e w' => e = .returned (.bool (eqNs P Q)) ∧ Below w.heap.size w w' := by
  obtain ⟨r, hr⟩ : ∃ r, r = eqNs P Q := ⟨_, rfl⟩
  rw [← hr]
  have HR := Lib.hid hr
  have HPO := Lib.hid hPo; have HQO := Lib.hid hQo
  clear hr hPo hQo
  go_enter Tryd.func50, Tryd.ntmps50
  by_cases hll : P.length = Q.length
  · have HLL := Lib.hid hll
    obtain ⟨n, hn⟩ : ∃ n, n = P.length := ⟨_, rfl⟩
    rw [← hll] at hQl ⊢
    rw [← hn] at hPl hQl ⊢
    have HN := Lib.hid hn
    clear hll hn
    go_wp2_with fail
    refine wp_loopF (β := Nat) (fun i f => #[.slice A n c, .slice B n d, fnv_rank, f 3, f 4, f 5, .bool false, f 7, f 8, f 9, f 10, f 11, f 12, f 13, f 14, .slice A n c, .int .i64 (n : Int), .int .i64 (i : Int), f 18, f 19, f 20, f 21, f 22, f 23, f 24, f 25, f 26, f 27, f 28, f 29, f 30, f 31])
      (fun i ds W => i ≤ n ∧ ds = [] ∧ Below w.heap.size w W ∧ ∀ k, k < i → eqN (P.getD k default) (Q.getD k default) = true) (fun i => n - i) 0 rfl ⟨Nat.zero_le _, rfl, Below.refl _ _, fun k hk => by omega⟩ ?_
    rintro i f ds W ⟨hi, rfl, hbW, hpre⟩
    dsimp only at hi ⊢
    unfold fnv_rank
    have HP := Lib.hid hpre
    clear hpre
    by_cases hlt : i < n
    · obtain ⟨x, hx⟩ : ∃ x, P[i]? = some x := ⟨_, List.getElem?_eq_getElem (by have := HN.out; omega)⟩
      obtain ⟨y, hy⟩ : ∃ y, Q[i]? = some y := ⟨_, List.getElem?_eq_getElem (by have := HN.out; have := HLL.out; omega)⟩
      obtain ⟨gx, ox, A1, k1, A2, k2, rfl, lgx, x0, x1, x2, x3, x4, hx1, hx2, -, -, -⟩ := nodes_at (hP.below hbW) hx
      obtain ⟨gy, oy, B1, l1, B2, l2, rfl, lgy, y0, y1, y2, y3, y4, hy1, hy2, -, -, -⟩ := nodes_at (hQ.below hbW) hy
      obtain ⟨ox1, ox2, ox3, ox4⟩ := HPO.out x (List.mem_of_getElem? hx)
      obtain ⟨oy1, oy2, oy3, oy4⟩ := HQO.out y (List.mem_of_getElem? hy)
      have HX := Lib.hid hx; have HY := Lib.hid hy
      have rx1 := hx1; have ry1 := hy1; have rx2 := hx2; have ry2 := hy2
      clear hx1 hx2 hy1 hy2
      have HE : eqN x y = (decide (x.kind = y.kind) && decide (x.row = y.row) && decide (x.col = y.col) && decide (x.ch = y.ch) && decide (x.cells = y.cells)) := rfl
      have HEN := Lib.hid (fun V (hV : Below W.heap.size W V) => (by rw [HE]; exact eqnode_rank x.kind x.row x.col y.kind y.row y.col x.ch y.ch x.cells y.cells A1 B1 A2 B2 x.ch.length y.ch.length k1 l1 x.cells.length y.cells.length k2 l2 V rfl rfl (rx1.below hV) (ry1.below hV) (rx2.below hV) (ry2.below hV) ox1 oy1 :
        Calls Tryd.prog 51 #[.agg #[.int .u8 x.kind, .int .i64 x.row, .int .i64 x.col, .slice A1 x.ch.length k1, .slice A2 x.cells.length k2], .agg #[.int .u8 y.kind, .int .i64 y.row, .int .i64 y.col, .slice B1 y.ch.length l1, .slice B2 y.cells.length l2]] V fun e w' => e = .returned (.bool (eqN x y)) ∧ Below V.heap.size V w'))
      obtain ⟨b, hb⟩ : ∃ b, eqN x y = b := ⟨_, rfl⟩
      rw [hb] at HEN
      have HB := Lib.hid hb
      obtain ⟨xk, hxk⟩ : ∃ z, z = x.kind := ⟨_, rfl⟩
      obtain ⟨xr, hxr⟩ : ∃ z, z = x.row := ⟨_, rfl⟩
      obtain ⟨xc, hxc⟩ : ∃ z, z = x.col := ⟨_, rfl⟩
      obtain ⟨yk, hyk⟩ : ∃ z, z = y.kind := ⟨_, rfl⟩
      obtain ⟨yr, hyr⟩ : ∃ z, z = y.row := ⟨_, rfl⟩
      obtain ⟨yc, hyc⟩ : ∃ z, z = y.col := ⟨_, rfl⟩
      obtain ⟨n1, hn1⟩ : ∃ z, z = x.ch.length := ⟨_, rfl⟩
      obtain ⟨n2, hn2⟩ : ∃ z, z = x.cells.length := ⟨_, rfl⟩
      obtain ⟨m1, hm1⟩ : ∃ z, z = y.ch.length := ⟨_, rfl⟩
      obtain ⟨m2, hm2⟩ : ∃ z, z = y.cells.length := ⟨_, rfl⟩
      rw [← hxk, ← hxr, ← hxc, ← hyk, ← hyr, ← hyc, ← hn1, ← hn2, ← hm1, ← hm2] at HEN
      rw [← hxk] at x0; rw [← hxr] at x1; rw [← hxc] at x2; rw [← hn1] at x3; rw [← hn2] at x4
      rw [← hyk] at y0; rw [← hyr] at y1; rw [← hyc] at y2; rw [← hm1] at y3; rw [← hm2] at y4
      clear hb HE hx hy hxk hxr hxc hyk hyr hyc hn1 hn2 hm1 hm2 ox1 ox2 ox3 ox4 oy1 oy2 oy3 oy4 rx1 rx2 ry1 ry2 hP hQ
      go_upto_region 6 with fail
      refine abs1 fun W1 h8 hb1 hz => ?_
      clear hz
      obtain ⟨g8, hg8⟩ : ∃ g, g = W.heap.size := ⟨_, rfl⟩
      rw [← hg8] at h8 ⊢
      clear hg8
      replace y0 := onB hb1 y0; replace y1 := onB hb1 y1; replace y2 := onB hb1 y2; replace y3 := onB hb1 y3; replace y4 := onB hb1 y4
      clear x0 x1 x2 x3 x4
      go_upto_region 7 with fail
      refine abs1 fun W2 h9 hb2 hz => ?_
      clear hz
      have b2 := hb1.trans (hb2.mono hb1.size)
      obtain ⟨g9, hg9⟩ : ∃ g, g = W1.heap.size := ⟨_, rfl⟩
      rw [← hg9] at h9 ⊢
      clear hg9
      have h82 := h8.below hb2 h8.lt
      clear y0 y1 y2 y3 y4 h8
      have z0 := h82.cell 0; have z1 := h82.cell 1; have z2 := h82.cell 2; have z3 := h82.cell 3; have z4 := h82.cell 4
      have u0 := h9.cell 0; have u1 := h9.cell 1; have u2 := h9.cell 2; have u3 := h9.cell 3; have u4 := h9.cell 4
      have HE2 := hideC (HEN.out W2 b2)
      go_wp2_with fail
      refine HE2.out.mono ?_
      rintro e W3 ⟨rfl, hb3⟩
      have b3 := b2.trans (hb3.mono b2.size)
      have bw := hbW.trans (b3.mono hbW.size)
      clear z0 z1 z2 z3 z4 u0 u1 u2 u3 u4 hb1 hb2 hb3 b2 HE2 HEN h82 h9
      cases b with
      | true =>
        have HN2 := Lib.hid (fun k (hk : k < i + 1) => (by
          by_cases e : k = i
          · subst e; rw [getD_of HX.out, getD_of HY.out]; exact HB.out
          · exact HP.out k (by omega) : eqN (P.getD k default) (Q.getD k default) = true))
        go_wp2_with fail
        exact ⟨i + 1, rfl, ⟨by omega, by first | rfl | trivial, bw, HN2.out⟩, by omega⟩
      | false =>
        have HRE := Lib.hid (show r = false by rw [HR.out]; exact eqNs_no HX.out HY.out HB.out)
        go_wp2_with fail
        go_ret
        exact ⟨by rw [HRE.out]; rfl, bw⟩
    · obtain rfl : i = n := by omega
      have HRE := Lib.hid (show r = true by rw [HR.out]; exact eqNs_yes HLL.out fun k hk => HP.out k (by have := HN.out; omega))
      go_wp2_with fail
      go_ret
      exact ⟨by rw [HRE.out]; rfl, hbW⟩
  · have HRE := Lib.hid (show r = false by rw [HR.out]; unfold eqNs; rw [decide_eq_false hll]; rfl)
    have hli : ¬ (P.length : Int) = (Q.length : Int) := by omega
    have hlb : ((P.length : Int) != (Q.length : Int)) = true := by rw [bne_iff_ne]; exact hli
    clear hll
    go_wp2_with fail
    go_ret
    exact ⟨by rw [HRE.out]; rfl, Below.refl _ _⟩

end Go.Proofs.YtlehoomnddcblaaDoor
