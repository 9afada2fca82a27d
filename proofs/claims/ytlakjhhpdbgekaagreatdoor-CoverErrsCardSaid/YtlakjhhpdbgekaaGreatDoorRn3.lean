/-
  Lists of nodes; rank.form: the first node whose form is wrong.
-/
import Derived.Test.YtlakjhhpdbgekaaGreatDoorRnA
import Derived.Test.YtlakjhhpdbgekaaGreatDoorRef
namespace Go.Proofs.YtlakjhhpdbgekaaGreatDoor
open Go.RowKit

/-- The cells of a node. -/
def NodeAt (w : World) (vs : List Value) (x : Nd) : Prop := ∃ (A1 : Option Addr) (c1 : Nat) (A2 : Option Addr) (c2 : Nat), vs = [.int .u8 x.kind, .int .i64 x.row, .int .i64 x.col, .slice A1 x.ch.length c1, .slice A2 x.cells.length c2] ∧
  Row w A1 (x.ch.map (.int .i64)) ∧ Row w A2 (cellsP x.cells) ∧ x.cells.length ≤ c2 ∧ x.cells.length ≤ 1000000 ∧ x.ch.length ≤ 1000000 ∧ 0 ≤ x.kind ∧ x.kind ≤ 255
theorem NodeAt.below {w w' : World} {vs : List Value} {x : Nd} (h : NodeAt w vs x) (hb : Below w.heap.size w w') : NodeAt w' vs x := by
  obtain ⟨A1, c1, A2, c2, h1, h2, h3, h4⟩ := h
  exact ⟨A1, c1, A2, c2, h1, h2.below hb, h3.below hb, h4⟩
theorem NodeAt.len {w : World} {vs : List Value} {x : Nd} (h : NodeAt w vs x) : vs.length = 5 := by
  obtain ⟨A1, c1, A2, c2, rfl, _⟩ := h; rfl
def IsNodes (w : World) (A : Option Addr) (P : List Nd) : Prop := ∃ vss : List (List Value), vss.length = P.length ∧ (∀ (k : Nat) x, P[k]? = some x → ∃ vs, vss[k]? = some vs ∧ NodeAt w vs x) ∧ Row w A vss.flatten
theorem IsNodes.below {w w' : World} {A : Option Addr} {P : List Nd} (h : IsNodes w A P) (hb : Below w.heap.size w w') : IsNodes w' A P := by
  obtain ⟨vss, h1, h2, h3⟩ := h
  exact ⟨vss, h1, fun k x hx => by obtain ⟨vs, a, b⟩ := h2 k x hx; exact ⟨vs, a, b.below hb⟩, h3.below hb⟩
theorem flatten5 : ∀ (vss : List (List Value)), (∀ vs ∈ vss, vs.length = 5) → ∀ (k r : Nat) (vs : List Value), vss[k]? = some vs → r < 5 → vss.flatten[k * 5 + r]? = vs[r]?
  | [], _, _, _, _, h, _ => by simp at h
  | a :: l, h5, 0, r, vs, h, hr => by
    obtain rfl : a = vs := by simpa using h
    have := h5 a (by simp)
    rw [List.flatten_cons, Nat.zero_mul, Nat.zero_add, List.getElem?_append_left (by omega)]
  | a :: l, h5, k + 1, r, vs, h, hr => by
    have ha := h5 a (by simp)
    rw [List.flatten_cons, List.getElem?_append_right (by omega), ha, show (k + 1) * 5 + r - 5 = k * 5 + r by omega]
    exact flatten5 l (fun x hx => h5 x (by simp [hx])) k r vs (by simpa using h) hr
theorem nodes_at {w : World} {A : Option Addr} {P : List Nd} (h : IsNodes w A P) {k : Nat} {x : Nd} (hk : P[k]? = some x) :
    ∃ (g off : Nat) (A1 : Option Addr) (c1 : Nat) (A2 : Option Addr) (c2 : Nat), A = some ⟨g, off, none⟩ ∧ g < w.heap.size ∧ w.cell? ⟨g, off + k * 5, none⟩ = some (.int .u8 x.kind) ∧ w.cell? ⟨g, off + k * 5 + 1, none⟩ = some (.int .i64 x.row) ∧ w.cell? ⟨g, off + k * 5 + 2, none⟩ = some (.int .i64 x.col) ∧
      w.cell? ⟨g, off + k * 5 + 3, none⟩ = some (.slice A1 x.ch.length c1) ∧ w.cell? ⟨g, off + k * 5 + 4, none⟩ = some (.slice A2 x.cells.length c2) ∧
      Row w A1 (x.ch.map (.int .i64)) ∧ IsPairs w (.slice A2 x.cells.length c2) x.cells ∧ x.ch.length ≤ 1000000 ∧ 0 ≤ x.kind ∧ x.kind ≤ 255 := by
  obtain ⟨vss, h1, h2, h3⟩ := h
  obtain ⟨vs, hv, A1, c1, A2, c2, rfl, r1, r2, r3, r4, r5, r6, r7⟩ := h2 k x hk
  have h5 : ∀ vs ∈ vss, vs.length = 5 := fun vs hvs => by
    obtain ⟨i, hi, e⟩ := List.getElem_of_mem hvs
    obtain ⟨vs', e', hn⟩ := h2 i _ (List.getElem?_eq_getElem (by omega))
    rw [List.getElem?_eq_getElem hi, Option.some.injEq] at e'
    rw [← e, e']; exact hn.len
  have hkl : k < vss.length := (List.getElem?_eq_some_iff.1 hv).1
  have hne : 0 < vss.flatten.length := by
    have hz : vss.flatten[k * 5 + 0]? = some (.int .u8 x.kind) := flatten5 vss h5 k 0 _ hv (by omega)
    have := (List.getElem?_eq_some_iff.1 hz).1
    omega
  obtain ⟨g, off, rfl, hg, hc⟩ := h3 hne
  have hcell : ∀ r u, r < 5 → ([.int .u8 x.kind, .int .i64 x.row, .int .i64 x.col, .slice A1 x.ch.length c1, .slice A2 x.cells.length c2] : List Value)[r]? = some u → w.cell? ⟨g, off + (k * 5 + r), none⟩ = some u := fun r u hr hu =>
    hc _ _ ((flatten5 vss h5 k r _ hv hr).trans hu)
  exact ⟨g, off, A1, c1, A2, c2, rfl, hg, hcell 0 _ (by omega) rfl, hcell 1 _ (by omega) rfl, hcell 2 _ (by omega) rfl, hcell 3 _ (by omega) rfl, hcell 4 _ (by omega) rfl, r1, ⟨A2, c2, rfl, r2, r3, r4⟩, r5, r6, r7⟩
/-- The children of the nodes before the node n. -/
def earl (P : List Nd) (n : Nat) : List Int := (P.take n).flatMap Nd.ch
theorem earl_succ {P : List Nd} {n : Nat} {x : Nd} (h : P[n]? = some x) : earl P (n + 1) = earl P n ++ x.ch := by
  unfold earl; rw [List.take_add_one, h]; simp
/-- The i-th child of the node n is no child. -/
def badC (P : List Nd) (n : Nat) (E : List Int) (c : Int) : Bool := decide (c ≤ n) || decide ((P.length : Int) ≤ c) || decide (c ∈ E)
def badH (P : List Nd) (n : Nat) (x : Nd) : Bool := decide (x.kind < 1) || decide (3 < x.kind) || (decide (x.kind ≠ 1) && decide (0 < x.ch.length)) || (decide (0 < n) && !decide ((n : Int) ∈ earl P n))
def badN (P : List Nd) (n : Nat) : Bool := badH P n (P.getD n default) || (List.range (P.getD n default).ch.length).any fun i => badC P n (earl P n ++ (P.getD n default).ch.take i) ((P.getD n default).ch.getD i 0)
/-- The flags of the numbers that are some node's children. -/
def flagsV (L : Nat) (E : List Int) : Array Value := ((List.range L).map fun c : Nat => Value.bool (decide ((c : Int) ∈ E))).toArray
theorem flagsV_get {L c : Nat} (h : c < L) (E : List Int) : (flagsV L E)[c]? = some (.bool (decide ((c : Int) ∈ E))) := by
  simp [flagsV, h]
theorem flagsV_zero (L : Nat) : zeros (.bool false) L = flagsV L [] := by
  rw [zeros_bools]; unfold flagsV; simp
theorem flagsV_set (L c : Nat) (E : List Int) : (flagsV L E).setIfInBounds c (.bool true) = flagsV L (E ++ [(c : Int)]) := by
  apply Array.ext_getElem?
  intro i
  rw [Array.getElem?_setIfInBounds]
  by_cases hi : i < L
  · rw [flagsV_get hi, flagsV_get hi]
    by_cases e : c = i
    · subst e; simp [flagsV, hi]
    · rw [if_neg e]
      have : ¬ (i : Int) = (c : Int) := fun h => e (by omega)
      simp [this]
  · have h1 : ∀ E', (flagsV L E')[i]? = none := fun E' => by rw [Array.getElem?_eq_none]; simp [flagsV]; omega
    rw [h1, h1]
    split
    · rw [if_neg (by simp [flagsV]; omega)]
    · rfl
theorem badH_parts {P : List Nd} {n : Nat} {x : Nd} (h : badH P n x = false) : 1 ≤ x.kind ∧ x.kind ≤ 3 ∧ (x.kind ≠ 1 → x.ch.length = 0) ∧ (0 < n → (n : Int) ∈ earl P n) := by
  unfold badH at h
  simp only [Bool.or_eq_false_iff, Bool.and_eq_false_imp, decide_eq_true_eq, decide_eq_false_iff_not, Bool.not_eq_false'] at h
  obtain ⟨⟨⟨h1, h2⟩, h3⟩, h4⟩ := h
  exact ⟨by omega, by omega, fun hk => by have := h3 hk; omega, fun hn => h4 hn⟩
set_option maxRecDepth 100000 in
set_option maxHeartbeats 8000000 in
theorem form_any (A : Option Addr) (c0 : Nat) (P : List Nd) (w : World) (h : IsNodes w A P) (hP : P.length ≤ 5000) :
    Calls Tryz.prog 91 #[.slice A P.length c0] w fun e w' => ∃ r : Int, e = .returned (.int .i64 r) ∧ ((r = -1 ∧ ∀ n, n < P.length → badN P n = false) ∨ ∃ n : Nat, n < P.length ∧ r = n ∧ badN P n = true ∧ ∀ m, m < n → badN P m = false) ∧ Below w.heap.size w w' := by
  obtain ⟨i0, hi0, hz0, hz1, hz2⟩ := info_parts info_bools
  have hmk := fun W => make_run (P := Tryz.prog) 89 4 _ 1 Tryz.underlying89 info_bool rfl P.length (by omega) (by omega) W
  go_enter Tryz.func91, Tryz.ntmps91
  go_wp2_with fail
  rw [flagsV_zero]
  refine abs1 fun W0 hQ hb0 hz => ?_
  obtain ⟨q, hq⟩ : ∃ q, q = w.heap.size := ⟨_, rfl⟩
  have hqw : w.heap.size ≤ q := by omega
  rw [← hq] at hQ ⊢
  clear hq hz hmk
  refine wp_loopF (β := Nat) (fun n f => #[.slice A P.length c0, f 1, .int .i64 0, .slice (some ⟨q, 0, none⟩) P.length P.length, f 4, f 5, f 6, f 7, f 8, f 9, f 10, .slice A P.length c0, .int .i64 (P.length : Int), .int .i64 (n : Int), f 14, f 15, f 16, f 17, f 18, f 19, f 20, f 21, f 22, f 23, f 24, f 25, f 26, f 27, f 28, f 29, f 30, f 31, f 32, f 33, f 34, f 35, f 36, f 37, f 38, f 39, f 40, f 41, f 42, f 43, f 44, f 45, f 46, f 47, f 48, f 49, f 50, f 51, f 52, f 53, f 54, f 55, f 56, f 57, f 58, f 59, f 60, f 61, f 62, f 63, f 64, f 65, f 66, f 67, f 68, f 69, f 70, f 71, f 72, f 73, f 74, f 75, f 76])
    (fun n ds W => n ≤ P.length ∧ ds = [] ∧ Below w.heap.size w W ∧ Blk W q 4 (flagsV P.length (earl P n)) ∧ ∀ m, m < n → badN P m = false) (fun n => P.length - n) 0 rfl
    ⟨Nat.zero_le _, rfl, hb0, hQ, fun m hm => by omega⟩ ?_
  rintro n f ds W ⟨hn, rfl, hb, hQn, hgood⟩
  dsimp only at hn ⊢
  have HG := Lib.hid hgood
  clear hgood
  by_cases hlt : n < P.length
  · obtain ⟨x, hx⟩ : ∃ x, P[n]? = some x := ⟨_, List.getElem?_eq_getElem hlt⟩
    have hxd : P.getD n default = x := by rw [List.getD_eq_getElem?_getD, hx]; rfl
    obtain ⟨g, off, A1, c1, A2, c2, rfl, hg, n0, n1, n2, n3, n4, hch, hps, hchl, hk0, hk255⟩ := nodes_at h hx
    have m0 := onB hb n0; have m1 := onB hb n1; have m2 := onB hb n2; have m3 := onB hb n3; have m4 := onB hb n4
    have hgW : g < W.heap.size := Nat.lt_of_lt_of_le hg hb.size
    have fq := (hQn.cell n).trans (flagsV_get hlt _)
    have lq := hQn.lt
    have hbad : badN P n = (badH P n x || (List.range x.ch.length).any fun i => badC P n (earl P n ++ x.ch.take i) (x.ch.getD i 0)) := by unfold badN; rw [hxd]
    have HB := Lib.hid hbad
    have hes := earl_succ hx
    have HES := Lib.hid hes
    clear hbad hes hxd
    have HX := Lib.hid hx
    clear hx
    obtain ⟨kd, hkd⟩ : ∃ k : Int, k = x.kind := ⟨_, rfl⟩
    have hbh : badH P n x = (decide (kd < 1) || decide (3 < kd) || (decide (kd ≠ 1) && decide (0 < x.ch.length)) || (decide (0 < n) && !decide ((n : Int) ∈ earl P n))) := by unfold badH; rw [hkd]
    rw [← hkd] at m0
    clear n0 n1 n2 n3 n4
    have HBH := Lib.hid hbh
    clear hkd hbh hk0 hk255
    obtain ⟨cl, hcl⟩ : ∃ b, b = decide ((n : Int) ∈ earl P n) := ⟨_, rfl⟩
    rw [← hcl] at fq
    have HCL := Lib.hid hcl
    clear hcl
    by_cases k1 : kd < 1
    · have hh : badN P n = true := by rw [HB.out, HBH.out]; first | (simp; done) | (simp; omega)
      have HH := Lib.hid hh
      clear hh
      go_wp2_with fail
      go_ret
      exact ⟨(n : Int), rfl, Or.inr ⟨n, hlt, rfl, HH.out, HG.out⟩, hb.alloc hb.size _⟩
    by_cases k3 : 3 < kd
    · have hh : badN P n = true := by rw [HB.out, HBH.out]; first | (simp; done) | (simp; omega)
      have HH := Lib.hid hh
      clear hh
      go_wp2_with fail
      go_ret
      exact ⟨(n : Int), rfl, Or.inr ⟨n, hlt, rfl, HH.out, HG.out⟩, hb.alloc hb.size _⟩
    by_cases ke : kd = 1
    · subst ke
      rcases Nat.eq_zero_or_pos n with hn0 | hn0
      · subst hn0
        simp only [Nat.zero_mul, Nat.add_zero] at m0 m1 m2 m3 m4
        have hhd : badH P (0 : Nat) x = false := by
          have e3 : (decide ((1 : Int) ≠ 1) && decide (0 < x.ch.length)) = false := by simp
          have e4 : (decide (0 < (0 : Nat)) && !cl) = false := by simp
          rw [HBH.out, ← HCL.out, decide_eq_false k1, decide_eq_false k3, e3, e4]; rfl
        have HHD := Lib.hid hhd
        clear hhd
        go_wp2_with fail
        refine abs1 fun W1 hX1 hb1 hz1 => ?_
        have hbW := hb.trans (hb1.mono hb.size)
        have hQ1 := hQn.below hb1 hQn.lt
        clear hz1
        refine wp_loopF (β := Nat) (fun i f => #[.slice (some ⟨g, off, none⟩) P.length c0, f 1, .int .i64 0, .slice (some ⟨q, 0, none⟩) P.length P.length, .int .i64 ((0 : Nat) : Int), f 5, f 6, f 7, f 8, f 9, f 10, .slice (some ⟨g, off, none⟩) P.length c0, .int .i64 (P.length : Int), .int .i64 ((0 : Nat) : Int), f 14, f 15, f 16, f 17, f 18, f 19, f 20, f 21, f 22, f 23, f 24, f 25, f 26, f 27, f 28, f 29, f 30, f 31, f 32, f 33, f 34, f 35, f 36, f 37, f 38, f 39, f 40, f 41, f 42, f 43, f 44, f 45, f 46, f 47, f 48, f 49, .slice A1 x.ch.length c1, .int .i64 (x.ch.length : Int), .int .i64 (i : Int), f 53, f 54, f 55, f 56, f 57, f 58, f 59, f 60, f 61, f 62, f 63, f 64, f 65, f 66, f 67, f 68, f 69, f 70, f 71, f 72, f 73, f 74, f 75, f 76])
          (fun i ds V => i ≤ x.ch.length ∧ ds = [] ∧ Below w.heap.size w V ∧ Blk V q 4 (flagsV P.length (earl P (0 : Nat) ++ x.ch.take i)) ∧ ∀ k, k < i → badC P (0 : Nat) (earl P (0 : Nat) ++ x.ch.take k) (x.ch.getD k 0) = false) (fun i => x.ch.length - i) 0 rfl
          ⟨Nat.zero_le _, rfl, hbW, by rw [List.take_zero, List.append_nil]; exact hQ1, fun k hk => by omega⟩ ?_
        rintro i f ds V ⟨hi, rfl, hbV, hQV, hgk⟩
        dsimp only at hi ⊢
        have HGK := Lib.hid hgk
        clear hgk
        by_cases hic : i < x.ch.length
        · obtain ⟨c, hc⟩ : ∃ c, x.ch[i]? = some c := ⟨_, List.getElem?_eq_getElem hic⟩
          have hcd : x.ch.getD i 0 = c := by rw [List.getD_eq_getElem?_getD, hc]; rfl
          have htk : x.ch.take (i + 1) = x.ch.take i ++ [c] := by rw [List.take_add_one, hc]; rfl
          obtain ⟨g3, o3, rfl, hg3, hcell⟩ := (hch.below hbV) (by rw [List.length_map]; omega)
          have d0 := hcell i (.int .i64 c) (by rw [List.getElem?_map, hc]; rfl)
          have hbc : badC P (0 : Nat) (earl P (0 : Nat) ++ x.ch.take i) (x.ch.getD i 0) = (decide (c ≤ ((0 : Nat) : Int)) || decide ((P.length : Int) ≤ c) || decide (c ∈ earl P (0 : Nat) ++ x.ch.take i)) := by rw [hcd]; rfl
          have HBC := Lib.hid hbc
          have HTK := Lib.hid htk
          have hret : badC P (0 : Nat) (earl P (0 : Nat) ++ x.ch.take i) (x.ch.getD i 0) = true → badN P (0 : Nat) = true := fun h => by
            rw [HB.out, Bool.or_eq_true, List.any_eq_true]
            exact Or.inr ⟨i, List.mem_range.2 hic, h⟩
          have HRET := Lib.hid hret
          clear hret hbc htk hcd hc hcell
          by_cases h1 : c ≤ ((0 : Nat) : Int)
          · have hh : badN P (0 : Nat) = true := HRET.out (by rw [HBC.out, decide_eq_true h1]; rfl)
            have HH := Lib.hid hh
            clear hh
            go_wp2_with fail
            go_ret
            exact ⟨((0 : Nat) : Int), rfl, Or.inr ⟨(0 : Nat), hlt, rfl, HH.out, HG.out⟩, hbV⟩
          · by_cases h2 : (P.length : Int) ≤ c
            · have hh : badN P (0 : Nat) = true := HRET.out (by rw [HBC.out, decide_eq_true h2, Bool.or_true]; rfl)
              have HH := Lib.hid hh
              clear hh
              go_wp2_with fail
              go_ret
              exact ⟨((0 : Nat) : Int), rfl, Or.inr ⟨(0 : Nat), hlt, rfl, HH.out, HG.out⟩, hbV⟩
            · obtain ⟨cc, rfl⟩ := Int.eq_ofNat_of_zero_le (show 0 ≤ c by omega)
              have hcl2 : cc < P.length := by omega
              have e0 := (hQV.cell cc).trans (flagsV_get hcl2 _)
              have f0 := hQV.frozen cc
              have lV := hQV.lt
              by_cases h3 : (cc : Int) ∈ earl P (0 : Nat) ++ x.ch.take i
              · rw [decide_eq_true h3] at e0
                have hh : badN P (0 : Nat) = true := HRET.out (by rw [HBC.out, decide_eq_true h3, Bool.or_true])
                have HH := Lib.hid hh
                clear hh h3
                go_wp2_with fail
                go_ret
                exact ⟨((0 : Nat) : Int), rfl, Or.inr ⟨(0 : Nat), hlt, rfl, HH.out, HG.out⟩, hbV⟩
              · rw [decide_eq_false h3] at e0
                have hno : badC P (0 : Nat) (earl P (0 : Nat) ++ x.ch.take i) (x.ch.getD i 0) = false := by rw [HBC.out, decide_eq_false h1, decide_eq_false h2, decide_eq_false h3]; rfl
                have HNO := Lib.hid hno
                have hbn : Blk (V.setCell ⟨q, cc, none⟩ (.bool true)) q 4 (flagsV P.length (earl P (0 : Nat) ++ x.ch.take (i + 1))) := by
                  rw [HTK.out, ← List.append_assoc, ← flagsV_set]
                  exact hQV.set_ cc _
                have hgn : ∀ k, k < i + 1 → badC P (0 : Nat) (earl P (0 : Nat) ++ x.ch.take k) (x.ch.getD k 0) = false := fun k hk => by
                  by_cases e : k = i
                  · subst e; exact HNO.out
                  · exact HGK.out k (by omega)
                have HGN := Lib.hid hgn
                clear hno h3 hgn
                go_wp2_with fail
                first
                  | exact ⟨i + 1, rfl, ⟨by omega, by first | rfl | trivial, hbV.setCell (p := ⟨q, cc, none⟩) hqw _, hbn, HGN.out⟩, by omega⟩
                  | exact ⟨i + 1, rfl, ⟨by omega, hbV.setCell (p := ⟨q, cc, none⟩) hqw _, hbn, HGN.out⟩, by omega⟩
                  | exact ⟨i + 1, by omega, ⟨by omega, hbV.setCell (p := ⟨q, cc, none⟩) hqw _, hbn, fun k hk => by have := HGN.out k hk; rwa [List.getD_eq_getElem?_getD] at this⟩, by omega⟩
                  -- (no other way)     
        · obtain rfl : i = x.ch.length := by omega
          have hgn : badN P (0 : Nat) = false := by
            rw [HB.out, HHD.out, Bool.false_or, Bool.eq_false_iff]
            intro hh
            rw [List.any_eq_true] at hh
            obtain ⟨k, hk, hb⟩ := hh
            rw [HGK.out k (List.mem_range.1 hk)] at hb; cases hb
          have HGN := Lib.hid hgn
          clear hgn
          rw [List.take_length, ← HES.out] at hQV
          go_wp2_with fail
          exact ⟨(0 : Nat) + 1, rfl, ⟨by omega, by first | rfl | trivial, hbV, hQV, fun m hm => by
            by_cases e : m = (0 : Nat)
            · subst e; exact HGN.out
            · exact HG.out m (by omega)⟩, by omega⟩
      · cases cl with
        | false =>
          have hh : badN P n = true := by rw [HB.out, HBH.out, ← HCL.out]; first | (simp; done) | (simp; omega)
          have HH := Lib.hid hh
          clear hh
          go_wp2_with fail
          go_ret
          exact ⟨(n : Int), rfl, Or.inr ⟨n, hlt, rfl, HH.out, HG.out⟩, hb.alloc hb.size _⟩
        | true =>
          have hhd : badH P n x = false := by
            have e3 : (decide ((1 : Int) ≠ 1) && decide (0 < x.ch.length)) = false := by simp
            have e4 : (decide (0 < n) && !true) = false := by simp
            rw [HBH.out, ← HCL.out, decide_eq_false k1, decide_eq_false k3, e3, e4]; rfl
          have HHD := Lib.hid hhd
          clear hhd
          go_wp2_with fail
          refine abs1 fun W1 hX1 hb1 hz1 => ?_
          have hbW := hb.trans (hb1.mono hb.size)
          have hQ1 := hQn.below hb1 hQn.lt
          clear hz1
          refine wp_loopF (β := Nat) (fun i f => #[.slice (some ⟨g, off, none⟩) P.length c0, f 1, .int .i64 0, .slice (some ⟨q, 0, none⟩) P.length P.length, .int .i64 (n : Int), f 5, f 6, f 7, f 8, f 9, f 10, .slice (some ⟨g, off, none⟩) P.length c0, .int .i64 (P.length : Int), .int .i64 (n : Int), f 14, f 15, f 16, f 17, f 18, f 19, f 20, f 21, f 22, f 23, f 24, f 25, f 26, f 27, f 28, f 29, f 30, f 31, f 32, f 33, f 34, f 35, f 36, f 37, f 38, f 39, f 40, f 41, f 42, f 43, f 44, f 45, f 46, f 47, f 48, f 49, .slice A1 x.ch.length c1, .int .i64 (x.ch.length : Int), .int .i64 (i : Int), f 53, f 54, f 55, f 56, f 57, f 58, f 59, f 60, f 61, f 62, f 63, f 64, f 65, f 66, f 67, f 68, f 69, f 70, f 71, f 72, f 73, f 74, f 75, f 76])
            (fun i ds V => i ≤ x.ch.length ∧ ds = [] ∧ Below w.heap.size w V ∧ Blk V q 4 (flagsV P.length (earl P n ++ x.ch.take i)) ∧ ∀ k, k < i → badC P n (earl P n ++ x.ch.take k) (x.ch.getD k 0) = false) (fun i => x.ch.length - i) 0 rfl
            ⟨Nat.zero_le _, rfl, hbW, by rw [List.take_zero, List.append_nil]; exact hQ1, fun k hk => by omega⟩ ?_
          rintro i f ds V ⟨hi, rfl, hbV, hQV, hgk⟩
          dsimp only at hi ⊢
          have HGK := Lib.hid hgk
          clear hgk
          by_cases hic : i < x.ch.length
          · obtain ⟨c, hc⟩ : ∃ c, x.ch[i]? = some c := ⟨_, List.getElem?_eq_getElem hic⟩
            have hcd : x.ch.getD i 0 = c := by rw [List.getD_eq_getElem?_getD, hc]; rfl
            have htk : x.ch.take (i + 1) = x.ch.take i ++ [c] := by rw [List.take_add_one, hc]; rfl
            obtain ⟨g3, o3, rfl, hg3, hcell⟩ := (hch.below hbV) (by rw [List.length_map]; omega)
            have d0 := hcell i (.int .i64 c) (by rw [List.getElem?_map, hc]; rfl)
            have hbc : badC P n (earl P n ++ x.ch.take i) (x.ch.getD i 0) = (decide (c ≤ (n : Int)) || decide ((P.length : Int) ≤ c) || decide (c ∈ earl P n ++ x.ch.take i)) := by rw [hcd]; rfl
            have HBC := Lib.hid hbc
            have HTK := Lib.hid htk
            have hret : badC P n (earl P n ++ x.ch.take i) (x.ch.getD i 0) = true → badN P n = true := fun h => by
              rw [HB.out, Bool.or_eq_true, List.any_eq_true]
              exact Or.inr ⟨i, List.mem_range.2 hic, h⟩
            have HRET := Lib.hid hret
            clear hret hbc htk hcd hc hcell
            by_cases h1 : c ≤ (n : Int)
            · have hh : badN P n = true := HRET.out (by rw [HBC.out, decide_eq_true h1]; rfl)
              have HH := Lib.hid hh
              clear hh
              go_wp2_with fail
              go_ret
              exact ⟨(n : Int), rfl, Or.inr ⟨n, hlt, rfl, HH.out, HG.out⟩, hbV⟩
            · by_cases h2 : (P.length : Int) ≤ c
              · have hh : badN P n = true := HRET.out (by rw [HBC.out, decide_eq_true h2, Bool.or_true]; rfl)
                have HH := Lib.hid hh
                clear hh
                go_wp2_with fail
                go_ret
                exact ⟨(n : Int), rfl, Or.inr ⟨n, hlt, rfl, HH.out, HG.out⟩, hbV⟩
              · obtain ⟨cc, rfl⟩ := Int.eq_ofNat_of_zero_le (show 0 ≤ c by omega)
                have hcl2 : cc < P.length := by omega
                have e0 := (hQV.cell cc).trans (flagsV_get hcl2 _)
                have f0 := hQV.frozen cc
                have lV := hQV.lt
                by_cases h3 : (cc : Int) ∈ earl P n ++ x.ch.take i
                · rw [decide_eq_true h3] at e0
                  have hh : badN P n = true := HRET.out (by rw [HBC.out, decide_eq_true h3, Bool.or_true])
                  have HH := Lib.hid hh
                  clear hh h3
                  go_wp2_with fail
                  go_ret
                  exact ⟨(n : Int), rfl, Or.inr ⟨n, hlt, rfl, HH.out, HG.out⟩, hbV⟩
                · rw [decide_eq_false h3] at e0
                  have hno : badC P n (earl P n ++ x.ch.take i) (x.ch.getD i 0) = false := by rw [HBC.out, decide_eq_false h1, decide_eq_false h2, decide_eq_false h3]; rfl
                  have HNO := Lib.hid hno
                  have hbn : Blk (V.setCell ⟨q, cc, none⟩ (.bool true)) q 4 (flagsV P.length (earl P n ++ x.ch.take (i + 1))) := by
                    rw [HTK.out, ← List.append_assoc, ← flagsV_set]
                    exact hQV.set_ cc _
                  have hgn : ∀ k, k < i + 1 → badC P n (earl P n ++ x.ch.take k) (x.ch.getD k 0) = false := fun k hk => by
                    by_cases e : k = i
                    · subst e; exact HNO.out
                    · exact HGK.out k (by omega)
                  have HGN := Lib.hid hgn
                  clear hno h3 hgn
                  go_wp2_with fail
                  first
                    | exact ⟨i + 1, rfl, ⟨by omega, by first | rfl | trivial, hbV.setCell (p := ⟨q, cc, none⟩) hqw _, hbn, HGN.out⟩, by omega⟩
                    | exact ⟨i + 1, rfl, ⟨by omega, hbV.setCell (p := ⟨q, cc, none⟩) hqw _, hbn, HGN.out⟩, by omega⟩
                    | exact ⟨i + 1, by omega, ⟨by omega, hbV.setCell (p := ⟨q, cc, none⟩) hqw _, hbn, fun k hk => by have := HGN.out k hk; rwa [List.getD_eq_getElem?_getD] at this⟩, by omega⟩
                    -- (no other way)     
          · obtain rfl : i = x.ch.length := by omega
            have hgn : badN P n = false := by
              rw [HB.out, HHD.out, Bool.false_or, Bool.eq_false_iff]
              intro hh
              rw [List.any_eq_true] at hh
              obtain ⟨k, hk, hb⟩ := hh
              rw [HGK.out k (List.mem_range.1 hk)] at hb; cases hb
            have HGN := Lib.hid hgn
            clear hgn
            rw [List.take_length, ← HES.out] at hQV
            go_wp2_with fail
            exact ⟨n + 1, rfl, ⟨by omega, by first | rfl | trivial, hbV, hQV, fun m hm => by
              by_cases e : m = n
              · subst e; exact HGN.out
              · exact HG.out m (by omega)⟩, by omega⟩
    · by_cases hl0 : x.ch.length = 0
      · rcases Nat.eq_zero_or_pos n with hn0 | hn0
        · subst hn0
          simp only [Nat.zero_mul, Nat.add_zero] at m0 m1 m2 m3 m4
          have hhd : badH P (0 : Nat) x = false := by
            have e3 : (decide (kd ≠ 1) && decide (0 < x.ch.length)) = false := by rw [hl0]; simp
            have e4 : (decide (0 < (0 : Nat)) && !cl) = false := by simp
            rw [HBH.out, ← HCL.out, decide_eq_false k1, decide_eq_false k3, e3, e4]; rfl
          have HHD := Lib.hid hhd
          clear hhd
          go_wp2_with fail
          refine abs1 fun W1 hX1 hb1 hz1 => ?_
          have hbW := hb.trans (hb1.mono hb.size)
          have hQ1 := hQn.below hb1 hQn.lt
          clear hz1
          refine wp_loopF (β := Nat) (fun i f => #[.slice (some ⟨g, off, none⟩) P.length c0, f 1, .int .i64 0, .slice (some ⟨q, 0, none⟩) P.length P.length, .int .i64 ((0 : Nat) : Int), f 5, f 6, f 7, f 8, f 9, f 10, .slice (some ⟨g, off, none⟩) P.length c0, .int .i64 (P.length : Int), .int .i64 ((0 : Nat) : Int), f 14, f 15, f 16, f 17, f 18, f 19, f 20, f 21, f 22, f 23, f 24, f 25, f 26, f 27, f 28, f 29, f 30, f 31, f 32, f 33, f 34, f 35, f 36, f 37, f 38, f 39, f 40, f 41, f 42, f 43, f 44, f 45, f 46, f 47, f 48, f 49, .slice A1 0 c1, .int .i64 0, .int .i64 (i : Int), f 53, f 54, f 55, f 56, f 57, f 58, f 59, f 60, f 61, f 62, f 63, f 64, f 65, f 66, f 67, f 68, f 69, f 70, f 71, f 72, f 73, f 74, f 75, f 76])
            (fun i ds V => i ≤ x.ch.length ∧ ds = [] ∧ Below w.heap.size w V ∧ Blk V q 4 (flagsV P.length (earl P (0 : Nat) ++ x.ch.take i)) ∧ ∀ k, k < i → badC P (0 : Nat) (earl P (0 : Nat) ++ x.ch.take k) (x.ch.getD k 0) = false) (fun i => x.ch.length - i) 0 rfl
            ⟨Nat.zero_le _, rfl, hbW, by rw [List.take_zero, List.append_nil]; exact hQ1, fun k hk => by omega⟩ ?_
          rintro i f ds V ⟨hi, rfl, hbV, hQV, hgk⟩
          dsimp only at hi ⊢
          have HGK := Lib.hid hgk
          clear hgk
          by_cases hic : i < x.ch.length
          · exact absurd hic (by omega)
          · obtain rfl : i = x.ch.length := by omega
            have hgn : badN P (0 : Nat) = false := by
              rw [HB.out, HHD.out, Bool.false_or, Bool.eq_false_iff]
              intro hh
              rw [List.any_eq_true] at hh
              obtain ⟨k, hk, hb⟩ := hh
              rw [HGK.out k (List.mem_range.1 hk)] at hb; cases hb
            have HGN := Lib.hid hgn
            clear hgn
            rw [List.take_length, ← HES.out] at hQV
            go_wp2_with fail
            exact ⟨(0 : Nat) + 1, rfl, ⟨by omega, by first | rfl | trivial, hbV, hQV, fun m hm => by
              by_cases e : m = (0 : Nat)
              · subst e; exact HGN.out
              · exact HG.out m (by omega)⟩, by omega⟩
        · cases cl with
          | false =>
            have hh : badN P n = true := by rw [HB.out, HBH.out, ← HCL.out]; first | (simp; done) | (simp; omega)
            have HH := Lib.hid hh
            clear hh
            go_wp2_with fail
            go_ret
            exact ⟨(n : Int), rfl, Or.inr ⟨n, hlt, rfl, HH.out, HG.out⟩, hb.alloc hb.size _⟩
          | true =>
            have hhd : badH P n x = false := by
              have e3 : (decide (kd ≠ 1) && decide (0 < x.ch.length)) = false := by rw [hl0]; simp
              have e4 : (decide (0 < n) && !true) = false := by simp
              rw [HBH.out, ← HCL.out, decide_eq_false k1, decide_eq_false k3, e3, e4]; rfl
            have HHD := Lib.hid hhd
            clear hhd
            go_wp2_with fail
            refine abs1 fun W1 hX1 hb1 hz1 => ?_
            have hbW := hb.trans (hb1.mono hb.size)
            have hQ1 := hQn.below hb1 hQn.lt
            clear hz1
            refine wp_loopF (β := Nat) (fun i f => #[.slice (some ⟨g, off, none⟩) P.length c0, f 1, .int .i64 0, .slice (some ⟨q, 0, none⟩) P.length P.length, .int .i64 (n : Int), f 5, f 6, f 7, f 8, f 9, f 10, .slice (some ⟨g, off, none⟩) P.length c0, .int .i64 (P.length : Int), .int .i64 (n : Int), f 14, f 15, f 16, f 17, f 18, f 19, f 20, f 21, f 22, f 23, f 24, f 25, f 26, f 27, f 28, f 29, f 30, f 31, f 32, f 33, f 34, f 35, f 36, f 37, f 38, f 39, f 40, f 41, f 42, f 43, f 44, f 45, f 46, f 47, f 48, f 49, .slice A1 0 c1, .int .i64 0, .int .i64 (i : Int), f 53, f 54, f 55, f 56, f 57, f 58, f 59, f 60, f 61, f 62, f 63, f 64, f 65, f 66, f 67, f 68, f 69, f 70, f 71, f 72, f 73, f 74, f 75, f 76])
              (fun i ds V => i ≤ x.ch.length ∧ ds = [] ∧ Below w.heap.size w V ∧ Blk V q 4 (flagsV P.length (earl P n ++ x.ch.take i)) ∧ ∀ k, k < i → badC P n (earl P n ++ x.ch.take k) (x.ch.getD k 0) = false) (fun i => x.ch.length - i) 0 rfl
              ⟨Nat.zero_le _, rfl, hbW, by rw [List.take_zero, List.append_nil]; exact hQ1, fun k hk => by omega⟩ ?_
            rintro i f ds V ⟨hi, rfl, hbV, hQV, hgk⟩
            dsimp only at hi ⊢
            have HGK := Lib.hid hgk
            clear hgk
            by_cases hic : i < x.ch.length
            · exact absurd hic (by omega)
            · obtain rfl : i = x.ch.length := by omega
              have hgn : badN P n = false := by
                rw [HB.out, HHD.out, Bool.false_or, Bool.eq_false_iff]
                intro hh
                rw [List.any_eq_true] at hh
                obtain ⟨k, hk, hb⟩ := hh
                rw [HGK.out k (List.mem_range.1 hk)] at hb; cases hb
              have HGN := Lib.hid hgn
              clear hgn
              rw [List.take_length, ← HES.out] at hQV
              go_wp2_with fail
              exact ⟨n + 1, rfl, ⟨by omega, by first | rfl | trivial, hbV, hQV, fun m hm => by
                by_cases e : m = n
                · subst e; exact HGN.out
                · exact HG.out m (by omega)⟩, by omega⟩
      · have hpos : 0 < x.ch.length := by omega
        have hh : badN P n = true := by rw [HB.out, HBH.out]; first | (simp; done) | (simp; omega)
        have HH := Lib.hid hh
        clear hh
        go_wp2_with fail
        go_ret
        exact ⟨(n : Int), rfl, Or.inr ⟨n, hlt, rfl, HH.out, HG.out⟩, hb.alloc hb.size _⟩
  · obtain rfl : n = P.length := by omega
    go_wp2_with fail
    go_ret
    exact ⟨-1, rfl, Or.inl ⟨rfl, HG.out⟩, hb⟩
end Go.Proofs.YtlakjhhpdbgekaaGreatDoor
