import Derived.Test.YtlakjhhpdbgekaaGreatDoorCw2
import Derived.Test.YtlakjhhpdbgekaaGreatDoorClo13
import Derived.Test.YtlakjhhpdbgekaaGreatDoorRrA
import Derived.Test.YtlakjhhpdbgekaaGreatDoorLaw3
import Derived.Test.YtlakjhhpdbgekaaGreatDoorJoin
import Derived.Deep.CutBlock
/-
  The reference of chapter 48: before, Closed (of chapter 45), Covered.
-/
namespace Go.Proofs.YtlakjhhpdbgekaaGreatDoor
open Go.RowKit

set_option maxRecDepth 100000 in
set_option maxHeartbeats 2000000 in
theorem before_r48 (a b : Nat) (ha : a < 2 ^ 64) (hb : b < 2 ^ 64) (w : World) :
    Calls Tryz.prog 61 #[.int .u64 a, .int .u64 b] w fun e w' => e = .returned (.bool (lecR a b)) ∧ Below w.heap.size w w' := by
  obtain ⟨x, hx⟩ : ∃ x, x = a ^^^ b := ⟨_, rfl⟩
  have hform : bits .xor .u64 (a : Int) (b : Int) = (x : Int) := by rw [hx]; exact u64_xor_nat _ _ ha hb
  have hxb : ∀ k, x.testBit k = (a.testBit k != b.testBit k) := fun k => by rw [hx, Nat.testBit_xor]
  have HXB := Lib.hid hxb
  clear hxb hx
  go_enter Tryz.func61, Tryz.ntmps61
  go_wp2_with fail
  refine wp_loopF (β := Nat) (fun k f => #[.int .u64 (a : Int), .int .u64 (b : Int), f 2, f 3, .bool false, .int .u64 (x : Int), .int .i64 (k : Int), f 7, f 8, f 9, f 10, f 11, f 12, f 13, f 14, f 15, f 16, f 17, f 18, f 19, f 20, f 21, f 22, f 23])
    (fun k ds wr => k ≤ 64 ∧ ds = [] ∧ wr = w ∧ ∀ x, x < k → a.testBit x = b.testBit x) (fun k => 64 - k) 0 rfl ⟨Nat.zero_le _, rfl, rfl, fun x h => by omega⟩ ?_
  rintro k f ds wr ⟨hk, rfl, rfl, hN⟩
  dsimp only at hk hN ⊢
  have HN := Lib.hid hN; clear hN hform
  have ex := tmod_form x k
  have eb := tmod_form b k
  rw [HXB.out k] at ex
  by_cases hlt : k < 64
  · by_cases h1 : a.testBit k = b.testBit k
    · rw [if_neg (by rw [h1]; simp)] at ex
      have H12 := Lib.hid h1
      clear h1 eb
      go_wp2_with fail
      exact ⟨k + 1, rfl, ⟨by omega, by first | rfl | trivial, by first | rfl | trivial, fun x hx => by
        by_cases e : x = k
        · subst e; exact H12.out
        · exact HN.out x (by omega)⟩, by omega⟩
    · rw [if_pos (by rw [bne_iff_ne]; exact h1)] at ex
      cases h2 : b.testBit k with
      | true =>
        rw [if_pos h2] at eb
        have hl : lecR a b = true := lecR_at k a b HN.out (by rw [h2] at h1; simpa using h1) h2
        have HL := Lib.hid hl
        clear h1 h2 hl
        go_wp2_with fail
        go_ret
        exact ⟨by rw [HL.out]; rfl, Below.refl _ _⟩
      | false =>
        rw [h2, if_neg (by simp)] at eb
        have hl : lecR a b = false := lecR_asymm _ _ (lecR_at k b a (fun j hj => (HN.out j hj).symm) h2 (by rw [h2] at h1; simpa using h1))
        have HL := Lib.hid hl
        clear h1 h2 hl
        go_wp2_with fail
        go_ret
        exact ⟨by rw [HL.out]; rfl, Below.refl _ _⟩
  · obtain rfl : k = 64 := by omega
    have he : a = b := Nat.eq_of_testBit_eq fun i => by
      by_cases hi : i < 64
      · exact HN.out i hi
      · have p : 2 ^ 64 ≤ 2 ^ i := Nat.pow_le_pow_right (by omega) (by omega)
        rw [Nat.testBit_lt_two_pow (Nat.lt_of_lt_of_le ha p), Nat.testBit_lt_two_pow (Nat.lt_of_lt_of_le hb p)]
    have HL := Lib.hid (show lecR a b = false by rw [he, lecR_irrefl])
    clear ex eb he
    go_wp2_with fail
    go_ret
    exact ⟨by rw [HL.out]; rfl, Below.refl _ _⟩
set_option maxRecDepth 100000 in
set_option maxHeartbeats 8000000 in
theorem closedr_any (C : Nat) (A : Option Addr) (c : Nat) (M : List (List Bool)) (w : World) (h : IsRef w C A M) (hC : C ≤ 12) (hR : M.length ≤ 60) :
    Calls Tryz.prog 59 #[refV C A M.length c] w fun e w' => ∃ v, e = .returned v ∧ w'.ownsRow w.heap.size 110 1 v (clAsc C (nsOf C M) (2 ^ C)).length (u64L (clAsc C (nsOf C M) (2 ^ C))) ∧ Below w.heap.size w w' := by
  obtain ⟨i0, hi0, hz0, hz1, hz2⟩ := info_parts info_u64
  obtain ⟨N, hN⟩ : ∃ N, N = nsOf C M := ⟨_, rfl⟩
  have HCL := Lib.hid (fun W s (hb : Below w.heap.size w W) => closer_any C A c M s W (h.below hb) (by omega) hR)
  have HALL := Lib.hid (fun W => all_ref C (by omega) W)
  rw [← hN] at HCL ⊢
  obtain ⟨E, hE⟩ : ∃ E : Nat, E = 2 ^ C := ⟨_, rfl⟩
  have hE1 : 1 ≤ E := by rw [hE]; exact Nat.one_le_two_pow
  have hE2 : E ≤ 4096 := by rw [hE]; exact Nat.le_trans (Nat.pow_le_pow_right (by omega) hC) (by decide)
  have hLE : lowN C = E - 1 := by rw [hE]; rfl
  rw [hLE] at HALL
  rw [← hE]
  clear hE hLE hN
  go_enter Tryz.func59, Tryz.ntmps59
  go_wp2_with fail
  refine abs1 fun W0 hX0 hb0 hz => ?_
  obtain ⟨X, hXe⟩ : ∃ g, g = w.heap.size := ⟨_, rfl⟩
  rw [← hXe] at hX0 ⊢
  clear hXe hz
  have h1 : clAsc C N 0 = [] := by simp [clAsc]
  refine wp_loopF (β := Nat × Value) (fun x f => #[f 0, .pointer (some ⟨X, 0, none⟩), .slice none 0 0, x.2, .int .u64 (x.1 : Int), f 5, f 6, f 7, f 8, f 9, f 10, f 11, f 12, f 13, f 14, f 15, f 16, f 17, f 18, f 19, f 20, f 21])
    (fun x ds W => x.1 ≤ E ∧ ds = [] ∧ Below W0.heap.size W0 W ∧ W.ownsRow W0.heap.size 110 1 x.2 (clAsc C N x.1).length (u64L (clAsc C N x.1))) (fun x => E - x.1) (0, .slice none 0 0) rfl
    ⟨Nat.zero_le _, rfl, Below.refl _ _, by rw [h1]; exact World.ownsRow_nil _ _ _ _⟩ ?_
  clear h1
  rintro ⟨s, v⟩ f ds W ⟨hsE, rfl, hbW, hown⟩
  dsimp only at hsE hown ⊢
  have bW := hb0.trans (hbW.mono hb0.size)
  have hXW := hX0.below hbW hX0.lt
  have x0 := hXW.cell 0
  have x1 := hXW.cell 1
  have hinc : IntKind.u64.wrap ((s : Int) + 1) = ((s + 1 : Nat) : Int) := u64_wrap_nat (s + 1) (by omega)
  have HA := hideC (HALL.out W)
  go_wp2_with fail
  with_reducible refine HA.out.mono ?_
  rintro e w' ⟨rfl, rfl⟩
  clear HA
  by_cases hlt : s < E
  · have hd : decide ((s : Int) ≤ ((E - 1 : Nat) : Int)) = true := decide_eq_true (by omega)
    have HC1 := hideC (HCL.out W s bW)
    obtain ⟨q, hq⟩ : ∃ q, q = cloN C N s := ⟨_, rfl⟩
    rw [← hq] at HC1
    go_wp2_with fail
    refine HC1.out.mono ?_
    rintro e W1 ⟨rfl, hb1⟩
    have bW1 := bW.trans (hb1.mono bW.size)
    have hbW1 := hbW.trans (hb1.mono hbW.size)
    have hown1 := own_below hown hb1
    clear HC1 x0 x1 hown hXW hbW bW hb1 hd
    by_cases hqs : q = s
    · subst hqs
      have hy := clAsc_yes (C := C) (Ns := N) (s := q) hq.symm
      have hln := clAsc_len (C := C) (Ns := N) q
      have HY := Lib.hid hy
      clear hq hy
      obtain ⟨L, hL⟩ : ∃ L, L = clAsc C N q := ⟨_, rfl⟩
      rw [← hL] at hown1 HY hln
      clear hL
      have hsz := hbW1.size
      have hlocs := own_below hown1 ((Below.refl W1.heap.size W1).alloc (Nat.le_refl _) (.cells #[.int .u64 (q : Int)] 110))
      go_wp2_with (at_builtin; refine wpList_append_own _ rfl _ _ 63 rfl (W0.heap.size) 110 i0 (.int .u64 0) 1 8 Tryz.underlying63 hi0 hz0 hz1 hz2 rfl (by decide) _ _ _ rfl (hlocs) ⟨W1.heap.size, 0, none⟩ 1 1 [.int .u64 (q : Int)] rfl rfl (cell_one_new _ _ _) (by simp [Value.oneCell']) (by unfold maxLen; omega) (by omega) (by simp; omega) ?_; intro v' w3 hown' hgrow _)
      have hbw := (hbW1.alloc hbW1.size (.cells #[.int .u64 (q : Int)] 110)).grown hgrow (by simp; omega) (fun p hp => (hlocs.lt p hp).1)
      exact ⟨(q + 1, v'), by first | rfl | (show _ = _; rw [← hinc]; rfl), ⟨by show q + 1 ≤ E; omega, by first | rfl | trivial, hbw, by dsimp only; rw [HY.out]; exact own_ins hown' (by simp) (Nat.le_refl _)⟩, by show E - (q + 1) < E - q; omega⟩
    · have hno := clAsc_no (C := C) (Ns := N) (s := s) (by rw [← hq]; exact hqs)
      have HNO := Lib.hid hno
      have hne : ((q : Int) == (s : Int)) = false := by rw [beq_eq_false_iff_ne]; omega
      have hne2 : decide ((q : Int) = (s : Int)) = false := decide_eq_false (by omega)
      clear hno hq
      go_wp2_with fail
      exact ⟨(s + 1, v), by first | rfl | (show _ = _; rw [← hinc]; rfl), ⟨by show s + 1 ≤ E; omega, by first | rfl | trivial, hbW1, by dsimp only; rw [HNO.out]; exact hown1⟩, by show E - (s + 1) < E - s; omega⟩
  · obtain rfl : s = E := by omega
    have hd : decide ((s : Int) ≤ ((s - 1 : Nat) : Int)) = false := decide_eq_false (by omega)
    clear x0 x1
    go_wp2_with fail
    go_ret
    exact ⟨v, rfl, own_low hown hb0.size, bW⟩
/-- The cells of some concepts of the specification's. -/
def conV (C : Nat) (Ns L : List Nat) : List Value := L.flatMap fun s => [.int .u64 (havN C Ns s : Nat), .int .u64 (s : Nat)]
theorem conV_app (C : Nat) (Ns L L' : List Nat) : conV C Ns (L ++ L') = conV C Ns L ++ conV C Ns L' := by unfold conV; rw [List.flatMap_append]
theorem conV_snoc (C : Nat) (Ns L : List Nat) (s : Nat) : conV C Ns (L ++ [s]) = conV C Ns L ++ [.int .u64 (havN C Ns s : Nat), .int .u64 (s : Nat)] := by rw [conV_app]; rfl
theorem conV_len (C : Nat) (Ns L : List Nat) : (conV C Ns L).length = 2 * L.length := by
  induction L with
  | nil => rfl
  | cons c l ih => unfold conV at *; rw [List.flatMap_cons, List.length_append, ih]; simp; omega
theorem conV_get (C : Nat) (Ns : List Nat) : ∀ (L : List Nat) {k s : Nat}, L[k]? = some s → (conV C Ns L)[2 * k]? = some (.int .u64 (havN C Ns s : Nat)) ∧ (conV C Ns L)[2 * k + 1]? = some (.int .u64 (s : Nat))
  | [], k, s, h => by simp at h
  | x :: L, 0, s, h => by
    obtain rfl : x = s := by simpa using h
    exact ⟨rfl, rfl⟩
  | x :: L, k + 1, s, h => by
    have ih := conV_get C Ns L (k := k) (s := s) (by simpa using h)
    unfold conV at *
    rw [List.flatMap_cons, show 2 * (k + 1) = 2 * k + 2 by omega, show 2 * k + 2 + 1 = (2 * k + 1) + 2 by omega, List.getElem?_append_right (by simp), List.getElem?_append_right (by simp)]
    exact ih
theorem row_conV {w : World} {A : Option Addr} {C : Nat} {Ns L : List Nat} (h : Row w A (conV C Ns L)) {k s : Nat} (hk : L[k]? = some s) :
    ∃ g off, A = some ⟨g, off, none⟩ ∧ g < w.heap.size ∧ w.cell? ⟨g, off + k * 2, none⟩ = some (.int .u64 (havN C Ns s : Nat)) ∧ w.cell? ⟨g, off + k * 2 + 1, none⟩ = some (.int .u64 (s : Nat)) := by
  have hlt := (List.getElem?_eq_some_iff.1 hk).1
  obtain ⟨g, off, rfl, hg, hc⟩ := h (by rw [conV_len]; omega)
  obtain ⟨h1, h2⟩ := conV_get C Ns L hk
  have e1 := hc _ _ h1
  have e2 := hc _ _ h2
  rw [← Nat.add_assoc] at e2
  rw [Nat.mul_comm] at e1 e2
  exact ⟨g, off, rfl, hg, e1, e2⟩
def OwnD (w : World) (base : Nat) (v : Value) (C : Nat) (Ns L : List Nat) : Prop := w.ownsRow base 112 2 v L.length (conV C Ns L)
theorem info_conD : (Tryz.prog.info? 112).map (fun i => (i.zero, i.size, i.bytes)) = some (some (.agg #[.int .u64 0, .int .u64 0]), 2, 16) := by kernel_rfl
theorem OwnD.nil (w : World) (base C : Nat) (Ns : List Nat) : OwnD w base (.slice none 0 0) C Ns [] := World.ownsRow_nil _ _ _ _
theorem OwnD.below {w w' : World} {base : Nat} {v : Value} {C : Nat} {Ns L : List Nat} (h : OwnD w base v C Ns L) (hb : Below w.heap.size w w') : OwnD w' base v C Ns L := own_below h hb
theorem OwnD.low {w : World} {base b0 : Nat} {v : Value} {C : Nat} {Ns L : List Nat} (h : OwnD w base v C Ns L) (hb : b0 ≤ base) : OwnD w b0 v C Ns L := own_low h hb
theorem OwnD.mk_ {w : World} {base n : Nat} {v : Value} {C : Nat} {Ns L : List Nat} {xs : List Value} (h : w.ownsRow base 112 2 v n xs) (hx : xs = conV C Ns L) : OwnD w base v C Ns L := by
  subst hx
  have : n = L.length := by have := h.1; rw [conV_len] at this; omega
  unfold OwnD
  rw [← this]; exact h
theorem OwnD.row {w : World} {base : Nat} {v : Value} {C : Nat} {Ns L : List Nat} (h : OwnD w base v C Ns L) : ∃ A c, v = .slice A L.length c ∧ L.length ≤ c ∧ Row w A (conV C Ns L) := by
  rcases id h.2 with ⟨hv, hn⟩ | ⟨g, cap, cur, hv, hg, hb, hnc, hm, hs, ht⟩
  · have : L = [] := List.eq_nil_of_length_eq_zero hn
    subst this
    exact ⟨none, 0, hv, Nat.le_refl _, Row.empty _ _⟩
  · refine ⟨_, cap, hv, hnc, Row.of_blk (t := 112) (cs := cur) hb fun k u hu => ?_⟩
    rw [← ht] at hu
    rw [List.getElem?_take] at hu
    split at hu
    · simpa using hu
    · cases hu
set_option maxRecDepth 100000 in
set_option maxHeartbeats 8000000 in
theorem covered_any (C : Nat) (A B : Option Addr) (c d : Nat) (M : List (List Bool)) (o : List (Nat × Nat)) (s : Nat) (w : World) (h' : IsRef w C B (mat M.length C (doneF C M o))) (ho : OnesOf C M o) (hC : C ≤ 60) (hR : M.length ≤ 60) :
    Calls Tryz.prog 68 #[refV C A M.length c, refV C B M.length d, .agg #[.int .u64 (havN C (nsOf C M) s : Nat), .int .u64 (s : Nat)]] w fun e w' => e = .returned (.int .i64 (o.countP (inS C (nsOf C M) s) : Nat)) ∧ Below w.heap.size w w' := by
  have hcnt := cnt_covered (by omega) (by omega) ho s
  have hst := cntT_step (freshF C M o s) C
  have hrw := cntT_row (freshF C M o s) C
  have hle := cntT_le (freshF C M o s) C
  have hbit : ∀ i j, freshF C M o s i j = (s.testBit j && (havN C (nsOf C M) s).testBit i && !doneF C M o i j) := fun _ _ => rfl
  have hdl : (mat M.length C (doneF C M o)).length = M.length := by simp [mat]
  have hdg := fun i j (hi : i < M.length) (hj : j < C) => mat_get (f := doneF C M o) hi hj
  have h0 := cntT_zero (freshF C M o s) C
  obtain ⟨X, hX⟩ : ∃ X, X = havN C (nsOf C M) s := ⟨_, rfl⟩
  obtain ⟨D, hD⟩ : ∃ D, D = mat M.length C (doneF C M o) := ⟨_, rfl⟩
  rw [← hX] at hbit ⊢
  rw [← hD] at h' hdl hdg
  generalize doneF C M o = dn at hbit hdg
  generalize cntT (freshF C M o s) C = T at hcnt hst hrw hle h0
  generalize freshF C M o s = fr at hst hbit
  rw [← hcnt]
  have HST := Lib.hid hst; have HRW := Lib.hid hrw; have HLE := Lib.hid hle; have HBIT := Lib.hid hbit; have HDG := Lib.hid hdg; have HDL := Lib.hid hdl; have H0 := Lib.hid h0; have HH := Lib.hid h'
  clear hst hrw hle hbit hdg hdl hcnt hX hD ho h0 h'
  go_enter Tryz.func68, Tryz.ntmps68
  go_wp2_with fail
  refine abs3 fun W0 hM0 hD0 hS0 hb0 hz => ?_
  obtain ⟨g, hg⟩ : ∃ g, g = w.heap.size := ⟨_, rfl⟩
  rw [← hg] at hM0 hD0 hS0 ⊢
  clear hg hz
  have m0 := hM0.cell 0
  have m1 := hM0.cell 1
  have d1 := hD0.cell 1
  have s0 := hS0.cell 0
  have s1 := hS0.cell 1
  have hB0 := HH.out.below hb0
  clear HH
  refine wp_loopF (β := Nat) (fun i f => #[f 0, f 1, f 2, .pointer (some ⟨g, 0, none⟩), .pointer (some ⟨g + 1, 0, none⟩), .pointer (some ⟨g + 2, 0, none⟩), .int .i64 0, .int .i64 (T i 0 : Int), f 8, f 9, f 10, f 11, .int .i64 (M.length : Int), .int .i64 (i : Int), f 14, f 15, f 16, f 17, f 18, f 19, f 20, f 21, f 22, f 23, f 24, f 25, f 26, f 27, f 28, f 29, f 30, f 31, f 32, f 33, f 34, f 35, f 36, f 37, f 38, f 39, f 40, f 41, f 42, f 43, f 44, f 45, f 46, f 47, f 48, f 49, f 50])
    (fun i ds W => i ≤ M.length ∧ ds = [] ∧ W = W0) (fun i => M.length - i) 0 (by rw [H0.out]; rfl) ⟨Nat.zero_le _, rfl, rfl⟩ ?_
  rintro i f ds W ⟨hi, rfl, rfl⟩
  dsimp only at hi ⊢
  by_cases hlt : i < M.length
  · have hRW := Lib.hid (HRW.out i)
    go_wp2_with fail
    refine wp_loopF (β := Nat) (fun j f => #[f 0, f 1, f 2, .pointer (some ⟨g, 0, none⟩), .pointer (some ⟨g + 1, 0, none⟩), .pointer (some ⟨g + 2, 0, none⟩), .int .i64 0, .int .i64 (T i j : Int), .int .i64 (i : Int), .int .i64 (j : Int), f 10, f 11, .int .i64 (M.length : Int), .int .i64 (i : Int), f 14, f 15, f 16, f 17, f 18, f 19, f 20, f 21, f 22, f 23, f 24, f 25, f 26, f 27, f 28, f 29, f 30, f 31, f 32, f 33, f 34, f 35, f 36, f 37, f 38, f 39, f 40, f 41, f 42, f 43, f 44, f 45, f 46, f 47, f 48, f 49, f 50])
      (fun j ds V => j ≤ C ∧ ds = [] ∧ V = W) (fun j => C - j) 0 rfl ⟨Nat.zero_le _, rfl, rfl⟩ ?_
    rintro j f ds V ⟨hj, rfl, rfl⟩
    dsimp only at hj ⊢
    by_cases hjC : j < C
    · obtain ⟨ga, oa, gb, ob, db, rfl, hga, hgb, ca, cb⟩ := hB0.at_ (by rw [HDL.out]; exact hlt) hjC
      rw [HDG.out i j hlt hjC] at cb
      have hs := HST.out i j
      rw [HBIT.out i j] at hs
      have hlT := HLE.out i j
      have hml : i * C ≤ 60 * 60 := Nat.mul_le_mul (by omega) hC
      have hT : T i j ≤ 10000 := by omega
      clear hlT hml
      have ex := tmod_form X i
      have es := tmod_form s j
      clear hRW
      generalize T i j = t at hs hT ⊢
      generalize dn i j = dv at cb hs
      by_cases hx : X.testBit i = true
      · rw [if_pos hx] at ex
        rw [hx] at hs
        by_cases hsj : s.testBit j = true
        · rw [if_pos hsj] at es
          rw [hsj] at hs
          cases dv with
          | false =>
            have HS := Lib.hid (show T i (j + 1) = t + 1 by rw [hs]; rfl)
            clear hs hx hsj hB0
            go_wp2_with fail
            exact ⟨j + 1, by rw [HS.out]; rfl, ⟨by omega, by first | rfl | trivial, by first | rfl | trivial⟩, by omega⟩
          | true =>
            have HS := Lib.hid (show T i (j + 1) = t by rw [hs]; rfl)
            clear hs hx hsj hB0
            go_wp2_with fail
            exact ⟨j + 1, by rw [HS.out]; rfl, ⟨by omega, by first | rfl | trivial, by first | rfl | trivial⟩, by omega⟩
        · rw [if_neg hsj] at es
          rw [Bool.not_eq_true] at hsj
          rw [hsj] at hs
          have HS := Lib.hid (show T i (j + 1) = t by rw [hs]; rfl)
          clear hs hx hsj hB0
          go_wp2_with fail
          exact ⟨j + 1, by rw [HS.out]; rfl, ⟨by omega, by first | rfl | trivial, by first | rfl | trivial⟩, by omega⟩
      · rw [if_neg hx] at ex
        rw [Bool.not_eq_true] at hx
        rw [hx, Bool.and_false] at hs
        have HS := Lib.hid (show T i (j + 1) = t by rw [hs]; rfl)
        clear hs hx hB0 es
        go_wp2_with fail
        exact ⟨j + 1, by rw [HS.out]; rfl, ⟨by omega, by first | rfl | trivial, by first | rfl | trivial⟩, by omega⟩
    · obtain rfl : j = C := by omega
      clear hB0
      go_wp2_with fail
      exact ⟨i + 1, by rw [← hRW.out]; rfl, ⟨by omega, by first | rfl | trivial, by first | rfl | trivial⟩, by omega⟩
  · obtain rfl : i = M.length := by omega
    clear hB0
    go_wp2_with fail
    go_ret
    exact ⟨rfl, hb0⟩
end Go.Proofs.YtlakjhhpdbgekaaGreatDoor
