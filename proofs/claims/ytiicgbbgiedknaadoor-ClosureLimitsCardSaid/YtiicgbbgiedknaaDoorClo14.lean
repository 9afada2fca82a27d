/-
  The reference of chapter 45: Minimal, the minimal sets by insertion.
-/
import Derived.Test.YtiicgbbgiedknaaDoorClo13
namespace Go.Proofs.YtiicgbbgiedknaaDoor
open Go.RowKit

/-! A sorted insertion. -/
def insR (s : Nat) : List Nat → List Nat
  | [] => [s]
  | t :: l => if ltR s t = true then s :: t :: l else t :: insR s l
def fstep (s : Nat) (st : List Nat × Bool) (t : Nat) : List Nat × Bool := if st.2 = false ∧ ltR s t = true then (st.1 ++ [s] ++ [t], true) else (st.1 ++ [t], st.2)
def fTo (s : Nat) (l : List Nat) (k : Nat) : List Nat × Bool := (l.take k).foldl (fstep s) ([], false)
theorem fTo_succ (s : Nat) (l : List Nat) {k t : Nat} (h : l[k]? = some t) : fTo s l (k + 1) = fstep s (fTo s l k) t := by
  unfold fTo
  obtain ⟨hk, e⟩ := List.getElem?_eq_some_iff.1 h
  rw [List.take_add_one, h, List.foldl_append]; rfl
theorem fgo_true (s : Nat) : ∀ (l nx : List Nat), l.foldl (fstep s) (nx, true) = (nx ++ l, true)
  | [], nx => by simp
  | t :: l, nx => by rw [List.foldl_cons, fstep, if_neg (by simp), fgo_true s l]; simp
theorem fgo_false (s : Nat) : ∀ (l nx : List Nat), (if (l.foldl (fstep s) (nx, false)).2 = true then (l.foldl (fstep s) (nx, false)).1 else (l.foldl (fstep s) (nx, false)).1 ++ [s]) = nx ++ insR s l
  | [], nx => by simp [insR]
  | t :: l, nx => by
    rw [List.foldl_cons, insR]
    by_cases h : ltR s t = true
    · rw [show fstep s (nx, false) t = (nx ++ [s] ++ [t], true) from if_pos ⟨rfl, h⟩, fgo_true, if_pos rfl, if_pos h]; simp
    · rw [show fstep s (nx, false) t = (nx ++ [t], false) from if_neg fun hh => h hh.2, if_neg h, fgo_false s l]; simp
theorem fTo_done (s : Nat) (l : List Nat) : (if (fTo s l l.length).2 = true then (fTo s l l.length).1 else (fTo s l l.length).1 ++ [s]) = insR s l := by
  unfold fTo
  rw [List.take_length]
  exact fgo_false s l []
theorem mem_insR (s x : Nat) : ∀ l, x ∈ insR s l ↔ x = s ∨ x ∈ l
  | [] => by simp [insR]
  | t :: l => by
    rw [insR]
    split
    · simp
    · rw [List.mem_cons, mem_insR s x l, List.mem_cons]
      constructor <;> rintro (h | h | h) <;> simp [h]
theorem sorted_insR (s : Nat) : ∀ l : List Nat, l.Pairwise (fun a b => ltR a b = true) → s ∉ l → (insR s l).Pairwise (fun a b => ltR a b = true)
  | [], _, _ => by simp [insR]
  | t :: l, h, hn => by
    rw [insR]
    rw [List.pairwise_cons] at h
    by_cases hs : ltR s t = true
    · rw [if_pos hs, List.pairwise_cons]
      refine ⟨fun x hx => ?_, List.pairwise_cons.2 h⟩
      rcases List.mem_cons.1 hx with rfl | hx
      · exact hs
      · exact ltR_trans _ _ _ hs (h.1 x hx)
    · rw [if_neg hs, List.pairwise_cons]
      refine ⟨fun x hx => ?_, sorted_insR s l h.2 (fun hm => hn (by simp [hm]))⟩
      rcases (mem_insR s x l).1 hx with rfl | hx
      · exact ltR_total _ _ (fun e => hn (by simp [e])) (by simpa using hs)
      · exact h.1 x hx
theorem len_insR (s : Nat) : ∀ l, (insR s l).length = l.length + 1
  | [] => rfl
  | t :: l => by
    rw [insR]
    split
    · simp
    · simp [len_insR s l]
theorem fTo_len (s : Nat) (l : List Nat) : ∀ k, (fTo s l k).1.length ≤ 2 * k
  | 0 => by simp [fTo]
  | k + 1 => by
    cases h : l[k]? with
    | none =>
      have e : fTo s l (k + 1) = fTo s l k := by
        unfold fTo
        rw [List.getElem?_eq_none_iff] at h
        rw [List.take_of_length_le (by omega), List.take_of_length_le (by omega)]
      rw [e]; have := fTo_len s l k; omega
    | some t =>
      rw [fTo_succ s l h, fstep]
      have := fTo_len s l k
      split <;> simp <;> omega
/-- A set of columns with the closure K that needs each of its columns. -/
def leastTo (C : Nat) (Ns : List Nat) (K s n : Nat) : Bool := decide (∀ j, j < n → s.testBit j = true → cloN C Ns (clr s j) ≠ K)
theorem leastTo_zero (C : Nat) (Ns : List Nat) (K s : Nat) : leastTo C Ns K s 0 = true := by simp [leastTo]
theorem leastTo_keep {C : Nat} {Ns : List Nat} {K s n : Nat} (h : ¬ (s.testBit n = true ∧ cloN C Ns (clr s n) = K)) : leastTo C Ns K s (n + 1) = leastTo C Ns K s n := by
  unfold leastTo
  rw [decide_eq_decide]
  refine ⟨fun h j hj => h j (by omega), fun h' j hj hs hc => ?_⟩
  by_cases e : j = n
  · subst e; exact h ⟨hs, hc⟩
  · exact h' j (by omega) hs hc
theorem leastTo_no {C : Nat} {Ns : List Nat} {K s n : Nat} (h : s.testBit n = true) (hc : cloN C Ns (clr s n) = K) : leastTo C Ns K s (n + 1) = false := by
  unfold leastTo
  rw [decide_eq_false_iff_not]
  exact fun hh => hh n (by omega) h hc
def goodB (C : Nat) (Ns : List Nat) (K s : Nat) : Bool := decide (s &&& K = s) && decide (cloN C Ns s = K) && leastTo C Ns K s C
theorem and_sub {S K : Nat} : S &&& K = S ↔ ∀ j, S.testBit j = true → K.testBit j = true := by
  constructor
  · intro h j hj
    rw [← h, Nat.testBit_and, Bool.and_eq_true] at hj
    exact hj.2
  · intro h
    refine nat_ext fun i => ?_
    rw [Nat.testBit_and, Bool.and_eq_true]
    exact ⟨fun h => h.1, fun hi => ⟨hi, h i hi⟩⟩
theorem sub_64 {s K : Nat} (h : s &&& K = s) (hK : K < 2 ^ 64) : s < 2 ^ 64 := by rw [← h]; exact Nat.lt_of_le_of_lt Nat.and_le_right hK
theorem without_clr {s j : Nat} (h : s.testBit j = true) (hs : s < 2 ^ 64) (hj : j < 64) : withoutB s (j : Nat) = clr s j := by
  have hh : hasB s (j : Nat) = true := by unfold hasB; simp [h]
  rw [withoutB, if_pos hh]
  refine Nat.eq_of_testBit_eq fun i => ?_
  rw [Int.toNat_natCast, testBit_without h, testBit_clr hs hj]
  by_cases e : i = j
  · subst e; simp
  · have : ¬ j = i := fun h => e h.symm
    simp [e, this]
theorem good_iff {C : Nat} {Ns : List Nat} (hC : C ≤ 60) (hl : Ns.length ≤ 4096) {S0 s : Nat} : goodB C Ns (cloN C Ns S0) s = true ↔ s ∈ minL C Ns (cloN C Ns S0) := by
  rw [mem_minL]
  unfold goodB minB leastTo
  simp only [Bool.and_eq_true, decide_eq_true_eq, List.all_eq_true, Bool.not_eq_true', decide_eq_false_iff_not]
  rw [and_assoc, ← and_sub]
  have hk : ∀ T, havN C Ns T = havN C Ns (cloN C Ns S0) ↔ cloN C Ns T = cloN C Ns S0 := fun T => by rw [hav_iff_clo hl, clo_clo hl]
  refine and_congr_right fun hsub => ?_
  have hlt : ∀ j, s.testBit j = true → j < C := fun j hj => comN_lt (and_sub.1 hsub j hj)
  have h64 := sub_64 hsub (comN_64 hC _)
  rw [hk]
  refine and_congr_right fun _ => ⟨fun h j hj he => ?_, fun h j hj hb he => ?_⟩
  · have hj' := mem_mems.1 hj
    rw [hk, without_clr hj' h64 (by have := hlt j hj'; omega)] at he
    exact h j (hlt j hj') hj' he
  · refine h j (mem_mems.2 hb) ?_
    rw [hk, without_clr hb h64 (by omega)]; exact he
/-- The list of the good numbers below s. -/
def GoodL (C : Nat) (Ns : List Nat) (K s : Nat) (Ls : List Nat) : Prop := Ls.Pairwise (fun a b => ltR a b = true) ∧ (∀ x, x ∈ Ls ↔ x < s ∧ goodB C Ns K x = true) ∧ Ls.length ≤ s
theorem GoodL.zero (C : Nat) (Ns : List Nat) (K : Nat) : GoodL C Ns K 0 [] := ⟨List.Pairwise.nil, by simp, Nat.le_refl _⟩
theorem GoodL.no {C : Nat} {Ns : List Nat} {K s : Nat} {Ls : List Nat} (h : GoodL C Ns K s Ls) (hg : goodB C Ns K s = false) : GoodL C Ns K (s + 1) Ls := ⟨h.1, fun x => by
  rw [h.2.1 x]
  constructor
  · rintro ⟨h1, h2⟩; exact ⟨by omega, h2⟩
  · rintro ⟨h1, h2⟩
    by_cases e : x = s
    · subst e; rw [hg] at h2; cases h2
    · exact ⟨by omega, h2⟩, by have := h.2.2; omega⟩
theorem GoodL.yes {C : Nat} {Ns : List Nat} {K s : Nat} {Ls : List Nat} (h : GoodL C Ns K s Ls) (hg : goodB C Ns K s = true) : GoodL C Ns K (s + 1) (insR s Ls) := ⟨sorted_insR s Ls h.1 (fun hm => by have := ((h.2.1 s).1 hm).1; omega), fun x => by
  rw [mem_insR, h.2.1 x]
  constructor
  · rintro (rfl | ⟨h1, h2⟩)
    · exact ⟨by omega, hg⟩
    · exact ⟨by omega, h2⟩
  · rintro ⟨h1, h2⟩
    by_cases e : x = s
    · exact Or.inl e
    · exact Or.inr ⟨by omega, h2⟩, by rw [len_insR]; have := h.2.2; omega⟩
theorem GoodL.done {C : Nat} {Ns : List Nat} (hC : C ≤ 60) (hl : Ns.length ≤ 4096) {S0 s : Nat} {Ls : List Nat} (h : GoodL C Ns (cloN C Ns S0) s Ls) (hs : cloN C Ns S0 < s) (x : Nat) : x ∈ Ls ↔ x ∈ minL C Ns (cloN C Ns S0) := by
  rw [h.2.1, good_iff hC hl]
  refine ⟨fun h => h.2, fun hm => ⟨?_, hm⟩⟩
  have := and_sub.2 (mem_minL.1 hm).1
  exact Nat.lt_of_le_of_lt (by rw [← this]; exact Nat.and_le_right) hs
theorem clo_in {C : Nat} {Ns : List Nat} (hl : Ns.length ≤ 4096) (S : Nat) : cloN C Ns (S &&& lowN C) = cloN C Ns S := by
  unfold cloN
  rw [havN_in hl (T := S) fun j hj => by rw [Nat.testBit_and, testBit_lowN, decide_eq_true hj, Bool.and_true]]
abbrev u64s (Ls : List Nat) : List Value := Ls.map fun x : Nat => Value.int .u64 (x : Int)
set_option maxRecDepth 100000 in
set_option maxHeartbeats 4000000 in
theorem minr_any (C : Nat) (A : Option Addr) (c : Nat) (M : List (List Bool)) (S0 : Nat) (w : World) (h : IsRef w C A M) (hC : C ≤ 12) (hR : M.length ≤ 60) (hS : S0 < 2 ^ 64) :
    Calls Tryd.prog 35 #[refV C A M.length c, .int .u64 S0] w fun e w' => ∃ A' c' Ls, e = .returned (.slice A' Ls.length c') ∧ Row w' A' (u64s Ls) ∧ Ls.Pairwise (fun a b => ltR a b = true) ∧ (∀ x, x ∈ Ls ↔ x ∈ minL C (nsOf C M) (cloN C (nsOf C M) S0)) ∧ Below w.heap.size w w' := by
  have hl : (nsOf C M).length ≤ 4096 := by rw [nsTo_len]; omega
  have hK := comN_64 (C := C) (Ns := nsOf C M) (by omega) (havN C (nsOf C M) S0)
  have hKl : cloN C (nsOf C M) S0 < 4096 := by
    have : comN C (nsOf C M) (havN C (nsOf C M) S0) < 2 ^ 12 := Nat.lt_pow_two_of_testBit _ fun i hi => by
      cases h : (comN C (nsOf C M) (havN C (nsOf C M) S0)).testBit i
      · rfl
      · have := comN_lt h; omega
    exact this
  have hci := clo_in (C := C) hl S0
  have hcl := fun W T => fun hb => closer_any C A c M T W (h.below (w' := W) hb) (by omega) hR
  have hgd := fun (s : Nat) (Ls : List Nat) => GoodL.done (C := C) (Ns := nsOf C M) (by omega) hl (S0 := S0) (s := s) (Ls := Ls)
  have hab := u64_and_nat S0 (lowN C) hS (lowN_lt (by omega))
  obtain ⟨K, hKe⟩ : ∃ K, K = cloN C (nsOf C M) S0 := ⟨_, rfl⟩
  rw [← hKe] at hKl hci hgd ⊢
  have HGD := Lib.hid hgd
  have HCL := hideC hcl
  have HCI := Lib.hid hci
  clear hcl hci hgd hKe hK
  obtain ⟨i0, hi0, hz0, hz1, hz2⟩ := info_parts info_u64
  go_enter Tryd.func35, Tryd.ntmps35
  go_wp2_with fail
  refine abs1 fun W0 hX hb0 hz => ?_
  have x0 := hX.cell 0
  have x1 := hX.cell 1
  have hd : Below W0.heap.size W0 W0.drew := (Below.refl _ _).drew
  have bd := hb0.trans (hd.mono hb0.size)
  refine wp_spine (fun W => Below W0.heap.size W0 W) [0, 1, 2, 3] [4, 5, 6, 7] (by kernel_rfl) (by kernel_rfl) ?_
  iterate 4 (refine wpE_op (v := ?_) rfl rfl (fun W hW => ?_) ?_; rotate_left; (have z0 := onB hW x0; have z1 := onB hW x1; go_simp; first | done | with_reducible rfl); simp only [Act.put, List.setIfInBounds_toArray, List.set_cons_zero, List.set_cons_succ])
  refine wpE_nil ⟨fun h => (by cases h), wpSp_op rfl hd ?_⟩
  go_wp2_with fail
  refine (all_ref C (by omega) _).mono ?_
  rintro e w' ⟨rfl, rfl⟩
  go_wp2_with fail
  refine nxt_op rfl hd ?_
  go_wp2_with fail
  refine nxt_op rfl hd ?_
  go_wp2_with fail
  refine (HCL.out _ (S0 &&& lowN C) bd).mono ?_
  rintro e w1 ⟨rfl, hb1⟩
  have hb01 := hd.trans (hb1.mono hd.size)
  have b1 := hb0.trans (hb01.mono hb0.size)
  have hX1 := hX.below hb01 hX.lt
  go_wp2_with fail
  refine nxt_op rfl hb01 ?_
  go_wp2_with fail
  refine nxt_nil ?_
  rw [HCI.out]
  go_wp2_with fail
  clear x0 x1 hX hd bd hb01 hb1 hz hb0
  have hKK : K < 2 ^ 64 := by omega
  refine wp_loopF (β := Nat × List Nat × Option Addr × Nat) (fun s f => #[f 0, f 1, .pointer (some ⟨w.heap.size, 0, none⟩), f 3, .slice none 0 0, .int .u64 (K : Int), .slice s.2.2.1 s.2.1.length s.2.2.2, .int .u64 (s.1 : Int), f 8, f 9, f 10, f 11, f 12, f 13, f 14, f 15, f 16, f 17, f 18, f 19, f 20, f 21, f 22, f 23, f 24, f 25, f 26, f 27, f 28, f 29, f 30, f 31, f 32, f 33, f 34, f 35, f 36, f 37, f 38, f 39, f 40, f 41, f 42, f 43, f 44, f 45, f 46, f 47, f 48, f 49, f 50, f 51, f 52, f 53, f 54, f 55, f 56, f 57, f 58, f 59, f 60, f 61, f 62, f 63, f 64, f 65, f 66, f 67, f 68, f 69, f 70, f 71, f 72, f 73, f 74, f 75, f 76, f 77, f 78, f 79, f 80, f 81, f 82, f 83, f 84, f 85, f 86, f 87, f 88, f 89, f 90])
    (fun s ds wr => s.1 ≤ K + 1 ∧ ds = [] ∧ Below w1.heap.size w1 wr ∧ GoodL C (nsOf C M) K s.1 s.2.1 ∧ Row wr s.2.2.1 (u64s s.2.1)) (fun s => K + 1 - s.1) (0, [], none, 0) rfl
    ⟨Nat.zero_le _, rfl, Below.refl _ _, GoodL.zero _ _ _, Row.empty _ _⟩ ?_
  rintro ⟨s, Ls, B, d⟩ f ds wr ⟨hsK, rfl, hbr, hgood, hrow⟩
  dsimp only at hsK hgood hrow ⊢
  have br := b1.trans (hbr.mono b1.size)
  by_cases hlt : s ≤ K
  · have hs64 : s < 2 ^ 64 := by omega
    have han := andNot_zero s K hs64 hKK
    have hinc : IntKind.u64.wrap ((s : Int) + 1) = ((s + 1 : Nat) : Int) := u64_wrap_nat (s + 1) (by omega)
    have hXr := hX1.below hbr hX1.lt
    have x0 := hXr.cell 0
    have x1 := hXr.cell 1
    by_cases hsub : s &&& K = s
    · rw [decide_eq_true hsub] at han
      have HC1 := hideC (HCL.out wr s br)
      obtain ⟨q, hq⟩ : ∃ q, q = cloN C (nsOf C M) s := ⟨_, rfl⟩
      rw [← hq] at HC1
      go_wp2_with fail
      refine HC1.out.mono ?_
      rintro e w2 ⟨rfl, hb2⟩
      have hb12 := hbr.trans (hb2.mono hbr.size)
      have hX2 := hXr.below hb2 hXr.lt
      have hrow2 := hrow.below hb2
      have br2 := br.trans (hb2.mono br.size)
      clear x0 x1 hXr HC1
      by_cases hqK : q = K
      · subst hqK
        have hgq : goodB C (nsOf C M) q s = leastTo C (nsOf C M) q s C := by unfold goodB; rw [decide_eq_true hsub, decide_eq_true hq.symm]; rfl
        have HGQ := Lib.hid hgq
        clear hgq hq hsub
        go_wp2_with fail
        refine wp_loopF (β := Nat) (fun n f => #[f 0, f 1, .pointer (some ⟨w.heap.size, 0, none⟩), f 3, .slice none 0 0, .int .u64 (q : Int), .slice B Ls.length d, .int .u64 (s : Int), .bool (leastTo C (nsOf C M) q s n), .int .i64 (n : Int), f 10, f 11, f 12, f 13, f 14, f 15, f 16, f 17, f 18, f 19, f 20, f 21, f 22, f 23, f 24, f 25, f 26, f 27, f 28, f 29, f 30, f 31, f 32, f 33, f 34, f 35, f 36, f 37, f 38, f 39, f 40, f 41, f 42, f 43, f 44, f 45, f 46, f 47, f 48, f 49, f 50, f 51, f 52, f 53, f 54, f 55, f 56, f 57, f 58, f 59, f 60, f 61, f 62, f 63, f 64, f 65, f 66, f 67, f 68, f 69, f 70, f 71, f 72, f 73, f 74, f 75, f 76, f 77, f 78, f 79, f 80, f 81, f 82, f 83, f 84, f 85, f 86, f 87, f 88, f 89, f 90])
          (fun n ds V => n ≤ C ∧ ds = [] ∧ Below w2.heap.size w2 V) (fun n => C - n) 0 (by rw [leastTo_zero]; rfl) ⟨Nat.zero_le _, rfl, Below.refl _ _⟩ ?_
        rintro n f ds V ⟨hn, rfl, hbW⟩
        dsimp only at hn ⊢
        have hXW := hX2.below hbW hX2.lt
        have x0 := hXW.cell 0
        have x1 := hXW.cell 1
        by_cases hnC : n < C
        · have ea := tmod_form s n
          have hpw := two_form (n := n) (by omega)
          have hcf : bits .andNot .u64 (s : Int) ((2 : Int) ^ n) = (clr s n : Int) := by
            rw [show ((2 : Int) ^ n) = ((2 ^ n : Nat) : Int) by simp]
            exact clr_form hs64 (by omega)
          have hd : Below V.heap.size V V.drew := (Below.refl _ _).drew
          have bW := br2.trans (hbW.mono br2.size)
          have bd := bW.trans (hd.mono bW.size)
          have hbd := hbW.trans (hd.mono hbW.size)
          by_cases hs : s.testBit n = true
          · rw [if_pos hs] at ea
            have HC2 := hideC (HCL.out V.drew (clr s n) bd)
            obtain ⟨r, hr⟩ : ∃ r, r = cloN C (nsOf C M) (clr s n) := ⟨_, rfl⟩
            rw [← hr] at HC2
            have hl1 : leastTo C (nsOf C M) q s (n + 1) = if r = q then false else leastTo C (nsOf C M) q s n := by
              split
              · rename_i e; exact leastTo_no hs (by rw [← hr, e])
              · rename_i e; exact leastTo_keep fun hh => e (by rw [hr, hh.2])
            have HL1 := Lib.hid hl1
            clear hs hr hl1
            go_wp2_with fail
            refine wp_spine (fun W => Below V.heap.size V W) [0, 1, 2, 3, 4, 5, 6, 7, 8, 9, 10, 12] [11, 13, 14] (by kernel_rfl) (by kernel_rfl) ?_
            iterate 6 (refine wpE_op (v := ?_) rfl rfl (fun W hW => ?_) ?_; rotate_left; (go_simp; first | done | with_reducible rfl); simp only [Act.put, List.setIfInBounds_toArray, List.set_cons_zero, List.set_cons_succ])
            iterate 6 (refine wpE_yes (v := ?_) rfl (by rfl) (fun W hW => ?_) ?_; rotate_left; (have z0 := onB hW x0; have z1 := onB hW x1; go_simp; first | done | with_reducible rfl); simp only [Act.put, List.setIfInBounds_toArray, List.set_cons_zero, List.set_cons_succ])
            refine wpE_nil ⟨fun h => (by cases h), wpSp_op rfl hd ?_⟩
            go_wp2_with fail
            refine HC2.out.mono ?_
            rintro e w3 ⟨rfl, hb3⟩
            have hb03 := hd.trans (hb3.mono hd.size)
            by_cases hrq : r = q
            · subst hrq
              have e1 := HL1.out
              rw [if_pos rfl] at e1
              have HL2 := Lib.hid e1
              clear e1 HL1
              go_wp2_with fail
              refine nxt_op rfl hb03 ?_
              go_wp2_with fail
              refine nxt_op rfl hb03 ?_
              go_wp2_with fail
              refine nxt_nil ?_
              go_wp2_with fail
              exact ⟨n + 1, by rw [HL2.out]; rfl, ⟨by omega, by first | rfl | trivial, hbW.trans (hb03.mono hbW.size)⟩, by omega⟩
            · have e1 := HL1.out
              rw [if_neg hrq] at e1
              have hne : ((r : Int) == (q : Int)) = false := by rw [beq_eq_false_iff_ne]; omega
              have HL2 := Lib.hid e1
              clear e1 HL1 hrq
              go_wp2_with fail
              refine nxt_op rfl hb03 ?_
              go_wp2_with fail
              refine nxt_op rfl hb03 ?_
              go_wp2_with fail
              refine nxt_nil ?_
              go_wp2_with fail
              exact ⟨n + 1, by rw [HL2.out]; rfl, ⟨by omega, by first | rfl | trivial, hbW.trans (hb03.mono hbW.size)⟩, by omega⟩
          · rw [if_neg hs] at ea
            have HL2 := Lib.hid (leastTo_keep (C := C) (Ns := nsOf C M) (K := q) fun hh => hs hh.1)
            clear hs
            go_wp2_with fail
            refine wp_spine (fun W => Below V.heap.size V W) [0, 1, 2, 3, 4, 5, 6, 7, 8, 9, 10, 12] [11, 13, 14] (by kernel_rfl) (by kernel_rfl) ?_
            iterate 6 (refine wpE_op (v := ?_) rfl rfl (fun W hW => ?_) ?_; rotate_left; (go_simp; first | done | with_reducible rfl); simp only [Act.put, List.setIfInBounds_toArray, List.set_cons_zero, List.set_cons_succ])
            iterate 6 (refine wpE_no rfl (by rfl) ?_; simp only [Act.put, List.setIfInBounds_toArray, List.set_cons_zero, List.set_cons_succ])
            refine wpE_nil ⟨fun h => (by cases h), wpSp_op rfl hd ?_⟩
            go_wp2_with fail
            refine nxt_op rfl hd ?_
            go_wp2_with fail
            refine nxt_op rfl hd ?_
            go_wp2_with fail
            refine nxt_nil ?_
            go_wp2_with fail
            exact ⟨n + 1, by rw [HL2.out]; rfl, ⟨by omega, by first | rfl | trivial, hbd⟩, by omega⟩
        · obtain rfl : n = C := by omega
          rw [← HGQ.out]
          have hb1W := hb12.trans (hbW.mono hb12.size)
          have hrowW := hrow2.below hbW
          cases hgd : goodB n (nsOf n M) q s with
          | false =>
            have HG := Lib.hid (hgood.no hgd)
            clear hgood hgd HGQ
            go_wp2_with fail
            exact ⟨(s + 1, Ls, B, d), by first | rfl | (show _ = _; rw [← hinc]; rfl), ⟨by show s + 1 ≤ q + 1; omega, by first | rfl | trivial, hb1W, HG.out, hrowW⟩, by show q + 1 - (s + 1) < q + 1 - s; omega⟩
          | true =>
            have HG := Lib.hid (hgood.yes hgd)
            have HLS := Lib.hid (fun t (ht : t ∈ Ls) => ((hgood.2.1 t).1 ht).1)
            have hLl := hgood.2.2
            clear hgood hgd HGQ
            go_wp2_with fail
            refine wp_loopF (β := Nat × Value × List Nat × Bool) (fun x f => #[f 0, f 1, .pointer (some ⟨w.heap.size, 0, none⟩), f 3, .slice none 0 0, .int .u64 (q : Int), .slice B Ls.length d, .int .u64 (s : Int), f 8, f 9, x.2.1, .bool x.2.2.2, f 12, f 13, f 14, f 15, f 16, f 17, f 18, f 19, f 20, f 21, f 22, f 23, f 24, f 25, f 26, f 27, f 28, f 29, f 30, f 31, f 32, f 33, f 34, f 35, f 36, f 37, f 38, f 39, f 40, f 41, f 42, f 43, f 44, f 45, f 46, f 47, f 48, f 49, f 50, f 51, f 52, f 53, f 54, f 55, f 56, f 57, f 58, f 59, .slice B Ls.length d, .int .i64 (Ls.length : Int), .int .i64 (x.1 : Int), f 63, f 64, f 65, f 66, f 67, f 68, f 69, f 70, f 71, f 72, f 73, f 74, f 75, f 76, f 77, f 78, f 79, f 80, f 81, f 82, f 83, f 84, f 85, f 86, f 87, f 88, f 89, f 90])
              (fun x ds Y => x.1 ≤ Ls.length ∧ ds = [] ∧ Below V.heap.size V Y ∧ (x.2.2.1, x.2.2.2) = fTo s Ls x.1 ∧ Y.ownsRow V.heap.size 27 1 x.2.1 x.2.2.1.length (u64s x.2.2.1)) (fun x => Ls.length - x.1) (0, .slice none 0 0, [], false) rfl
              ⟨Nat.zero_le _, rfl, Below.refl _ _, rfl, World.ownsRow_nil _ _ _ _⟩ ?_
            rintro ⟨k, v10, nx, dn⟩ f ds Y ⟨hk, rfl, hbV, hst, hown⟩
            dsimp only at hk hst hown ⊢
            have hlen := fTo_len s Ls k
            rw [← hst] at hlen
            dsimp only at hlen
            have hVz := hbV.size
            by_cases hkl : k < Ls.length
            · obtain ⟨t, ht⟩ : ∃ t, Ls[k]? = some t := ⟨_, List.getElem?_eq_getElem hkl⟩
              have hsu := fTo_succ s Ls ht
              rw [← hst] at hsu
              have hts := HLS.out t (List.mem_of_getElem? ht)
              obtain ⟨g0, off0, rfl, hg0, hcell⟩ := hrowW (by rw [List.length_map]; omega)
              have c0 := onB hbV (hcell k (.int .u64 (t : Int)) (by rw [List.getElem?_map, ht]; rfl))
              have HST := Lib.hid hsu
              clear hsu hst ht hcell
              have hY1 : Below Y.heap.size Y (Y.alloc (.cells #[.int .u64 (t : Int)] 27)) := (Below.refl _ _).alloc (Nat.le_refl _) _
              have hloct := own_below hown hY1
              cases dn with
              | true =>
                have e1 := HST.out
                rw [fstep, if_neg (by simp)] at e1
                have HS2 := Lib.hid e1
                clear e1 HST hY1
                go_wp2_with (at_builtin; refine wpList_append_own _ rfl _ _ 23 rfl (V.heap.size) 27 i0 (.int .u64 0) 1 8 Tryd.underlying23 hi0 hz0 hz1 hz2 rfl (by decide) _ _ _ rfl (hloct) ⟨Y.heap.size, 0, none⟩ 1 1 [.int .u64 (t : Int)] rfl rfl (cell_one_new _ _ _) (by simp [Value.oneCell']) (by unfold maxLen; omega) (by omega) (by simp; omega) ?_; intro v' w3 hown' hgrow _)
                exact ⟨k + 1, v', ⟨rfl, by omega⟩, ⟨by omega, (hbV.alloc hbV.size _).grown hgrow (by simp; omega) (fun p hp => (hloct.lt p hp).1), nx ++ [t], HS2.out.symm, by rw [List.length_append, u64s, List.map_append]; exact hown'⟩, by omega⟩
              | false =>
                obtain ⟨cv, hcv⟩ : ∃ x, x = cmpN s t := ⟨_, rfl⟩
                have HCM := hideC (compare_ref s t hs64 (by omega) Y)
                rw [← hcv] at HCM
                have hlt0 := cmpN_lt s t
                rw [← hcv] at hlt0
                clear hcv
                by_cases hst : ltR s t = true
                · rw [hst, decide_eq_true_eq] at hlt0
                  have e1 := HST.out
                  rw [fstep, if_pos ⟨rfl, hst⟩] at e1
                  have HS2 := Lib.hid e1
                  clear e1 HST hst hY1 hloct
                  go_wp2_with fail
                  refine HCM.out.mono ?_
                  rintro e w' ⟨rfl, rfl⟩
                  have hlocs := own_below hown ((Below.refl Y.heap.size Y).alloc (Nat.le_refl _) (.cells #[.int .u64 (s : Int)] 27))
                  go_wp2_with (at_builtin; refine wpList_append_own _ rfl _ _ 23 rfl (V.heap.size) 27 i0 (.int .u64 0) 1 8 Tryd.underlying23 hi0 hz0 hz1 hz2 rfl (by decide) _ _ _ rfl (hlocs) ⟨Y.heap.size, 0, none⟩ 1 1 [.int .u64 (s : Int)] rfl rfl (cell_one_new _ _ _) (by simp [Value.oneCell']) (by unfold maxLen; omega) (by omega) (by simp; omega) ?_)
                  intro v' w3 hown' hgrow hq0
                  clear hq0
                  have hbw := (hbV.alloc hbV.size (.cells #[.int .u64 (s : Int)] 27)).grown hgrow (by simp; omega) (fun p hp => (hlocs.lt p hp).1)
                  obtain ⟨w4, hw4⟩ : ∃ x, x = w3 := ⟨_, rfl⟩
                  obtain ⟨v4, hv4⟩ : ∃ x, x = v' := ⟨_, rfl⟩
                  rw [← hw4, ← hv4] at hown'
                  rw [← hw4] at hbw
                  rw [← hw4, ← hv4]
                  have hloct := own_below hown' ((Below.refl w4.heap.size w4).alloc (Nat.le_refl _) (.cells #[.int .u64 (t : Int)] 27))
                  have hwz := hbw.size
                  clear hw4 hv4 hgrow hown' hlocs hown w3 v'
                  go_wp2_with (at_builtin; refine wpList_append_own _ rfl _ _ 23 rfl (V.heap.size) 27 i0 (.int .u64 0) 1 8 Tryd.underlying23 hi0 hz0 hz1 hz2 rfl (by decide) _ _ _ rfl (hloct) ⟨w4.heap.size, 0, none⟩ 1 1 [.int .u64 (t : Int)] rfl rfl (cell_one_new _ _ _) (by simp [Value.oneCell']) (by unfold maxLen; omega) (by omega) (by simp; omega) ?_; intro v' w3 hown' hgrow _)
                  exact ⟨(k + 1, v', nx ++ [s] ++ [t], true), rfl, ⟨by show k + 1 ≤ Ls.length; omega, by first | rfl | trivial, (hbw.alloc hbw.size _).grown hgrow (by simp; omega) (fun p hp => (hloct.lt p hp).1), HS2.out.symm, by show w3.ownsRow _ _ _ v' (nx ++ [s] ++ [t]).length _; rw [List.length_append, List.length_append, u64s, List.map_append, List.map_append]; exact hown'⟩, by show Ls.length - (k + 1) < Ls.length - k; omega⟩
                · rw [Bool.not_eq_true] at hst
                  rw [hst, decide_eq_false_iff_not] at hlt0
                  have e1 := HST.out
                  rw [fstep, if_neg (by simp [hst])] at e1
                  have HS2 := Lib.hid e1
                  have hlt1 : ¬ cv < 0 := hlt0
                  clear e1 HST hst hlt0 hY1
                  go_wp2_with fail
                  refine HCM.out.mono ?_
                  rintro e w' ⟨rfl, rfl⟩
                  go_wp2_with (at_builtin; refine wpList_append_own _ rfl _ _ 23 rfl (V.heap.size) 27 i0 (.int .u64 0) 1 8 Tryd.underlying23 hi0 hz0 hz1 hz2 rfl (by decide) _ _ _ rfl (hloct) ⟨Y.heap.size, 0, none⟩ 1 1 [.int .u64 (t : Int)] rfl rfl (cell_one_new _ _ _) (by simp [Value.oneCell']) (by unfold maxLen; omega) (by omega) (by simp; omega) ?_; intro v' w3 hown' hgrow _)
                  exact ⟨(k + 1, v', nx ++ [t], false), rfl, ⟨by show k + 1 ≤ Ls.length; omega, by first | rfl | trivial, (hbV.alloc hbV.size _).grown hgrow (by simp; omega) (fun p hp => (hloct.lt p hp).1), HS2.out.symm, by show w3.ownsRow _ _ _ v' (nx ++ [t]).length _; rw [List.length_append, u64s, List.map_append]; exact hown'⟩, by show Ls.length - (k + 1) < Ls.length - k; omega⟩
            · obtain rfl : k = Ls.length := by omega
              have hdone := fTo_done s Ls
              rw [← hst] at hdone
              dsimp only at hdone
              have hb1Y := hb1W.trans (hbV.mono hb1W.size)
              cases dn with
              | true =>
                rw [if_pos rfl] at hdone
                have HDN := Lib.hid hdone
                obtain ⟨A9, c9, rfl, _, _, hrow9, _⟩ := row_of_own hown
                clear hdone hst hown
                go_wp2_with fail
                exact ⟨(s + 1, insR s Ls, A9, c9), by first | rfl | (dsimp only; rw [← HDN.out]; rfl), ⟨by show s + 1 ≤ q + 1; omega, by first | rfl | trivial, hb1Y, HG.out, by rw [← HDN.out]; exact hrow9⟩, by show q + 1 - (s + 1) < q + 1 - s; omega⟩
              | false =>
                rw [if_neg (by simp)] at hdone
                have HDN := Lib.hid hdone
                clear hdone hst
                have hlocs := own_below hown ((Below.refl Y.heap.size Y).alloc (Nat.le_refl _) (.cells #[.int .u64 (s : Int)] 27))
                go_wp2_with (at_builtin; refine wpList_append_own _ rfl _ _ 23 rfl (V.heap.size) 27 i0 (.int .u64 0) 1 8 Tryd.underlying23 hi0 hz0 hz1 hz2 rfl (by decide) _ _ _ rfl (hlocs) ⟨Y.heap.size, 0, none⟩ 1 1 [.int .u64 (s : Int)] rfl rfl (cell_one_new _ _ _) (by simp [Value.oneCell']) (by unfold maxLen; omega) (by omega) (by simp; omega) ?_; intro v' w3 hown' hgrow _)
                have hbw := (hbV.alloc hbV.size (.cells #[.int .u64 (s : Int)] 27)).grown hgrow (by simp; omega) (fun p hp => (hlocs.lt p hp).1)
                obtain ⟨A9, c9, rfl, _, _, hrow9, _⟩ := row_of_own hown'
                have hl9 : nx.length + 1 = (insR s Ls).length := by rw [← HDN.out]; simp
                have hr9 : Row w3 A9 (u64s (insR s Ls)) := by rw [← HDN.out, u64s, List.map_append]; exact hrow9
                exact ⟨(s + 1, insR s Ls, A9, c9), by first | rfl | (dsimp only; rw [← HDN.out, List.length_append]; rfl), ⟨by show s + 1 ≤ q + 1; omega, by first | rfl | trivial, hb1W.trans (hbw.mono hb1W.size), HG.out, hr9⟩, by show q + 1 - (s + 1) < q + 1 - s; omega⟩
      · have hno : goodB C (nsOf C M) K s = false := by unfold goodB; rw [← hq, decide_eq_false hqK, Bool.and_false]; rfl
        have HG := Lib.hid (hgood.no hno)
        have hne : ((q : Int) != (K : Int)) = true := by rw [bne_iff_ne]; omega
        clear hgood hno hsub hq hqK
        go_wp2_with fail
        exact ⟨(s + 1, Ls, B, d), by first | rfl | (show _ = _; rw [← hinc]; rfl), ⟨by show s + 1 ≤ K + 1; omega, by first | rfl | trivial, hb12, HG.out, hrow2⟩, by show K + 1 - (s + 1) < K + 1 - s; omega⟩
    · rw [decide_eq_false hsub] at han
      have hno : goodB C (nsOf C M) K s = false := by unfold goodB; rw [decide_eq_false hsub]; rfl
      have HG := Lib.hid (hgood.no hno)
      clear hgood hno hsub
      go_wp2_with fail
      exact ⟨(s + 1, Ls, B, d), by first | rfl | (show _ = _; rw [← hinc]; rfl), ⟨by show s + 1 ≤ K + 1; omega, by first | rfl | trivial, hbr, HG.out, hrow⟩, by show K + 1 - (s + 1) < K + 1 - s; omega⟩
  · obtain rfl : s = K + 1 := by omega
    have HG := Lib.hid hgood
    clear hgood
    go_wp2_with fail
    go_ret
    exact ⟨B, d, Ls, rfl, hrow, HG.out.1, HGD.out _ _ HG.out (by omega), br⟩
end Go.Proofs.YtiicgbbgiedknaaDoor
