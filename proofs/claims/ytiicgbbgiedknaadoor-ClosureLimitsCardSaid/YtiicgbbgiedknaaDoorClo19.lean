/-
  The law ClosureLimits.
-/
import Derived.Test.YtiicgbbgiedknaaDoorClo16
namespace Go.Proofs.YtiicgbbgiedknaaDoor
open Go.RowKit

theorem low_all {n k : Nat} : rowsIn n (List.replicate k (lowN n)) := fun i hi => by
  rw [List.length_replicate] at hi
  rw [List.getD_eq_getElem?_getD, List.getElem?_replicate, if_pos hi, Option.getD_some, Nat.and_self]
theorem rep_bit {n k i j : Nat} (hi : i < k) : ((List.replicate k (lowN n)).getD i 0).testBit j = decide (j < n) := by
  rw [List.getD_eq_getElem?_getD, List.getElem?_replicate, if_pos hi, Option.getD_some, testBit_lowN]
theorem hav_rep {n k : Nat} (hk : k ≤ 4096) (S : Nat) : havN n (List.replicate k (lowN n)) S = lowN k := nat_ext fun i => by
  rw [testBit_havN _ _ (by rw [List.length_replicate]; exact hk), List.length_replicate, testBit_lowN, decide_eq_true_eq]
  refine ⟨fun h => h.1, fun hi => ⟨hi, fun j _ hj => ?_⟩⟩
  rw [rep_bit hi, decide_eq_true hj]
theorem clo_rep {n k : Nat} (S : Nat) : cloN n (List.replicate k (lowN n)) S = lowN n := nat_ext fun j => by
  rw [cloN, testBit_comN, List.length_replicate, testBit_lowN, decide_eq_true_eq]
  refine ⟨fun h => h.1, fun hj => ⟨hj, fun i _ hi => ?_⟩⟩
  rw [rep_bit hi, decide_eq_true hj]
theorem card_low (n : Nat) (hn : n ≤ 15) : card (lowN n) = n := by
  rcases (by omega : n = 0 ∨ n = 1 ∨ n = 2 ∨ n = 3 ∨ n = 4 ∨ n = 5 ∨ n = 6 ∨ n = 7 ∨ n = 8 ∨ n = 9 ∨ n = 10 ∨ n = 11 ∨ n = 12 ∨ n = 13 ∨ n = 14 ∨ n = 15) with rfl | rfl | rfl | rfl | rfl | rfl | rfl | rfl | rfl | rfl | rfl | rfl | rfl | rfl | rfl | rfl <;> decide +kernel
theorem min_rep {n k : Nat} (hk : k ≤ 4096) {Ls : List Nat} (hp : Ls.Perm (minL n (List.replicate k (lowN n)) (lowN n))) : Ls = [0] := by
  have hm : ∀ x, x ∈ Ls ↔ x = 0 := fun x => by
    rw [hp.mem_iff, mem_minL, minB, Bool.and_eq_true, hav_rep hk, hav_rep hk, decide_eq_true rfl, List.all_eq_true]
    constructor
    · rintro ⟨_, _, h⟩
      refine Nat.eq_of_testBit_eq fun i => ?_
      rw [Nat.zero_testBit]
      cases hi : x.testBit i with
      | false => rfl
      | true =>
        have := h i (mem_mems.2 hi)
        rw [hav_rep hk, decide_eq_true rfl] at this
        cases this
    · rintro rfl
      refine ⟨fun j hj => by simp at hj, rfl, fun j hj => ?_⟩
      have := mem_mems.1 hj
      simp at this
  have hn : Ls.Nodup := hp.nodup_iff.2 (minL_nodup _ _ _)
  match Ls, hm, hn with
  | [], hm, _ => have := (hm 0).2 rfl; simp at this
  | [x], hm, _ => rw [(hm x).1 (by simp)]
  | x :: y :: l, hm, hn =>
    have h1 := (hm x).1 (by simp)
    have h2 := (hm y).1 (by simp)
    rw [List.nodup_cons] at hn
    exact absurd (by rw [h1, h2]; simp) hn.1
namespace Mix2
set_option maxRecDepth 100000 in
set_option maxHeartbeats 8000000 in
theorem limits_walk (a b : Nat) (w : World) (hT : Tab w) (ha : a ≤ 255) (hb0 : b ≤ 255) :
    Calls Tryd.prog 8 #[.int .u8 a, .int .u8 b] w fun e w' => e = .returned (.bool true) ∧ Below w.heap.size w w' := by
  obtain ⟨i0, hi0, hz0, hz1, hz2⟩ := info_parts info_set
  obtain ⟨n, hn, ea⟩ : ∃ n : Nat, n ≤ 15 ∧ (a : Int) % 16 = (n : Int) := ⟨a % 16, by omega, by omega⟩
  obtain ⟨m, hm4, eb⟩ : ∃ m : Nat, m ≤ 3 ∧ (b : Int) % 4 = (m : Int) := ⟨b % 4, by omega, by omega⟩
  go_enter Tryd.func8, Tryd.ntmps8
  go_wp2_with fail
  refine (Mix2.awake_any45 w hT).mono ?_
  rintro e w1 ⟨rfl, b2⟩
  replace hT := hT.below b2
  go_wp2_with fail
  rw [ea, eb]
  refine wp_loopF (β := Nat × Value) (fun s f => #[f 0, f 1, f 2, f 3, f 4, .int .i64 (n : Int), s.2, f 7, f 8, f 9, f 10, f 11, f 12, f 13, f 14, f 15, f 16, .int .u8 (m : Int), .int .u8 (s.1 : Int), f 19, f 20, f 21, f 22, f 23, f 24, f 25, f 26, f 27, f 28, f 29, f 30, f 31, f 32, f 33, f 34, f 35, f 36, f 37, f 38, f 39, f 40, f 41, f 42, f 43, f 44, f 45, f 46, f 47, f 48, f 49, f 50, f 51, f 52, f 53, f 54, f 55, f 56, f 57, f 58, f 59, f 60, f 61])
    (fun s ds wr => s.1 ≤ m ∧ ds = [] ∧ Below w1.heap.size w1 wr ∧ ∃ vs, wr.ownsRow w1.heap.size 25 1 s.2 s.1 vs ∧ Sets wr vs (List.replicate s.1 (lowN n))) (fun s => m - s.1) (0, .slice none 0 0) rfl
    ⟨Nat.zero_le _, rfl, Below.refl _ _, [], World.ownsRow_nil _ _ _ _, Sets.nil _⟩ ?_
  rintro ⟨k, v6⟩ f ds wr ⟨hk, rfl, hbr, vs, hown, hsets⟩
  dsimp only at hk hown hsets ⊢
  by_cases hlt : k < m
  · have h8 : IntKind.u8.wrap ((k : Int) + 1) = (k : Int) + 1 := by rw [IntKind.wrap_u8]; omega
    go_wp2_with fail
    refine (res3 rfl (below_N (n := n) (by omega))).mono ?_
    rintro e u1 ⟨A1, n1, c1, rfl, s1, hb⟩
    have hown1 := own_below hown hb
    have hsets1 := hsets.below hb
    have hbu := hbr.trans (hb.mono hbr.size)
    have hloc := own_below hown1 ((Below.refl u1.heap.size u1).alloc (Nat.le_refl _) (.cells #[.slice A1 n1 c1] 25))
    have hz := hbu.size
    go_wp2_with (at_builtin; refine wpList_append_own _ rfl _ _ 31 rfl (w1.heap.size) 25 i0 (.agg #[.slice none 0 0]) 1 24 Tryd.underlying31 hi0 hz0 hz1 hz2 rfl (by decide) _ _ _ rfl (hloc) ⟨u1.heap.size, 0, none⟩ 1 1 [.slice A1 n1 c1] rfl rfl (cell_one_new _ _ _) (by simp [Value.oneCell']) (by unfold maxLen; omega) (by omega) (by simp; omega) ?_; intro v' w3 hown' hgrow _)
    have hb3 := (hbu.alloc hbu.size (.cells #[.slice A1 n1 c1] 25)).grown hgrow (by simp; omega) (fun q hq => (hloc.lt q hq).1)
    have hs3 := ((hsets1.snoc s1).below ((Below.refl u1.heap.size u1).alloc (Nat.le_refl _) (.cells #[.slice A1 n1 c1] 25))).keep (KeepW.grown hgrow hloc (by decide))
    exact ⟨(k + 1, v'), rfl, ⟨by show k + 1 ≤ m; omega, by first | rfl | trivial, hb3, _, hown', by show Sets _ _ (List.replicate (k + 1) (lowN n)); rw [List.replicate_succ']; exact hs3⟩, by show m - (k + 1) < m - k; omega⟩
  · obtain rfl : k = m := by omega
    obtain ⟨A, c, rfl, _, _, hrow, _⟩ := row_of_own hown
    have hof := ofm_any A c n vs (List.replicate k (lowN n)) wr hrow hsets (by omega) (by rw [List.length_replicate]; omega)
    rw [List.length_replicate] at hof
    have HOF := hideC hof
    have bw := b2.trans (hbr.mono b2.size)
    replace hT := hT.below hbr
    clear hof hown hsets hrow hbr b2
    go_wp2_with fail
    refine HOF.out.mono ?_
    rintro e u1 (⟨_, hno, _⟩ | ⟨q, rfl, _, hm, _, hb⟩)
    · exact absurd low_all hno
    replace bw := bw.trans (hb.mono bw.size)
    replace hT := hT.below hb
    clear hb HOF
    go_wp2_with fail
    refine of_none.mono ?_
    rintro e u2 ⟨A2, n2, c2, rfl, s2, hb⟩
    replace bw := bw.trans (hb.mono bw.size)
    replace hT := hT.below hb
    replace hm := hm.below hb
    clear hb
    have hcl := clo_rep (n := n) (k := k) 0
    by_cases h12 : 12 < n
    · have HB := hideC (minimal_big q n _ _ 0 u2 hm s2 hT (by rw [hcl, card_low n hn]; exact h12))
      clear hcl
      go_wp2_with fail
      refine HB.out.mono ?_
      rintro e u3 ⟨rfl, hb⟩
      go_wp2_with fail
      go_ret
      exact ⟨rfl, bw.trans (hb.mono bw.size)⟩
    · have HB := hideC (minimal_any q n _ _ 0 u2 hm s2 hT (by rw [hcl, card_low n hn]; omega))
      rw [hcl] at HB
      clear hcl
      go_wp2_with fail
      refine HB.out.mono ?_
      rintro e u3 ⟨A3, n3, c3, vs3, Ls, rfl, hn3, hperm, hpw, hrow, hsets, hb⟩
      obtain rfl := min_rep (by omega) hperm
      obtain rfl : n3 = 1 := hn3
      obtain ⟨v0, rfl⟩ : ∃ v0, vs3 = [v0] := List.length_eq_one_iff.1 hsets.1
      have hs0 := hsets.2 0 v0 0 rfl rfl
      obtain ⟨g9, o9, rfl, hg9, hc9⟩ := hrow (by simp)
      have c9 := hc9 0 v0 rfl
      obtain ⟨A0, d0, rfl, _⟩ := id hs0
      rw [Nat.add_zero] at c9
      clear hc9 hrow hsets hperm hpw HB
      go_wp2_with fail
      refine (empty_is hs0).mono ?_
      rintro e u4 ⟨rfl, hb4⟩
      go_wp2_with fail
      go_ret
      exact ⟨rfl, (bw.trans (hb.mono bw.size)).trans (hb4.mono (Nat.le_trans bw.size hb.size))⟩
end Mix2
end Go.Proofs.YtiicgbbgiedknaaDoor
