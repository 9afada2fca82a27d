/-
  rank.Check and rank.Fool.
-/
import Derived.Test.YtlakjhhpdbgekaaGreatDoorRn5
import Derived.Test.YtlakjhhpdbgekaaGreatDoorRn8
namespace Go.Proofs.YtlakjhhpdbgekaaGreatDoor
open Go.RowKit
attribute [local go_sem] Oper.semAt_some

def firstBad (P : List Nd) : Option Nat := (List.range P.length).find? (badN P)
theorem firstBad_none {P : List Nd} (h : ∀ n, n < P.length → badN P n = false) : firstBad P = none := by
  unfold firstBad
  rw [List.find?_eq_none]
  intro n hn
  rw [h n (List.mem_range.1 hn)]; simp
theorem firstBad_some {P : List Nd} {n : Nat} (hn : n < P.length) (hb : badN P n = true) (h : ∀ m, m < n → badN P m = false) : firstBad P = some n := by
  unfold firstBad
  rw [List.find?_range_eq_some]
  exact ⟨hb, List.mem_range.2 hn, fun m hm => by rw [h m hm]; rfl⟩
theorem form_ok {P : List Nd} (h : ∀ n, n < P.length → badN P n = false) : FormOK P := fun n hn => by
  have hb := h n hn
  unfold badN at hb
  rw [Bool.or_eq_false_iff] at hb
  obtain ⟨h1, h2⟩ := hb
  obtain ⟨k1, k2, _, _⟩ := badH_parts h1
  refine ⟨⟨k1, k2⟩, fun c hc => ?_⟩
  obtain ⟨i, hi, e⟩ := List.getElem_of_mem hc
  rw [List.any_eq_false] at h2
  have := h2 i (List.mem_range.2 hi)
  have e2 : (P.getD n default).ch.getD i 0 = c := by rw [List.getD_eq_getElem?_getD, List.getElem?_eq_getElem hi, e]; rfl
  rw [e2] at this
  unfold badC at this
  simp only [Bool.or_eq_true, decide_eq_true_eq, not_or] at this
  omega
/-- The first flaw of a proof, and its node. -/
def checkP (C : Nat) (Ns : List Nat) (size : Int) (P : List Nd) : Int × Int :=
  if size < 0 ∨ 256 < size ∨ P.length < 1 ∨ 5000 < P.length then (2, 0)
  else match firstBad P with
    | some n => (2, (n : Int))
    | none => if size = 0 then (1, 0) else nodeP C Ns P P.length (0 : Nat) (size - 1) Ns
namespace Mix2
set_option maxRecDepth 100000 in
set_option maxHeartbeats 8000000 in
theorem check_any (q C : Nat) (Ns : List Nat) (size : Int) (A : Option Addr) (c0 : Nat) (P : List Nd) (w : World) (h : IsMat w q C Ns) (hin : rowsIn C Ns) (hnd : IsNodes w A P) (hT : Tab w) :
    Calls Tryz.prog 37 #[ptr q, proofV size A P.length c0] w fun e w' => e = .returned (.tuple #[.int .u8 (checkP C Ns size P).1, .int .i64 (checkP C Ns size P).2]) ∧ Below w.heap.size w w' := by
  obtain ⟨i0, hi0, hz0, hz1, hz2⟩ := info_parts info_set
  have hlN : Ns.length ≤ 4096 := h.2.1
  obtain ⟨r, hr⟩ : ∃ r, r = checkP C Ns size P := ⟨_, rfl⟩
  rw [← hr]
  have HR := Lib.hid hr
  clear hr
  go_enter Tryz.func37, Tryz.ntmps37
  by_cases hbad : size < 0 ∨ 256 < size ∨ P.length < 1 ∨ 5000 < P.length
  · have hr : r = (2, 0) := by rw [HR.out]; unfold checkP; rw [if_pos hbad]
    have HR2 := Lib.hid hr
    clear hr HR
    by_cases h1 : size < 0
    · clear hbad
      go_wp2_with fail
      go_ret2
      exact ⟨by rw [HR2.out]; rfl, (Below.refl _ _).alloc (Nat.le_refl _) _⟩
    · by_cases h2 : 256 < size
      · clear hbad
        go_wp2_with fail
        go_ret2
        exact ⟨by rw [HR2.out]; rfl, (Below.refl _ _).alloc (Nat.le_refl _) _⟩
      · by_cases h3 : P.length < 1
        · clear hbad
          go_wp2_with fail
          go_ret2
          exact ⟨by rw [HR2.out]; rfl, (Below.refl _ _).alloc (Nat.le_refl _) _⟩
        · have h4 : 5000 < P.length := by omega
          clear hbad
          go_wp2_with fail
          go_ret2
          exact ⟨by rw [HR2.out]; rfl, (Below.refl _ _).alloc (Nat.le_refl _) _⟩
  · have h1 : ¬ size < 0 := fun e => hbad (.inl e)
    have h2 : ¬ 256 < size := fun e => hbad (.inr (.inl e))
    have h3 : ¬ P.length < 1 := fun e => hbad (.inr (.inr (.inl e)))
    have h4 : ¬ 5000 < P.length := fun e => hbad (.inr (.inr (.inr e)))
    have hr := HR.out
    unfold checkP at hr
    rw [if_neg hbad] at hr
    have HR2 := Lib.hid hr
    clear hr HR hbad
    go_wp2_with fail
    refine absC1 fun W0 hX hb0 hz => ?_
    obtain ⟨X, hXe⟩ : ∃ X, X = w.heap.size := ⟨_, rfl⟩
    rw [← hXe] at hX ⊢
    clear hXe hz
    refine (form_any A c0 P W0 (hnd.below hb0) (by omega)).mono ?_
    rintro e W1 ⟨fr, rfl, hfr, hb1⟩
    have b1 := hb0.trans (hb1.mono hb0.size)
    have hX1 := hX.below hb1 hX.lt
    have x0 := hX1.cell 0
    have x1 := hX1.cell 1
    rcases hfr with ⟨rfl, hgood⟩ | ⟨n, hn, rfl, hbn, hbm⟩
    · have hf := firstBad_none hgood
      have hfo := form_ok hgood
      have hr := HR2.out
      rw [hf] at hr
      dsimp only at hr
      have HR3 := Lib.hid hr
      clear hr hf hgood HR2
      by_cases h0 : size = 0
      · have hr := HR3.out
        rw [if_pos h0] at hr
        have HR4 := Lib.hid hr
        clear hr HR3
        subst h0
        go_wp2_with fail
        go_ret2
        exact ⟨by rw [HR4.out]; rfl, b1⟩
      · have hr := HR3.out
        rw [if_neg h0] at hr
        have HR4 := Lib.hid hr
        clear hr HR3
        have h0b : (size == 0) = false := by rw [beq_eq_false_iff_ne]; exact h0
        go_wp2_with fail
        refine (rows_any q C Ns W1 (h.below b1)).mono ?_
        rintro e w' ⟨rfl, rfl⟩
        clear x0 x1
        go_wp2_with fail
        refine wp_loopF (β := Nat × Value) (fun s f => #[ptr q, f 1, f 2, .pointer (some ⟨X, 0, none⟩), .int .u8 0, .int .i64 0, f 6, s.2, f 8, f 9, f 10, f 11, f 12, f 13, f 14, f 15, f 16, f 17, f 18, f 19, f 20, f 21, f 22, f 23, f 24, f 25, f 26, f 27, f 28, f 29, f 30, f 31, f 32, f 33, f 34, f 35, f 36, f 37, f 38, f 39, f 40, f 41, f 42, .int .i64 (Ns.length : Int), .int .i64 (s.1 : Int), f 45, f 46, f 47, f 48, f 49, f 50, f 51, f 52, f 53, f 54, f 55, f 56, f 57, f 58, f 59, f 60, f 61, f 62, f 63])
          (fun s ds W => s.1 ≤ Ns.length ∧ ds = [] ∧ Below W1.heap.size W1 W ∧ ∃ vs, W.ownsRow W1.heap.size 65 1 s.2 s.1 vs ∧ Sets W vs (Ns.take s.1)) (fun s => Ns.length - s.1) (0, .slice none 0 0) rfl
          ⟨Nat.zero_le _, rfl, Below.refl _ _, [], World.ownsRow_nil _ _ _ _, by simpa using Sets.nil _⟩ ?_
        rintro ⟨k, v⟩ f ds W ⟨hk, rfl, hbW, vs, hown, hsets⟩
        dsimp only at hk hown hsets ⊢
        have bW := b1.trans (hbW.mono b1.size)
        by_cases hlt : k < Ns.length
        · have hrow := row_any q C Ns k W (h.below bW)
          rw [mrow, if_pos (by omega), Int.toNat_natCast] at hrow
          have htk : Ns.take (k + 1) = Ns.take k ++ [Ns.getD k 0] := by rw [List.take_add_one, List.getElem?_eq_getElem hlt, List.getD_eq_getElem?_getD, List.getElem?_eq_getElem hlt]; rfl
          obtain ⟨N, hN⟩ : ∃ N, N = Ns.getD k 0 := ⟨_, rfl⟩
          rw [← hN] at hrow htk
          have HROW := hideC (res3 rfl hrow)
          have HTK := Lib.hid htk
          clear hrow htk hN
          go_wp2_with fail
          refine HROW.out.mono ?_
          rintro e wr ⟨A3, n3, c3, rfl, s3, hb3⟩
          have hb13 := hbW.trans (hb3.mono hbW.size)
          have hown3 := own_below hown hb3
          have hsets3 := hsets.below hb3
          have hsz := hb13.size
          clear HROW hown hsets hb3
          have hloc := own_below hown3 ((Below.refl wr.heap.size wr).alloc (Nat.le_refl _) (.cells #[.slice A3 n3 c3] 65))
          go_wp2_with (at_builtin; refine wpList_append_own _ rfl _ _ 83 rfl (W1.heap.size) 65 i0 (.agg #[.slice none 0 0]) 1 24 Tryz.underlying83 hi0 hz0 hz1 hz2 rfl (by decide) _ _ _ rfl (hloc) ⟨wr.heap.size, 0, none⟩ 1 1 [.slice A3 n3 c3] rfl rfl (cell_one_new _ _ _) (by simp [Value.oneCell']) (by unfold maxLen; omega) (by omega) (by simp; omega) ?_; intro v' w3 hown' hgrow _)
          have hb9 := (hb13.alloc hb13.size (.cells #[.slice A3 n3 c3] 65)).grown hgrow (by simp; omega) (fun q hq => (hloc.lt q hq).1)
          have hs9 := ((hsets3.snoc s3).below ((Below.refl wr.heap.size wr).alloc (Nat.le_refl _) (.cells #[.slice A3 n3 c3] 65))).keep (KeepW.grown hgrow hloc (by decide))
          exact ⟨(k + 1, v'), rfl, ⟨by show k + 1 ≤ Ns.length; omega, by first | rfl | trivial, hb9, _, hown', by show Sets _ _ (Ns.take (k + 1)); rw [HTK.out]; exact hs9⟩, by show Ns.length - (k + 1) < Ns.length - k; omega⟩
        · obtain rfl : k = Ns.length := by omega
          rw [List.take_length] at hsets
          obtain ⟨A9, c9, rfl, hlc, -, hrow9, -⟩ := row_of_own hown
          have hXW := hX1.below hbW hX1.lt
          have x0 := hXW.cell 0
          have x1 := hXW.cell 1
          have hni : NI W q C Ns A P A9 vs Ns := ⟨h.below bW, hin, hnd.below bW, hfo, hrow9, hsets, rfl, hT.below bW⟩
          have hnode := node_any q C Ns A c0 P P.length 0 (size - 1) A9 c9 vs Ns W (by omega) (by omega) (by omega) (by omega) hlc hni
          rw [← HR4.out] at hnode
          have HN := hideC hnode
          have hsw : wrap64 (size - 1) = size - 1 := IntWalk.wrap64_in _ ⟨by omega, by omega⟩
          clear hnode hown hrow9 hsets hni
          obtain ⟨r1, r2⟩ := r
          go_wp2_with fail
          refine HN.out.mono ?_
          rintro e w5 ⟨rfl, hb5⟩
          go_wp2_with fail
          go_ret2
          exact ⟨rfl, bW.trans (hb5.mono bW.size)⟩
    · have hf := firstBad_some hn hbn hbm
      have hr := HR2.out
      rw [hf] at hr
      dsimp only at hr
      have HR3 := Lib.hid hr
      clear hr hf hbm hbn HR2
      go_wp2_with fail
      go_ret2
      exact ⟨by rw [HR3.out]; rfl, b1⟩
end Mix2
end Go.Proofs.YtlakjhhpdbgekaaGreatDoor
