/-
  The reference of chapter 47: in, Concepts.
-/
import Derived.Test.YtgpooflcbljidaaDoorRr2
namespace Go.Proofs.YtgpooflcbljidaaDoor
open Go.RowKit
set_option maxRecDepth 100000 in
set_option maxHeartbeats 2000000 in
theorem in_ref (C : Nat) (A : Option Addr) (c : Nat) (M : List (List Bool)) (s i j : Nat) (w : World) (h : IsRef w C A M) (hC : C ≤ 12) (hR : M.length ≤ 60) (hi : i < M.length) (hj : j < C) :
    Calls Tryd.prog 84 #[refV C A M.length c, .int .u64 s, .int .i64 i, .int .i64 j] w fun e w' => e = .returned (.bool (inS C (nsOf C M) s (i, j))) ∧ Below w.heap.size w w' := by
  have HHV := Lib.hid (fun W (hb : Below w.heap.size w W) => havr_any C A c M s W (h.below hb) (by omega) hR)
  have es := tmod_form s j
  have hin : inS C (nsOf C M) s (i, j) = (s.testBit j && (havN C (nsOf C M) s).testBit i) := rfl
  obtain ⟨r, hr⟩ : ∃ r, r = havN C (nsOf C M) s := ⟨_, rfl⟩
  rw [← hr] at HHV hin
  have er := tmod_form r i
  clear hr
  have HIN := Lib.hid hin
  clear hin
  go_enter Tryd.func84, Tryd.ntmps84
  by_cases hs : s.testBit j = true
  · rw [if_pos hs] at es
    rw [hs, Bool.true_and] at HIN
    clear hs
    by_cases hri : r.testBit i = true
    · rw [if_pos hri] at er
      rw [hri] at HIN
      clear hri
      go_wp2_with fail
      refine absC1 fun W0 hX hb0 hz => ?_
      refine (HHV.out W0 hb0).mono ?_
      rintro e w1 ⟨rfl, hb1⟩
      go_wp2_with fail
      go_ret
      exact ⟨by rw [HIN.out]; rfl, hb0.trans (hb1.mono hb0.size)⟩
    · rw [if_neg hri] at er
      rw [Bool.not_eq_true] at hri
      rw [hri] at HIN
      clear hri
      go_wp2_with fail
      refine absC1 fun W0 hX hb0 hz => ?_
      refine (HHV.out W0 hb0).mono ?_
      rintro e w1 ⟨rfl, hb1⟩
      go_wp2_with fail
      go_ret
      exact ⟨by rw [HIN.out]; rfl, hb0.trans (hb1.mono hb0.size)⟩
  · rw [if_neg hs] at es
    rw [Bool.not_eq_true] at hs
    rw [hs, Bool.false_and] at HIN
    clear hs er
    go_wp2_with fail
    go_ret
    exact ⟨by rw [HIN.out]; rfl, (Below.refl _ _).alloc (Nat.le_refl _) _⟩
/-- The concepts that contain a cell; nothing if it is no one. -/
def conR (C : Nat) (M : List (List Bool)) (i j : Int) : List Nat := if hasR C M i j = true then conL C (nsOf C M) i.toNat j.toNat else []
def conTo (C : Nat) (M : List (List Bool)) (i j : Int) (k : Nat) : List Nat := ((allL C (nsOf C M)).take k).filter fun s => hasR C M i j && inS C (nsOf C M) s (i.toNat, j.toNat)
theorem conTo_all (C : Nat) (M : List (List Bool)) (i j : Int) : conTo C M i j (allL C (nsOf C M)).length = conR C M i j := by
  unfold conTo conR
  rw [List.take_length]
  split
  · next h =>
    rw [← allL_con]
    refine List.filter_congr fun s _ => ?_
    rw [h, Bool.true_and]
  · next h =>
    rw [Bool.not_eq_true] at h
    rw [List.filter_eq_nil_iff]
    intro s _
    rw [h]; simp
theorem hasR_parts {C : Nat} {M : List (List Bool)} {i j : Int} (h : hasR C M i j = true) : ∃ a b : Nat, i = a ∧ j = b ∧ a < M.length ∧ b < C := by
  unfold hasR insideB at h
  rw [Bool.and_eq_true, decide_eq_true_eq] at h
  exact ⟨i.toNat, j.toNat, by omega, by omega, by omega, by omega⟩
theorem filter_take_yes {α : Type} {p : α → Bool} {l : List α} {k : Nat} {x : α} (hx : l[k]? = some x) (h : p x = true) : (l.take (k + 1)).filter p = (l.take k).filter p ++ [x] := by
  rw [List.take_add_one, hx, List.filter_append]; simp [h]
theorem filter_take_no {α : Type} {p : α → Bool} {l : List α} {k : Nat} {x : α} (hx : l[k]? = some x) (h : p x = false) : (l.take (k + 1)).filter p = (l.take k).filter p := by
  rw [List.take_add_one, hx, List.filter_append]; simp [h]
set_option maxRecDepth 100000 in
set_option maxHeartbeats 4000000 in
theorem concr_any (C : Nat) (A : Option Addr) (c : Nat) (M : List (List Bool)) (i j : Int) (w : World) (h : IsRef w C A M) (hC : C ≤ 12) (hR : M.length ≤ 60) :
    Calls Tryd.prog 37 #[refV C A M.length c, .int .i64 i, .int .i64 j] w fun e w' => ∃ v, e = .returned v ∧ w'.ownsRow w.heap.size 72 1 v (conR C M i j).length (u64L (conR C M i j)) ∧ Below w.heap.size w w' := by
  obtain ⟨i0, hi0, hz0, hz1, hz2⟩ := info_parts info_u64
  have hend := conTo_all C M i j
  have hyes : ∀ k s, (allL C (nsOf C M))[k]? = some s → (hasR C M i j && inS C (nsOf C M) s (i.toNat, j.toNat)) = true → conTo C M i j (k + 1) = conTo C M i j k ++ [s] := fun k s hs h1 => filter_take_yes (p := fun s => hasR C M i j && inS C (nsOf C M) s (i.toNat, j.toNat)) hs h1
  have hno : ∀ k s, (allL C (nsOf C M))[k]? = some s → (hasR C M i j && inS C (nsOf C M) s (i.toNat, j.toNat)) = false → conTo C M i j (k + 1) = conTo C M i j k := fun k s hs h1 => filter_take_no (p := fun s => hasR C M i j && inS C (nsOf C M) s (i.toNat, j.toNat)) hs h1
  have hle : ∀ k, (conTo C M i j k).length ≤ k := fun k => Nat.le_trans (List.length_filter_le _ _) (by rw [List.length_take]; omega)
  have h0 : conTo C M i j 0 = [] := by simp [conTo]
  have hlen : (allL C (nsOf C M)).length ≤ 4096 := Nat.le_trans (allTo_len C (nsOf C M) (2 ^ C)) (Nat.le_trans (Nat.pow_le_pow_right (by omega) hC) (by decide))
  have hin := fun s W a b (hb : Below w.heap.size w W) (ha : a < M.length) (hb' : b < C) => in_ref C A c M s a b W (h.below hb) hC hR ha hb'
  have hhas := fun W (hb : Below w.heap.size w W) => hasr_any C A c M i j W (h.below hb)
  generalize conTo C M i j = T at hend hyes hno hle h0
  generalize conR C M i j = Z at hend ⊢
  obtain ⟨L, hL⟩ : ∃ L, L = allL C (nsOf C M) := ⟨_, rfl⟩
  rw [← hL] at hend hyes hno hlen
  have hcall := fun W (hb : Below w.heap.size w W) => Mix2.all47_any C A c M W (h.below hb) hC hR
  rw [← hL] at hcall
  have HCALL := Lib.hid hcall; have HHAS := Lib.hid hhas; have HIN := Lib.hid hin; have HYES := Lib.hid hyes; have HNO := Lib.hid hno; have HEND := Lib.hid hend; have HLE := Lib.hid hle; have H0 := Lib.hid h0
  clear hcall hhas hin hyes hno hend hle h0 hL
  go_enter Tryd.func37, Tryd.ntmps37
  go_wp2_with fail
  refine absC1 fun W0 hX0 hb0 hz => ?_
  obtain ⟨X, hXe⟩ : ∃ g, g = w.heap.size := ⟨_, rfl⟩
  rw [← hXe] at hX0 ⊢
  have HXE := Lib.hid hXe
  clear hXe hz
  have x0 := hX0.cell 0
  have x1 := hX0.cell 1
  refine (HCALL.out W0 hb0).mono ?_
  rintro e w1 ⟨v1, rfl, hown1, hb1⟩
  obtain ⟨A1, c1, rfl, hlc, -, hrow, -⟩ := row_of_own hown1
  have b1 := hb0.trans (hb1.mono hb0.size)
  have hX1 := hX0.below hb1 hX0.lt
  clear x0 x1 hX0 hown1 hb1
  go_wp2_with fail
  refine wp_loopF (β := Nat × Value) (fun x f => #[f 0, .int .i64 i, .int .i64 j, .pointer (some ⟨X, 0, none⟩), f 4, f 5, .slice none 0 0, x.2, f 8, f 9, f 10, .slice A1 L.length c1, .int .i64 (L.length : Int), .int .i64 (x.1 : Int), f 14, f 15, f 16, f 17, f 18, f 19, f 20, f 21, f 22, f 23, f 24, f 25, f 26, f 27, f 28, f 29, f 30, f 31, f 32, f 33])
    (fun x ds W => x.1 ≤ L.length ∧ ds = [] ∧ Below w1.heap.size w1 W ∧ W.ownsRow w1.heap.size 72 1 x.2 (T x.1).length (u64L (T x.1))) (fun x => L.length - x.1) (0, .slice none 0 0) rfl
    ⟨Nat.zero_le _, rfl, Below.refl _ _, by dsimp only; rw [H0.out]; exact World.ownsRow_nil _ _ _ _⟩ ?_
  rintro ⟨k, v⟩ f ds W ⟨hk, rfl, hbW, hown⟩
  dsimp only at hk hown ⊢
  by_cases hlt : k < L.length
  · obtain ⟨s, hs⟩ : ∃ s, L[k]? = some s := ⟨_, List.getElem?_eq_getElem hlt⟩
    obtain ⟨g1, o1, rfl, hg1, hc1⟩ := hrow (by rw [List.length_map]; omega)
    have d1 := onB hbW (hc1 k (.int .u64 (s : Int)) (by rw [List.getElem?_map, hs]; rfl))
    have bW := b1.trans (hbW.mono b1.size)
    have hXW := hX1.below hbW hX1.lt
    have x0 := hXW.cell 0
    have x1 := hXW.cell 1
    have hh := HHAS.out W bW
    have HS := Lib.hid hs
    have hle := HLE.out k
    clear hs hc1
    cases hm : hasR C M i j with
    | false =>
      rw [hm] at hh
      have HN := Lib.hid (HNO.out k s HS.out (by rw [hm]; rfl))
      have HH := hideC hh
      clear hm hh
      go_wp2_with fail
      refine HH.out.mono ?_
      rintro e w2 ⟨rfl, hb2⟩
      go_wp2_with fail
      exact ⟨(k + 1, v), rfl, ⟨by show k + 1 ≤ L.length; omega, by first | rfl | trivial, hbW.trans (hb2.mono hbW.size), by dsimp only; rw [HN.out]; exact own_below hown hb2⟩, by show L.length - (k + 1) < L.length - k; omega⟩
    | true =>
      obtain ⟨a, b, rfl, rfl, ha, hb⟩ := hasR_parts hm
      rw [hm] at hh
      have HIN' := Lib.hid (fun W' hb' => HIN.out s W' a b hb' ha hb)
      have hy := HYES.out k s HS.out
      have hn := HNO.out k s HS.out
      rw [hm, Bool.true_and, Int.toNat_natCast, Int.toNat_natCast] at hy hn
      generalize inS C (nsOf C M) s (a, b) = t at HIN' hy hn
      have HH := hideC hh
      have HY := Lib.hid hy; have HN := Lib.hid hn
      clear hm hh hy hn
      go_wp2_with fail
      refine HH.out.mono ?_
      rintro e w2 ⟨rfl, hb2⟩
      have bW2 := bW.trans (hb2.mono bW.size)
      have hbW2 := hbW.trans (hb2.mono hbW.size)
      have hX2 := hXW.below hb2 hXW.lt
      have hown2 := own_below hown hb2
      clear x0 x1 HH hown hbW hXW
      have x0 := hX2.cell 0
      have x1 := hX2.cell 1
      have HC2 := hideC (HIN'.out w2 bW2)
      go_wp2_with fail
      refine HC2.out.mono ?_
      rintro e w3 ⟨rfl, hb3⟩
      have hbW3 := hbW2.trans (hb3.mono hbW2.size)
      have hown3 := own_below hown2 hb3
      clear HC2 x0 x1 hown2 HIN'
      cases t with
      | false =>
        have HN2 := Lib.hid (HN.out rfl)
        go_wp2_with fail
        exact ⟨(k + 1, v), rfl, ⟨by show k + 1 ≤ L.length; omega, by first | rfl | trivial, hbW3, by dsimp only; rw [HN2.out]; exact hown3⟩, by show L.length - (k + 1) < L.length - k; omega⟩
      | true =>
        have HN2 := Lib.hid (HY.out rfl)
        have hsz := hbW3.size
        have hlocs := own_below hown3 ((Below.refl w3.heap.size w3).alloc (Nat.le_refl _) (.cells #[.int .u64 (s : Int)] 72))
        go_wp2_with (at_builtin; refine wpList_append_own _ rfl _ _ 64 rfl (w1.heap.size) 72 i0 (.int .u64 0) 1 8 Tryd.underlying64 hi0 hz0 hz1 hz2 rfl (by decide) _ _ _ rfl (hlocs) ⟨w3.heap.size, 0, none⟩ 1 1 [.int .u64 (s : Int)] rfl rfl (cell_one_new _ _ _) (by simp [Value.oneCell']) (by unfold maxLen; omega) (by omega) (by simp; omega) ?_; intro v' w3 hown' hgrow _)
        have hbw := (hbW3.alloc hbW3.size (.cells #[.int .u64 (s : Int)] 72)).grown hgrow (by simp; omega) (fun p hp => (hlocs.lt p hp).1)
        exact ⟨(k + 1, v'), rfl, ⟨by show k + 1 ≤ L.length; omega, by first | rfl | trivial, hbw, by dsimp only; rw [HN2.out]; exact own_ins hown' (by simp) (Nat.le_refl _)⟩, by show L.length - (k + 1) < L.length - k; omega⟩
  · obtain rfl : k = L.length := by omega
    rw [HEND.out] at hown
    go_wp2_with fail
    go_ret
    exact ⟨v, rfl, own_low hown b1.size, b1.trans (hbW.mono b1.size)⟩
end Go.Proofs.YtgpooflcbljidaaDoor
