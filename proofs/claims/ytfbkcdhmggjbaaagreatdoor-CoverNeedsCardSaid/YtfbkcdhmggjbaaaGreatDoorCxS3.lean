import Derived.Test.YtfbkcdhmggjbaaaGreatDoorCxS2
import Derived.Deep.DeepCutAuto
import Derived.Deep.CutBlock
/-
  The reference of chapter 48: Simplify.
-/
namespace Go.Proofs.YtfbkcdhmggjbaaaGreatDoor
open Go.RowKit
theorem abs5 {P : Program} {c : Code} {Q : Exit → Act → World → Prop} {a : Act} {w : World} {c1 c2 c3 c4 c5 : Array Value} {t1 t2 t3 t4 t5 : TypeId} (h : ∀ W, Blk W w.heap.size t1 c1 → Blk W (w.heap.size + 1) t2 c2 → Blk W (w.heap.size + 2) t3 c3 → Blk W (w.heap.size + 3) t4 c4 → Blk W (w.heap.size + 4) t5 c5 → Below w.heap.size w W → c.wp P Q a W) :
    c.wp P Q a (((((w.alloc (.cells c1 t1)).alloc (.cells c2 t2)).alloc (.cells c3 t3)).alloc (.cells c4 t4)).alloc (.cells c5 t5)) :=
  h _ (((((Blk.new _ _ _).alloc _).alloc _).alloc _).alloc _) ((((Blk.new_ (by simp) _ _).alloc _).alloc _).alloc _) (((Blk.new_ (by simp) _ _).alloc _).alloc _) ((Blk.new_ (by simp) _ _).alloc _) (Blk.new_ (by simp) _ _) ((((((Below.refl _ _).alloc (Nat.le_refl _) _).alloc (by simp) _).alloc (by simp; omega) _).alloc (by simp; omega) _).alloc (by simp; omega) _)
/-- Without, at roles. -/
theorem withoutL_any (R C : Nat) (A B : Option Addr) (c d : Nat) (L : List (Nat × Nat)) (r : Nat) (w : World) (hu : YRef w L.length A c (matU R L)) (hp : YRef w C B d (matP C L)) (hr : r < L.length) :
    Calls Tryz.prog 44 #[refV L.length A R c, refV C B L.length d, .int .i64 r] w fun e w' => ∃ A1 c1 A2 c2, e = .returned (.tuple #[refV (L.eraseIdx r).length A1 R c1, refV C A2 (L.eraseIdx r).length c2]) ∧ YRef w' (L.eraseIdx r).length A1 c1 (matU R (L.eraseIdx r)) ∧ YRef w' C A2 c2 (matP C (L.eraseIdx r)) ∧ Below w.heap.size w w' := by
  have h := Mix2.without48_any L.length C A B c d (matU R L) (matP C L) r w hu hp (matP_len C L) hr
  rw [wou_matU hr, wop_matP hr, matU_len, matP_len] at h
  rw [show (L.eraseIdx r).length = L.length - 1 by rw [List.length_eraseIdx, if_pos hr]]
  exact h
def prodL (R C : Nat) (L : List (Nat × Nat)) : List (List Bool) := mat R C (prodF (matU R L) (matP C L) L.length)
theorem prodL_any (R C : Nat) (A B : Option Addr) (c d : Nat) (L : List (Nat × Nat)) (w : World) (hu : YRef w L.length A c (matU R L)) (hp : YRef w C B d (matP C L)) :
    Calls Tryz.prog 33 #[refV L.length A R c, refV C B L.length d] w fun e w' => ∃ A' c', e = .returned (refV C A' R c') ∧ TRef w' C A' c' (prodL R C L) ∧ Below w.heap.size w w' := by
  have h := prodr_own L.length C A B c d (matU R L) (matP C L) w hu.ref hp.ref (matP_len C L).symm
  rw [matU_len, matP_len] at h
  exact h
theorem sameL_any (C : Nat) (A B : Option Addr) (c d : Nat) (M : List (List Bool)) (L : List (Nat × Nat)) (w : World) (h : TRef w C A c (prodL M.length C L)) (hm : IsRef w C B M) (hL : L.length ≤ 4096) (hwf : WfQ M.length C L) :
    Calls Tryz.prog 45 #[refV C A M.length c, refV C B M.length d] w fun e w' => e = .returned (.bool (validQ C (nsOf C M) L)) ∧ Below w.heap.size w w' := by
  have q := samer_any C C A B c d (prodL M.length C L) M w h.ref hm
  rw [← okR_eq hm.1 hL hwf]
  rwa [show (prodL M.length C L).length = M.length from mat_len ..] at q
theorem withL_any (R : Nat) (A : Option Addr) (c : Nat) (L : List (Nat × Nat)) (i r : Nat) (w : World) (hu : YRef w L.length A c (matU R L)) (hi : i < R) (hr : r < L.length) :
    Calls Tryz.prog 46 #[refV L.length A R c, .int .i64 i, .int .i64 r, .bool false] w fun e w' => ∃ A' c', e = .returned (refV L.length A' R c') ∧ YRef w' L.length A' c' (matU R (clrQ L r i)) ∧ Below w.heap.size w w' := by
  have h := withr_own L.length A c (matU R L) i r false w hu.ref (by rw [matU_len]; exact hi) hr
  rw [matU_len, with_matU hr] at h
  refine h.mono ?_
  rintro e w' ⟨A', c', h1, h2, h3⟩
  exact ⟨A', c', h1, h2.yref, h3⟩
/-- An element. -/
theorem YRef.at_ {w : World} {C : Nat} {A : Option Addr} {c : Nat} {M : List (List Bool)} (h : YRef w C A c M) {i j : Nat} (hi : i < M.length) (hj : j < C) :
    ∃ g off g2 off2 d, A = some ⟨g, off, none⟩ ∧ g < w.heap.size ∧ g2 < w.heap.size ∧ w.cell? ⟨g, off + i, none⟩ = some (.slice (some ⟨g2, off2, none⟩) C d) ∧ w.cell? ⟨g2, off2 + j, none⟩ = some (.bool (mget M i j)) := h.ref.at_ hi hj
/-- The boxes of Simplify. -/
structure SplI (w W : World) (g C R : Nat) (A0 : Option Addr) (c0 : Nat) (Au : Option Addr) (cu : Nat) (Ap : Option Addr) (cp : Nat) (L : List (Nat × Nat)) : Prop where
  b3 : Blk W g 28 #[.int .i64 (C : Int), .slice A0 R c0]
  b4 : Blk W (g + 1) 28 #[.int .i64 (L.length : Int), .slice Au R cu]
  b5 : Blk W (g + 2) 28 #[.int .i64 (C : Int), .slice Ap L.length cp]
  b6 : Blk W (g + 3) 28 #[.int .i64 0, .slice none 0 0]
  b7 : Blk W (g + 4) 28 #[.int .i64 0, .slice none 0 0]
  yu : YRef W L.length Au cu (matU R L)
  yp : YRef W C Ap cp (matP C L)
  bel : Below w.heap.size w W
section
variable {w W W' : World} {g C R c0 cu cp : Nat} {A0 Au Ap : Option Addr} {L : List (Nat × Nat)}
theorem SplI.below (h : SplI w W g C R A0 c0 Au cu Ap cp L) (hb : Below W.heap.size W W') : SplI w W' g C R A0 c0 Au cu Ap cp L :=
  ⟨h.b3.below hb h.b3.lt, h.b4.below hb h.b4.lt, h.b5.below hb h.b5.lt, h.b6.below hb h.b6.lt, h.b7.below hb h.b7.lt, h.yu.below hb, h.yp.below hb, h.bel.trans (hb.mono h.bel.size)⟩
/-- Users are written. -/
theorem SplI.put4 {L' : List (Nat × Nat)} {A' : Option Addr} {c' : Nat} (h : SplI w W g C R A0 c0 Au cu Ap cp L) (hg : w.heap.size ≤ g) (hl : L'.length = L.length) (hP : matP C L' = matP C L) (hy : YRef W L'.length A' c' (matU R L')) :
    SplI w (st2 W (g + 1) (.int .i64 (L'.length : Int)) (.slice A' R c')) g C R A0 c0 A' c' Ap cp L' := by
  have s0 := h.b4.set_ 0 (.int .i64 (L'.length : Int))
  refine ⟨(h.b3.far (p := ⟨g + 1, 0, none⟩) (by simp) _).far (p := ⟨g + 1, 1, none⟩) (by simp) _, s0.set_ 1 _, ?_, (h.b6.far (p := ⟨g + 1, 0, none⟩) (by simp) _).far (p := ⟨g + 1, 1, none⟩) (by simp) _, (h.b7.far (p := ⟨g + 1, 0, none⟩) (by simp) _).far (p := ⟨g + 1, 1, none⟩) (by simp) _, (hy.far h.b4 (by decide) (by decide) 0 _).far s0 (by decide) (by decide) 1 _, ?_, (h.bel.setCell (p := ⟨g + 1, 0, none⟩) (by simp; omega) _).setCell (p := ⟨g + 1, 1, none⟩) (by simp; omega) _⟩
  · rw [hl]
    exact (h.b5.far (p := ⟨g + 1, 0, none⟩) (by simp) _).far (p := ⟨g + 1, 1, none⟩) (by simp) _
  · rw [hP]
    exact (h.yp.far h.b4 (by decide) (by decide) 0 _).far s0 (by decide) (by decide) 1 _
/-- Users and permissions are written. -/
theorem SplI.put45 {L' : List (Nat × Nat)} {A' A2 : Option Addr} {c' c2 : Nat} (h : SplI w W g C R A0 c0 Au cu Ap cp L) (hg : w.heap.size ≤ g) (hy : YRef W L'.length A' c' (matU R L')) (hp : YRef W C A2 c2 (matP C L')) :
    SplI w (st2 (st2 W (g + 1) (.int .i64 (L'.length : Int)) (.slice A' R c')) (g + 2) (.int .i64 (C : Int)) (.slice A2 L'.length c2)) g C R A0 c0 A' c' A2 c2 L' := by
  have s0 := h.b4.set_ 0 (.int .i64 (L'.length : Int))
  have e4 := s0.set_ 1 (.slice A' R c')
  have e5 := (h.b5.far (p := ⟨g + 1, 0, none⟩) (by simp) (.int .i64 (L'.length : Int))).far (p := ⟨g + 1, 1, none⟩) (by simp) (.slice A' R c')
  have d0 := e5.set_ 0 (.int .i64 (C : Int))
  refine ⟨?_, (e4.far (p := ⟨g + 2, 0, none⟩) (by simp) _).far (p := ⟨g + 2, 1, none⟩) (by simp) _, d0.set_ 1 _, ?_, ?_, ?_, ?_, ?_⟩
  · exact (((h.b3.far (p := ⟨g + 1, 0, none⟩) (by simp) _).far (p := ⟨g + 1, 1, none⟩) (by simp) _).far (p := ⟨g + 2, 0, none⟩) (by simp) _).far (p := ⟨g + 2, 1, none⟩) (by simp) _
  · exact (((h.b6.far (p := ⟨g + 1, 0, none⟩) (by simp) _).far (p := ⟨g + 1, 1, none⟩) (by simp) _).far (p := ⟨g + 2, 0, none⟩) (by simp) _).far (p := ⟨g + 2, 1, none⟩) (by simp) _
  · exact (((h.b7.far (p := ⟨g + 1, 0, none⟩) (by simp) _).far (p := ⟨g + 1, 1, none⟩) (by simp) _).far (p := ⟨g + 2, 0, none⟩) (by simp) _).far (p := ⟨g + 2, 1, none⟩) (by simp) _
  · exact (((hy.far h.b4 (by decide) (by decide) 0 _).far s0 (by decide) (by decide) 1 _).far e5 (by decide) (by decide) 0 _).far d0 (by decide) (by decide) 1 _
  · exact (((hp.far h.b4 (by decide) (by decide) 0 _).far s0 (by decide) (by decide) 1 _).far e5 (by decide) (by decide) 0 _).far d0 (by decide) (by decide) 1 _
  · exact (((h.bel.setCell (p := ⟨g + 1, 0, none⟩) (by simp; omega) _).setCell (p := ⟨g + 1, 1, none⟩) (by simp; omega) _).setCell (p := ⟨g + 2, 0, none⟩) (by simp; omega) _).setCell (p := ⟨g + 2, 1, none⟩) (by simp; omega) _
end
namespace Mix2
set_option maxRecDepth 100000 in
set_option maxHeartbeats 16000000 in
theorem simplify48_any (C : Nat) (A0 A B : Option Addr) (c0 c d : Nat) (M : List (List Bool)) (L0 K : List (Nat × Nat)) (w : World) (hm : IsRef w C A0 M) (hu : YRef w L0.length A c (matU M.length L0)) (hp : YRef w C B d (matP C L0)) (hwf0 : WfQ M.length C L0) (hK : K = simQ (validQ C (nsOf C M)) L0) :
    Calls Tryz.prog 11 #[refV C A0 M.length c0, refV L0.length A M.length c, refV C B L0.length d] w fun e w' => ∃ A1 c1 A2 c2, e = .returned (.tuple #[refV K.length A1 M.length c1, refV C A2 K.length c2]) ∧ YRef w' K.length A1 c1 (matU M.length K) ∧ YRef w' C A2 c2 (matP C K) ∧ Below w.heap.size w w' := by
  have hL4 := hu.1
  have hR4 := hm.2.1
  have HWI := Lib.hid (fun A B c d L r W (hu : YRef W L.length A c (matU M.length L)) (hp : YRef W C B d (matP C L)) (hr : r < L.length) => withoutL_any M.length C A B c d L r W hu hp hr)
  have HPR := Lib.hid (fun A B c d L W (hu : YRef W L.length A c (matU M.length L)) (hp : YRef W C B d (matP C L)) => prodL_any M.length C A B c d L W hu hp)
  have HSA := Lib.hid (fun A c L W (h : TRef W C A c (prodL M.length C L)) (hb : Below w.heap.size w W) (hL : L.length ≤ 4096) (hwf : WfQ M.length C L) => sameL_any C A A0 c c0 M L W h (hm.below hb) hL hwf)
  have HWT := Lib.hid (fun A c L i r W (hu : YRef W L.length A c (matU M.length L)) (hi : i < M.length) (hr : r < L.length) => withL_any M.length A c L i r W hu hi hr)
  obtain ⟨ok, hok⟩ : ∃ ok, ok = validQ C (nsOf C M) := ⟨_, rfl⟩
  rw [← hok] at hK HSA
  obtain ⟨KA, hKA⟩ : ∃ KA, KA = simA ok L0.length L0 := ⟨_, rfl⟩
  have hKe : K = simB ok KA KA.length := by rw [hK]; unfold simQ; rw [← hKA]
  have hwfA : WfQ M.length C KA := by rw [hKA]; exact hwf0.simA _
  have hlA : KA.length ≤ L0.length := by rw [hKA]; exact simA_len _ _
  obtain ⟨R, hRe⟩ : ∃ R, R = M.length := ⟨_, rfl⟩
  rw [← hRe] at hu hwf0 hwfA hR4 HWI HPR HSA HWT ⊢
  have HKA := Lib.hid hKA; have HKE := Lib.hid hKe; have HWFA := Lib.hid hwfA
  clear hm hok hK hKA hKe hwfA hRe
  go_enter Tryz.func11, Tryz.ntmps11
  go_upto_region 1 with fail
  refine abs5 fun W0 h3 h4 h5 h6 h7 hb0 => ?_
  obtain ⟨g, hg⟩ : ∃ x, x = w.heap.size := ⟨_, rfl⟩
  have hgw : w.heap.size ≤ g := by omega
  rw [← hg] at h3 h4 h5 h6 h7 ⊢
  clear hg
  have hI0 : SplI w W0 g C R A0 c0 A c B d L0 := ⟨h3, h4, h5, h6, h7, hu.below hb0, hp.below hb0, hb0⟩
  have p0 := h4.cell 0
  clear h3 h4 h5 h6 h7 hb0 hu hp
  go_wp2_with fail
  refine wp_loopF (β := Int × (Option Addr × Nat) × (Option Addr × Nat) × List (Nat × Nat)) (fun x f => #[f 0, f 1, f 2, ptr g, ptr (g + 1), ptr (g + 2), ptr (g + 3), ptr (g + 4), .int .i64 x.1, f 9, f 10, f 11, f 12, f 13, f 14, f 15, f 16, f 17, f 18, f 19, f 20, f 21, f 22, f 23, f 24, f 25, f 26, f 27, f 28, f 29, f 30, f 31, f 32, f 33, f 34, f 35, f 36, f 37, f 38, f 39, f 40, f 41, f 42, f 43, f 44, f 45, f 46, f 47, f 48, f 49, f 50, f 51, f 52, f 53, f 54, f 55, f 56, f 57, f 58, f 59, f 60, f 61, f 62, f 63, f 64, f 65, f 66, f 67, f 68, f 69])
    (fun x ds W => ds = [] ∧ (∃ n : Nat, x.1 = (n : Int) - 1 ∧ n ≤ x.2.2.2.length ∧ simA ok n x.2.2.2 = KA) ∧ SplI w W g C R A0 c0 x.2.1.1 x.2.1.2 x.2.2.1.1 x.2.2.1.2 x.2.2.2 ∧ WfQ R C x.2.2.2 ∧ x.2.2.2.length ≤ L0.length) (fun x => (x.1 + 1).toNat) ((L0.length : Int) - 1, (A, c), (B, d), L0) rfl
    ⟨rfl, ⟨L0.length, rfl, Nat.le_refl _, HKA.out.symm⟩, hI0, hwf0, Nat.le_refl _⟩ ?_
  clear hI0 hwf0 p0
  rintro ⟨i, ⟨Au, cu⟩, ⟨Ap, cp⟩, L⟩ f ds W ⟨rfl, ⟨n, hi, hn, hsim⟩, hI, hwf, hll⟩
  dsimp only at hi hn hsim hI hwf hll ⊢
  rcases n with _ | m
  · obtain rfl : i = -1 := by omega
    obtain rfl : KA = L := hsim.symm
    clear hsim hi hn
    go_wp2_with fail
    have hlA4 : KA.length ≤ 4096 := by omega
    refine wp_loopF (β := Nat × (Option Addr × Nat) × List (Nat × Nat)) (fun x f => #[f 0, f 1, f 2, ptr g, ptr (g + 1), ptr (g + 2), ptr (g + 3), ptr (g + 4), f 8, f 9, f 10, .int .i64 (x.1 : Int), f 12, f 13, f 14, f 15, f 16, f 17, f 18, f 19, f 20, f 21, f 22, f 23, f 24, f 25, f 26, f 27, f 28, f 29, f 30, f 31, f 32, f 33, f 34, f 35, f 36, f 37, f 38, f 39, f 40, f 41, f 42, f 43, f 44, f 45, f 46, f 47, f 48, f 49, f 50, f 51, f 52, f 53, f 54, f 55, f 56, f 57, f 58, f 59, f 60, f 61, f 62, f 63, f 64, f 65, f 66, f 67, f 68, f 69])
      (fun x ds W => ds = [] ∧ x.1 ≤ KA.length ∧ x.2.2 = simB ok KA x.1 ∧ SplI w W g C R A0 c0 x.2.1.1 x.2.1.2 Ap cp x.2.2) (fun x => KA.length - x.1) (0, (Au, cu), KA) rfl
      ⟨rfl, Nat.zero_le _, rfl, hI⟩ ?_
    clear hI
    rintro ⟨r, ⟨Au, cu⟩, L⟩ f ds W ⟨rfl, hrK, hLe, hI⟩
    dsimp only at hrK hLe hI ⊢
    have hLl : L.length = KA.length := by rw [hLe, simB_len]
    have hwfL : WfQ R C L := by rw [hLe]; exact HWFA.out.simB r
    have c40 := hI.b4.cell 0
    have c41 := hI.b4.cell 1
    by_cases hlt : r < KA.length
    · have hrL : r < L.length := by omega
      have hst : (List.range R).foldl (dropU ok r) L = simB ok KA (r + 1) := by rw [simU_drop hwfL hrL, simB_succ, ← hLe]
      have HST := Lib.hid hst
      have hlr : (r : Int) < (L.length : Int) := by omega
      clear hst hLe
      go_wp2_with fail
      refine wp_loopF (β := Nat × (Option Addr × Nat) × List (Nat × Nat)) (fun x f => #[f 0, f 1, f 2, ptr g, ptr (g + 1), ptr (g + 2), ptr (g + 3), ptr (g + 4), f 8, f 9, f 10, .int .i64 (r : Int), f 12, f 13, f 14, f 15, f 16, f 17, f 18, f 19, f 20, f 21, f 22, f 23, f 24, f 25, f 26, f 27, f 28, f 29, f 30, f 31, f 32, f 33, f 34, f 35, f 36, f 37, f 38, f 39, f 40, f 41, f 42, .int .i64 (R : Int), .int .i64 (x.1 : Int), f 45, f 46, f 47, f 48, f 49, f 50, f 51, f 52, f 53, f 54, f 55, f 56, f 57, f 58, f 59, f 60, f 61, f 62, f 63, f 64, f 65, f 66, f 67, f 68, f 69])
        (fun x ds W => ds = [] ∧ x.1 ≤ R ∧ x.2.2 = (List.range x.1).foldl (dropU ok r) L ∧ x.2.2.length = KA.length ∧ WfQ R C x.2.2 ∧ SplI w W g C R A0 c0 x.2.1.1 x.2.1.2 Ap cp x.2.2) (fun x => R - x.1) (0, (Au, cu), L) rfl
        ⟨rfl, Nat.zero_le _, rfl, hLl, hwfL, hI⟩ ?_
      clear hI hwfL c40 c41 hLl hrL hlr
      rintro ⟨i, ⟨Au, cu⟩, L2⟩ f ds W ⟨rfl, hiR, hLe, hLl, hwf, hI⟩
      dsimp only at hiR hLe hLl hwf hI ⊢
      by_cases hli : i < R
      · have hrL : r < L2.length := by omega
        have hst : (List.range (i + 1)).foldl (dropU ok r) L = dropU ok r L2 i := by rw [List.range_succ, List.foldl_append, ← hLe]; rfl
        have HST2 := Lib.hid hst
        have HLL := Lib.hid hLl
        have hL24 : L2.length ≤ 4096 := by omega
        have c40 := hI.b4.cell 0
        have c41 := hI.b4.cell 1
        have HW := hideC (HWT.out Au cu L2 i r W hI.yu hli hrL)
        clear hst hLe hLl
        go_wp2_with fail
        with_reducible refine HW.out.mono ?_
        rintro e W1 ⟨A1, c1, rfl, hu1, hb1⟩
        clear HW
        go_upto_region 15 with fail
        refine abs1 fun W2 h13 hb2 hz => ?_
        clear hz
        obtain ⟨g13, hg13⟩ : ∃ x, x = W1.heap.size := ⟨_, rfl⟩
        have hgg : g + 4 < g13 := by rw [hg13]; exact (hI.below hb1).b7.lt
        rw [← hg13] at h13 ⊢
        clear hg13
        have hI2 := hI.below (hb1.trans (hb2.mono hb1.size))
        have hu2 := hu1.below hb2
        obtain ⟨ga, oa, gb, ob, db, eA, -, -, d1, d2⟩ := hI2.yu.at_ (i := i) (j := r) (by rw [matU_len]; exact hli) hrL
        subst eA
        rw [matU_get hli hrL] at d2
        have hdr : dropU ok r L2 i = if ((L2.getD r (0, 0)).1.testBit i && ok (clrQ L2 r i)) = true then clrQ L2 r i else L2 := rfl
        obtain ⟨bi, hbi⟩ : ∃ b, b = (L2.getD r (0, 0)).1.testBit i := ⟨_, rfl⟩
        rw [← hbi] at d2 hdr
        have hcl : (clrQ L2 r i).length = L2.length := clrQ_len _ _ _
        have hcw := hwf.clr r i
        have hcp : matP C (clrQ L2 r i) = matP C L2 := matP_clr
        obtain ⟨L3, hL3⟩ : ∃ L3, L3 = clrQ L2 r i := ⟨_, rfl⟩
        rw [← hL3] at hdr hcl hcw hcp hu2
        obtain ⟨bo, hbo⟩ : ∃ b, b = ok L3 := ⟨_, rfl⟩
        have HSB := Lib.hid (fun A c W (h : TRef W C A c (prodL R C L3)) (hb : Below w.heap.size w W) => HSA.out A c L3 W h hb (by omega) hcw)
        rw [← hbo] at hdr HSB
        have HDR := Lib.hid hdr; have HCL := Lib.hid hcl; have HCP := Lib.hid hcp
        have hyp3 : YRef W2 C Ap cp (matP C L3) := by rw [hcp]; exact hI2.yp
        rw [← hcl] at hu2
        have c40 := hI2.b4.cell 0
        have c41 := hI2.b4.cell 1
        have c50 := hI2.b5.cell 0
        have c51 := hI2.b5.cell 1
        have c30 := hI2.b3.cell 0
        have c31 := hI2.b3.cell 1
        have c130 := h13.cell 0
        have c131 := h13.cell 1
        clear hdr hbi hL3 hbo hcl hcp hb1 hb2 hu1 hI
        refine wp_mix (fun V => Below W2.heap.size W2 V) 15 (by kernel_rfl) (by kernel_rfl) (Below.refl _ _).drew ?_
        have hr : Below W2.heap.size W2 W2.drew := (Below.refl _ _).drew
        obtain ⟨U, hU⟩ : ∃ U, U = W2.drew := ⟨_, rfl⟩
        rw [← hU] at hr ⊢
        clear hU
        (refine m_q 0 (v := ?_) (by kernel_rfl) rfl rfl (fun W hW => ?_) ?_; rotate_left; (have y0 := onB hW c40; have y1 := onB hW c41; have y2 := onB hW d1; have y3 := onB hW d2; go_simp; first | done | with_reducible rfl); simp only [Act.put, List.setIfInBounds_toArray, List.set_cons_zero, List.set_cons_succ]); (refine m_q 1 (v := ?_) (by kernel_rfl) rfl rfl (fun W hW => ?_) ?_; rotate_left; (have y0 := onB hW c40; have y1 := onB hW c41; have y2 := onB hW d1; have y3 := onB hW d2; go_simp; first | done | with_reducible rfl); simp only [Act.put, List.setIfInBounds_toArray, List.set_cons_zero, List.set_cons_succ]); (refine m_q 2 (v := ?_) (by kernel_rfl) rfl rfl (fun W hW => ?_) ?_; rotate_left; (have y0 := onB hW c40; have y1 := onB hW c41; have y2 := onB hW d1; have y3 := onB hW d2; go_simp; first | done | with_reducible rfl); simp only [Act.put, List.setIfInBounds_toArray, List.set_cons_zero, List.set_cons_succ]); (refine m_q 3 (v := ?_) (by kernel_rfl) rfl rfl (fun W hW => ?_) ?_; rotate_left; (have y0 := onB hW c40; have y1 := onB hW c41; have y2 := onB hW d1; have y3 := onB hW d2; go_simp; first | done | with_reducible rfl); simp only [Act.put, List.setIfInBounds_toArray, List.set_cons_zero, List.set_cons_succ]); (refine m_q 4 (v := ?_) (by kernel_rfl) rfl rfl (fun W hW => ?_) ?_; rotate_left; (have y0 := onB hW c40; have y1 := onB hW c41; have y2 := onB hW d1; have y3 := onB hW d2; go_simp; first | done | with_reducible rfl); simp only [Act.put, List.setIfInBounds_toArray, List.set_cons_zero, List.set_cons_succ]); (refine m_q 5 (v := ?_) (by kernel_rfl) rfl rfl (fun W hW => ?_) ?_; rotate_left; (have y0 := onB hW c40; have y1 := onB hW c41; have y2 := onB hW d1; have y3 := onB hW d2; go_simp; first | done | with_reducible rfl); simp only [Act.put, List.setIfInBounds_toArray, List.set_cons_zero, List.set_cons_succ]); (refine m_q 6 (v := ?_) (by kernel_rfl) rfl rfl (fun W hW => ?_) ?_; rotate_left; (have y0 := onB hW c40; have y1 := onB hW c41; have y2 := onB hW d1; have y3 := onB hW d2; go_simp; first | done | with_reducible rfl); simp only [Act.put, List.setIfInBounds_toArray, List.set_cons_zero, List.set_cons_succ]); (refine m_q 7 (v := ?_) (by kernel_rfl) rfl rfl (fun W hW => ?_) ?_; rotate_left; (have y0 := onB hW c40; have y1 := onB hW c41; have y2 := onB hW d1; have y3 := onB hW d2; go_simp; first | done | with_reducible rfl); simp only [Act.put, List.setIfInBounds_toArray, List.set_cons_zero, List.set_cons_succ]); (refine m_q 8 (v := ?_) (by kernel_rfl) rfl rfl (fun W hW => ?_) ?_; rotate_left; (have y0 := onB hW c40; have y1 := onB hW c41; have y2 := onB hW d1; have y3 := onB hW d2; go_simp; first | done | with_reducible rfl); simp only [Act.put, List.setIfInBounds_toArray, List.set_cons_zero, List.set_cons_succ])
        cases bi with
        | false =>
          have hdr := HDR.out
          rw [Bool.false_and, if_neg (by simp), ← HST2.out] at hdr
          have HD := Lib.hid hdr
          have hI3 := hI2.below hr
          clear hdr d1 d2 c40 c41 c50 c51 c30 c31 c130 c131 hyp3 hu2 HSB
          (refine m_no 9 (by kernel_rfl) rfl (by rfl) ?_; simp only [Act.put, List.setIfInBounds_toArray, List.set_cons_zero, List.set_cons_succ]); (refine m_no 10 (by kernel_rfl) rfl (by rfl) ?_; simp only [Act.put, List.setIfInBounds_toArray, List.set_cons_zero, List.set_cons_succ]); (refine m_no 11 (by kernel_rfl) rfl (by rfl) ?_; simp only [Act.put, List.setIfInBounds_toArray, List.set_cons_zero, List.set_cons_succ]); (refine m_no 12 (by kernel_rfl) rfl (by rfl) ?_; simp only [Act.put, List.setIfInBounds_toArray, List.set_cons_zero, List.set_cons_succ]); (refine m_no 13 (by kernel_rfl) rfl (by rfl) ?_; simp only [Act.put, List.setIfInBounds_toArray, List.set_cons_zero, List.set_cons_succ])
          (refine m_q 14 (v := ?_) (by kernel_rfl) rfl rfl (fun W hW => ?_) ?_; rotate_left; (go_simp; first | done | with_reducible rfl); simp only [Act.put, List.setIfInBounds_toArray, List.set_cons_zero, List.set_cons_succ])
          refine m_end (by kernel_rfl) ?_
          go_wp2_with fail
          exact ⟨(i + 1, (some ⟨ga, oa, none⟩, cu), L2), rfl, ⟨by first | rfl | trivial, by show i + 1 ≤ R; omega, HD.out.symm, HLL.out, hwf, hI3⟩, by show R - (i + 1) < R - i; omega⟩
        | true =>
          (refine m_yes 9 (v := ?_) (by kernel_rfl) rfl (by rfl) (fun W hW => ?_) ?_; rotate_left; (have y0 := onB hW c130; have y1 := onB hW c131; have y2 := onB hW c50; have y3 := onB hW c51; have y4 := onB hW c30; have y5 := onB hW c31; go_simp; first | done | with_reducible rfl); simp only [Act.put, List.setIfInBounds_toArray, List.set_cons_zero, List.set_cons_succ]); (refine m_yes 10 (v := ?_) (by kernel_rfl) rfl (by rfl) (fun W hW => ?_) ?_; rotate_left; (have y0 := onB hW c130; have y1 := onB hW c131; have y2 := onB hW c50; have y3 := onB hW c51; have y4 := onB hW c30; have y5 := onB hW c31; go_simp; first | done | with_reducible rfl); simp only [Act.put, List.setIfInBounds_toArray, List.set_cons_zero, List.set_cons_succ]); (refine m_yes 12 (v := ?_) (by kernel_rfl) rfl (by rfl) (fun W hW => ?_) ?_; rotate_left; (have y0 := onB hW c130; have y1 := onB hW c131; have y2 := onB hW c50; have y3 := onB hW c51; have y4 := onB hW c30; have y5 := onB hW c31; go_simp; first | done | with_reducible rfl); simp only [Act.put, List.setIfInBounds_toArray, List.set_cons_zero, List.set_cons_succ])
          have hpr := HPR.out A1 Ap c1 cp L3 U (hu2.below hr) (hyp3.below hr)
          rw [HCL.out] at hpr
          have HP := hideC hpr
          clear hpr
          refine m_s1 11 (by kernel_rfl) rfl ?_
          go_wp2_with fail
          with_reducible refine HP.out.mono ?_
          rintro e U2 ⟨A3, c3, rfl, hT3, hb3⟩
          have hr3 := hr.trans (hb3.mono hr.size)
          go_wp2_with fail
          refine m_keep hr3 ?_
          have HS := hideC (HSB.out A3 c3 U2 hT3 (hI2.bel.trans (hr3.mono hI2.bel.size)))
          refine m_s1 13 (by kernel_rfl) rfl ?_
          go_wp2_with fail
          with_reducible refine HS.out.mono ?_
          rintro e U3 ⟨rfl, hb4⟩
          have hr4 := hr3.trans (hb4.mono hr3.size)
          go_wp2_with fail
          refine m_keep hr4 ?_
          (refine m_q 14 (v := ?_) (by kernel_rfl) rfl rfl (fun W hW => ?_) ?_; rotate_left; (go_simp; first | done | with_reducible rfl); simp only [Act.put, List.setIfInBounds_toArray, List.set_cons_zero, List.set_cons_succ])
          refine m_end (by kernel_rfl) ?_
          have hI3 := hI2.below hr4
          have hu3 := hu2.below hr4
          have h133 := h13.below hr4 h13.lt
          clear HP HS hr hr3 hr4 hb3 hb4 hT3 c130 c131 c30 c31 c50 c51 c40 c41 d1 d2 hI2 hu2 h13 HSB hyp3
          cases bo with
          | true =>
            have hdr := HDR.out
            rw [Bool.true_and, if_pos rfl, ← HST2.out] at hdr
            have HD := Lib.hid hdr
            have hn := hI3.put4 hgw HCL.out HCP.out hu3
            rw [HCL.out] at hn
            have c130 := h133.cell 0
            have c131 := h133.cell 1
            have c40 := hI3.b4.cell 0
            have c41 := hI3.b4.cell 1
            have f40 := hI3.b4.frozen 0
            have f41 := hI3.b4.frozen 1
            have l4 := hI3.b4.lt
            have HN := Lib.hid hn
            clear hdr hn hI3 hu3 h133
            go_wp2_with fail
            exact ⟨(i + 1, (A1, c1), L3), rfl, ⟨by first | rfl | trivial, by show i + 1 ≤ R; omega, HD.out.symm, by show L3.length = _; rw [HCL.out, HLL.out], hcw, HN.out⟩, by show R - (i + 1) < R - i; omega⟩
          | false =>
            have hdr := HDR.out
            rw [Bool.and_false, if_neg (by simp), ← HST2.out] at hdr
            have HD := Lib.hid hdr
            clear hdr hu3 h133
            go_wp2_with fail
            exact ⟨(i + 1, (some ⟨ga, oa, none⟩, cu), L2), rfl, ⟨by first | rfl | trivial, by show i + 1 ≤ R; omega, HD.out.symm, HLL.out, hwf, hI3⟩, by show R - (i + 1) < R - i; omega⟩
      · obtain rfl : i = R := by omega
        have hLf : L2 = simB ok KA (r + 1) := by rw [hLe, HST.out]
        have HLF := Lib.hid hLf
        clear hLf hLe
        go_wp2_with fail
        exact ⟨(r + 1, (Au, cu), L2), rfl, ⟨by first | rfl | trivial, by show r + 1 ≤ KA.length; omega, HLF.out, hI⟩, by show KA.length - (r + 1) < KA.length - r; omega⟩
    · obtain rfl : r = KA.length := by omega
      obtain rfl : K = L := by rw [HKE.out, hLe]
      have HLK := Lib.hid hLl
      have hK4 : K.length ≤ 4096 := by omega
      rw [hLl] at c40
      clear hLl hLe
      go_upto_region 18 with fail
      clear c40 c41
      have h4W := hI.b4
      have h5W := hI.b5
      rw [HLK.out] at h4W h5W
      refine wp_mix (fun U => Blk U (g + 1) 28 #[.int .i64 (KA.length : Int), .slice Au R cu] ∧ Blk U (g + 2) 28 #[.int .i64 (C : Int), .slice Ap KA.length cp]) 4 (by kernel_rfl) (by kernel_rfl) ⟨h4W, h5W⟩ ?_
      obtain ⟨U, hU⟩ : ∃ U, U = W.drew := ⟨_, rfl⟩
      have hdr : Below W.heap.size W U := by rw [hU]; exact (Below.refl _ _).drew
      rw [← hU]
      clear hU
      (refine m_q 0 (v := ?_) (by kernel_rfl) rfl rfl (fun W hW => ?_) ?_; rotate_left; (have y0 := hW.1.cell 0; have y1 := hW.1.cell 1; go_simp; first | done | with_reducible rfl); simp only [Act.put, List.setIfInBounds_toArray, List.set_cons_zero, List.set_cons_succ])
      (refine m_q 1 (v := ?_) (by kernel_rfl) rfl rfl (fun W hW => ?_) ?_; rotate_left; (have y0 := hW.2.cell 0; have y1 := hW.2.cell 1; go_simp; first | done | with_reducible rfl); simp only [Act.put, List.setIfInBounds_toArray, List.set_cons_zero, List.set_cons_succ])
      have hIU := hI.below hdr
      have h4U := h4W.below hdr h4W.lt
      have h5U := h5W.below hdr h5W.lt
      have f60 := hIU.b6.frozen 0
      have f61 := hIU.b6.frozen 1
      have f70 := hIU.b7.frozen 0
      have f71 := hIU.b7.frozen 1
      have c60 := hIU.b6.cell 0
      have c61 := hIU.b6.cell 1
      have c70 := hIU.b7.cell 0
      have c71 := hIU.b7.cell 1
      have l6 := hIU.b6.lt
      have l7 := hIU.b7.lt
      have e6 := (hIU.b6.set_ 0 (.int .i64 (KA.length : Int))).set_ 1 (.slice Au R cu)
      have e7 := (hIU.b7.far (p := ⟨g + 3, 0, none⟩) (by simp) (.int .i64 (KA.length : Int))).far (p := ⟨g + 3, 1, none⟩) (by simp) (.slice Au R cu)
      have e8 := (h4U.far (p := ⟨g + 3, 0, none⟩) (by simp) (.int .i64 (KA.length : Int))).far (p := ⟨g + 3, 1, none⟩) (by simp) (.slice Au R cu)
      have e11 := (h5U.far (p := ⟨g + 3, 0, none⟩) (by simp) (.int .i64 (KA.length : Int))).far (p := ⟨g + 3, 1, none⟩) (by simp) (.slice Au R cu)
      have k6 := (e6.far (p := ⟨g + 4, 0, none⟩) (by simp) (.int .i64 (C : Int))).far (p := ⟨g + 4, 1, none⟩) (by simp) (.slice Ap KA.length cp)
      have k7 := (e7.set_ 0 (.int .i64 (C : Int))).set_ 1 (.slice Ap KA.length cp)
      have k8 := (e8.far (p := ⟨g + 4, 0, none⟩) (by simp) (.int .i64 (C : Int))).far (p := ⟨g + 4, 1, none⟩) (by simp) (.slice Ap KA.length cp)
      have k11 := (e11.far (p := ⟨g + 4, 0, none⟩) (by simp) (.int .i64 (C : Int))).far (p := ⟨g + 4, 1, none⟩) (by simp) (.slice Ap KA.length cp)
      have y8 := (((hIU.yu.far hIU.b6 (by decide) (by decide) 0 (.int .i64 (KA.length : Int))).far (hIU.b6.set_ 0 _) (by decide) (by decide) 1 (.slice Au R cu)).far e7 (by decide) (by decide) 0 (.int .i64 (C : Int))).far (e7.set_ 0 _) (by decide) (by decide) 1 (.slice Ap KA.length cp)
      have y11 := (((hIU.yp.far hIU.b6 (by decide) (by decide) 0 (.int .i64 (KA.length : Int))).far (hIU.b6.set_ 0 _) (by decide) (by decide) 1 (.slice Au R cu)).far e7 (by decide) (by decide) 0 (.int .i64 (C : Int))).far (e7.set_ 0 _) (by decide) (by decide) 1 (.slice Ap KA.length cp)
      have hbl := (((hIU.bel.setCell (p := ⟨g + 3, 0, none⟩) (by simp; omega) (.int .i64 (KA.length : Int))).setCell (p := ⟨g + 3, 1, none⟩) (by simp; omega) (.slice Au R cu)).setCell (p := ⟨g + 4, 0, none⟩) (by simp; omega) (.int .i64 (C : Int))).setCell (p := ⟨g + 4, 1, none⟩) (by simp; omega) (.slice Ap KA.length cp)
      have H8 := Lib.hid e8; have H11 := Lib.hid e11; have K6 := Lib.hid k6; have K7 := Lib.hid k7; have K8 := Lib.hid k8; have K11 := Lib.hid k11; have HY8 := Lib.hid y8; have HY11 := Lib.hid y11; have HBL := Lib.hid hbl
      clear e6 e7 e8 e11 k6 k7 k8 k11 y8 y11 hbl hIU h4U h5U h4W h5W hI hdr
      refine m_s1 2 (by kernel_rfl) rfl ?_
      go_wp2_with fail
      refine m_keep ⟨H8.out, H11.out⟩ ?_
      refine m_s1 3 (by kernel_rfl) rfl ?_
      go_wp2_with fail
      refine m_keep ⟨K8.out, K11.out⟩ ?_
      refine m_end (by kernel_rfl) ?_
      clear c60 c61 c70 c71 f60 f61 f70 f71
      go_wp2_with fail
      have c60 := K6.out.cell 0
      have c61 := K6.out.cell 1
      have c70 := K7.out.cell 0
      have c71 := K7.out.cell 1
      rw [HLK.out]
      have hy8 := HY8.out
      rw [HLK.out] at hy8
      exact bodyPost_ret (v := .tuple #[refV KA.length Au R cu, refV C Ap KA.length cp]) (by simp [results, Tryz.results11, go_sem, c60, c61, c70, c71]) rfl ⟨Au, cu, Ap, cp, rfl, hy8, HY11.out, HBL.out⟩
  · obtain rfl : i = (m : Int) := by omega
    have HSIM := Lib.hid hsim
    have hmn : m < L.length := by omega
    have c40 := hI.b4.cell 0
    have c41 := hI.b4.cell 1
    have c50 := hI.b5.cell 0
    have c51 := hI.b5.cell 1
    have HW := hideC (HWI.out Au Ap cu cp L m W hI.yu hI.yp hmn)
    clear hsim hi
    go_wp2_with fail
    refine HW.out.mono ?_
    rintro e W1 ⟨A1, c1, A2, c2, rfl, hu1, hp1, hb1⟩
    clear HW
    go_upto_region 5 with fail
    refine abs2 fun W2 h9 h10 hb2 hz => ?_
    clear hz
    obtain ⟨g9, hg9⟩ : ∃ x, x = W1.heap.size := ⟨_, rfl⟩
    have hgg : g + 4 < g9 := by rw [hg9]; exact (hI.below hb1).b7.lt
    rw [← hg9] at h9 h10 ⊢
    clear hg9
    have hle : (L.eraseIdx m).length ≤ L.length := List.length_eraseIdx_le _ _
    have hln : m ≤ (L.eraseIdx m).length := by rw [List.length_eraseIdx, if_pos hmn]; omega
    have hwf2 := hwf.erase m
    have hs1 : simA ok (m + 1) L = simA ok m (if ok (L.eraseIdx m) = true then L.eraseIdx m else L) := rfl
    have hsim := HSIM.out
    rw [hs1] at hsim
    obtain ⟨L2, hL2⟩ : ∃ L2, L2 = L.eraseIdx m := ⟨_, rfl⟩
    rw [← hL2] at hle hln hwf2 hsim h9 h10 hu1 hp1 ⊢
    have hI2 := hI.below (hb1.trans (hb2.mono hb1.size))
    have hu2 := hu1.below hb2
    have hp2 := hp1.below hb2
    have hL24 : L2.length ≤ 4096 := by omega
    have c90 := h9.cell 0
    have c91 := h9.cell 1
    have c100 := h10.cell 0
    have c101 := h10.cell 1
    have c30 := hI2.b3.cell 0
    have c31 := hI2.b3.cell 1
    obtain ⟨bo, hbo⟩ : ∃ b, b = ok L2 := ⟨_, rfl⟩
    have HSB := Lib.hid (fun A c W (h : TRef W C A c (prodL R C L2)) (hb : Below w.heap.size w W) => HSA.out A c L2 W h hb hL24 hwf2)
    rw [← hbo] at HSB hsim
    clear hs1 hL2 hbo HSIM hb1 hb2 hu1 hp1 hI c40 c41 c50 c51 HWI
    refine wp_mix (fun V => Below W2.heap.size W2 V) 5 (by kernel_rfl) (by kernel_rfl) (Below.refl _ _).drew ?_
    have hr : Below W2.heap.size W2 W2.drew := (Below.refl _ _).drew
    obtain ⟨U, hU⟩ : ∃ U, U = W2.drew := ⟨_, rfl⟩
    rw [← hU] at hr ⊢
    clear hU
    (refine m_q 0 (v := ?_) (by kernel_rfl) rfl rfl (fun W hW => ?_) ?_; rotate_left; (have y0 := onB hW c90; have y1 := onB hW c91; have y2 := onB hW c100; have y3 := onB hW c101; have y4 := onB hW c30; have y5 := onB hW c31; go_simp; first | done | with_reducible rfl); simp only [Act.put, List.setIfInBounds_toArray, List.set_cons_zero, List.set_cons_succ]); (refine m_q 1 (v := ?_) (by kernel_rfl) rfl rfl (fun W hW => ?_) ?_; rotate_left; (have y0 := onB hW c90; have y1 := onB hW c91; have y2 := onB hW c100; have y3 := onB hW c101; have y4 := onB hW c30; have y5 := onB hW c31; go_simp; first | done | with_reducible rfl); simp only [Act.put, List.setIfInBounds_toArray, List.set_cons_zero, List.set_cons_succ]); (refine m_q 3 (v := ?_) (by kernel_rfl) rfl rfl (fun W hW => ?_) ?_; rotate_left; (have y0 := onB hW c90; have y1 := onB hW c91; have y2 := onB hW c100; have y3 := onB hW c101; have y4 := onB hW c30; have y5 := onB hW c31; go_simp; first | done | with_reducible rfl); simp only [Act.put, List.setIfInBounds_toArray, List.set_cons_zero, List.set_cons_succ])
    have HP := hideC (HPR.out A1 A2 c1 c2 L2 U (hu2.below hr) (hp2.below hr))
    refine m_s1 2 (by kernel_rfl) rfl ?_
    go_wp2_with fail
    refine HP.out.mono ?_
    rintro e U2 ⟨A3, c3, rfl, hT3, hb3⟩
    have hr3 := hr.trans (hb3.mono hr.size)
    go_wp2_with fail
    refine m_keep hr3 ?_
    have HS := hideC (HSB.out A3 c3 U2 hT3 (hI2.bel.trans (hr3.mono hI2.bel.size)))
    refine m_s1 4 (by kernel_rfl) rfl ?_
    go_wp2_with fail
    refine HS.out.mono ?_
    rintro e U3 ⟨rfl, hb4⟩
    have hr4 := hr3.trans (hb4.mono hr3.size)
    go_wp2_with fail
    refine m_keep hr4 ?_
    refine m_end (by kernel_rfl) ?_
    have hI3 := hI2.below hr4
    have hu3 := hu2.below hr4
    have hp3 := hp2.below hr4
    have h93 := h9.below hr4 h9.lt
    have h103 := h10.below hr4 h10.lt
    clear HP HS hr hr3 hr4 hb3 hb4 hT3 c90 c91 c100 c101 c30 c31 hI2 hu2 hp2 h9 h10 HSB
    cases bo with
    | true =>
      rw [if_pos rfl] at hsim
      have HSI := Lib.hid hsim
      have hn := hI3.put45 hgw hu3 hp3
      have c90 := h93.cell 0
      have c91 := h93.cell 1
      have c40 := hI3.b4.cell 0
      have c41 := hI3.b4.cell 1
      have f40 := hI3.b4.frozen 0
      have f41 := hI3.b4.frozen 1
      have l4 := hI3.b4.lt
      have s4 := (hI3.b4.set_ 0 (.int .i64 (L2.length : Int))).set_ 1 (.slice A1 R c1)
      have s5 := (hI3.b5.far (p := ⟨g + 1, 0, none⟩) (by simp) (.int .i64 (L2.length : Int))).far (p := ⟨g + 1, 1, none⟩) (by simp) (.slice A1 R c1)
      have s10 := (h103.far (p := ⟨g + 1, 0, none⟩) (by simp; omega) (.int .i64 (L2.length : Int))).far (p := ⟨g + 1, 1, none⟩) (by simp; omega) (.slice A1 R c1)
      have c100 := s10.cell 0
      have c101 := s10.cell 1
      have c50 := s5.cell 0
      have c51 := s5.cell 1
      have f50 := s5.frozen 0
      have f51 := s5.frozen 1
      have l5 := s5.lt
      have HN := Lib.hid hn
      clear hsim hn s4 s5 s10 hI3 hu3 hp3 h93 h103
      go_wp2_with fail
      exact ⟨((m : Int) - 1, (A1, c1), (A2, c2), L2), rfl, ⟨by first | rfl | trivial, ⟨m, rfl, hln, HSI.out⟩, HN.out, hwf2, by dsimp only; omega⟩, by show ((m : Int) - 1 + 1).toNat < ((m : Int) + 1).toNat; omega⟩
    | false =>
      rw [if_neg (by simp)] at hsim
      have HSI := Lib.hid hsim
      clear hsim hu3 hp3 h93 h103
      go_wp2_with fail
      exact ⟨((m : Int) - 1, (Au, cu), (Ap, cp), L), rfl, ⟨by first | rfl | trivial, ⟨m, rfl, by dsimp only; omega, HSI.out⟩, hI3, hwf, by dsimp only; omega⟩, by show ((m : Int) - 1 + 1).toNat < ((m : Int) + 1).toNat; omega⟩
end Mix2
end Go.Proofs.YtfbkcdhmggjbaaaGreatDoor

/-
  arbaclaw48.product: roles by numbers, and the matrix that they give.
-/
namespace Go.Proofs.YtfbkcdhmggjbaaaGreatDoor
open Go.RowKit
/-- A box for a matrix of the specification's, made behind w, empty as yet. -/
abbrev Bz (w W : World) (g : Nat) : Prop := Bo1 w W g (.int .i64 0) (.slice none 0 0)
/-- What Make has left. -/
def MkY (W : World) (R C : Nat) (zs : List Int) (A : Option Addr) (c : Nat) : Prop := YRef W C A c (rawM R C zs)
theorem MkY.below {W W' : World} {R C c : Nat} {zs : List Int} {A : Option Addr} (h : MkY W R C zs A c) (hb : Below W.heap.size W W') : MkY W' R C zs A c := YRef.below h hb
theorem YRef.st2 {W : World} {C c g : Nat} {A : Option Addr} {M : List (List Bool)} {x y : Value} (h : YRef W C A c M) (hB : Blk W g 28 #[x, y]) (x' y' : Value) : YRef (st2 W g x' y') C A c M :=
  (h.far hB (by decide) (by decide) 0 x').far (hB.set_ 0 x') (by decide) (by decide) 1 y'
theorem makeY_any (v : Value) (R C : Nat) (zs : List Int) (w : World) (h : IsRaw w v R C zs) :
    Calls Tryz.prog 24 #[v] w fun e w' => ∃ A c, e = .returned (refV C A R c) ∧ MkY w' R C zs A c ∧ Below w.heap.size w w' := by
  have hb := h.bd
  refine (make_own v R C zs w h).mono ?_
  rintro e w' ⟨A, c, gs, rfl, hgs, hO, hb'⟩
  obtain ⟨A', c', e, hY⟩ := YRef.of_own hO hgs (by omega) (by omega)
  cases e
  exact ⟨A, c, rfl, hY, hb'⟩
namespace Mix2
set_option maxRecDepth 100000 in
set_option maxHeartbeats 16000000 in
theorem product48_any (v v' : Value) (R C R' C' : Nat) (zs zs' : List Int) (w : World) (h : IsRaw w v R C zs) (h' : IsRaw w v' R' C' zs') :
    Calls Tryz.prog 8 #[v, v'] w fun e w' => ∃ A1 c1 A2 c2 A3 c3, e = .returned (.tuple #[refV C A1 R c1, refV C' A2 C c2, refV C' A3 R c3]) ∧ YRef w' C A1 c1 (rawM R C zs) ∧ YRef w' C' A2 c2 (rawM C C' zs') ∧ YRef w' C' A3 c3 (mat R C' (prodF (rawM R C zs) (rawM C C' zs') C)) ∧ Below w.heap.size w w' := by
  have hbd := h.bd
  have hbd' := h'.bd
  obtain ⟨r, c, A0, d0, hv, h2r, h3c, hr1, hc1, hrow, hz, hl⟩ := id h
  obtain ⟨r', c', A0', d0', hv', h2r', h3c', hr1', hc1', hrow', hz', hl'⟩ := id h'
  subst hv; subst hv'
  have h'' : IsRaw w (.agg #[.int .u8 c, .int .u8 c', .slice A0' zs'.length d0']) C C' zs' := ⟨c, c', A0', d0', rfl, h3c, h3c', hc1, hc1', hrow', hz', hl'⟩
  have HIN := hideC h; have HIN' := hideC h''
  clear h h' h'' h2r h3c h2r' h3c' hrow hrow' hz hz' hl hl' hr1 hr1' hc1 hc1'
  go_enter Tryz.func8, Tryz.ntmps8
  go_upto_region 1 with fail
  refine abs5 fun W0 h2 h3 h4 h5 h6 hb0 => ?_
  obtain ⟨g, hg⟩ : ∃ x, x = w.heap.size := ⟨_, rfl⟩
  have hgw : w.heap.size ≤ g := by omega
  rw [← hg] at h2 h3 h4 h5 h6 ⊢
  clear hg
  have c21 := h2.cell 1
  have c30 := h3.cell 0
  have f30 := h3.frozen 0
  have l3 := h3.lt
  have k2 := h2.far (p := ⟨g + 1, 0, none⟩) (by simp) (.int .u8 c)
  have k3 := h3.set_ 0 (.int .u8 c)
  have k4 := h4.far (p := ⟨g + 1, 0, none⟩) (by simp) (.int .u8 c)
  have k5 := h5.far (p := ⟨g + 1, 0, none⟩) (by simp) (.int .u8 c)
  have k6 := h6.far (p := ⟨g + 1, 0, none⟩) (by simp) (.int .u8 c)
  have kb := hb0.setCell (p := ⟨g + 1, 0, none⟩) (by simp; omega) (.int .u8 c)
  have K2 := Lib.hid k2; have K3 := Lib.hid k3; have K4 := Lib.hid k4; have K5 := Lib.hid k5; have K6 := Lib.hid k6; have KB := Lib.hid kb
  clear k2 k3 k4 k5 k6 kb h2 h3 h4 h5 h6 hb0
  go_upto_region 2 with fail
  obtain ⟨W1, hW1⟩ : ∃ W1, W1 = W0.setCell ⟨g + 1, 0, none⟩ (.int .u8 c) := ⟨_, rfl⟩
  rw [← hW1] at K2 K3 K4 K5 K6 KB ⊢
  clear hW1 c21 c30 f30 l3
  go_upto_region 3 with fail
  go_cut [7, 8] (fun s7 s8 wx => ∃ (g7 g8 : Nat) (A1 A2 : Option Addr) (c1 c2 : Nat), s7 = ptr g7 ∧ s8 = ptr g8 ∧ Blk wx g7 28 #[.int .i64 (C : Int), .slice A1 R c1] ∧ Blk wx g8 28 #[.int .i64 (C' : Int), .slice A2 C c2] ∧ YRef wx C A1 c1 (rawM R C zs) ∧ YRef wx C' A2 c2 (rawM C C' zs') ∧ W1.heap.size ≤ g7 ∧ W1.heap.size ≤ g8 ∧ g7 ≠ g8 ∧ Below W1.heap.size W1 wx)
  case first =>
    have x0 := K2.out.cell 0
    have x1 := K2.out.cell 1
    have x2 := K2.out.cell 2
    have y0 := K3.out.cell 0
    have y1 := K3.out.cell 1
    have y2 := K3.out.cell 2
    refine wp_mix (fun V => Below W1.heap.size W1 V) 8 (by kernel_rfl) (by kernel_rfl) (Below.refl _ _).drew ?_
    have b := (Below.refl W1.heap.size W1).drew
    obtain ⟨W, hWW⟩ : ∃ V, V = W1.drew := ⟨_, rfl⟩
    rw [← hWW] at b ⊢
    clear hWW
    have HM1 := Lib.hid (fun V (hb : Below W1.heap.size W1 V) => makeY_any _ R C zs V (HIN.out.below (KB.out.trans (hb.mono KB.out.size))))
    have HM2 := Lib.hid (fun V (hb : Below W1.heap.size W1 V) => makeY_any _ C C' zs' V (HIN'.out.below (KB.out.trans (hb.mono KB.out.size))))
    (refine m_q 0 (v := ?_) (by kernel_rfl) rfl rfl (fun W hW => ?_) ?_; rotate_left; (have z0 := onB hW x0; have z1 := onB hW x1; have z2 := onB hW x2; have w0 := onB hW y0; have w1 := onB hW y1; have w2 := onB hW y2; go_simp; first | done | with_reducible rfl); simp only [Act.put, List.setIfInBounds_toArray, List.set_cons_zero, List.set_cons_succ]); (refine m_q 2 (v := ?_) (by kernel_rfl) rfl rfl (fun W hW => ?_) ?_; rotate_left; (have z0 := onB hW x0; have z1 := onB hW x1; have z2 := onB hW x2; have w0 := onB hW y0; have w1 := onB hW y1; have w2 := onB hW y2; go_simp; first | done | with_reducible rfl); simp only [Act.put, List.setIfInBounds_toArray, List.set_cons_zero, List.set_cons_succ])
    clear x0 x1 x2 y0 y1 y2
    refine m_join (β := Option Addr × Nat × Option Addr × Nat × Nat × Nat) #[true, true, true, true, true, true, false, false] 2 (fun b f => #[Value.agg #[Value.int IntKind.u8 (r : Int), Value.int IntKind.u8 (c : Int), Value.slice A0 zs.length d0], Value.agg #[Value.int IntKind.u8 (r' : Int), Value.int IntKind.u8 (c' : Int), Value.slice A0' zs'.length d0'], Value.pointer (some { block := g, off := 0 }), Value.pointer (some { block := g + 1, off := 0 }), Value.pointer (some { block := g + 1 + 1, off := 0 }), Value.pointer (some { block := g + 1 + 1 + 1, off := 0 }), Value.pointer (some { block := g + 1 + 1 + 1 + 1, off := 0 }), ptr b.2.2.2.2.1, ptr b.2.2.2.2.2, Value.pointer (some { block := g, off := 1 }), Value.int IntKind.u8 (c : Int), Value.pointer (some { block := g + 1, off := 0 }), Value.agg #[Value.int IntKind.u8 (r : Int), Value.int IntKind.u8 (c : Int), Value.slice A0 zs.length d0], refV C b.1 R b.2.1, Value.agg #[Value.int IntKind.u8 (c : Int), Value.int IntKind.u8 (c' : Int), Value.slice A0' zs'.length d0'], refV C' b.2.2.1 C b.2.2.2.1, undef, undef, undef, undef, undef]) (fun b ds W => ds = [] ∧ Below W1.heap.size W1 W ∧ MkY W R C zs b.1 b.2.1 ∧ MkY W C C' zs' b.2.2.1 b.2.2.2.1 ∧ Bz W1 W b.2.2.2.2.1 ∧ Bz W1 W b.2.2.2.2.2 ∧ b.2.2.2.2.1 ≠ b.2.2.2.2.2) ?_ ?_
    · rintro ⟨A1, c1, A2, c2, g7, g8⟩ f ds W ⟨rfl, b, T1, T2, X7, X8, ng7g8⟩
      try dsimp only at b T1 T2 X7 X8 ng7g8 ⊢
      have P7 := X7.put (.int .i64 (C : Int)) (.slice A1 R c1)
      have P8 := X8.far (Ne.symm ng7g8) (.int .i64 (C : Int)) (.slice A1 R c1)
      have Q1 := YRef.st2 T1 X7.1 (.int .i64 (C : Int)) (.slice A1 R c1)
      have Q2 := YRef.st2 T2 X7.1 (.int .i64 (C : Int)) (.slice A1 R c1)
      have Pb := X7.base b (.int .i64 (C : Int)) (.slice A1 R c1)
      have e0 := X7.1.cell 0; have e1 := X7.1.cell 1; have f0 := X7.1.frozen 0; have f1 := X7.1.frozen 1; have lg := X7.lt
      have HP7 := Lib.hid P7; have HP8 := Lib.hid P8; have HQ1 := Lib.hid Q1; have HQ2 := Lib.hid Q2; have HPB := Lib.hid Pb
      clear P7 P8 Q1 Q2 Pb X7 X8 T1 T2 b
      refine m_s1 6 (by kernel_rfl) rfl ?_
      go_wp2_with fail
      refine m_keep HPB.out ?_
      obtain ⟨W7, hW7⟩ : ∃ W7, W7 = st2 W g7 (.int .i64 (C : Int)) (.slice A1 R c1) := ⟨_, rfl⟩
      rw [← hW7] at HP7 HP8 HQ1 HQ2 HPB
      have hW7e := hW7
      unfold st2 at hW7e
      rw [← hW7e]
      clear hW7 hW7e e0 e1 f0 f1 lg
      have P8 := HP8.out.put (.int .i64 (C' : Int)) (.slice A2 C c2)
      have P7 := HP7.out.far ng7g8 (.int .i64 (C' : Int)) (.slice A2 C c2)
      have Q1 := YRef.st2 HQ1.out HP8.out.1 (.int .i64 (C' : Int)) (.slice A2 C c2)
      have Q2 := YRef.st2 HQ2.out HP8.out.1 (.int .i64 (C' : Int)) (.slice A2 C c2)
      have Pb := HP8.out.base HPB.out (.int .i64 (C' : Int)) (.slice A2 C c2)
      have e0 := HP8.out.1.cell 0; have e1 := HP8.out.1.cell 1; have f0 := HP8.out.1.frozen 0; have f1 := HP8.out.1.frozen 1; have lg := HP8.out.lt
      have HR7 := Lib.hid P7; have HR8 := Lib.hid P8; have HR1 := Lib.hid Q1; have HR2 := Lib.hid Q2; have HRB := Lib.hid Pb
      clear P7 P8 Q1 Q2 Pb
      refine m_s1 7 (by kernel_rfl) rfl ?_
      go_wp2_with fail
      refine m_keep HRB.out ?_
      refine m_end (by kernel_rfl) ?_
      go_wp2_with fail
      go_meet
      exact ⟨g7, g8, A1, A2, c1, c2, rfl, rfl, HR7.out.1, HR8.out.1, HR1.out, HR2.out, HR7.out.2, HR8.out.2, ng7g8, HRB.out⟩
    intro H2_45
    refine m_join (β := Option Addr × Nat × Option Addr × Nat × Nat × Nat) #[true, true, true, true, true, false, false, false] 3 (fun b f => #[Value.agg #[Value.int IntKind.u8 (r : Int), Value.int IntKind.u8 (c : Int), Value.slice A0 zs.length d0], Value.agg #[Value.int IntKind.u8 (r' : Int), Value.int IntKind.u8 (c' : Int), Value.slice A0' zs'.length d0'], Value.pointer (some { block := g, off := 0 }), Value.pointer (some { block := g + 1, off := 0 }), Value.pointer (some { block := g + 1 + 1, off := 0 }), Value.pointer (some { block := g + 1 + 1 + 1, off := 0 }), Value.pointer (some { block := g + 1 + 1 + 1 + 1, off := 0 }), ptr b.2.2.2.2.1, f 8, Value.pointer (some { block := g, off := 1 }), Value.int IntKind.u8 (c : Int), Value.pointer (some { block := g + 1, off := 0 }), Value.agg #[Value.int IntKind.u8 (r : Int), Value.int IntKind.u8 (c : Int), Value.slice A0 zs.length d0], refV C b.1 R b.2.1, Value.agg #[Value.int IntKind.u8 (c : Int), Value.int IntKind.u8 (c' : Int), Value.slice A0' zs'.length d0'], refV C' b.2.2.1 C b.2.2.2.1, undef, undef, undef, undef, undef]) (fun b ds W => ds = [] ∧ Below W1.heap.size W1 W ∧ MkY W R C zs b.1 b.2.1 ∧ MkY W C C' zs' b.2.2.1 b.2.2.2.1 ∧ Bz W1 W b.2.2.2.2.1) ?_ ?_
    · rintro ⟨A1, c1, A2, c2, g7, g8⟩ f ds W ⟨rfl, b, T1, T2, X7⟩
      try dsimp only at b T1 T2 X7 ⊢
      refine m_s1 5 (by kernel_rfl) rfl ?_
      go_wp2_with fail
      refine absN fun wn hB hb _ => ?_
      refine m_keep (b.trans (hb.mono b.size)) ?_
      exact H2_45 ⟨A1, c1, A2, c2, g7, _⟩ _ _ _ (by kernel_rfl) rfl ⟨rfl, b.trans (hb.mono b.size), T1.below hb, T2.below hb, X7.below hb, .mk' hB b.size, Nat.ne_of_lt X7.lt⟩
    intro H2_4
    refine m_join (β := Option Addr × Nat × Option Addr × Nat × Nat × Nat) #[true, true, true, true, false, true, false, false] 3 (fun b f => #[Value.agg #[Value.int IntKind.u8 (r : Int), Value.int IntKind.u8 (c : Int), Value.slice A0 zs.length d0], Value.agg #[Value.int IntKind.u8 (r' : Int), Value.int IntKind.u8 (c' : Int), Value.slice A0' zs'.length d0'], Value.pointer (some { block := g, off := 0 }), Value.pointer (some { block := g + 1, off := 0 }), Value.pointer (some { block := g + 1 + 1, off := 0 }), Value.pointer (some { block := g + 1 + 1 + 1, off := 0 }), Value.pointer (some { block := g + 1 + 1 + 1 + 1, off := 0 }), f 7, ptr b.2.2.2.2.2, Value.pointer (some { block := g, off := 1 }), Value.int IntKind.u8 (c : Int), Value.pointer (some { block := g + 1, off := 0 }), Value.agg #[Value.int IntKind.u8 (r : Int), Value.int IntKind.u8 (c : Int), Value.slice A0 zs.length d0], refV C b.1 R b.2.1, Value.agg #[Value.int IntKind.u8 (c : Int), Value.int IntKind.u8 (c' : Int), Value.slice A0' zs'.length d0'], refV C' b.2.2.1 C b.2.2.2.1, undef, undef, undef, undef, undef]) (fun b ds W => ds = [] ∧ Below W1.heap.size W1 W ∧ MkY W R C zs b.1 b.2.1 ∧ MkY W C C' zs' b.2.2.1 b.2.2.2.1 ∧ Bz W1 W b.2.2.2.2.2) ?_ ?_
    · rintro ⟨A1, c1, A2, c2, g7, g8⟩ f ds W ⟨rfl, b, T1, T2, X8⟩
      try dsimp only at b T1 T2 X8 ⊢
      refine m_s1 4 (by kernel_rfl) rfl ?_
      go_wp2_with fail
      refine absN fun wn hB hb _ => ?_
      refine m_keep (b.trans (hb.mono b.size)) ?_
      exact H2_45 ⟨A1, c1, A2, c2, _, g8⟩ _ _ _ (by kernel_rfl) rfl ⟨rfl, b.trans (hb.mono b.size), T1.below hb, T2.below hb, .mk' hB b.size, X8.below hb, Nat.ne_of_gt X8.lt⟩
    intro H2_5
    refine m_join (β := Option Addr × Nat × Option Addr × Nat × Nat × Nat) #[true, true, true, false, true, true, false, false] 3 (fun b f => #[Value.agg #[Value.int IntKind.u8 (r : Int), Value.int IntKind.u8 (c : Int), Value.slice A0 zs.length d0], Value.agg #[Value.int IntKind.u8 (r' : Int), Value.int IntKind.u8 (c' : Int), Value.slice A0' zs'.length d0'], Value.pointer (some { block := g, off := 0 }), Value.pointer (some { block := g + 1, off := 0 }), Value.pointer (some { block := g + 1 + 1, off := 0 }), Value.pointer (some { block := g + 1 + 1 + 1, off := 0 }), Value.pointer (some { block := g + 1 + 1 + 1 + 1, off := 0 }), ptr b.2.2.2.2.1, ptr b.2.2.2.2.2, Value.pointer (some { block := g, off := 1 }), Value.int IntKind.u8 (c : Int), Value.pointer (some { block := g + 1, off := 0 }), Value.agg #[Value.int IntKind.u8 (r : Int), Value.int IntKind.u8 (c : Int), Value.slice A0 zs.length d0], refV C b.1 R b.2.1, Value.agg #[Value.int IntKind.u8 (c : Int), Value.int IntKind.u8 (c' : Int), Value.slice A0' zs'.length d0'], f 15, undef, undef, undef, undef, undef]) (fun b ds W => ds = [] ∧ Below W1.heap.size W1 W ∧ MkY W R C zs b.1 b.2.1 ∧ Bz W1 W b.2.2.2.2.1 ∧ Bz W1 W b.2.2.2.2.2 ∧ b.2.2.2.2.1 ≠ b.2.2.2.2.2) ?_ ?_
    · rintro ⟨A1, c1, A2, c2, g7, g8⟩ f ds W ⟨rfl, b, T1, X7, X8, ng7g8⟩
      try dsimp only at b T1 X7 X8 ng7g8 ⊢
      refine m_s1 3 (by kernel_rfl) rfl ?_
      go_wp2_with fail
      refine (HM2.out _ b).mono ?_
      rintro e wn ⟨A2, c2, rfl, T2, hb⟩
      have b := b.trans (hb.mono b.size)
      go_wp2_with fail
      refine m_keep b ?_
      exact H2_45 ⟨A1, c1, A2, c2, g7, g8⟩ _ _ _ (by kernel_rfl) rfl ⟨rfl, b, T1.below hb, T2, X7.below hb, X8.below hb, ng7g8⟩
    intro H1_45
    refine m_join (β := Option Addr × Nat × Option Addr × Nat × Nat × Nat) #[true, true, true, true, false, false, false, false] 4 (fun b f => #[Value.agg #[Value.int IntKind.u8 (r : Int), Value.int IntKind.u8 (c : Int), Value.slice A0 zs.length d0], Value.agg #[Value.int IntKind.u8 (r' : Int), Value.int IntKind.u8 (c' : Int), Value.slice A0' zs'.length d0'], Value.pointer (some { block := g, off := 0 }), Value.pointer (some { block := g + 1, off := 0 }), Value.pointer (some { block := g + 1 + 1, off := 0 }), Value.pointer (some { block := g + 1 + 1 + 1, off := 0 }), Value.pointer (some { block := g + 1 + 1 + 1 + 1, off := 0 }), f 7, f 8, Value.pointer (some { block := g, off := 1 }), Value.int IntKind.u8 (c : Int), Value.pointer (some { block := g + 1, off := 0 }), Value.agg #[Value.int IntKind.u8 (r : Int), Value.int IntKind.u8 (c : Int), Value.slice A0 zs.length d0], refV C b.1 R b.2.1, Value.agg #[Value.int IntKind.u8 (c : Int), Value.int IntKind.u8 (c' : Int), Value.slice A0' zs'.length d0'], refV C' b.2.2.1 C b.2.2.2.1, undef, undef, undef, undef, undef]) (fun b ds W => ds = [] ∧ Below W1.heap.size W1 W ∧ MkY W R C zs b.1 b.2.1 ∧ MkY W C C' zs' b.2.2.1 b.2.2.2.1) ?_ ?_
    · rintro ⟨A1, c1, A2, c2, g7, g8⟩ f ds W ⟨rfl, b, T1, T2⟩
      try dsimp only at b T1 T2 ⊢
      refine m_s2 4 5 (by kernel_rfl) rfl rfl ?_ ?_
      · go_wp2_with fail
        refine absN fun wn hB hb _ => ?_
        refine m_keep (b.trans (hb.mono b.size)) ?_
        exact H2_4 ⟨A1, c1, A2, c2, _, 0⟩ _ _ _ (by kernel_rfl) rfl ⟨rfl, b.trans (hb.mono b.size), T1.below hb, T2.below hb, .mk' hB b.size⟩
      · go_wp2_with fail
        refine absN fun wn hB hb _ => ?_
        refine m_keep (b.trans (hb.mono b.size)) ?_
        exact H2_5 ⟨A1, c1, A2, c2, 0, _⟩ _ _ _ (by kernel_rfl) rfl ⟨rfl, b.trans (hb.mono b.size), T1.below hb, T2.below hb, .mk' hB b.size⟩
    intro H2_
    refine m_join (β := Option Addr × Nat × Option Addr × Nat × Nat × Nat) #[true, true, true, false, true, false, false, false] 4 (fun b f => #[Value.agg #[Value.int IntKind.u8 (r : Int), Value.int IntKind.u8 (c : Int), Value.slice A0 zs.length d0], Value.agg #[Value.int IntKind.u8 (r' : Int), Value.int IntKind.u8 (c' : Int), Value.slice A0' zs'.length d0'], Value.pointer (some { block := g, off := 0 }), Value.pointer (some { block := g + 1, off := 0 }), Value.pointer (some { block := g + 1 + 1, off := 0 }), Value.pointer (some { block := g + 1 + 1 + 1, off := 0 }), Value.pointer (some { block := g + 1 + 1 + 1 + 1, off := 0 }), ptr b.2.2.2.2.1, f 8, Value.pointer (some { block := g, off := 1 }), Value.int IntKind.u8 (c : Int), Value.pointer (some { block := g + 1, off := 0 }), Value.agg #[Value.int IntKind.u8 (r : Int), Value.int IntKind.u8 (c : Int), Value.slice A0 zs.length d0], refV C b.1 R b.2.1, Value.agg #[Value.int IntKind.u8 (c : Int), Value.int IntKind.u8 (c' : Int), Value.slice A0' zs'.length d0'], f 15, undef, undef, undef, undef, undef]) (fun b ds W => ds = [] ∧ Below W1.heap.size W1 W ∧ MkY W R C zs b.1 b.2.1 ∧ Bz W1 W b.2.2.2.2.1) ?_ ?_
    · rintro ⟨A1, c1, A2, c2, g7, g8⟩ f ds W ⟨rfl, b, T1, X7⟩
      try dsimp only at b T1 X7 ⊢
      refine m_s2 3 5 (by kernel_rfl) rfl rfl ?_ ?_
      · go_wp2_with fail
        refine (HM2.out _ b).mono ?_
        rintro e wn ⟨A2, c2, rfl, T2, hb⟩
        have b := b.trans (hb.mono b.size)
        go_wp2_with fail
        refine m_keep b ?_
        exact H2_4 ⟨A1, c1, A2, c2, g7, 0⟩ _ _ _ (by kernel_rfl) rfl ⟨rfl, b, T1.below hb, T2, X7.below hb⟩
      · go_wp2_with fail
        refine absN fun wn hB hb _ => ?_
        refine m_keep (b.trans (hb.mono b.size)) ?_
        exact H1_45 ⟨A1, c1, none, 0, g7, _⟩ _ _ _ (by kernel_rfl) rfl ⟨rfl, b.trans (hb.mono b.size), T1.below hb, X7.below hb, .mk' hB b.size, Nat.ne_of_lt X7.lt⟩
    intro H1_4
    refine m_join (β := Option Addr × Nat × Option Addr × Nat × Nat × Nat) #[true, true, true, false, false, true, false, false] 4 (fun b f => #[Value.agg #[Value.int IntKind.u8 (r : Int), Value.int IntKind.u8 (c : Int), Value.slice A0 zs.length d0], Value.agg #[Value.int IntKind.u8 (r' : Int), Value.int IntKind.u8 (c' : Int), Value.slice A0' zs'.length d0'], Value.pointer (some { block := g, off := 0 }), Value.pointer (some { block := g + 1, off := 0 }), Value.pointer (some { block := g + 1 + 1, off := 0 }), Value.pointer (some { block := g + 1 + 1 + 1, off := 0 }), Value.pointer (some { block := g + 1 + 1 + 1 + 1, off := 0 }), f 7, ptr b.2.2.2.2.2, Value.pointer (some { block := g, off := 1 }), Value.int IntKind.u8 (c : Int), Value.pointer (some { block := g + 1, off := 0 }), Value.agg #[Value.int IntKind.u8 (r : Int), Value.int IntKind.u8 (c : Int), Value.slice A0 zs.length d0], refV C b.1 R b.2.1, Value.agg #[Value.int IntKind.u8 (c : Int), Value.int IntKind.u8 (c' : Int), Value.slice A0' zs'.length d0'], f 15, undef, undef, undef, undef, undef]) (fun b ds W => ds = [] ∧ Below W1.heap.size W1 W ∧ MkY W R C zs b.1 b.2.1 ∧ Bz W1 W b.2.2.2.2.2) ?_ ?_
    · rintro ⟨A1, c1, A2, c2, g7, g8⟩ f ds W ⟨rfl, b, T1, X8⟩
      try dsimp only at b T1 X8 ⊢
      refine m_s2 3 4 (by kernel_rfl) rfl rfl ?_ ?_
      · go_wp2_with fail
        refine (HM2.out _ b).mono ?_
        rintro e wn ⟨A2, c2, rfl, T2, hb⟩
        have b := b.trans (hb.mono b.size)
        go_wp2_with fail
        refine m_keep b ?_
        exact H2_5 ⟨A1, c1, A2, c2, 0, g8⟩ _ _ _ (by kernel_rfl) rfl ⟨rfl, b, T1.below hb, T2, X8.below hb⟩
      · go_wp2_with fail
        refine absN fun wn hB hb _ => ?_
        refine m_keep (b.trans (hb.mono b.size)) ?_
        exact H1_45 ⟨A1, c1, none, 0, _, g8⟩ _ _ _ (by kernel_rfl) rfl ⟨rfl, b.trans (hb.mono b.size), T1.below hb, .mk' hB b.size, X8.below hb, Nat.ne_of_gt X8.lt⟩
    intro H1_5
    refine m_join (β := Option Addr × Nat × Option Addr × Nat × Nat × Nat) #[true, false, true, false, true, true, false, false] 4 (fun b f => #[Value.agg #[Value.int IntKind.u8 (r : Int), Value.int IntKind.u8 (c : Int), Value.slice A0 zs.length d0], Value.agg #[Value.int IntKind.u8 (r' : Int), Value.int IntKind.u8 (c' : Int), Value.slice A0' zs'.length d0'], Value.pointer (some { block := g, off := 0 }), Value.pointer (some { block := g + 1, off := 0 }), Value.pointer (some { block := g + 1 + 1, off := 0 }), Value.pointer (some { block := g + 1 + 1 + 1, off := 0 }), Value.pointer (some { block := g + 1 + 1 + 1 + 1, off := 0 }), ptr b.2.2.2.2.1, ptr b.2.2.2.2.2, Value.pointer (some { block := g, off := 1 }), Value.int IntKind.u8 (c : Int), Value.pointer (some { block := g + 1, off := 0 }), Value.agg #[Value.int IntKind.u8 (r : Int), Value.int IntKind.u8 (c : Int), Value.slice A0 zs.length d0], f 13, Value.agg #[Value.int IntKind.u8 (c : Int), Value.int IntKind.u8 (c' : Int), Value.slice A0' zs'.length d0'], f 15, undef, undef, undef, undef, undef]) (fun b ds W => ds = [] ∧ Below W1.heap.size W1 W ∧ Bz W1 W b.2.2.2.2.1 ∧ Bz W1 W b.2.2.2.2.2 ∧ b.2.2.2.2.1 ≠ b.2.2.2.2.2) ?_ ?_
    · rintro ⟨A1, c1, A2, c2, g7, g8⟩ f ds W ⟨rfl, b, X7, X8, ng7g8⟩
      try dsimp only at b X7 X8 ng7g8 ⊢
      refine m_s1 1 (by kernel_rfl) rfl ?_
      go_wp2_with fail
      refine (HM1.out _ b).mono ?_
      rintro e wn ⟨A1, c1, rfl, T1, hb⟩
      have b := b.trans (hb.mono b.size)
      go_wp2_with fail
      refine m_keep b ?_
      exact H1_45 ⟨A1, c1, none, 0, g7, g8⟩ _ _ _ (by kernel_rfl) rfl ⟨rfl, b, T1, X7.below hb, X8.below hb, ng7g8⟩
    intro H0_45
    refine m_join (β := Option Addr × Nat × Option Addr × Nat × Nat × Nat) #[true, true, true, false, false, false, false, false] 5 (fun b f => #[Value.agg #[Value.int IntKind.u8 (r : Int), Value.int IntKind.u8 (c : Int), Value.slice A0 zs.length d0], Value.agg #[Value.int IntKind.u8 (r' : Int), Value.int IntKind.u8 (c' : Int), Value.slice A0' zs'.length d0'], Value.pointer (some { block := g, off := 0 }), Value.pointer (some { block := g + 1, off := 0 }), Value.pointer (some { block := g + 1 + 1, off := 0 }), Value.pointer (some { block := g + 1 + 1 + 1, off := 0 }), Value.pointer (some { block := g + 1 + 1 + 1 + 1, off := 0 }), f 7, f 8, Value.pointer (some { block := g, off := 1 }), Value.int IntKind.u8 (c : Int), Value.pointer (some { block := g + 1, off := 0 }), Value.agg #[Value.int IntKind.u8 (r : Int), Value.int IntKind.u8 (c : Int), Value.slice A0 zs.length d0], refV C b.1 R b.2.1, Value.agg #[Value.int IntKind.u8 (c : Int), Value.int IntKind.u8 (c' : Int), Value.slice A0' zs'.length d0'], f 15, undef, undef, undef, undef, undef]) (fun b ds W => ds = [] ∧ Below W1.heap.size W1 W ∧ MkY W R C zs b.1 b.2.1) ?_ ?_
    · rintro ⟨A1, c1, A2, c2, g7, g8⟩ f ds W ⟨rfl, b, T1⟩
      try dsimp only at b T1 ⊢
      refine m_s3 3 4 5 (by kernel_rfl) rfl rfl rfl ?_ ?_ ?_
      · go_wp2_with fail
        refine (HM2.out _ b).mono ?_
        rintro e wn ⟨A2, c2, rfl, T2, hb⟩
        have b := b.trans (hb.mono b.size)
        go_wp2_with fail
        refine m_keep b ?_
        exact H2_ ⟨A1, c1, A2, c2, 0, 0⟩ _ _ _ (by kernel_rfl) rfl ⟨rfl, b, T1.below hb, T2⟩
      · go_wp2_with fail
        refine absN fun wn hB hb _ => ?_
        refine m_keep (b.trans (hb.mono b.size)) ?_
        exact H1_4 ⟨A1, c1, none, 0, _, 0⟩ _ _ _ (by kernel_rfl) rfl ⟨rfl, b.trans (hb.mono b.size), T1.below hb, .mk' hB b.size⟩
      · go_wp2_with fail
        refine absN fun wn hB hb _ => ?_
        refine m_keep (b.trans (hb.mono b.size)) ?_
        exact H1_5 ⟨A1, c1, none, 0, 0, _⟩ _ _ _ (by kernel_rfl) rfl ⟨rfl, b.trans (hb.mono b.size), T1.below hb, .mk' hB b.size⟩
    intro H1_
    refine m_join (β := Option Addr × Nat × Option Addr × Nat × Nat × Nat) #[true, false, true, false, true, false, false, false] 5 (fun b f => #[Value.agg #[Value.int IntKind.u8 (r : Int), Value.int IntKind.u8 (c : Int), Value.slice A0 zs.length d0], Value.agg #[Value.int IntKind.u8 (r' : Int), Value.int IntKind.u8 (c' : Int), Value.slice A0' zs'.length d0'], Value.pointer (some { block := g, off := 0 }), Value.pointer (some { block := g + 1, off := 0 }), Value.pointer (some { block := g + 1 + 1, off := 0 }), Value.pointer (some { block := g + 1 + 1 + 1, off := 0 }), Value.pointer (some { block := g + 1 + 1 + 1 + 1, off := 0 }), ptr b.2.2.2.2.1, f 8, Value.pointer (some { block := g, off := 1 }), Value.int IntKind.u8 (c : Int), Value.pointer (some { block := g + 1, off := 0 }), Value.agg #[Value.int IntKind.u8 (r : Int), Value.int IntKind.u8 (c : Int), Value.slice A0 zs.length d0], f 13, Value.agg #[Value.int IntKind.u8 (c : Int), Value.int IntKind.u8 (c' : Int), Value.slice A0' zs'.length d0'], f 15, undef, undef, undef, undef, undef]) (fun b ds W => ds = [] ∧ Below W1.heap.size W1 W ∧ Bz W1 W b.2.2.2.2.1) ?_ ?_
    · rintro ⟨A1, c1, A2, c2, g7, g8⟩ f ds W ⟨rfl, b, X7⟩
      try dsimp only at b X7 ⊢
      refine m_s2 1 5 (by kernel_rfl) rfl rfl ?_ ?_
      · go_wp2_with fail
        refine (HM1.out _ b).mono ?_
        rintro e wn ⟨A1, c1, rfl, T1, hb⟩
        have b := b.trans (hb.mono b.size)
        go_wp2_with fail
        refine m_keep b ?_
        exact H1_4 ⟨A1, c1, none, 0, g7, 0⟩ _ _ _ (by kernel_rfl) rfl ⟨rfl, b, T1, X7.below hb⟩
      · go_wp2_with fail
        refine absN fun wn hB hb _ => ?_
        refine m_keep (b.trans (hb.mono b.size)) ?_
        exact H0_45 ⟨none, 0, none, 0, g7, _⟩ _ _ _ (by kernel_rfl) rfl ⟨rfl, b.trans (hb.mono b.size), X7.below hb, .mk' hB b.size, Nat.ne_of_lt X7.lt⟩
    intro H0_4
    refine m_join (β := Option Addr × Nat × Option Addr × Nat × Nat × Nat) #[true, false, true, false, false, true, false, false] 5 (fun b f => #[Value.agg #[Value.int IntKind.u8 (r : Int), Value.int IntKind.u8 (c : Int), Value.slice A0 zs.length d0], Value.agg #[Value.int IntKind.u8 (r' : Int), Value.int IntKind.u8 (c' : Int), Value.slice A0' zs'.length d0'], Value.pointer (some { block := g, off := 0 }), Value.pointer (some { block := g + 1, off := 0 }), Value.pointer (some { block := g + 1 + 1, off := 0 }), Value.pointer (some { block := g + 1 + 1 + 1, off := 0 }), Value.pointer (some { block := g + 1 + 1 + 1 + 1, off := 0 }), f 7, ptr b.2.2.2.2.2, Value.pointer (some { block := g, off := 1 }), Value.int IntKind.u8 (c : Int), Value.pointer (some { block := g + 1, off := 0 }), Value.agg #[Value.int IntKind.u8 (r : Int), Value.int IntKind.u8 (c : Int), Value.slice A0 zs.length d0], f 13, Value.agg #[Value.int IntKind.u8 (c : Int), Value.int IntKind.u8 (c' : Int), Value.slice A0' zs'.length d0'], f 15, undef, undef, undef, undef, undef]) (fun b ds W => ds = [] ∧ Below W1.heap.size W1 W ∧ Bz W1 W b.2.2.2.2.2) ?_ ?_
    · rintro ⟨A1, c1, A2, c2, g7, g8⟩ f ds W ⟨rfl, b, X8⟩
      try dsimp only at b X8 ⊢
      refine m_s2 1 4 (by kernel_rfl) rfl rfl ?_ ?_
      · go_wp2_with fail
        refine (HM1.out _ b).mono ?_
        rintro e wn ⟨A1, c1, rfl, T1, hb⟩
        have b := b.trans (hb.mono b.size)
        go_wp2_with fail
        refine m_keep b ?_
        exact H1_5 ⟨A1, c1, none, 0, 0, g8⟩ _ _ _ (by kernel_rfl) rfl ⟨rfl, b, T1, X8.below hb⟩
      · go_wp2_with fail
        refine absN fun wn hB hb _ => ?_
        refine m_keep (b.trans (hb.mono b.size)) ?_
        exact H0_45 ⟨none, 0, none, 0, _, g8⟩ _ _ _ (by kernel_rfl) rfl ⟨rfl, b.trans (hb.mono b.size), .mk' hB b.size, X8.below hb, Nat.ne_of_gt X8.lt⟩
    intro H0_5
    refine m_s3 1 4 5 (by kernel_rfl) rfl rfl rfl ?_ ?_ ?_
    · go_wp2_with fail
      refine (HM1.out _ b).mono ?_
      rintro e wn ⟨A1, c1, rfl, T1, hb⟩
      have b := b.trans (hb.mono b.size)
      go_wp2_with fail
      refine m_keep b ?_
      exact H1_ ⟨A1, c1, none, 0, 0, 0⟩ _ _ _ (by kernel_rfl) rfl ⟨rfl, b, T1⟩
    · go_wp2_with fail
      refine absN fun wn hB hb _ => ?_
      refine m_keep (b.trans (hb.mono b.size)) ?_
      exact H0_4 ⟨none, 0, none, 0, _, 0⟩ _ _ _ (by kernel_rfl) rfl ⟨rfl, b.trans (hb.mono b.size), .mk' hB b.size⟩
    · go_wp2_with fail
      refine absN fun wn hB hb _ => ?_
      refine m_keep (b.trans (hb.mono b.size)) ?_
      exact H0_5 ⟨none, 0, none, 0, 0, _⟩ _ _ _ (by kernel_rfl) rfl ⟨rfl, b.trans (hb.mono b.size), .mk' hB b.size⟩
  case rest =>
    obtain ⟨g7, g8, A1, A2, c1, c2, hs7, hs8, hB7, hB8, hY1, hY2, hg7, hg8, hne, hb⟩ := hcut
    subst hs7; subst hs8
    have hI2 := K4.out.below hb K4.out.lt
    have hI3 := K5.out.below hb K5.out.lt
    have hI4 := K6.out.below hb K6.out.lt
    have hbw := KB.out.trans (hb.mono KB.out.size)
    have hgg : g + 4 < W1.heap.size := K6.out.lt
    have hpr := fun V (hv : Below wc.heap.size wc V) => prodr_own C C' A1 A2 c1 c2 (rawM R C zs) (rawM C C' zs') V (hY1.below hv).ref (hY2.below hv).ref (mat_len ..).symm
    rw [show (rawM R C zs).length = R from mat_len .., show (rawM C C' zs').length = C from mat_len ..] at hpr
    have HPR := Lib.hid hpr
    clear hpr hb HIN HIN' K2 K3 K4 K5 K6 KB
    go_wp2_with fail
    refine wp_mix (fun V => Blk V g7 28 #[.int .i64 (C : Int), .slice A1 R c1] ∧ Blk V g8 28 #[.int .i64 (C' : Int), .slice A2 C c2]) 8 (by kernel_rfl) (by kernel_rfl) ⟨hB7, hB8⟩ ?_
    obtain ⟨U, hU⟩ : ∃ U, U = wc.drew := ⟨_, rfl⟩
    have hdr : Below wc.heap.size wc U := by rw [hU]; exact (Below.refl _ _).drew
    rw [← hU]
    clear hU
    (refine m_q 0 (v := ?_) (by kernel_rfl) rfl rfl (fun W hW => ?_) ?_; rotate_left; (have y0 := hW.1.cell 0; have y1 := hW.1.cell 1; go_simp; first | done | with_reducible rfl); simp only [Act.put, List.setIfInBounds_toArray, List.set_cons_zero, List.set_cons_succ]); (refine m_q 2 (v := ?_) (by kernel_rfl) rfl rfl (fun W hW => ?_) ?_; rotate_left; (have y0 := hW.1.cell 0; have y1 := hW.1.cell 1; go_simp; first | done | with_reducible rfl); simp only [Act.put, List.setIfInBounds_toArray, List.set_cons_zero, List.set_cons_succ])
    (refine m_q 1 (v := ?_) (by kernel_rfl) rfl rfl (fun W hW => ?_) ?_; rotate_left; (have y0 := hW.2.cell 0; have y1 := hW.2.cell 1; go_simp; first | done | with_reducible rfl); simp only [Act.put, List.setIfInBounds_toArray, List.set_cons_zero, List.set_cons_succ]); (refine m_q 3 (v := ?_) (by kernel_rfl) rfl rfl (fun W hW => ?_) ?_; rotate_left; (have y0 := hW.2.cell 0; have y1 := hW.2.cell 1; go_simp; first | done | with_reducible rfl); simp only [Act.put, List.setIfInBounds_toArray, List.set_cons_zero, List.set_cons_succ])
    have HP := hideC (HPR.out U hdr)
    refine m_s1 4 (by kernel_rfl) rfl ?_
    go_wp2_with fail
    with_reducible refine HP.out.mono ?_
    rintro e V1 ⟨A3, c3, rfl, hT3, hb1⟩
    have hr := hdr.trans (hb1.mono hdr.size)
    go_wp2_with fail
    refine m_keep ⟨hB7.below hr hB7.lt, hB8.below hr hB8.lt⟩ ?_
    have i4 := hI2.below hr hI2.lt
    have i5 := hI3.below hr hI3.lt
    have i6 := hI4.below hr hI4.lt
    have i7 := hB7.below hr hB7.lt
    have i8 := hB8.below hr hB8.lt
    have q1 := hY1.below hr
    have q2 := hY2.below hr
    have q3 := hT3.yref
    have bb := hbw.trans (hr.mono hbw.size)
    clear HP HPR hI2 hI3 hI4 hB7 hB8 hY1 hY2 hT3 hbw hdr hb1
    -- the first store
    have s4 := (i4.set_ 0 (.int .i64 (C : Int))).set_ 1 (.slice A1 R c1)
    have s5 := (i5.far (p := ⟨g + 2, 0, none⟩) (by simp) (.int .i64 (C : Int))).far (p := ⟨g + 2, 1, none⟩) (by simp) (.slice A1 R c1)
    have s6 := (i6.far (p := ⟨g + 2, 0, none⟩) (by simp) (.int .i64 (C : Int))).far (p := ⟨g + 2, 1, none⟩) (by simp) (.slice A1 R c1)
    have s7 := (i7.far (p := ⟨g + 2, 0, none⟩) (by simp; omega) (.int .i64 (C : Int))).far (p := ⟨g + 2, 1, none⟩) (by simp; omega) (.slice A1 R c1)
    have s8 := (i8.far (p := ⟨g + 2, 0, none⟩) (by simp; omega) (.int .i64 (C : Int))).far (p := ⟨g + 2, 1, none⟩) (by simp; omega) (.slice A1 R c1)
    have r1 := YRef.st2 q1 i4 (.int .i64 (C : Int)) (.slice A1 R c1)
    have r2 := YRef.st2 q2 i4 (.int .i64 (C : Int)) (.slice A1 R c1)
    have r3 := YRef.st2 q3 i4 (.int .i64 (C : Int)) (.slice A1 R c1)
    have b4 := (bb.setCell (p := ⟨g + 2, 0, none⟩) (by simp; omega) (.int .i64 (C : Int))).setCell (p := ⟨g + 2, 1, none⟩) (by simp; omega) (.slice A1 R c1)
    have c0 := i4.cell 0; have c1' := i4.cell 1; have f0 := i4.frozen 0; have f1 := i4.frozen 1; have lg := i4.lt
    have S4 := Lib.hid s4; have S5 := Lib.hid s5; have S6 := Lib.hid s6; have S7 := Lib.hid s7; have S8 := Lib.hid s8; have R1 := Lib.hid r1; have R2 := Lib.hid r2; have R3 := Lib.hid r3; have B4 := Lib.hid b4
    clear s4 s5 s6 s7 s8 r1 r2 r3 b4 i4 i5 i6 i7 i8 q1 q2 q3 bb hr
    refine m_s1 5 (by kernel_rfl) rfl ?_
    go_wp2_with fail
    refine m_keep ⟨S7.out, S8.out⟩ ?_
    obtain ⟨V2, hV2⟩ : ∃ V2, V2 = (V1.setCell ⟨g + 2, 0, none⟩ (.int .i64 (C : Int))).setCell ⟨g + 2, 1, none⟩ (.slice A1 R c1) := ⟨_, rfl⟩
    unfold st2 at R1 R2 R3
    rw [← hV2] at S4 S5 S6 S7 S8 R1 R2 R3 B4 ⊢
    clear hV2 c0 c1' f0 f1 lg
    -- the second
    have s4 := (S4.out.far (p := ⟨g + 3, 0, none⟩) (by simp) (.int .i64 (C' : Int))).far (p := ⟨g + 3, 1, none⟩) (by simp) (.slice A2 C c2)
    have s5 := (S5.out.set_ 0 (.int .i64 (C' : Int))).set_ 1 (.slice A2 C c2)
    have s6 := (S6.out.far (p := ⟨g + 3, 0, none⟩) (by simp) (.int .i64 (C' : Int))).far (p := ⟨g + 3, 1, none⟩) (by simp) (.slice A2 C c2)
    have s7 := (S7.out.far (p := ⟨g + 3, 0, none⟩) (by simp; omega) (.int .i64 (C' : Int))).far (p := ⟨g + 3, 1, none⟩) (by simp; omega) (.slice A2 C c2)
    have s8 := (S8.out.far (p := ⟨g + 3, 0, none⟩) (by simp; omega) (.int .i64 (C' : Int))).far (p := ⟨g + 3, 1, none⟩) (by simp; omega) (.slice A2 C c2)
    have r1 := YRef.st2 R1.out S5.out (.int .i64 (C' : Int)) (.slice A2 C c2)
    have r2 := YRef.st2 R2.out S5.out (.int .i64 (C' : Int)) (.slice A2 C c2)
    have r3 := YRef.st2 R3.out S5.out (.int .i64 (C' : Int)) (.slice A2 C c2)
    have b4 := (B4.out.setCell (p := ⟨g + 3, 0, none⟩) (by simp; omega) (.int .i64 (C' : Int))).setCell (p := ⟨g + 3, 1, none⟩) (by simp; omega) (.slice A2 C c2)
    have c0 := S5.out.cell 0; have c1' := S5.out.cell 1; have f0 := S5.out.frozen 0; have f1 := S5.out.frozen 1; have lg := S5.out.lt
    have T4 := Lib.hid s4; have T5 := Lib.hid s5; have T6 := Lib.hid s6; have T7 := Lib.hid s7; have T8 := Lib.hid s8; have Q1 := Lib.hid r1; have Q2 := Lib.hid r2; have Q3 := Lib.hid r3; have D4 := Lib.hid b4
    clear s4 s5 s6 s7 s8 r1 r2 r3 b4
    refine m_s1 6 (by kernel_rfl) rfl ?_
    go_wp2_with fail
    refine m_keep ⟨T7.out, T8.out⟩ ?_
    obtain ⟨V3, hV3⟩ : ∃ V3, V3 = (V2.setCell ⟨g + 3, 0, none⟩ (.int .i64 (C' : Int))).setCell ⟨g + 3, 1, none⟩ (.slice A2 C c2) := ⟨_, rfl⟩
    unfold st2 at Q1 Q2 Q3
    rw [← hV3] at T4 T5 T6 T7 T8 Q1 Q2 Q3 D4 ⊢
    clear hV3 c0 c1' f0 f1 lg S4 S5 S6 S7 S8 R1 R2 R3 B4
    -- the third
    have s4 := (T4.out.far (p := ⟨g + 4, 0, none⟩) (by simp) (.int .i64 (C' : Int))).far (p := ⟨g + 4, 1, none⟩) (by simp) (.slice A3 R c3)
    have s5 := (T5.out.far (p := ⟨g + 4, 0, none⟩) (by simp) (.int .i64 (C' : Int))).far (p := ⟨g + 4, 1, none⟩) (by simp) (.slice A3 R c3)
    have s6 := (T6.out.set_ 0 (.int .i64 (C' : Int))).set_ 1 (.slice A3 R c3)
    have s7 := (T7.out.far (p := ⟨g + 4, 0, none⟩) (by simp; omega) (.int .i64 (C' : Int))).far (p := ⟨g + 4, 1, none⟩) (by simp; omega) (.slice A3 R c3)
    have s8 := (T8.out.far (p := ⟨g + 4, 0, none⟩) (by simp; omega) (.int .i64 (C' : Int))).far (p := ⟨g + 4, 1, none⟩) (by simp; omega) (.slice A3 R c3)
    have r1 := YRef.st2 Q1.out T6.out (.int .i64 (C' : Int)) (.slice A3 R c3)
    have r2 := YRef.st2 Q2.out T6.out (.int .i64 (C' : Int)) (.slice A3 R c3)
    have r3 := YRef.st2 Q3.out T6.out (.int .i64 (C' : Int)) (.slice A3 R c3)
    have b4 := (D4.out.setCell (p := ⟨g + 4, 0, none⟩) (by simp; omega) (.int .i64 (C' : Int))).setCell (p := ⟨g + 4, 1, none⟩) (by simp; omega) (.slice A3 R c3)
    have c0 := T6.out.cell 0; have c1' := T6.out.cell 1; have f0 := T6.out.frozen 0; have f1 := T6.out.frozen 1; have lg := T6.out.lt
    have U4 := Lib.hid s4; have U5 := Lib.hid s5; have U6 := Lib.hid s6; have U7 := Lib.hid s7; have U8 := Lib.hid s8; have P1 := Lib.hid r1; have P2 := Lib.hid r2; have P3 := Lib.hid r3; have E4 := Lib.hid b4
    clear s4 s5 s6 s7 s8 r1 r2 r3 b4
    refine m_s1 7 (by kernel_rfl) rfl ?_
    go_wp2_with fail
    refine m_keep ⟨U7.out, U8.out⟩ ?_
    refine m_end (by kernel_rfl) ?_
    clear c0 c1' f0 f1 lg T4 T5 T6 T7 T8 Q1 Q2 Q3 D4
    go_wp2_with fail
    have c40 := U4.out.cell 0; have c41 := U4.out.cell 1; have c50 := U5.out.cell 0; have c51 := U5.out.cell 1; have c60 := U6.out.cell 0; have c61 := U6.out.cell 1
    exact bodyPost_ret (v := .tuple #[refV C A1 R c1, refV C' A2 C c2, refV C' A3 R c3]) (by simp [results, Tryz.results8, go_sem, c40, c41, c50, c51, c60, c61]) rfl ⟨A1, c1, A2, c2, A3, c3, rfl, P1.out, P2.out, P3.out, E4.out⟩
end Mix2
end Go.Proofs.YtfbkcdhmggjbaaaGreatDoor
