import Derived.Test.YtjlcnbfkblmoeaaDoorLaw1
namespace Go.Proofs.YtjlcnbfkblmoeaaDoor
open Go.RowKit

/-- The value v is a raw matrix of R rows and C columns with the bits zs. -/
def IsRaw (w : World) (v : Value) (R C : Nat) (zs : List Int) : Prop :=
  ∃ (r c : Nat) (A : Option Addr) (d : Nat), v = .agg #[.int .u8 r, .int .u8 c, .slice A zs.length d] ∧ (r : Int) % 6 = R ∧ (c : Int) % 6 = C ∧ r ≤ 255 ∧ c ≤ 255 ∧ Row w A (zs.map (.int .u8)) ∧ (∀ z ∈ zs, 0 ≤ z ∧ z ≤ 255) ∧ zs.length ≤ maxLen
theorem IsRaw.below {w w' : World} {v : Value} {R C : Nat} {zs : List Int} (h : IsRaw w v R C zs) (hb : Below w.heap.size w w') : IsRaw w' v R C zs := by
  obtain ⟨r, c, A, d, h1, h2, h3, h4, h5, h6, h7, h8⟩ := h
  exact ⟨r, c, A, d, h1, h2, h3, h4, h5, h6.below hb, h7, h8⟩
theorem IsRaw.bd {w : World} {v : Value} {R C : Nat} {zs : List Int} (h : IsRaw w v R C zs) : R ≤ 5 ∧ C ≤ 5 := by
  obtain ⟨r, c, A, d, h1, h2, h3, h4, h5, h6, h7, h8⟩ := h; omega
/-- The matrix of a raw one. -/
abbrev rawM (R C : Nat) (zs : List Int) : List (List Bool) := mat R C (rawF C zs)
theorem make_raw (v : Value) (R C : Nat) (zs : List Int) (w : World) (h : IsRaw w v R C zs) :
    Calls Tryd.prog 14 #[v] w fun e w' => ∃ A c, e = .returned (refV C A R c) ∧ IsRef w' C A (rawM R C zs) ∧ Below w.heap.size w w' := by
  have hbd := h.bd
  obtain ⟨r, c, A, d, rfl, h2, h3, h4, h5, h6, h7, h8⟩ := h
  refine (maker_any r c R C A d zs w h2 h3 h4 h5 h6 h7 h8).mono ?_
  rintro e w' ⟨A', c', gs, rfl, hgs, hO, hb⟩
  subst hgs
  obtain ⟨A2, c2, hv, _, hI⟩ := hO.ref (by omega) (by omega)
  cases hv
  exact ⟨_, _, rfl, hI, hb⟩
theorem matrix_raw (C R : Nat) (A : Option Addr) (c : Nat) (f : Nat → Nat → Bool) (w : World) (h : IsRef w C A (mat R C f)) (hC : C ≤ 256) (hR : R ≤ 256) :
    Calls Tryd.prog 15 #[refV C A R c] w fun e w' => ∃ q, e = .returned (ptr q) ∧ IsMat w' q C (nsOf C (mat R C f)) ∧ w.heap.size ≤ q ∧ Below w.heap.size w w' := by
  have := matrixl_any C A c (mat R C f) w h hC (by rw [mat_len]; exact hR)
  rwa [mat_len] at this

set_option maxRecDepth 100000 in
set_option maxHeartbeats 4000000 in
theorem distincts_walk (v : Value) (R C : Nat) (zs : List Int) (w : World) (hT : Tab w) (h : IsRaw w v R C zs) :
    Calls Tryd.prog 3 #[v] w fun e w' => e = .returned (.bool true) ∧ Below w.heap.size w w' := by
  have hbd := h.bd
  obtain ⟨r, c, A0, d0, hv, _⟩ := id h
  subst hv
  have HIN := hideC h; clear h
  go_enter Tryd.func3, Tryd.ntmps3
  go_wp2_with fail
  refine absC1 fun W0 hX hbel0 hz => ?_
  have HZ := Lib.hid hz; clear hz
  refine (awake_any W0 (hT.below hbel0)).mono ?_
  rintro e w1 ⟨rfl, hb1⟩
  have b1 := hbel0.trans (hb1.mono hbel0.size)
  have hX1 := hX.below hb1 hX.lt
  have x0 := hX1.cell 0
  have x1 := hX1.cell 1
  have x2 := hX1.cell 2
  have HM := hideC (make_raw _ R C zs w1 (HIN.out.below b1))
  go_wp2_with fail
  refine HM.out.mono ?_
  rintro e w2 ⟨A2, c2, rfl, hI2, hb2⟩
  have b2 := b1.trans (hb2.mono b1.size)
  obtain ⟨M, hMd⟩ : ∃ M, M = rawM R C zs := ⟨_, rfl⟩
  have hML : M.length = R := by rw [hMd, mat_len]
  rw [← hMd] at hI2
  subst hML
  clear hMd HM HIN hX hX1
  go_wp2_with fail
  refine absC1 fun W3 hY hb3 hz3 => ?_
  have HZ3 := Lib.hid hz3; clear hz3
  have b3 := b2.trans (hb3.mono b2.size)
  have hI3 := hI2.below hb3
  refine (matrixl_any C A2 c2 M W3 hI3 (by omega) (by omega)).mono ?_
  rintro e w4 ⟨q, rfl, hm4, _, hb4⟩
  have b4 := b3.trans (hb4.mono b3.size)
  have hY4 := hY.below hb4 hY.lt
  have y0 := hY4.cell 0
  have y1 := hY4.cell 1
  have HD := hideC (dist_any q C (nsOf C M) w4 hm4)
  go_wp2_with fail
  refine HD.out.mono ?_
  rintro e w5 ⟨q5, A5, c5, rfl, hm5, hc5, hr5, hb5⟩
  have b5 := b4.trans (hb5.mono b4.size)
  have hY5 := hY4.below hb5 hY4.lt
  have y0 := hY5.cell 0
  have y1 := hY5.cell 1
  have hI5 := (hI3.below hb4).below hb5
  have HE := hideC (distr_any C A2 c2 M w5 hI5)
  go_wp2_with fail
  refine HE.out.mono ?_
  rintro e w6 ⟨A6, c6, B6, d6, rfl, hI6, hd6, hr6, hb6⟩
  have b6 := b5.trans (hb6.mono b5.size)
  have hl := rdist_len M M.length (Nat.le_refl _)
  obtain ⟨hds, hwd, _⟩ := dist_same (by omega) (ref_wide hI5) M.length (Nat.le_refl _)
  rw [nsTo_len] at hm5 hc5 hr5 ⊢
  rw [hds] at hm5 hc5 hr5 ⊢
  have hl1 := hl.1
  go_wp2_with fail
  refine absC1 fun W7 hZ hb7 hz7 => ?_
  have HZ7 := Lib.hid hz7; clear hz7
  have b7 := b6.trans (hb7.mono b6.size)
  have hb67 := hb6.trans (hb7.mono hb6.size)
  have hsm := samel_any q5 C C _ A6 c6 (rdist M M.length).1 W7 (hm5.below hb67) (by omega) (by rw [List.length_map]; omega) (hI6.below hb7)
  rw [toldM_rb (by omega) hwd, sameB_refl] at hsm
  have HS := hideC hsm; clear hsm
  refine HS.out.mono ?_
  rintro e w8 ⟨rfl, hb8⟩
  have b8 := b7.trans (hb8.mono b7.size)
  have hb78 := hb67.trans (hb8.mono hb67.size)
  have hsq := seq_any A5 B6 c5 d6 (rdist M M.length).2 (rdist M M.length).2 w8 (hr5.below hb78) (hr6.below (hb7.trans (hb8.mono hb7.size))) (by omega) (by omega)
  rw [decide_eq_true rfl, hl.2] at hsq
  have HQ := hideC hsq; clear hsq
  go_wp2_with fail
  refine HQ.out.mono ?_
  rintro e w9 ⟨rfl, hb9⟩
  go_wp2_with fail
  go_ret
  exact ⟨rfl, b8.trans (hb9.mono b8.size)⟩
end Go.Proofs.YtjlcnbfkblmoeaaDoor
