import Derived.Test.YtlakjhhpdbgekaaGreatDoorCw6
import Derived.Test.YtlakjhhpdbgekaaGreatDoorCvH
import Derived.Test.YtlakjhhpdbgekaaGreatDoorCvT
import Derived.Test.YtlakjhhpdbgekaaGreatDoorLaw
import Derived.Test.YtlakjhhpdbgekaaGreatDoorLaw3
/-
  For the laws of chapter 48: roles of numbers, 'is', boxes that are made at any time.
-/
namespace Go.Proofs.YtlakjhhpdbgekaaGreatDoor
open Go.RowKit

section
variable {C : Nat} {Ns L ks M : List Nat}
theorem atL_get (he : atL L ks = M) {j : Nat} (hj : j < ks.length) : M.getD j 0 = L.getD (ks.getD j 0) 0 := by
  rw [← he]
  unfold atL
  rw [List.getD_eq_getElem?_getD, List.getElem?_map, List.getElem?_eq_getElem hj, List.getD_eq_getElem?_getD (l := ks), List.getElem?_eq_getElem hj]
  rfl
theorem atL_len (he : atL L ks = M) : M.length = ks.length := by rw [← he, atL, List.length_map]
/-- The users of roles by numbers. -/
theorem users_same (hl : Ns.length ≤ 4096) (he : atL L ks = M) (hM : M.length ≤ 4096) : sameB ks.length ks.length (toldM ks.length (usersN C Ns M)) (mat Ns.length ks.length (Mix2.usF C Ns L ks)) = true := by
  have hn : (usersN C Ns M).length = Ns.length := by unfold usersN; rw [mtrans_len]
  refine same_of hn fun i hi j hj => ?_
  rw [mhas_in (by rw [hn]; exact hi) hj, Bool.eq_iff_iff, users_bit hl hM]
  unfold Mix2.usF
  rw [← atL_get he hj]
  exact ⟨fun h => h.2.2, fun h => ⟨hi, by rw [atL_len he]; exact hj, h⟩⟩
/-- Their permissions. -/
theorem perms_same (he : atL L ks = M) : sameB C C (toldM C M) (mat ks.length C (Mix2.peF L ks)) = true := by
  refine same_of (atL_len he) fun i hi j hj => ?_
  rw [mhas_in (by rw [atL_len he]; exact hi) hj, atL_get he hi]
  rfl
/-- Concepts that cover all ones are valid roles. -/
theorem cover_valid (hl : Ns.length ≤ 4096) (hM : M.length ≤ 4096) (hc : ∀ s ∈ M, cloN C Ns s = s) (hcov : ∀ c ∈ cellsOf Ns, ∃ s ∈ M, inS C Ns s c = true) : validN C Ns M.length (usersN C Ns M) C M = true := by
  refine valid_of rfl rfl (by unfold usersN; rw [mtrans_len]) fun i hi j => ?_
  constructor
  · rintro ⟨k, h1, h2⟩
    obtain ⟨_, q2, q3⟩ := (users_bit hl hM i k).1 h1
    have hm : M.getD k 0 ∈ M := mem_getD.2 ⟨k, q2, rfl⟩
    have hcl := hc _ hm
    have hjC : j < C := by rw [← hcl] at h2; exact comN_lt h2
    exact ((testBit_havN C Ns hl _ _).1 q3).2 j h2 hjC
  · intro h
    obtain ⟨s, hs, he⟩ := hcov (i, j) (mem_cellsOf.2 ⟨hi, h⟩)
    obtain ⟨k, hk, rfl⟩ := mem_getD.1 hs
    unfold inS at he
    rw [Bool.and_eq_true] at he
    exact ⟨k, (users_bit hl hM i k).2 ⟨hi, hk, he.2⟩, he.1⟩
end
theorem users_rows {C : Nat} {Ns M : List Nat} (hM : M.length ≤ 4096) : rowsIn M.length (usersN C Ns M) := by
  have := rows_trans (C := Ns.length) (Ns := M.map (havN C Ns)) (by rw [List.length_map]; exact hM)
  rwa [List.length_map] at this
/-- A box for a matrix of the specification's, made behind w. -/
def Bo1 (w W : World) (g : Nat) (x y : Value) : Prop := Blk W g 28 #[x, y] ∧ w.heap.size ≤ g
section
variable {w W W' : World} {C c g g' : Nat} {A : Option Addr} {x y x' y' : Value} {M : List (List Bool)}
/-- The two cells of a box are written. -/
abbrev st2 (W : World) (g : Nat) (x y : Value) : World := (W.setCell ⟨g, 0, none⟩ x).setCell ⟨g, 1, none⟩ y
theorem Bo1.mk' (h : Blk W g 28 #[x, y]) (hl : w.heap.size ≤ g) : Bo1 w W g x y := ⟨h, hl⟩
theorem Bo1.lt (h : Bo1 w W g x y) : g < W.heap.size := h.1.lt
theorem Bo1.below (h : Bo1 w W g x y) (hb : Below W.heap.size W W') : Bo1 w W' g x y := ⟨h.1.below hb h.1.lt, h.2⟩
theorem Bo1.put (h : Bo1 w W g x y) (x' y' : Value) : Bo1 w (st2 W g x' y') g x' y' := ⟨(h.1.set_ 0 x').set_ 1 y', h.2⟩
theorem Bo1.far (h : Bo1 w W g x y) (hne : g ≠ g') (x' y' : Value) : Bo1 w (st2 W g' x' y') g x y := ⟨(h.1.far (p := ⟨_, 0, none⟩) hne x').far (p := ⟨_, 1, none⟩) hne y', h.2⟩
theorem Bo1.base (h : Bo1 w W g x y) (hb : Below w.heap.size w W) (x' y' : Value) : Below w.heap.size w (st2 W g x' y') := (hb.setCell (p := ⟨_, 0, none⟩) h.2 x').setCell (p := ⟨_, 1, none⟩) h.2 y'
theorem Bo1.tref (h : Bo1 w W g x y) (hT : TRef W C A c M) (x' y' : Value) : TRef (st2 W g x' y') C A c M := (hT.far h.1 (by decide) (by decide) 0 x').far (h.1.set_ 0 x') (by decide) (by decide) 1 y'
end
set_option maxRecDepth 100000 in
set_option maxHeartbeats 4000000 in
theorem is48_any (u r K C R K' : Nat) (Us Ps : List Nat) (A1 A2 : Option Addr) (c1 c2 : Nat) (M1 M2 : List (List Bool)) (w : World) (hu : IsMat w u K Us) (hr : IsMat w r C Ps) (h1 : IsRef w K A1 M1) (h2 : IsRef w C A2 M2) (hR : M1.length = R) (hK : M2.length = K')
    (hK2 : K ≤ 256) (hC : C ≤ 256) (hUl : Us.length ≤ 256) (hPl : Ps.length ≤ 256) (hs1 : sameB K K (toldM K Us) M1 = true) (hs2 : sameB C C (toldM C Ps) M2 = true) :
    Calls Tryz.prog 18 #[.agg #[ptr u, ptr r], refV K A1 R c1, refV C A2 K' c2] w fun e w' => e = .returned (.bool true) ∧ Below w.heap.size w w' := by
  subst hR; subst hK
  have hq1 := fun W (hb : Below w.heap.size w W) => samel_any u K K Us A1 c1 M1 W (hu.below hb) hK2 hUl (h1.below hb)
  have hq2 := fun W (hb : Below w.heap.size w W) => samel_any r C C Ps A2 c2 M2 W (hr.below hb) hC hPl (h2.below hb)
  rw [hs1] at hq1
  rw [hs2] at hq2
  have H1 := Lib.hid hq1; have H2 := Lib.hid hq2
  clear hq1 hq2 hs1 hs2 hu hr h1 h2
  go_enter Tryz.func18, Tryz.ntmps18
  go_wp2_with fail
  refine absC3 fun W0 hX hY hZ hb0 hz => ?_
  clear hz
  refine (H1.out W0 hb0).mono ?_
  rintro e W1 ⟨rfl, hb1⟩
  have b1 := hb0.trans (hb1.mono hb0.size)
  replace hX := hX.below hb1 hX.lt
  replace hZ := hZ.below hb1 hZ.lt
  have x0 := hX.cell 0
  have x1 := hX.cell 1
  have z0 := hZ.cell 0
  have z1 := hZ.cell 1
  clear hY hb0 hb1
  go_wp2_with fail
  refine (H2.out W1 b1).mono ?_
  rintro e W2 ⟨rfl, hb2⟩
  go_wp2_with fail
  go_ret
  exact ⟨rfl, b1.trans (hb2.mono b1.size)⟩
end Go.Proofs.YtlakjhhpdbgekaaGreatDoor
