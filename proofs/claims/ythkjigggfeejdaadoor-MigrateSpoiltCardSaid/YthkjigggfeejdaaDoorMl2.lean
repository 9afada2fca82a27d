import Derived.Test.YthkjigggfeejdaaDoorMl1
namespace Go.Proofs.YthkjigggfeejdaaDoor
open Go.RowKit

/-! The chapter's first example. -/
theorem PM.ne_cols {w : World} {q q' C D : Nat} {M P : List (List Bool)} (h : PM w q C M) (h' : PM w q' D P) (hne : C ≠ D) : q ≠ q' := by
  rintro rfl
  obtain ⟨_, _, A, c, vs, hB, _⟩ := h.1
  obtain ⟨_, _, A', c', vs', hB', _⟩ := h'.1
  have := Option.some.inj (hB.symm.trans hB')
  simp at this
  omega
/-- A row of the call's own, as cells. -/
theorem row_of_own3 {w : World} {base : Nat} {e : TypeId} {size : Nat} {v : Value} {n : Nat} {xs : List Value} (h : w.ownsRow base e size v n xs) : ∃ A c, v = .slice A n c ∧ Row w A xs := by
  rcases id h.2 with ⟨hv, hn⟩ | ⟨g, cap, cur, hv, _, hb, _⟩
  · refine ⟨none, 0, by rw [hv, hn], fun hl => ?_⟩
    have := h.1
    rw [hn] at this
    simp at this
    rw [this] at hl
    simp at hl
  · refine ⟨_, cap, hv, fun _ => ⟨g, 0, rfl, (Array.getElem?_eq_some_iff.1 hb).1, fun k u hu => ?_⟩⟩
    have hc := h.cells (g := g) (by rw [hv]; rfl) k u hu
    rw [Nat.zero_add]
    have e : (⟨g, 0, none⟩ : Addr).add k = ⟨g, k, none⟩ := by unfold Addr.add; split <;> simp_all
    rwa [e] at hc
def toZ (l : List (Nat × Nat × Nat)) : List (Nat × Int × Int) := l.map fun s => (s.1, (s.2.1 : Int), (s.2.2 : Int))
theorem cellsS_Z (l : List (Nat × Nat × Nat)) : cellsS l = cellsZ (toZ l) := by
  unfold cellsS cellsZ toZ
  rw [List.flatMap_map]
theorem toZ_len (l : List (Nat × Nat × Nat)) : (toZ l).length = l.length := by simp [toZ]
def exM : List (List Bool) := [[true, false], [false, true]]
def exP : List (List Bool) := [[true, false, false], [false, true, false]]
def exM' : List (List Bool) := [[true], [true]]
def exP' : List (List Bool) := [[true, true, false]]
def exL : List (Nat × Nat × Nat) := [(3, 2, 0), (3, 2, 1), (1, 0, 2), (1, 1, 2), (2, 0, 0), (2, 1, 1), (4, 0, 0), (4, 1, 1)]
theorem ex_jn : jn exP exP' = 3 := by decide +kernel
theorem ex_plan : planJ 3 exM exP exM' exP' = exL := by decide +kernel
theorem ex_ver : verJ 3 exM exP exM' exP' (toZ exL) = (1, 8) := by decide +kernel
theorem ex_bad : verJ 3 exM exP exM' exP' [(2, 0, 0)] = (4, 0) := by decide +kernel
set_option maxRecDepth 100000 in
set_option maxHeartbeats 8000000 in
theorem awake_any49 (w : World) (hT : Tab w) :
    Calls Tryd.prog 12 #[] w fun e w' => e = .returned (.bool true) ∧ Below w.heap.size w w' := by
  have H1 := hideC (fun W => of_at ⟨#[49, 48, 10, 48, 49, 10]⟩ 2 exM ex1.1 ex1.2.1 ex1.2.2 (by intro r hr; simp [exM] at hr; rcases hr with rfl | rfl <;> rfl) (by decide) W)
  have H2 := hideC (fun W => of_at ⟨#[49, 48, 48, 10, 48, 49, 48, 10]⟩ 3 exP ex2.1 ex2.2.1 ex2.2.2 (by intro r hr; simp [exP] at hr; rcases hr with rfl | rfl <;> rfl) (by decide) W)
  have H3 := hideC (fun W => of_at ⟨#[49, 10, 49, 10]⟩ 1 exM' ex3.1 ex3.2.1 ex3.2.2 (by intro r hr; simp [exM'] at hr; subst hr; rfl) (by decide) W)
  have H4 := hideC (fun W => of_at ⟨#[49, 49, 48, 10]⟩ 3 exP' ex4.1 ex4.2.1 ex4.2.2 (by intro r hr; simp [exP'] at hr; subst hr; rfl) (by decide) W)
  have HPL := hideC (fun u p u' p' W h h' hT => by
    have := plan_any u p u' p' 2 1 3 exM exP exM' exP' W h h' rfl (by rw [ex_jn]; decide) (by decide) (by decide) hT
    rwa [ex_plan] at this)
  go_enter Tryd.func12, Tryd.ntmps12
  go_wp2_with fail
  refine (H1.out w).mono ?_
  rintro e w1 ⟨q1, rfl, m1, hb1⟩
  go_wp2_with fail
  refine (H2.out w1).mono ?_
  rintro e w2 ⟨q2, rfl, m2, hb2⟩
  have b2 := hb1.trans (hb2.mono hb1.size)
  go_wp2_with fail
  refine absC1 fun w3 hX3 hb3 hz3 => ?_
  have b3 := b2.trans (hb3.mono b2.size)
  refine (H3.out w3).mono ?_
  rintro e w4 ⟨q3, rfl, m3, hb4⟩
  go_wp2_with fail
  refine (H4.out w4).mono ?_
  rintro e w5 ⟨q4, rfl, m4, hb5⟩
  have b35 := hb4.trans (hb5.mono hb4.size)
  have c5 : IsCfg w5 q1 q2 2 3 exM exP := ⟨((m1.below hb2).below hb3).below b35, (m2.below hb3).below b35, rfl, ((m1.below hb2).ne_cols m2 (by decide))⟩
  have d5 : IsCfg w5 q3 q4 1 3 exM' exP' := ⟨m3.below hb5, m4, rfl, ((m3.below hb5).ne_cols m4 (by decide))⟩
  have hX5 := hX3.below b35 hX3.lt
  have b5 := b3.trans (b35.mono b3.size)
  have x0 := hX5.cell 0
  have x1 := hX5.cell 1
  have lx := hX5.lt
  clear m1 m2 m3 m4 hb1 hb2 hb3 hb4 hb5 b2 b3 b35 H1 H2 H3 H4 hz3
  go_wp2_with fail
  refine absC1 fun w6 hY6 hb6 hz6 => ?_
  have b6 := b5.trans (hb6.mono b5.size)
  have c6 := c5.below hb6
  have d6 := d5.below hb6
  have hX6 := hX5.below hb6 hX5.lt
  clear c5 d5 hX5 x0 x1 lx hb6 hz6 hX3
  refine (HPL.out q1 q2 q3 q4 w6 c6 d6 (hT.below b6)).mono ?_
  rintro e w7 ⟨v, rfl, ho, hb7⟩
  obtain ⟨A, c, hv, hr7⟩ := row_of_own3 ho
  subst hv
  have b7 := b6.trans (hb7.mono b6.size)
  have c7 := c6.below hb7
  have d7 := d6.below hb7
  have hX7 := hX6.below hb7 hX6.lt
  have hY7 := hY6.below hb7 hY6.lt
  have x0 := hX7.cell 0
  have x1 := hX7.cell 1
  have y0 := hY7.cell 0
  have y1 := hY7.cell 1
  clear c6 d6 hX6 hY6 ho
  have HD := cdist_any q1 q2 q3 q4 2 1 3 exM exP exM' exP' w7 c7 d7 rfl (by rw [ex_jn]; decide) (by decide) (by decide) (hT.below b7)
  rw [ex_plan] at HD
  have HDD := hideC HD
  clear HD
  go_wp2_with fail
  refine HDD.out.mono ?_
  rintro e w8 ⟨rfl, hb8⟩
  have b8 := b7.trans (hb8.mono b7.size)
  have c8 := c7.below hb8
  have d8 := d7.below hb8
  have hX8 := hX7.below hb8 hX7.lt
  have hY8 := hY7.below hb8 hY7.lt
  have hr8 := hr7.below hb8
  clear x0 x1 y0 y1 c7 d7 hX7 hY7 hr7 hb7 HDD
  have x0 := hX8.cell 0
  have x1 := hX8.cell 1
  have y0 := hY8.cell 0
  have y1 := hY8.cell 1
  have hr8' := hr8
  rw [cellsS_Z] at hr8'
  have HV := verify_any q1 q2 q3 q4 2 1 3 exM exP exM' exP' A c (toZ exL) w8 c8 d8 rfl (by rw [ex_jn]; decide) (by decide) (by decide) (hT.below b8) hr8' (by decide) (by decide)
  rw [ex_ver] at HV
  unfold vPost at HV
  have HVV := hideC HV
  clear HV hr8'
  go_wp2_with fail
  refine HVV.out.mono ?_
  rintro e w9 ⟨rfl, hb9⟩
  have b9 := b8.trans (hb9.mono b8.size)
  have c9 := c8.below hb9
  have d9 := d8.below hb9
  have hX9 := hX8.below hb9 hX8.lt
  have hY9 := hY8.below hb9 hY8.lt
  have hr9 := hr8.below hb9
  clear x0 x1 y0 y1 c8 d8 hX8 hY8 hr8 hb8 HVV
  have x0 := hX9.cell 0
  have x1 := hX9.cell 1
  have y0 := hY9.cell 0
  have y1 := hY9.cell 1
  go_wp2_with fail
  refine absC1 fun wA hS hbA hzA => ?_
  have bA := b9.trans (hbA.mono b9.size)
  have HV := verify_any q1 q2 q3 q4 2 1 3 exM exP exM' exP' (some ⟨w9.heap.size, 0, none⟩) 1 [(2, 0, 0)] wA (c9.below hbA) (d9.below hbA) rfl (by rw [ex_jn]; decide) (by decide) (by decide) (hT.below bA) (Row.of_blk hS (fun k u hu => by simpa [cellsZ] using hu)) (by decide) (by decide)
  rw [ex_bad] at HV
  unfold vPost at HV
  refine HV.mono ?_
  rintro e wB ⟨rfl, hbB⟩
  have hrB := (hr9.below hbA).below hbB
  have bB := bA.trans (hbB.mono bA.size)
  obtain ⟨g, off, rfl, hg, hc⟩ := hrB (by decide)
  have r0 := hc 0 _ (show (cellsS exL)[0]? = some (.int .u8 3) from rfl)
  have r1 := hc 1 _ (show (cellsS exL)[1]? = some (.int .i64 2) from rfl)
  have r2 := hc 2 _ (show (cellsS exL)[2]? = some (.int .i64 0) from rfl)
  have s0 := hc 12 _ (show (cellsS exL)[12]? = some (.int .u8 2) from rfl)
  have s1 := hc 13 _ (show (cellsS exL)[13]? = some (.int .i64 0) from rfl)
  have s2 := hc 14 _ (show (cellsS exL)[14]? = some (.int .i64 0) from rfl)
  rw [Nat.add_zero] at r0
  rw [show off + 13 = off + 12 + 1 from rfl] at s1
  rw [show off + 14 = off + 12 + 2 from rfl] at s2
  clear hc x0 x1 y0 y1 hX9 hY9 c9 d9 HV hS
  go_wp2_with fail
  go_ret
  exact ⟨rfl, bB⟩
end Go.Proofs.YthkjigggfeejdaaDoor
