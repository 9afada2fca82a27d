/-
  cover.Valid; the examples of chapter 48 hold.
-/
import Derived.Test.YtfbkcdhmggjbaaaGreatDoorCvG
namespace Go.Proofs.YtfbkcdhmggjbaaaGreatDoor
open Go.RowKit

/-- Roles give a matrix. -/
def validN (C : Nat) (Ns : List Nat) (D : Nat) (Us : List Nat) (E : Nat) (Ps : List Nat) : Bool := decide (D = Ps.length) && decide (E = C ∧ (mprod Us Ps Us.length).length = Ns.length ∧ withinM (mprod Us Ps Us.length) Ns ∧ withinM Ns (mprod Us Ps Us.length))
set_option maxRecDepth 100000 in
set_option maxHeartbeats 1000000 in
theorem valid_any (q u r C D E : Nat) (Ns Us Ps : List Nat) (w : World) (hm : IsMat w q C Ns) (hu : IsMat w u D Us) (hr : IsMat w r E Ps) (hin : rowsIn D Us) (hT : Tab w) :
    Calls Tryz.prog 13 #[ptr q, .agg #[ptr u, ptr r]] w fun e w' => e = .returned (.bool (validN C Ns D Us E Ps)) ∧ Below w.heap.size w w' := by
  by_cases hD : D = Ps.length
  · have hv : validN C Ns D Us E Ps = decide (E = C ∧ (mprod Us Ps Us.length).length = Ns.length ∧ withinM (mprod Us Ps Us.length) Ns ∧ withinM Ns (mprod Us Ps Us.length)) := by unfold validN; rw [decide_eq_true hD, Bool.true_and]
    obtain ⟨vb, hvb⟩ : ∃ b, b = validN C Ns D Us E Ps := ⟨_, rfl⟩
    rw [← hvb] at hv ⊢
    have HPR := hideC (fun W (hb : Below w.heap.size w W) => prod_any u r D E Us Ps W (hu.below hb) (hr.below hb) hD hin (hT.below hb))
    have heq : (∀ b W, Below w.heap.size w W → IsMat W b E (mprod Us Ps Us.length) → Calls Tryz.prog 19 #[ptr b, ptr q] W fun e w' => e = .returned (.bool vb) ∧ Below W.heap.size W w') := fun b W hb hx => by
      have := equalm_any b q E C (mprod Us Ps Us.length) Ns W hx (hm.below hb)
      rw [← hv] at this
      exact this
    have HEQ := hideC heq
    clear hv hvb hD heq
    go_enter Tryz.func13, Tryz.ntmps13
    go_upto_region 1 with fail
    refine abs1 fun W0 h3 hb0 hz => ?_
    clear hz
    obtain ⟨g3, hg3⟩ : ∃ x, x = w.heap.size := ⟨_, rfl⟩
    rw [← hg3] at h3 ⊢
    clear hg3
    have c0 := h3.cell 0
    have c1 := h3.cell 1
    go_wp2_with fail
    with_reducible refine (HPR.out W0 hb0).mono ?_
    rintro e W1 ⟨b, rfl, hx, hb1⟩
    have HE := hideC (HEQ.out b W1 (hb0.trans (hb1.mono hb0.size)) hx)
    go_wp2_with fail
    with_reducible refine HE.out.mono ?_
    rintro e W2 ⟨rfl, hb2⟩
    go_wp2_with fail
    go_ret
    exact ⟨rfl, (hb0.trans (hb1.mono hb0.size)).trans (hb2.mono (hb0.trans (hb1.mono hb0.size)).size)⟩
  · have hv : validN C Ns D Us E Ps = false := by unfold validN; rw [decide_eq_false hD, Bool.false_and]
    rw [hv]
    have HPR := hideC (fun W (hb : Below w.heap.size w W) => prod_ne u r D E Us Ps W (hu.below hb) (hr.below hb) hD)
    clear hv hD
    go_enter Tryz.func13, Tryz.ntmps13
    go_upto_region 1 with fail
    refine abs1 fun W0 h3 hb0 hz => ?_
    clear hz
    obtain ⟨g3, hg3⟩ : ∃ x, x = w.heap.size := ⟨_, rfl⟩
    rw [← hg3] at h3 ⊢
    clear hg3
    have c0 := h3.cell 0
    have c1 := h3.cell 1
    go_wp2_with fail
    with_reducible refine (HPR.out W0 hb0).mono ?_
    rintro e W1 ⟨rfl, hb1⟩
    go_wp2_with fail
    go_ret
    exact ⟨rfl, hb0.trans (hb1.mono hb0.size)⟩
/-! The examples. -/
theorem aw48_1 : pOK (⟨#[49, 49, 48, 10, 49, 49, 49, 10, 48, 49, 49, 10]⟩ : ByteArray).data.toList ∧ pC (⟨#[49, 49, 48, 10, 49, 49, 49, 10, 48, 49, 49, 10]⟩ : ByteArray).data.toList = 3 ∧ pNs (⟨#[49, 49, 48, 10, 49, 49, 49, 10, 48, 49, 49, 10]⟩ : ByteArray).data.toList = [3, 7, 6] := by decide +kernel
theorem aw48_2 : pOK (⟨#[48, 49, 49, 10, 49, 48, 49, 10, 49, 49, 48, 10]⟩ : ByteArray).data.toList ∧ pC (⟨#[48, 49, 49, 10, 49, 48, 49, 10, 49, 49, 48, 10]⟩ : ByteArray).data.toList = 3 ∧ pNs (⟨#[48, 49, 49, 10, 49, 48, 49, 10, 49, 49, 48, 10]⟩ : ByteArray).data.toList = [6, 5, 3] := by decide +kernel
theorem aw48_3 : sizeM 3 [3, 7, 6] = 2 ∧ minC 3 [3, 7, 6] = [6, 3] ∧ ((closL 3 [3, 7, 6]).length : Int) ≤ 100 := by decide +kernel
theorem aw48_4 : sizeM 3 [6, 5, 3] = 3 ∧ (minC 3 [6, 5, 3]).length = 3 ∧ ((closL 3 [6, 5, 3]).length : Int) ≤ 100 := by decide +kernel
theorem aw48_5 : validN 3 [3, 7, 6] 2 (usersN 3 [3, 7, 6] [6, 3]) 3 [6, 3] = true := by decide +kernel
theorem aw48_6 : validN 3 [6, 5, 3] 3 (usersN 3 [6, 5, 3] (minC 3 [6, 5, 3])) 3 (minC 3 [6, 5, 3]) = true := by decide +kernel
theorem aw48_7 : (⟨(mtext 3 [6, 3] [6, 3].length).toArray⟩ : ByteArray) = ⟨#[48, 49, 49, 10, 49, 49, 48, 10]⟩ := by decide +kernel
theorem aw48_8 : rowsIn 3 [3, 7, 6] ∧ rowsIn 3 [6, 5, 3] ∧ rowsIn 2 (usersN 3 [3, 7, 6] [6, 3]) ∧ rowsIn 3 (usersN 3 [6, 5, 3] (minC 3 [6, 5, 3])) := by unfold rowsIn; decide +kernel
namespace Mix2
set_option maxRecDepth 100000 in
set_option maxHeartbeats 40000000 in
theorem awake_any48 (w : World) (hT : Tab w) :
    Calls Tryz.prog 7 #[] w fun e w' => e = .returned (.bool true) ∧ Below w.heap.size w w' := by
  have HP1 := hideC (parse_at ⟨#[49, 49, 48, 10, 49, 49, 49, 10, 48, 49, 49, 10]⟩ 3 [3, 7, 6] aw48_1.2.1 aw48_1.2.2 aw48_1.1 (by decide) w)
  have HP2 := hideC (fun W => parse_at ⟨#[48, 49, 49, 10, 49, 48, 49, 10, 49, 49, 48, 10]⟩ 3 [6, 5, 3] aw48_2.2.1 aw48_2.2.2 aw48_2.1 (by decide) W)
  go_enter Tryz.func7, Tryz.ntmps7
  go_wp2_with fail
  with_reducible refine HP1.out.mono ?_
  rintro e w1 ⟨p1, rfl, hm1, hb1⟩
  clear HP1
  go_wp2_with fail
  with_reducible refine (HP2.out w1).mono ?_
  rintro e w2 ⟨p2, rfl, hm2, hb2⟩
  clear HP2
  have b2 := hb1.trans (hb2.mono hb1.size)
  have hm12 := hm1.below hb2
  have hM1 := minimal_any p1 3 [3, 7, 6] 100 w2 hm12 aw48_8.1 (by decide) (by decide) aw48_3.2.2 (hT.below b2)
  rw [aw48_3.1, aw48_3.2.1] at hM1
  have HM1 := hideC hM1
  clear hM1
  go_wp2_with fail
  with_reducible refine HM1.out.mono ?_
  rintro e w3 ⟨u1, r1, A1, n1, c1, rfl, hu1, hr1, -, hb3⟩
  have b3 := b2.trans (hb3.mono b2.size)
  have hm13 := hm12.below hb3
  have hm23 := hm2.below hb3
  clear HM1 hb1 hb2 hb3 hm12 hm1 hm2
  go_wp2_with fail
  refine absC2 fun w4 h5 h6 hb4 hz => ?_
  clear hz
  have b4 := b3.trans (hb4.mono b3.size)
  have hm14 := hm13.below hb4
  have hm24 := hm23.below hb4
  have hu14 := hu1.below hb4
  have hr14 := hr1.below hb4
  have hM2 := minimal_any p2 3 [6, 5, 3] 100 w4 hm24 aw48_8.2.1 (by decide) (by decide) aw48_4.2.2 (hT.below b4)
  rw [aw48_4.1, aw48_4.2.1] at hM2
  have HM2 := hideC hM2
  obtain ⟨g5, hg5⟩ : ∃ x, x = w3.heap.size := ⟨_, rfl⟩
  rw [← hg5] at h5 h6 ⊢
  clear hM2 hg5 b3 hb4 hm13 hm23 hu1 hr1
  with_reducible refine HM2.out.mono ?_
  rintro e w5 ⟨u2, r2, A2, n2, c2, rfl, hu2, hr2, -, hb5⟩
  have b5 := b4.trans (hb5.mono b4.size)
  have hm15 := hm14.below hb5
  have hm25 := hm24.below hb5
  have hu15 := hu14.below hb5
  have hr15 := hr14.below hb5
  have h55 := h5.below hb5 h5.lt
  have h65 := h6.below hb5 h6.lt
  clear HM2 b4 hb5 hm14 hm24 hu14 hr14 h5 h6
  go_upto_region 7 with fail
  refine abs2 fun w6 h8 h9 hb6 hz => ?_
  clear hz
  have b6 := b5.trans (hb6.mono b5.size)
  have hm16 := hm15.below hb6
  have hm26 := hm25.below hb6
  have hu16 := hu15.below hb6
  have hr16 := hr15.below hb6
  have h56 := h55.below hb6 h55.lt
  have h66 := h65.below hb6 h65.lt
  have hu26 := hu2.below hb6
  have hr26 := hr2.below hb6
  obtain ⟨g8, hg8⟩ : ∃ x, x = w5.heap.size := ⟨_, rfl⟩
  rw [← hg8] at h8 h9 ⊢
  clear hg8 b5 hb6 hm15 hm25 hu15 hr15 h55 h65 hu2 hr2
  have q0 := h66.cell 0
  have q1 := h56.cell 1
  have HTX := hideC (show Calls Tryz.prog 32 #[ptr r1] w6 fun e w' => e = .returned (.string ⟨#[48, 49, 49, 10, 49, 49, 48, 10]⟩) ∧ Below w6.heap.size w6 w' by rw [← aw48_7]; exact text_any r1 3 [6, 3] w6 hr16.mat)
  go_wp2_with fail
  with_reducible refine HTX.out.mono ?_
  rintro e w7 ⟨rfl, hb7⟩
  have b7 := b6.trans (hb7.mono b6.size)
  have h57 := h56.below hb7 h56.lt
  have h87 := h8.below hb7 h8.lt
  have h97 := h9.below hb7 h9.lt
  have p0 := h57.cell 0
  have p1' := h57.cell 1
  have HV1 := hideC (show Calls Tryz.prog 13 #[ptr p1, .agg #[ptr u1, ptr r1]] w7 fun e w' => e = .returned (.bool true) ∧ Below w7.heap.size w7 w' by rw [← aw48_5]; exact valid_any p1 u1 r1 3 2 3 _ _ _ w7 (hm16.below hb7) (hu16.mat.below hb7) (hr16.mat.below hb7) aw48_8.2.2.1 (hT.below b7))
  clear q0 q1 HTX
  go_wp2_with fail
  with_reducible refine HV1.out.mono ?_
  rintro e w8 ⟨rfl, hb8⟩
  have b8 := b7.trans (hb8.mono b7.size)
  have hb78 := hb7.trans (hb8.mono hb7.size)
  have h88 := h87.below hb8 h87.lt
  have h98 := h97.below hb8 h97.lt
  have k0 := h98.cell 0
  have k1 := h88.cell 0
  clear p0 p1' HV1
  have HCO := hideC (cols_any u2 3 _ w8 (hu26.mat.below hb78))
  go_wp2_with fail
  with_reducible refine HCO.out.mono ?_
  rintro e w' ⟨rfl, rfl⟩
  have j0 := h88.cell 0
  have j1 := h88.cell 1
  have HV2 := hideC (show Calls Tryz.prog 13 #[ptr p2, .agg #[ptr u2, ptr r2]] w8 fun e w' => e = .returned (.bool true) ∧ Below w8.heap.size w8 w' by rw [← aw48_6]; exact valid_any p2 u2 r2 3 3 3 _ _ _ w8 (hm26.below hb78) (hu26.mat.below hb78) (hr26.mat.below hb78) aw48_8.2.2.2 (hT.below b8))
  clear k0 k1 HCO
  go_wp2_with fail
  with_reducible refine HV2.out.mono ?_
  rintro e w9 ⟨rfl, hb9⟩
  go_wp2_with fail
  go_ret
  exact ⟨rfl, b8.trans (hb9.mono b8.size)⟩
end Mix2
end Go.Proofs.YtfbkcdhmggjbaaaGreatDoor
