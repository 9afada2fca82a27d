import Derived.Test.YthkjigggfeejdaaDoorLaw5
import Derived.Test.YthkjigggfeejdaaDoorLaw4
namespace Go.Proofs.YthkjigggfeejdaaDoor
open Go.RowKit

/-! Matrices of the program as lists of rows. -/
/-- The matrix at q has C columns and the rows M. -/
def PM (w : World) (q C : Nat) (M : List (List Bool)) : Prop := IsMat w q C (nsOf C M) ∧ Wide C M
theorem PM.below {w w' : World} {q C : Nat} {M : List (List Bool)} (h : PM w q C M) (hb : Below w.heap.size w w') : PM w' q C M := ⟨h.1.below hb, h.2⟩
theorem PM.bd {w : World} {q C : Nat} {M : List (List Bool)} (h : PM w q C M) : C ≤ 4096 ∧ M.length ≤ 4096 := ⟨h.1.1, by have := h.1.2.1; rwa [nsTo_len] at this⟩
theorem testBit_ns {C : Nat} {M : List (List Bool)} (hC : C ≤ 4096) {i : Nat} (hi : i < M.length) (j : Nat) : ((nsOf C M).getD i 0).testBit j = (decide (j < C) && mget M i j) := by
  rw [nsOf_get hi, testBit_rowN _ _ _ _ hC, hasR_nat, decide_eq_true hi, Bool.true_and]
theorem ns_eq {R C : Nat} {Ns : List Nat} {f : Nat → Nat → Bool} (hC : C ≤ 4096) (hl : Ns.length = R) (h : ∀ i, i < R → ∀ j, (Ns.getD i 0).testBit j = (decide (j < C) && f i j)) : Ns = nsOf C (mat R C f) := by
  apply List.ext_getElem
  · rw [nsTo_len, mat_len, hl]
  · intro i h1 h2
    have hi : i < R := by omega
    apply Nat.eq_of_testBit_eq
    intro j
    rw [← getD_at h1, ← getD_at h2, h i hi, testBit_ns hC (by rw [mat_len]; exact hi)]
    by_cases hj : j < C
    · rw [mat_get hi hj]
    · simp [hj]
theorem PM.mk_ {w : World} {q R C : Nat} {Ns : List Nat} {f : Nat → Nat → Bool} (h : IsMat w q C Ns) (hl : Ns.length = R) (hb : ∀ i, i < R → ∀ j, (Ns.getD i 0).testBit j = (decide (j < C) && f i j)) : PM w q C (mat R C f) := by
  have e := ns_eq h.1 hl hb
  rw [e] at h
  exact ⟨h, mat_wide _ _ _⟩
theorem mat_self {C : Nat} {M : List (List Bool)} (h : Wide C M) : mat M.length C (mget M) = M := by
  apply List.ext_getElem
  · rw [mat_len]
  · intro i h1 h2
    have hl := h M[i] (List.getElem_mem h2)
    apply List.ext_getElem
    · simp [mat, hl]
    · intro j h3 h4
      simp [mat, mget, List.getD_eq_getElem?_getD, List.getElem?_eq_getElem h2, List.getElem?_eq_getElem h4]
theorem mat_inj {R C : Nat} {f g : Nat → Nat → Bool} (h : mat R C f = mat R C g) : ∀ i, i < R → ∀ j, j < C → f i j = g i j := fun i hi j hj => by
  rw [← mat_get (R := R) (C := C) (f := f) hi hj, h, mat_get hi hj]
theorem wide_ext {C : Nat} {M P : List (List Bool)} (hM : Wide C M) (hP : Wide C P) (hl : M.length = P.length) (h : ∀ i, i < M.length → ∀ j, j < C → mget M i j = mget P i j) : M = P := by
  rw [← mat_self hM, ← mat_self hP, hl]
  exact mat_congr fun i hi j hj => h i (by omega) j hj
theorem pm_rows (q C : Nat) (M : List (List Bool)) (w : World) (h : PM w q C M) :
    Calls Tryd.prog 48 #[ptr q] w fun e w' => e = .returned (.int .i64 M.length) ∧ w = w' := by
  have := rows_any q C _ w h.1
  rwa [nsTo_len] at this
theorem pm_cols (q C : Nat) (M : List (List Bool)) (w : World) (h : PM w q C M) :
    Calls Tryd.prog 47 #[ptr q] w fun e w' => e = .returned (.int .i64 C) ∧ w = w' := cols_any q C _ w h.1
theorem pm_has (q C : Nat) (M : List (List Bool)) (x y : Int) (w : World) (h : PM w q C M) :
    Calls Tryd.prog 56 #[ptr q, .int .i64 x, .int .i64 y] w fun e w' => e = .returned (.bool (hasR C M x y)) ∧ Below w.heap.size w w' := by
  have := hasm_any q C _ x y w h.1
  rwa [mhas_nsOf _ _ h.1.1] at this
theorem pm_set (q C : Nat) (M : List (List Bool)) (I J : Nat) (one : Bool) (w : World) (h : PM w q C M) (hI : I < M.length) (hJ : J < C) :
    Calls Tryd.prog 57 #[ptr q, .int .i64 I, .int .i64 J, .bool one] w fun e w' => ∃ b, e = pair (ptr b) 0 ∧ w.heap.size ≤ b ∧ PM w' b C (mat M.length C (withF M I J one)) ∧ Below w.heap.size w w' := by
  have hbd := h.bd
  refine (setm_new q C _ I J one w h.1 (by rw [nsTo_len]; exact hI) hJ).mono ?_
  rintro e w' ⟨b, rfl, hfr, hm, hb⟩
  refine ⟨b, rfl, hfr, PM.mk_ hm (by unfold mset; rw [List.length_set, nsTo_len]) fun i hi j => ?_, hb⟩
  by_cases hj : j < C
  · rw [decide_eq_true hj, Bool.true_and]
    have := mset_has (one := one) hbd.1 hI hJ i hi j hj
    rwa [mhas_in (by unfold mset; rw [List.length_set, nsTo_len]; exact hi) hj] at this
  · rw [decide_eq_false hj, Bool.false_and]
    unfold mset
    rw [List.getD_eq_getElem?_getD, List.getElem?_set]
    have hz : ∀ k, k < M.length → ((nsOf C M).getD k 0).testBit j = false := fun k hk => by rw [testBit_ns hbd.1 hk, decide_eq_false hj]; rfl
    by_cases e : I = i
    · subst e
      rw [if_pos rfl, if_pos (by rw [nsTo_len]; exact hi), Option.getD_some]
      cases one
      · rw [if_neg (by decide), testBit_withoutB, hz I hi]; rfl
      · rw [if_pos rfl, testBit_withB (by omega), hz I hi]; simp; omega
    · rw [if_neg e, ← List.getD_eq_getElem?_getD]; exact hz i hi
theorem pm_setout (q C : Nat) (M : List (List Bool)) (x y : Int) (one : Bool) (w : World) (h : PM w q C M) (hi : insideB M.length C x y = false) :
    Calls Tryd.prog 57 #[ptr q, .int .i64 x, .int .i64 y, .bool one] w fun e w' => e = pair (.pointer none) 2 ∧ w = w' := setm_out q C _ x y one w h.1 (by rw [nsTo_len]; exact hi)
theorem pm_prod (p q C D : Nat) (M P : List (List Bool)) (w : World) (h : PM w p C M) (h' : PM w q D P) (hC : C = P.length) (hT : Tab w) :
    Calls Tryd.prog 46 #[ptr p, ptr q] w fun e w' => ∃ b, e = pair (ptr b) 0 ∧ PM w' b D (mat M.length D (prodF M P C)) ∧ Below w.heap.size w w' := by
  have hbd := h.bd
  have hbd' := h'.bd
  refine (prod_any p q C D _ _ w h.1 h'.1 (by rw [nsTo_len]; exact hC) (rowsIn_nsOf C M hbd.1) hT).mono ?_
  rintro e w' ⟨b, rfl, hm, hb⟩
  rw [nsTo_len] at hm
  refine ⟨b, rfl, PM.mk_ hm (mprod_len _ _ _) fun i hi j => ?_, hb⟩
  by_cases hj : j < D
  · rw [decide_eq_true hj, Bool.true_and]
    have := mprod_has hbd.1 hbd'.1 hC i hi j hj
    rwa [mhas_in (by rw [mprod_len]; exact hi) hj] at this
  · rw [decide_eq_false hj, Bool.false_and, Bool.eq_false_iff]
    intro hb
    obtain ⟨k, h1, h2⟩ := (mprod_bit hi).1 hb
    rw [testBit_ns hbd.1 hi] at h1
    simp only [Bool.and_eq_true, decide_eq_true_eq] at h1
    rw [testBit_ns hbd'.1 (by omega), decide_eq_false hj] at h2
    cases h2
theorem pm_or (p q C : Nat) (M P : List (List Bool)) (w : World) (h : PM w p C M) (h' : PM w q C P) (hl : M.length = P.length) :
    Calls Tryd.prog 35 #[ptr p, ptr q] w fun e w' => ∃ b, e = pair (ptr b) 0 ∧ PM w' b C (mat M.length C (orF M P)) ∧ Below w.heap.size w w' := by
  have hbd := h.bd
  refine (orm_any p q C _ _ w h.1 h'.1 (by rw [nsTo_len, nsTo_len]; exact hl)).mono ?_
  rintro e w' ⟨b, rfl, hm, hb⟩
  rw [nsTo_len] at hm
  refine ⟨b, rfl, PM.mk_ hm (mzip_len _ _ _ _) fun i hi j => ?_, hb⟩
  rw [mzip_get hi, Nat.testBit_or, testBit_ns hbd.1 hi, testBit_ns hbd.1 (by omega)]
  unfold orF
  cases decide (j < C) <;> simp
theorem pm_and (p q C : Nat) (M P : List (List Bool)) (w : World) (h : PM w p C M) (h' : PM w q C P) (hl : M.length = P.length) :
    Calls Tryd.prog 36 #[ptr p, ptr q] w fun e w' => ∃ b, e = pair (ptr b) 0 ∧ PM w' b C (mat M.length C (andF M P)) ∧ Below w.heap.size w w' := by
  have hbd := h.bd
  refine (andm_any p q C _ _ w h.1 h'.1 (by rw [nsTo_len, nsTo_len]; exact hl)).mono ?_
  rintro e w' ⟨b, rfl, hm, hb⟩
  rw [nsTo_len] at hm
  refine ⟨b, rfl, PM.mk_ hm (mzip_len _ _ _ _) fun i hi j => ?_, hb⟩
  rw [mzip_get hi, Nat.testBit_and, testBit_ns hbd.1 hi, testBit_ns hbd.1 (by omega)]
  unfold andF
  cases decide (j < C) <;> simp
/-- All ones of M are ones of P. -/
def subM (C : Nat) (M P : List (List Bool)) : Prop := ∀ i, i < M.length → ∀ j, j < C → mget M i j = true → mget P i j = true
instance (C : Nat) (M P : List (List Bool)) : Decidable (subM C M P) := by unfold subM; exact inferInstance
theorem withinM_sub {C : Nat} {M P : List (List Bool)} (hC : C ≤ 4096) (hl : M.length = P.length) : withinM (nsOf C M) (nsOf C P) ↔ subM C M P := by
  constructor
  · intro h i hi j hj hm
    have := h i (by rw [nsTo_len]; exact hi)
    have := congrArg (fun x => x.testBit j) this
    simp only [Nat.testBit_and] at this
    rw [testBit_ns hC hi, testBit_ns hC (by omega)] at this
    simpa [hj, hm] using this
  · intro h i hi
    rw [nsTo_len] at hi
    apply Nat.eq_of_testBit_eq
    intro j
    rw [Nat.testBit_and, testBit_ns hC hi, testBit_ns hC (by omega)]
    by_cases hj : j < C
    · have := h i hi j hj
      cases h1 : mget M i j <;> simp_all
    · simp [hj]
theorem pm_within (p q C : Nat) (M P : List (List Bool)) (w : World) (h : PM w p C M) (h' : PM w q C P) (hl : M.length = P.length) :
    Calls Tryd.prog 37 #[ptr p, ptr q] w fun e w' => e = .returned (.bool (decide (subM C M P))) ∧ Below w.heap.size w w' := by
  have := withinm_any p q C C _ _ w h.1 h'.1
  have e : decide (C = C ∧ (nsOf C M).length = (nsOf C P).length ∧ withinM (nsOf C M) (nsOf C P)) = decide (subM C M P) := by
    rw [Bool.eq_iff_iff, decide_eq_true_eq, decide_eq_true_eq, ← withinM_sub h.1.1 hl, nsTo_len, nsTo_len]
    exact ⟨fun h => h.2.2, fun h => ⟨rfl, hl, h⟩⟩
  rwa [e] at this
theorem sub_anti {C : Nat} {M P : List (List Bool)} (hM : Wide C M) (hP : Wide C P) (hl : M.length = P.length) (h : subM C M P) (h' : subM C P M) : M = P :=
  wide_ext hM hP hl fun i hi j hj => by
    have h1 := h i hi j hj
    have h2 := h' i (by omega) j hj
    cases ha : mget M i j <;> cases hb : mget P i j <;> simp_all
theorem pm_equal (p q C : Nat) (M P : List (List Bool)) (w : World) (h : PM w p C M) (h' : PM w q C P) (hl : M.length = P.length) :
    Calls Tryd.prog 38 #[ptr p, ptr q] w fun e w' => e = .returned (.bool (decide (M = P))) ∧ Below w.heap.size w w' := by
  have := equalm_any p q C C _ _ w h.1 h'.1
  have e : decide (C = C ∧ (nsOf C M).length = (nsOf C P).length ∧ withinM (nsOf C M) (nsOf C P) ∧ withinM (nsOf C P) (nsOf C M)) = decide (M = P) := by
    rw [Bool.eq_iff_iff, decide_eq_true_eq, decide_eq_true_eq, withinM_sub h.1.1 hl, withinM_sub h.1.1 hl.symm, nsTo_len, nsTo_len]
    constructor
    · intro ⟨_, _, h1, h2⟩; exact sub_anti h.2 h'.2 hl h1 h2
    · rintro rfl; exact ⟨rfl, rfl, fun i hi j hj h => h, fun i hi j hj h => h⟩
  rwa [e] at this

/-- A configuration as the program has it. -/
abbrev cfgV (u p : Nat) : Value := .agg #[ptr u, ptr p]
set_option maxRecDepth 100000 in
set_option maxHeartbeats 2000000 in
theorem mcheck_any (u p C D : Nat) (M P : List (List Bool)) (w : World) (hu : PM w u C M) (hp : PM w p D P) :
    Calls Tryd.prog 17 #[cfgV u p] w fun e w' => e = .returned (.int .i64 (if C = P.length then 0 else 1)) ∧ Below w.heap.size w w' := by
  by_cases hcr : C = P.length
  · have e1 : ((C : Int) != (P.length : Int)) = false := by simp [hcr]
    rw [if_pos hcr]
    clear hcr
    go_enter Tryd.func17, Tryd.ntmps17
    go_wp2_with fail
    refine abs1 fun W0 hX0 hbel0 hz => ?_
    have HZ := Lib.hid hz; clear hz
    have x0 := hX0.cell 0
    have x1 := hX0.cell 1
    have hbd : Below w.heap.size w W0.drew := hbel0.trans ((Below.refl W0.heap.size W0).drew.mono hbel0.size)
    have HC := hideC (pm_cols u C M W0.drew (hu.below hbd))
    have HR := hideC (pm_rows p D P W0.drew (hp.below hbd))
    go_wp2_with fail
    refine wp_spine (fun W => Below W0.heap.size W0 W) [0, 1, 2, 3, 4, 5, 6, 7, 8, 9, 10, 12, 13] [11, 14, 15, 16] (by kernel_rfl) (by kernel_rfl) ?_
    iterate 4 (refine wpE_op (v := ?_) rfl rfl (fun W hW => ?_) ?_; rotate_left; (have z0 := onB hW x0; have z1 := onB hW x1; go_simp; first | done | with_reducible rfl); simp only [Act.put, List.setIfInBounds_toArray, List.set_cons_zero, List.set_cons_succ])
    iterate 3 (refine wpE_yes (v := ?_) rfl (by rfl) (fun W hW => ?_) ?_; rotate_left; (have z0 := onB hW x0; have z1 := onB hW x1; go_simp; first | done | with_reducible rfl); simp only [Act.put, List.setIfInBounds_toArray, List.set_cons_zero, List.set_cons_succ])
    iterate 2 (refine wpE_op (v := ?_) rfl rfl (fun W hW => ?_) ?_; rotate_left; (go_simp; first | done | with_reducible rfl); simp only [Act.put, List.setIfInBounds_toArray, List.set_cons_zero, List.set_cons_succ])
    iterate 2 (refine wpE_yes (v := ?_) rfl (by rfl) (fun W hW => ?_) ?_; rotate_left; (have z0 := onB hW x0; have z1 := onB hW x1; go_simp; first | done | with_reducible rfl); simp only [Act.put, List.setIfInBounds_toArray, List.set_cons_zero, List.set_cons_succ])
    iterate 2 (refine wpE_yes (v := ?_) rfl (by rfl) (fun W hW => ?_) ?_; rotate_left; (have z0 := onB hW x0; have z1 := onB hW x1; go_simp; first | done | with_reducible rfl); simp only [Act.put, List.setIfInBounds_toArray, List.set_cons_zero, List.set_cons_succ])
    refine wpE_nil ⟨fun h => (by cases h), wpSp_op rfl (Below.refl _ _).drew ?_⟩
    go_wp2_with fail; (with_reducible refine (HC.out).mono ?_); rintro e w1 ⟨rfl, rfl⟩
    go_wp2_with fail
    refine nxt_op rfl (Below.refl _ _).drew ?_
    go_wp2_with fail; (with_reducible refine (HR.out).mono ?_); rintro e w1 ⟨rfl, rfl⟩
    go_wp2_with fail
    refine nxt_op rfl (Below.refl _ _).drew ?_
    go_wp2_with fail
    refine nxt_op rfl (Below.refl _ _).drew ?_
    go_wp2_with fail
    refine nxt_nil ?_
    go_wp2_with fail
    go_ret
    exact ⟨rfl, hbd⟩
  · have e1 : ((C : Int) != (P.length : Int)) = true := by simp; omega
    rw [if_neg hcr]
    clear hcr
    go_enter Tryd.func17, Tryd.ntmps17
    go_wp2_with fail
    refine abs1 fun W0 hX0 hbel0 hz => ?_
    have HZ := Lib.hid hz; clear hz
    have x0 := hX0.cell 0
    have x1 := hX0.cell 1
    have hbd : Below w.heap.size w W0.drew := hbel0.trans ((Below.refl W0.heap.size W0).drew.mono hbel0.size)
    have HC := hideC (pm_cols u C M W0.drew (hu.below hbd))
    have HR := hideC (pm_rows p D P W0.drew (hp.below hbd))
    go_wp2_with fail
    refine wp_spine (fun W => Below W0.heap.size W0 W) [0, 1, 2, 3, 4, 5, 6, 7, 8, 9, 10, 12, 13] [11, 14, 15, 16] (by kernel_rfl) (by kernel_rfl) ?_
    iterate 4 (refine wpE_op (v := ?_) rfl rfl (fun W hW => ?_) ?_; rotate_left; (have z0 := onB hW x0; have z1 := onB hW x1; go_simp; first | done | with_reducible rfl); simp only [Act.put, List.setIfInBounds_toArray, List.set_cons_zero, List.set_cons_succ])
    iterate 3 (refine wpE_yes (v := ?_) rfl (by rfl) (fun W hW => ?_) ?_; rotate_left; (have z0 := onB hW x0; have z1 := onB hW x1; go_simp; first | done | with_reducible rfl); simp only [Act.put, List.setIfInBounds_toArray, List.set_cons_zero, List.set_cons_succ])
    iterate 2 (refine wpE_op (v := ?_) rfl rfl (fun W hW => ?_) ?_; rotate_left; (go_simp; first | done | with_reducible rfl); simp only [Act.put, List.setIfInBounds_toArray, List.set_cons_zero, List.set_cons_succ])
    iterate 2 (refine wpE_yes (v := ?_) rfl (by rfl) (fun W hW => ?_) ?_; rotate_left; (have z0 := onB hW x0; have z1 := onB hW x1; go_simp; first | done | with_reducible rfl); simp only [Act.put, List.setIfInBounds_toArray, List.set_cons_zero, List.set_cons_succ])
    iterate 2 (refine wpE_yes (v := ?_) rfl (by rfl) (fun W hW => ?_) ?_; rotate_left; (have z0 := onB hW x0; have z1 := onB hW x1; go_simp; first | done | with_reducible rfl); simp only [Act.put, List.setIfInBounds_toArray, List.set_cons_zero, List.set_cons_succ])
    refine wpE_nil ⟨fun h => (by cases h), wpSp_op rfl (Below.refl _ _).drew ?_⟩
    go_wp2_with fail; (with_reducible refine (HC.out).mono ?_); rintro e w1 ⟨rfl, rfl⟩
    go_wp2_with fail
    refine nxt_op rfl (Below.refl _ _).drew ?_
    go_wp2_with fail; (with_reducible refine (HR.out).mono ?_); rintro e w1 ⟨rfl, rfl⟩
    go_wp2_with fail
    refine nxt_op rfl (Below.refl _ _).drew ?_
    go_wp2_with fail
    refine nxt_op rfl (Below.refl _ _).drew ?_
    go_wp2_with fail
    refine nxt_nil ?_
    go_wp2_with fail
    go_ret
    exact ⟨rfl, hbd⟩
end Go.Proofs.YthkjigggfeejdaaDoor
