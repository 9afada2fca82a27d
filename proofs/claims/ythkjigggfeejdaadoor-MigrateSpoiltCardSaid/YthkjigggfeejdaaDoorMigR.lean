import Derived.Test.YthkjigggfeejdaaDoorMig2
namespace Go.Proofs.YthkjigggfeejdaaDoor
open Go.RowKit

/-- A configuration as the reference has it. -/
abbrev rcfV (C : Nat) (A : Option Addr) (R c D : Nat) (B : Option Addr) (S d : Nat) : Value := .agg #[.int .i64 (C : Int), .slice A R c, .int .i64 (D : Int), .slice B S d]
set_option maxRecDepth 100000 in
set_option maxHeartbeats 2000000 in
theorem rcheck_any (C R c D S d : Nat) (A B : Option Addr) (w : World) :
    Calls Tryd.prog 14 #[rcfV C A R c D B S d] w fun e w' => e = .returned (.int .i64 (if C = S then 0 else 1)) ∧ Below w.heap.size w w' := by
  by_cases h : C = S
  · rw [if_pos h]
    have e1 : ((C : Int) != (S : Int)) = false := by simp [h]
    clear h
    go_enter Tryd.func14, Tryd.ntmps14
    go_wp2_with fail
    go_ret
    exact ⟨rfl, (Below.refl _ _).alloc (Nat.le_refl _) _⟩
  · rw [if_neg h]
    have e1 : ((C : Int) != (S : Int)) = true := by simp; omega
    clear h
    go_enter Tryd.func14, Tryd.ntmps14
    go_wp2_with fail
    go_ret
    exact ⟨rfl, (Below.refl _ _).alloc (Nat.le_refl _) _⟩
set_option maxRecDepth 100000 in
set_option maxHeartbeats 2000000 in
theorem rfits_any (C R c D S d C' R' c' D' S' d' : Nat) (A B A' B' : Option Addr) (w : World) :
    Calls Tryd.prog 26 #[rcfV C A R c D B S d, rcfV C' A' R' c' D' B' S' d'] w fun e w' => e = .returned (.bool (decide (R = R' ∧ D = D'))) ∧ Below w.heap.size w w' := by
  by_cases h : R = R'
  · have e1 : ((R : Int) == (R' : Int)) = true := by simp [h]
    have e2 : decide (R = R' ∧ D = D') = ((D : Int) == (D' : Int)) := by
      rw [Bool.eq_iff_iff, decide_eq_true_eq, beq_iff_eq]; omega
    rw [e2]
    clear h e2
    go_enter Tryd.func26, Tryd.ntmps26
    go_wp2_with fail
    go_ret
    exact ⟨by first | rfl | simp, ((Below.refl _ _).alloc (Nat.le_refl _) _).alloc (by simp) _⟩
  · have e1 : ((R : Int) == (R' : Int)) = false := by simp; omega
    rw [decide_eq_false (fun hh => h hh.1)]
    clear h
    go_enter Tryd.func26, Tryd.ntmps26
    go_wp2_with fail
    go_ret
    exact ⟨rfl, ((Below.refl _ _).alloc (Nat.le_refl _) _).alloc (by simp) _⟩
end Go.Proofs.YthkjigggfeejdaaDoor
