import Derived.Test.YthkjigggfeejdaaDoorMl2
namespace Go.Proofs.YthkjigggfeejdaaDoor
open Go.RowKit

theorem cellsS_len3 (l : List (Nat × Nat × Nat)) : (cellsS l).length = l.length * 3 := by rw [cellsS_Z, cellsZ_len, toZ_len]
set_option maxRecDepth 100000 in
set_option maxHeartbeats 2000000 in
/-- slices.Equal at two slices with the same steps. -/
theorem eqsteps_yes (A B : Option Addr) (c d n : Nat) (l : List (Nat × Nat × Nat)) (w : World) (hA : Row w A (cellsS l)) (hB : Row w B (cellsS l)) (hn : l.length = n) (hL : n ≤ 1000000000) :
    Calls Tryd.prog 42 #[.slice A n c, .slice B n d] w fun e w' => e = .returned (.bool true) ∧ Below w.heap.size w w' := by
  subst hn
  go_enter Tryd.func42, Tryd.ntmps42
  go_wp2_with fail
  refine wp_loopF (β := Nat) (fun k f => #[.slice A l.length c, .slice B l.length d, f 2, f 3, f 4, f 5, f 6, f 7, f 8, f 9, f 10, f 11, .int .i64 (l.length : Int), .int .i64 (k : Int), f 14, f 15, f 16, f 17, f 18, f 19, f 20, f 21, f 22, f 23, f 24, f 25])
    (fun k ds wr => k ≤ l.length ∧ ds = [] ∧ Below w.heap.size w wr) (fun k => l.length - k) 0 rfl ⟨Nat.zero_le _, rfl, Below.refl _ _⟩ ?_
  rintro k f ds wr ⟨hk, rfl, hb⟩
  dsimp only
  by_cases hlt : k < l.length
  · obtain ⟨s, hs⟩ : ∃ s, l[k]? = some s := ⟨l[k], List.getElem?_eq_getElem hlt⟩
    obtain ⟨g, off, rfl, hg, hc⟩ := hA (by rw [cellsS_len3]; omega)
    obtain ⟨g2, off2, rfl, hg2, hc2⟩ := hB (by rw [cellsS_len3]; omega)
    have hz : (toZ l)[k]? = some (s.1, (s.2.1 : Int), (s.2.2 : Int)) := by unfold toZ; rw [List.getElem?_map, hs]; rfl
    obtain ⟨q0, q1, q2⟩ := cellsZ_get (toZ l) k _ hz
    rw [← cellsS_Z] at q0 q1 q2
    have t0 := onB hb (hc _ _ q0)
    have t1 := onB hb (hc _ _ q1)
    have t2 := onB hb (hc _ _ q2)
    have u0 := onB hb (hc2 _ _ q0)
    have u1 := onB hb (hc2 _ _ q1)
    have u2 := onB hb (hc2 _ _ q2)
    rw [← Nat.add_assoc] at t1 t2 u1 u2
    obtain ⟨x, y, z⟩ := s
    clear hc hc2 q0 q1 q2 hz hs
    go_wp2_with fail
    refine wp_spine (fun W => Below wr.heap.size wr W) [0, 1, 2, 3, 4, 5, 6, 7, 8] [] (by kernel_rfl) (by kernel_rfl) ?_
    iterate 9 (refine wpE_op (v := ?_) rfl rfl (fun W hW => ?_) ?_; rotate_left; (have z1 := onB hW t0; have z2 := onB hW t1; have z3 := onB hW t2; have y1 := onB hW u0; have y2 := onB hW u1; have y3 := onB hW u2; go_simp; first | done | with_reducible rfl); simp only [Act.put, List.setIfInBounds_toArray, List.set_cons_zero, List.set_cons_succ])
    refine wpE_nil ⟨fun _ => (Below.refl _ _).drew, wpSp_nil ?_⟩
    clear t0 t1 t2 u0 u1 u2
    go_wp2_with fail
    exact ⟨k + 1, rfl, ⟨by omega, by first | rfl | trivial, hb.drew⟩, by omega⟩
  · obtain rfl : k = l.length := by omega
    go_wp2_with fail
    go_ret
    exact ⟨rfl, hb⟩
set_option maxRecDepth 100000 in
set_option maxHeartbeats 2000000 in
theorem eqints_yes (A B : Option Addr) (c d n : Nat) (l : List Nat) (w : World) (hA : Row w A (l.map i64)) (hB : Row w B (l.map i64)) (hn : l.length = n) (hL : n ≤ 1000000000) :
    Calls Tryd.prog 40 #[.slice A n c, .slice B n d] w fun e w' => e = .returned (.bool true) ∧ Below w.heap.size w w' := by
  subst hn
  go_enter Tryd.func40, Tryd.ntmps40
  go_wp2_with fail
  refine wp_loopF (β := Nat) (fun k f => #[.slice A l.length c, .slice B l.length d, f 2, f 3, f 4, f 5, f 6, f 7, f 8, f 9, f 10, f 11, .int .i64 (l.length : Int), .int .i64 (k : Int), f 14, f 15, f 16, f 17, f 18, f 19, f 20, f 21, f 22, f 23, f 24, f 25])
    (fun k ds wr => k ≤ l.length ∧ ds = [] ∧ Below w.heap.size w wr) (fun k => l.length - k) 0 rfl ⟨Nat.zero_le _, rfl, Below.refl _ _⟩ ?_
  rintro k f ds wr ⟨hk, rfl, hb⟩
  dsimp only
  by_cases hlt : k < l.length
  · obtain ⟨g, off, rfl, hg, hc⟩ := hA (by rw [List.length_map]; omega)
    obtain ⟨g2, off2, rfl, hg2, hc2⟩ := hB (by rw [List.length_map]; omega)
    have t0 := onB hb (hc k (i64 l[k]) (by rw [List.getElem?_map, List.getElem?_eq_getElem hlt]; rfl))
    have u0 := onB hb (hc2 k (i64 l[k]) (by rw [List.getElem?_map, List.getElem?_eq_getElem hlt]; rfl))
    obtain ⟨x, hx⟩ : ∃ x, x = l[k] := ⟨_, rfl⟩
    rw [← hx] at t0 u0
    clear hc hc2 hx
    go_wp2_with fail
    refine wp_spine (fun W => Below wr.heap.size wr W) [0, 1, 2, 3, 4, 5, 6, 7, 8] [] (by kernel_rfl) (by kernel_rfl) ?_
    iterate 9 (refine wpE_op (v := ?_) rfl rfl (fun W hW => ?_) ?_; rotate_left; (have z1 := onB hW t0; have y1 := onB hW u0; go_simp; first | done | with_reducible rfl); simp only [Act.put, List.setIfInBounds_toArray, List.set_cons_zero, List.set_cons_succ])
    refine wpE_nil ⟨fun _ => (Below.refl _ _).drew, wpSp_nil ?_⟩
    clear t0 u0
    go_wp2_with fail
    exact ⟨k + 1, rfl, ⟨by omega, by first | rfl | trivial, hb.drew⟩, by omega⟩
  · obtain rfl : k = l.length := by omega
    go_wp2_with fail
    go_ret
    exact ⟨rfl, hb⟩
theorem cellsR_Q (l : List (Nat × Nat × Nat)) : cellsR l = cellsQ (toZ l) := by
  unfold cellsR cellsQ toZ
  rw [List.flatMap_map]
theorem difM_kind {kd C : Nat} {M P : List (List Bool)} {n : Nat} : ∀ s ∈ difM kd C M P n, s.1 = kd := by
  intro s hs
  unfold difM at hs
  obtain ⟨i, _, h⟩ := List.mem_flatMap.1 hs
  obtain ⟨j, _, rfl⟩ := List.mem_map.1 h
  rfl
theorem planOf_kind {n D : Nat} {U P U' P' : List (List Bool)} : ∀ s ∈ planOf n D U P U' P', 1 ≤ s.1 ∧ s.1 ≤ 4 := by
  intro s hs
  unfold planOf at hs
  rw [List.mem_append, List.mem_append, List.mem_append] at hs
  rcases hs with ((hs | hs) | hs) | hs <;> rw [difM_kind _ hs] <;> omega
theorem planJ_kindZ {D : Nat} {M P M' P' : List (List Bool)} : ∀ s ∈ toZ (planJ D M P M' P'), s.1 ≤ 255 := by
  intro s hs
  unfold toZ at hs
  obtain ⟨t, ht, rfl⟩ := List.mem_map.1 hs
  have := planOf_kind t ht
  show t.1 ≤ 255
  omega
theorem planOf_small {n D : Nat} {U P U' P' : List (List Bool)} (hU : U.length ≤ 4096) (hU' : U'.length ≤ 4096) (hP : P.length ≤ 4096) (hP' : P'.length ≤ 4096) (hn : n ≤ 4096) (hD : D ≤ 4096) : (planOf n D U P U' P').length ≤ 67108864 := by
  rw [planOf_len]
  have d3 := difM_len 3 D P P' P'.length
  have d1 := difM_len 1 n U U' U'.length
  have d2 := difM_len 2 n U' U U.length
  have d4 := difM_len 4 D P' P P.length
  have m1 : D * P'.length ≤ 4096 * 4096 := Nat.mul_le_mul hD hP'
  have m2 : n * U'.length ≤ 4096 * 4096 := Nat.mul_le_mul hn hU'
  have m3 : n * U.length ≤ 4096 * 4096 := Nat.mul_le_mul hn hU
  have m4 : D * P.length ≤ 4096 * 4096 := Nat.mul_le_mul hD hP
  omega
theorem planJ_small {D : Nat} {M P M' P' : List (List Bool)} (hM : M.length ≤ 4096) (hM' : M'.length ≤ 4096) (hn : jn P P' ≤ 4096) (hD : D ≤ 4096) : (planJ D M P M' P').length ≤ 67108864 :=
  planOf_small (by rw [jU, mat_len]; exact hM) (by rw [jU, mat_len]; exact hM') (by rw [jP, mat_len]; exact hn) (by rw [jP, mat_len]; exact hn) hn hD
end Go.Proofs.YthkjigggfeejdaaDoor
