/-
  The reference of chapter 47: Prove.
-/
import Derived.Test.YtlehoomnddcblaaDoorRr7
namespace Go.Proofs.YtlehoomnddcblaaDoor
open Go.RowKit
theorem OwnN.low {w : World} {base b0 : Nat} {v : Value} {P : List Nd} (h : OwnN w base v P) (hb : b0 ≤ base) : OwnN w b0 v P := by
  obtain ⟨vss, h1, h2, h3, h4⟩ := h
  exact ⟨vss, h1, fun k x hx => by
    obtain ⟨vs, e, v3, v4, rfl, k3, k4⟩ := h2 k x hx
    exact ⟨_, e, v3, v4, rfl, own_low k3 hb, k4.low hb⟩, h3, own_low h4 hb⟩
/-- A store into a block of another kind. -/
theorem OwnN.cell {w : World} {base : Nat} {v : Value} {P : List Nd} {p : Addr} {t : TypeId} {cs : Array Value} (h : OwnN w base v P) (hB : Blk w p.block t cs) (h1 : t ≠ 39) (h2 : t ≠ 3) (h3 : t ≠ 40) (u : Value) : OwnN (w.setCell p u) base v P := by
  obtain ⟨vss, k1, k2, k3, k4⟩ := h
  have key : ∀ {b e size v' n xs}, w.ownsRow b e size v' n xs → t ≠ e → (w.setCell p u).ownsRow b e size v' n xs := fun ho hne => ownsRow_setCell_other ho (fun e => own_ne ho hB hne e.symm) u
  exact ⟨vss, k1, fun k x hx => by
    obtain ⟨vs, e, v3, v4, rfl, q3, q4⟩ := k2 k x hx
    exact ⟨_, e, v3, v4, rfl, key q3 h2, key q4 h3⟩, k3, key k4 h1⟩
namespace Mix2
set_option maxRecDepth 100000 in
set_option maxHeartbeats 8000000 in
theorem prove_any (C : Nat) (A : Option Addr) (c : Nat) (M : List (List Bool)) (last : Bool) (size : Nat) (w : World) (hC : C ≤ 5) (hR : M.length ≤ 5) (hI : IsRef w C A M) (hs1 : 1 ≤ size) (hs2 : size ≤ 6) (hcov : ¬ Cov C (nsOf C M) (size - 1) (cellsOf (nsOf C M))) :
    Calls Tryd.prog 49 #[refV C A M.length c, .int .i64 size, .bool last] w fun e w' => ∃ v', e = .returned (.agg #[.int .i64 size, v']) ∧ OwnN w' w.heap.size v' (growL C (nsOf C M) last (size - 1) 0 (cellsOf (nsOf C M))) ∧ Below w.heap.size w w' := by
  have hlen : (cellsOf (nsOf C M)).length ≤ 1000 := cells_len (C := C) (rowsIn_nsOf C M (by omega)) (by omega) (by rw [nsTo_len]; omega)
  have hon := fun W (hb : Below w.heap.size w W) => ones_ref C A c M W (hI.below hb) (by omega) (by omega)
  have hgr := fun W (u : Value) (hb : Below w.heap.size w W) (hu : OwnP W 0 u (cz (cellsOf (nsOf C M)))) => grow_any C A c M last hC hR w hI (size - 1) W.heap.size (.slice none 0 0) u [] (cellsOf (nsOf C M)) W (by omega) hb.size (Nat.le_refl _) hb (OwnN.nil _ _) (by rw [List.length_nil, Nat.zero_add]; exact Nat.le_trans (Nat.pow_le_pow_right (by omega) (show size - 1 ≤ 5 by omega)) (by decide)) hlen hu (fun _ h => h) hcov
  have hsz1 : wrap64 ((size : Int) - 1) = ((size - 1 : Nat) : Int) := by rw [IntWalk.wrap64_in _ ⟨by omega, by omega⟩]; omega
  have hsz2 : IntKind.i64.wrap ((size : Int) - 1) = ((size - 1 : Nat) : Int) := by rw [i64w ⟨by omega, by omega⟩]; omega
  generalize growL C (nsOf C M) last (size - 1) 0 (cellsOf (nsOf C M)) = G at hgr ⊢
  simp only [List.nil_append] at hgr
  generalize cellsOf (nsOf C M) = O at hon hgr
  have HON := Lib.hid hon; have HGR := Lib.hid hgr
  clear hon hgr hlen hcov
  go_enter Tryd.func49, Tryd.ntmps49
  go_wp2_with fail
  refine abs2 fun w1 hX hY hb hz => ?_
  clear hz
  obtain ⟨gX, hgX⟩ : ∃ g, g = w.heap.size := ⟨_, rfl⟩
  have hXlo : w.heap.size ≤ gX + 1 := by omega
  rw [← hgX] at hX hY ⊢
  clear hgX
  have hd : Below w1.heap.size w1 w1.drew := (Below.refl _ _).drew
  have hb1 := hb.trans (hd.mono hb.size)
  have hX1 := hX.below hd hX.lt
  have hY1 := hY.below hd hY.lt
  refine wp_mix (fun V => Blk V gX 29 #[.int .i64 (C : Int), .slice A M.length c]) 10 (by kernel_rfl) (by kernel_rfl) hX1 ?_
  obtain ⟨u, hu⟩ : ∃ V, V = w1.drew := ⟨_, rfl⟩
  rw [← hu] at hd hb1 hX1 hY1 ⊢
  clear hu
  (refine m_q 0 (v := ?_) (by kernel_rfl) rfl rfl (fun W hW => ?_) ?_; rotate_left; (go_simp; first | done | with_reducible rfl); simp only [Act.put, List.setIfInBounds_toArray, List.set_cons_zero, List.set_cons_succ])
  (refine m_q 1 (v := ?_) (by kernel_rfl) rfl rfl (fun W hW => ?_) ?_; rotate_left; (have z0 := hW.cell 0; have z1 := hW.cell 1; go_simp; first | done | with_reducible rfl); simp only [Act.put, List.setIfInBounds_toArray, List.set_cons_zero, List.set_cons_succ])
  (refine m_q 2 (v := ?_) (by kernel_rfl) rfl rfl (fun W hW => ?_) ?_; rotate_left; (go_simp; first | done | with_reducible rfl); simp only [Act.put, List.setIfInBounds_toArray, List.set_cons_zero, List.set_cons_succ]); (refine m_q 3 (v := ?_) (by kernel_rfl) rfl rfl (fun W hW => ?_) ?_; rotate_left; (go_simp; first | done | with_reducible rfl); simp only [Act.put, List.setIfInBounds_toArray, List.set_cons_zero, List.set_cons_succ])
  (refine m_q 4 (v := ?_) (by kernel_rfl) rfl rfl (fun W hW => ?_) ?_; rotate_left; (have z0 := hW.cell 0; have z1 := hW.cell 1; go_simp; first | done | with_reducible rfl); simp only [Act.put, List.setIfInBounds_toArray, List.set_cons_zero, List.set_cons_succ])
  (refine m_q 6 (v := ?_) (by kernel_rfl) rfl rfl (fun W hW => ?_) ?_; rotate_left; (go_simp; first | done | with_reducible rfl); simp only [Act.put, List.setIfInBounds_toArray, List.set_cons_zero, List.set_cons_succ])
  refine m_s1 5 (by kernel_rfl) rfl ?_
  go_wp2_with fail
  refine (HON.out u hb1).mono ?_
  rintro e u5 ⟨v5, rfl, ho5, hb5⟩
  have hX5 := hX1.below hb5 hX1.lt
  have hY5 := hY1.below hb5 hY1.lt
  have hbu5 := hb1.trans (hb5.mono hb1.size)
  go_wp2_with fail
  refine m_keep hX5 ?_
  refine m_s1 7 (by kernel_rfl) rfl ?_
  go_wp2_with fail
  refine (HGR.out u5 v5 hbu5 (ho5.low (Nat.zero_le _))).mono ?_
  rintro e u7 ⟨v7, rfl, hN7, kt7, bw7⟩
  have hX7 := hX5.kt kt7 (by decide) (by decide)
  have hY7 := hY5.kt kt7 (by decide) (by decide)
  have hbu7 := hbu5.trans (bw7.mono hbu5.size)
  obtain ⟨vss7, hON7⟩ := hN7
  obtain ⟨A7, c7, rfl, hc7⟩ := own5 hON7.own
  have hN7' : OwnN u7 w.heap.size (.slice A7 G.length c7) G := OwnN.low ⟨vss7, hON7⟩ hbu5.size
  clear hON7 vss7
  go_wp2_with fail
  refine m_keep hX7 ?_
  (refine m_q 8 (v := ?_) (by kernel_rfl) rfl rfl (fun W hW => ?_) ?_; rotate_left; (go_simp; first | done | with_reducible rfl); simp only [Act.put, List.setIfInBounds_toArray, List.set_cons_zero, List.set_cons_succ])
  have y0 := hY7.cell 0
  have y1 := hY7.cell 1
  have f0 := hY7.frozen 0
  have f1 := hY7.frozen 1
  have lY := hY7.lt
  refine m_s1 9 (by kernel_rfl) rfl ?_
  go_wp2_with fail
  have hYs := (hY7.set_ 0 (.int .i64 size)).set_ 1 (.slice A7 G.length c7)
  have hbs := (hbu7.setCell (p := ⟨gX + 1, 0, none⟩) hXlo (.int .i64 size)).setCell (p := ⟨gX + 1, 1, none⟩) hXlo (.slice A7 G.length c7)
  have hNs := (hN7'.cell (p := ⟨gX + 1, 0, none⟩) hY7 (by decide) (by decide) (by decide) (.int .i64 size)).cell (p := ⟨gX + 1, 1, none⟩) (hY7.set_ 0 (.int .i64 size)) (by decide) (by decide) (by decide) (.slice A7 G.length c7)
  refine m_keep (((hX7.far (p := ⟨gX + 1, 0, none⟩) (by show gX ≠ gX + 1; omega) _)).far (p := ⟨gX + 1, 1, none⟩) (by show gX ≠ gX + 1; omega) _) ?_
  refine m_end (by kernel_rfl) ?_
  have c0 := hYs.cell 0
  have c1 := hYs.cell 1
  go_wp2_with fail
  exact bodyPost_ret (v := .agg #[.int .i64 size, .slice A7 G.length c7]) (by simp [results, Tryd.results49, go_sem, c0, c1]) rfl ⟨_, rfl, hNs, hbs⟩

end Mix2
end Go.Proofs.YtlehoomnddcblaaDoor
