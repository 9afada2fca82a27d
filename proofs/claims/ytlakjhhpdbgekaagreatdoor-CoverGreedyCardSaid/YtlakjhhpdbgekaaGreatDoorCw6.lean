import Derived.Test.YtlakjhhpdbgekaaGreatDoorCw5
/-
  The reference of chapter 48: Minimal, Roles.
-/
namespace Go.Proofs.YtlakjhhpdbgekaaGreatDoor
open Go.RowKit

theorem OwnRef.other {W : World} {base C g j : Nat} {v : Value} {hs : List Nat} {f : Nat → Nat → Bool} {cs : Array Value} (h : OwnRef W base C v hs f) (hB : Blk W g 4 cs) (hn : g ∉ hs) (u : Value) : OwnRef (W.setCell ⟨g, j, none⟩ u) base C v hs f :=
  ⟨ownsRow_setCell_other h.1 (a := ⟨g, j, none⟩) (fun e => own_ne h.1 hB (by decide) e.symm) u, h.2.1, h.2.2.1, fun i g' hg' => (h.2.2.2 i g' hg').far (p := ⟨g, j, none⟩) (fun e => hn ((show g' = g from e) ▸ List.mem_of_getElem? hg')) u⟩
/-- Two matrices of the specification's that are being filled side by side. -/
structure RolI (w W : World) (R C K gX g6 g8 g9 base1 base2 : Nat) (vM v1 v2 : Value) (gs hs : List Nat) (f1 f2 : Nat → Nat → Bool) : Prop where
  o1 : OwnRef W base1 K v1 gs f1
  o2 : OwnRef W base2 C v2 hs f2
  dj : ∀ x ∈ gs, x ∉ hs
  l1 : w.heap.size ≤ base1
  l2 : w.heap.size ≤ base2
  bX : Blk W gX 28 #[.int .i64 (C : Int), vM]
  b6 : Blk W g6 28 #[.int .i64 0, .slice none 0 0]
  b7 : Blk W (g6 + 1) 28 #[.int .i64 0, .slice none 0 0]
  b8 : Blk W g8 28 #[.int .i64 (K : Int), v1]
  b9 : Blk W g9 28 #[.int .i64 (C : Int), v2]
  bel : Below w.heap.size w W
section
variable {w W W' : World} {R C K gX g6 g8 g9 base1 base2 : Nat} {vM v1 v2 : Value} {gs hs : List Nat} {f1 f2 f1' f2' : Nat → Nat → Bool}
theorem RolI.on (h : RolI w W R C K gX g6 g8 g9 base1 base2 vM v1 v2 gs hs f1 f2) (hb : Below W.heap.size W W') : RolI w W' R C K gX g6 g8 g9 base1 base2 vM v1 v2 gs hs f1 f2 :=
  ⟨h.o1.below hb, h.o2.below hb, h.dj, h.l1, h.l2, h.bX.below hb h.bX.lt, h.b6.below hb h.b6.lt, h.b7.below hb h.b7.lt, h.b8.below hb h.b8.lt, h.b9.below hb h.b9.lt, h.bel.trans (hb.mono h.bel.size)⟩
theorem RolI.put1 (h : RolI w W R C K gX g6 g8 g9 base1 base2 vM v1 v2 gs hs f1 f2) {i j : Nat} (hi : i < gs.length) (b : Bool) : RolI w (W.setCell ⟨gs[i], j, none⟩ (.bool b)) R C K gX g6 g8 g9 base1 base2 vM v1 v2 gs hs (fun x y => if x = i ∧ y = j then b else f1 x y) f2 := by
  have hB := h.o1.2.2.2 i _ (List.getElem?_eq_getElem hi)
  have hg := h.o1.2.2.1 _ (List.getElem_mem hi)
  exact ⟨h.o1.put hi b, h.o2.other hB (h.dj _ (List.getElem_mem hi)) _, h.dj, h.l1, h.l2, h.bX.far (h.bX.ne_ hB (by decide)) _, h.b6.far (h.b6.ne_ hB (by decide)) _, h.b7.far (h.b7.ne_ hB (by decide)) _, h.b8.far (h.b8.ne_ hB (by decide)) _, h.b9.far (h.b9.ne_ hB (by decide)) _, h.bel.setCell (p := ⟨gs[i], j, none⟩) (Nat.le_trans h.l1 hg) _⟩
theorem RolI.put2 (h : RolI w W R C K gX g6 g8 g9 base1 base2 vM v1 v2 gs hs f1 f2) {i j : Nat} (hi : i < hs.length) (b : Bool) : RolI w (W.setCell ⟨hs[i], j, none⟩ (.bool b)) R C K gX g6 g8 g9 base1 base2 vM v1 v2 gs hs f1 (fun x y => if x = i ∧ y = j then b else f2 x y) := by
  have hB := h.o2.2.2.2 i _ (List.getElem?_eq_getElem hi)
  have hg := h.o2.2.2.1 _ (List.getElem_mem hi)
  exact ⟨h.o1.other hB (fun hm => h.dj _ hm (List.getElem_mem hi)) _, h.o2.put hi b, h.dj, h.l1, h.l2, h.bX.far (h.bX.ne_ hB (by decide)) _, h.b6.far (h.b6.ne_ hB (by decide)) _, h.b7.far (h.b7.ne_ hB (by decide)) _, h.b8.far (h.b8.ne_ hB (by decide)) _, h.b9.far (h.b9.ne_ hB (by decide)) _, h.bel.setCell (p := ⟨hs[i], j, none⟩) (Nat.le_trans h.l2 hg) _⟩
theorem RolI.congr1 (h : RolI w W R C K gX g6 g8 g9 base1 base2 vM v1 v2 gs hs f1 f2) (he : ∀ i, i < gs.length → ∀ j, j < K → f1 i j = f1' i j) : RolI w W R C K gX g6 g8 g9 base1 base2 vM v1 v2 gs hs f1' f2 :=
  ⟨h.o1.congr he, h.o2, h.dj, h.l1, h.l2, h.bX, h.b6, h.b7, h.b8, h.b9, h.bel⟩
theorem RolI.congr2 (h : RolI w W R C K gX g6 g8 g9 base1 base2 vM v1 v2 gs hs f1 f2) (he : ∀ i, i < hs.length → ∀ j, j < C → f2 i j = f2' i j) : RolI w W R C K gX g6 g8 g9 base1 base2 vM v1 v2 gs hs f1 f2' :=
  ⟨h.o1, h.o2.congr he, h.dj, h.l1, h.l2, h.bX, h.b6, h.b7, h.b8, h.b9, h.bel⟩
theorem RolI.col_done {k n : Nat} {T : Nat → Nat → Bool} (h : RolI w W R C K gX g6 g8 g9 base1 base2 vM v1 v2 gs hs (partT k n T) f2) (hn : gs.length = n) : RolI w W R C K gX g6 g8 g9 base1 base2 vM v1 v2 gs hs (partT (k + 1) 0 T) f2 :=
  h.congr1 fun i hi j _ => by
    unfold partT part
    by_cases h2 : j < k ∨ (j = k ∧ i < n)
    · rw [if_pos h2, if_pos (by omega)]
    · rw [if_neg h2, if_neg (by omega)]
theorem RolI.row_done {k : Nat} {T : Nat → Nat → Bool} (h : RolI w W R C K gX g6 g8 g9 base1 base2 vM v1 v2 gs hs f1 (part k C T)) : RolI w W R C K gX g6 g8 g9 base1 base2 vM v1 v2 gs hs f1 (part (k + 1) 0 T) :=
  h.congr2 fun i _ j hj => by
    unfold part
    by_cases h2 : i < k ∨ (i = k ∧ j < C)
    · rw [if_pos h2, if_pos (by omega)]
    · rw [if_neg h2, if_neg (by omega)]
end
theorem TRef.of_own {W : World} {base C n c : Nat} {A : Option Addr} {gs : List Nat} {f : Nat → Nat → Bool} (h : OwnRef W base C (.slice A n c) gs f) (hn : gs.length = n) (hC : C ≤ 4096) (hR : n ≤ 4096) : TRef W C A c (mat n C f) := by
  have hl : (mat n C f).length = n := mat_len ..
  refine ⟨hC, by rw [hl]; exact hR, base, gs, f, ?_, ?_, ?_⟩
  · rw [hl]; exact h
  · rw [hl]; exact hn
  · rw [hl]
theorem IsRef.own {W : World} {base C n c : Nat} {A : Option Addr} {gs : List Nat} {f : Nat → Nat → Bool} (h : OwnRef W base C (.slice A n c) gs f) (hn : gs.length = n) (hC : C ≤ 4096) (hR : n ≤ 4096) : IsRef W C A (mat n C f) := by
  subst hn
  obtain ⟨A', c', e, _, hI⟩ := h.ref hC hR
  cases e
  exact hI
/-- Both are handed out. -/
theorem RolI.res {w W : World} {R C K gX g6 g8 g9 base1 base2 : Nat} {vM v1 v2 : Value} {gs hs : List Nat} {f1 f2 : Nat → Nat → Bool} (h : RolI w W R C K gX g6 g8 g9 base1 base2 vM v1 v2 gs hs f1 f2) (hg : w.heap.size ≤ g6) (a b c d : Value) :
    OwnRef ((((W.setCell ⟨g6, 0, none⟩ a).setCell ⟨g6, 1, none⟩ b).setCell ⟨g6 + 1, 0, none⟩ c).setCell ⟨g6 + 1, 1, none⟩ d) base1 K v1 gs f1 ∧
    OwnRef ((((W.setCell ⟨g6, 0, none⟩ a).setCell ⟨g6, 1, none⟩ b).setCell ⟨g6 + 1, 0, none⟩ c).setCell ⟨g6 + 1, 1, none⟩ d) base2 C v2 hs f2 ∧
    Blk ((((W.setCell ⟨g6, 0, none⟩ a).setCell ⟨g6, 1, none⟩ b).setCell ⟨g6 + 1, 0, none⟩ c).setCell ⟨g6 + 1, 1, none⟩ d) g6 28 #[a, b] ∧
    Blk ((((W.setCell ⟨g6, 0, none⟩ a).setCell ⟨g6, 1, none⟩ b).setCell ⟨g6 + 1, 0, none⟩ c).setCell ⟨g6 + 1, 1, none⟩ d) (g6 + 1) 28 #[c, d] ∧
    Below w.heap.size w ((((W.setCell ⟨g6, 0, none⟩ a).setCell ⟨g6, 1, none⟩ b).setCell ⟨g6 + 1, 0, none⟩ c).setCell ⟨g6 + 1, 1, none⟩ d) := by
  have e1 := h.b6.set_ 0 a
  have e2 := e1.set_ 1 b
  have n1 : g6 + 1 ≠ g6 := by omega
  have n2 : g6 ≠ g6 + 1 := by omega
  have d0 := (h.b7.far (p := ⟨g6, 0, none⟩) n1 a).far (p := ⟨g6, 1, none⟩) n1 b
  have d1 := d0.set_ 0 c
  have d2 := d1.set_ 1 d
  refine ⟨?_, ?_, (e2.far (p := ⟨g6 + 1, 0, none⟩) n2 c).far (p := ⟨g6 + 1, 1, none⟩) n2 d, d2, ?_⟩
  · exact (((h.o1.far h.b6 (by decide) (by decide) 0 a).far e1 (by decide) (by decide) 1 b).far d0 (by decide) (by decide) 0 c).far d1 (by decide) (by decide) 1 d
  · exact (((h.o2.far h.b6 (by decide) (by decide) 0 a).far e1 (by decide) (by decide) 1 b).far d0 (by decide) (by decide) 0 c).far d1 (by decide) (by decide) 1 d
  · exact (((h.bel.setCell (p := ⟨g6, 0, none⟩) hg a).setCell (p := ⟨g6, 1, none⟩) hg b).setCell (p := ⟨g6 + 1, 0, none⟩) (Nat.le_succ_of_le hg) c).setCell (p := ⟨g6 + 1, 1, none⟩) (Nat.le_succ_of_le hg) d
theorem IsRef.matR {w : World} {C : Nat} {A : Option Addr} {M M' : List (List Bool)} (h : IsRef w C A M) (e : M = M') : IsRef w C A M' := e ▸ h
namespace Mix2
set_option maxRecDepth 100000 in
set_option maxHeartbeats 8000000 in
theorem minimal48_any (C : Nat) (A : Option Addr) (c : Nat) (M : List (List Bool)) (w : World) (h : IsRef w C A M) (hC : C ≤ 12) (hR : M.length ≤ 60) :
    Calls Tryz.prog 15 #[refV C A M.length c] w fun e w' => ∃ v ks, e = .returned v ∧ w'.ownsRow w.heap.size 3 1 v ks.length (ks.map i64) ∧ atL (closL C (nsOf C M)) ks = minC C (nsOf C M) ∧ (∀ k ∈ ks, k < (closL C (nsOf C M)).length) ∧ ks.length = sizeM C (nsOf C M) ∧ Below w.heap.size w w' := by
  have hnl : (nsOf C M).length = M.length := nsTo_len ..
  have hl : (nsOf C M).length ≤ 4096 := by rw [hnl]; omega
  have hin := rowsIn_nsOf C M (by omega)
  obtain ⟨hno, ks0, hks1, hks2, hks3, hks4⟩ := min_choose (C := C) hl hin
  have hsz := sizeM_le (C := C) hl hin
  rw [hnl] at hsz
  have HCO := Lib.hid (fun W (hb : Below w.heap.size w W) => concepts48_any C A c M W (h.below hb) hC hR)
  have hlen : (closL C (nsOf C M)).length ≤ 4096 := Nat.le_trans (closL_len C _) (Nat.le_trans (Nat.pow_le_pow_right (by omega) hC) (by decide))
  obtain ⟨L, hL⟩ : ∃ L, L = closL C (nsOf C M) := ⟨_, rfl⟩
  rw [← hL] at hno hks1 hks2 hks3 HCO hlen ⊢
  have HCH := Lib.hid (fun n B d Al cl W (hb : Below w.heap.size w W) (hn : n ≤ 60) (hB : IsRef W C B (doneM C M (cellsOf (nsOf C M)))) (hrow : Row W Al (conV C (nsOf C M) L)) (hcl : L.length ≤ cl) => choose_any C A c M L (by omega) hR hlen n 0 (cellsOf (nsOf C M)) B d Al cl W hn (Nat.zero_le _) (OnesOf.all C M) (h.below hb) hB hrow hcl)
  obtain ⟨Z, hZ⟩ : ∃ Z, Z = sizeM C (nsOf C M) := ⟨_, rfl⟩
  rw [← hZ] at hno hks1 hks4 hsz ⊢
  have HNO := Lib.hid hno; have HK1 := Lib.hid hks1; have HK2 := Lib.hid hks2; have HK3 := Lib.hid hks3; have HK4 := Lib.hid hks4
  have hCle : C ≤ 4096 := h.1
  clear hno hks1 hks2 hks3 hks4 hin hl hL hZ hnl h
  go_enter Tryz.func15, Tryz.ntmps15
  go_wp2_with fail
  refine absC1 fun W0 hX0 hb0 hz => ?_
  obtain ⟨X, hXe⟩ : ∃ g, g = w.heap.size := ⟨_, rfl⟩
  rw [← hXe] at hX0 ⊢
  clear hXe hz
  refine (HCO.out W0 hb0).mono ?_
  rintro e w1 ⟨v1, rfl, hown1, hb1⟩
  have b1 := hb0.trans (hb1.mono hb0.size)
  have hX1 := hX0.below hb1 hX0.lt
  obtain ⟨A1, c1, rfl, hlc1, hrow1⟩ := hown1.row
  clear HCO hX0 hb1 hb0 hown1
  go_wp2_with fail
  refine wp_loopF (β := Nat) (fun n f => #[f 0, .pointer (some ⟨X, 0, none⟩), .slice none 0 0, .slice A1 L.length c1, .int .i64 (n : Int), f 5, f 6, f 7, f 8, f 9, f 10, f 11, f 12, f 13, f 14, f 15, f 16, f 17, f 18, f 19, f 20, f 21, f 22, f 23, f 24, f 25])
    (fun n ds W => n ≤ Z ∧ ds = [] ∧ Below w1.heap.size w1 W) (fun n => Z - n) 0 rfl ⟨Nat.zero_le _, rfl, Below.refl _ _⟩ ?_
  rintro n f ds W ⟨hn, rfl, hbW⟩
  dsimp only at hn ⊢
  have bW := b1.trans (hbW.mono b1.size)
  have hXW := hX1.below hbW hX1.lt
  have x0 := hXW.cell 0
  have x1 := hXW.cell 1
  go_upto_region 4 with fail
  refine wp_mix (fun V => Below W.heap.size W V) 15 (by kernel_rfl) (by kernel_rfl) (Below.refl _ _).drew ?_
  have hr := (Below.refl W.heap.size W).drew
  obtain ⟨V, hV⟩ : ∃ V, V = W.drew := ⟨_, rfl⟩
  rw [← hV] at hr ⊢
  clear hV
  (refine m_q 0 (v := ?_) (by kernel_rfl) rfl rfl (fun W hW => ?_) ?_; rotate_left; (have y0 := onB hW x0; have y1 := onB hW x1; go_simp; first | done | with_reducible rfl); simp only [Act.put, List.setIfInBounds_toArray, List.set_cons_zero, List.set_cons_succ]); (refine m_q 1 (v := ?_) (by kernel_rfl) rfl rfl (fun W hW => ?_) ?_; rotate_left; (have y0 := onB hW x0; have y1 := onB hW x1; go_simp; first | done | with_reducible rfl); simp only [Act.put, List.setIfInBounds_toArray, List.set_cons_zero, List.set_cons_succ]); (refine m_q 2 (v := ?_) (by kernel_rfl) rfl rfl (fun W hW => ?_) ?_; rotate_left; (have y0 := onB hW x0; have y1 := onB hW x1; go_simp; first | done | with_reducible rfl); simp only [Act.put, List.setIfInBounds_toArray, List.set_cons_zero, List.set_cons_succ]); (refine m_q 3 (v := ?_) (by kernel_rfl) rfl rfl (fun W hW => ?_) ?_; rotate_left; (have y0 := onB hW x0; have y1 := onB hW x1; go_simp; first | done | with_reducible rfl); simp only [Act.put, List.setIfInBounds_toArray, List.set_cons_zero, List.set_cons_succ]); (refine m_q 4 (v := ?_) (by kernel_rfl) rfl rfl (fun W hW => ?_) ?_; rotate_left; (have y0 := onB hW x0; have y1 := onB hW x1; go_simp; first | done | with_reducible rfl); simp only [Act.put, List.setIfInBounds_toArray, List.set_cons_zero, List.set_cons_succ]); (refine m_q 5 (v := ?_) (by kernel_rfl) rfl rfl (fun W hW => ?_) ?_; rotate_left; (have y0 := onB hW x0; have y1 := onB hW x1; go_simp; first | done | with_reducible rfl); simp only [Act.put, List.setIfInBounds_toArray, List.set_cons_zero, List.set_cons_succ])
  (refine m_q 7 (v := ?_) (by kernel_rfl) rfl rfl (fun W hW => ?_) ?_; rotate_left; (go_simp; first | done | with_reducible rfl); simp only [Act.put, List.setIfInBounds_toArray, List.set_cons_zero, List.set_cons_succ]); (refine m_q 8 (v := ?_) (by kernel_rfl) rfl rfl (fun W hW => ?_) ?_; rotate_left; (go_simp; first | done | with_reducible rfl); simp only [Act.put, List.setIfInBounds_toArray, List.set_cons_zero, List.set_cons_succ])
  have HN := hideC (newr_any M.length C V (by omega) hCle)
  refine m_s1 6 (by kernel_rfl) rfl ?_
  go_wp2_with fail
  refine HN.out.mono ?_
  rintro e V2 ⟨A2, c2, gs, rfl, hgs, hO2, hb2⟩
  have hr2 := hr.trans (hb2.mono hr.size)
  go_wp2_with fail
  refine m_keep hr2 ?_
  have hI2 : IsRef V2 C A2 (doneM C M (cellsOf (nsOf C M))) := by
    obtain ⟨A', c', e', _, hI⟩ := hO2.ref hCle (by omega)
    rw [hgs] at hI e'
    cases e'
    exact hI.matR (mat_congr fun i hi j hj => (done_all i hi j hj hCle).symm)
  have hc := HCH.out n A2 c2 A1 c1 V2 (bW.trans (hr2.mono bW.size)) (by omega) hI2 (hrow1.below (hbW.trans (hr2.mono hbW.size))) hlc1
  have hV2s := Nat.le_trans bW.size hr2.size
  rw [show ((0 : Nat) : Int) = 0 from rfl] at hc
  obtain ⟨ans, hans⟩ : ∃ a, a = chooseK C (nsOf C M) L n 0 (cellsOf (nsOf C M)) := ⟨_, rfl⟩
  rw [← hans] at hc
  have HC := hideC hc
  have HANS := Lib.hid hans
  clear hc hans hI2 hO2 hb2 hr HN
  refine m_s1 9 (by kernel_rfl) rfl ?_
  go_wp2_with fail
  refine HC.out.mono ?_
  rintro e V3 ⟨v3, rfl, hres, hb3⟩
  have hr3 := hr2.trans (hb3.mono hr2.size)
  go_wp2_with fail
  refine m_keep hr3 ?_
  (refine m_q 10 (v := ?_) (by kernel_rfl) rfl rfl (fun W hW => ?_) ?_; rotate_left; (go_simp; first | done | with_reducible rfl); simp only [Act.put, List.setIfInBounds_toArray, List.set_cons_zero, List.set_cons_succ]); (refine m_q 11 (v := ?_) (by kernel_rfl) rfl rfl (fun W hW => ?_) ?_; rotate_left; (go_simp; first | done | with_reducible rfl); simp only [Act.put, List.setIfInBounds_toArray, List.set_cons_zero, List.set_cons_succ]); (refine m_q 12 (v := ?_) (by kernel_rfl) rfl rfl (fun W hW => ?_) ?_; rotate_left; (go_simp; first | done | with_reducible rfl); simp only [Act.put, List.setIfInBounds_toArray, List.set_cons_zero, List.set_cons_succ]); (refine m_q 13 (v := ?_) (by kernel_rfl) rfl rfl (fun W hW => ?_) ?_; rotate_left; (go_simp; first | done | with_reducible rfl); simp only [Act.put, List.setIfInBounds_toArray, List.set_cons_zero, List.set_cons_succ]); (refine m_q 14 (v := ?_) (by kernel_rfl) rfl rfl (fun W hW => ?_) ?_; rotate_left; (go_simp; first | done | with_reducible rfl); simp only [Act.put, List.setIfInBounds_toArray, List.set_cons_zero, List.set_cons_succ])
  refine m_end (by kernel_rfl) ?_
  have hbW3 := hbW.trans (hr3.mono hbW.size)
  have bW3 := bW.trans (hr3.mono bW.size)
  clear hr2 hr3 HC x0 x1 hXW hbW bW hb3
  cases ans with
  | none =>
    have hlt : n < Z := by
      rcases Nat.lt_or_ge n Z with h | h
      · exact h
      · obtain rfl : n = Z := by omega
        rw [HK1.out] at HANS
        cases HANS.out
    clear hres
    go_wp2_with fail
    exact ⟨n + 1, rfl, ⟨by omega, by first | rfl | trivial, hbW3⟩, by omega⟩
  | some ks =>
    have hnz : n = Z := by
      rcases Nat.lt_or_ge n Z with h | h
      · have := HNO.out n h
        rw [← HANS.out] at this
        cases this
      · omega
    have hk : ks = ks0 := by
      have := HANS.out
      rw [hnz, HK1.out] at this
      injection this
    have hown := own_low (hres ks rfl) hV2s
    have HKK := Lib.hid hk
    clear hres hnz hk
    go_wp2_with fail
    go_ret
    exact ⟨v3, ks, rfl, hown, by rw [HKK.out]; exact HK2.out, by rw [HKK.out]; exact HK3.out, by rw [HKK.out]; exact HK4.out, bW3⟩
/-- Users by roles, roles by permissions. -/
def usF (C : Nat) (Ns L ks : List Nat) (x y : Nat) : Bool := (havN C Ns (L.getD (ks.getD y 0) 0)).testBit x
def peF (L ks : List Nat) (x y : Nat) : Bool := (L.getD (ks.getD x 0) 0).testBit y
set_option maxRecDepth 100000 in
set_option maxHeartbeats 8000000 in
theorem roles48_any (C : Nat) (A Al Ak : Option Addr) (c cl ck : Nat) (M : List (List Bool)) (L ks : List Nat) (w : World) (h : IsRef w C A M) (hrL : Row w Al (conV C (nsOf C M) L)) (hrK : Row w Ak (ks.map i64)) (hlK : ks.length ≤ 4096) (hkL : ∀ k ∈ ks, k < L.length) (hC : C ≤ 60) (hR : M.length ≤ 60) :
    Calls Tryz.prog 16 #[refV C A M.length c, .slice Al L.length cl, .slice Ak ks.length ck] w fun e w' => ∃ A1 c1 A2 c2, e = .returned (.tuple #[refV ks.length A1 M.length c1, refV C A2 ks.length c2]) ∧
      TRef w' ks.length A1 c1 (mat M.length ks.length (usF C (nsOf C M) L ks)) ∧ TRef w' C A2 c2 (mat ks.length C (peF L ks)) ∧ Below w.heap.size w w' := by
  obtain ⟨Ns, hNs⟩ : ∃ N, N = nsOf C M := ⟨_, rfl⟩
  rw [← hNs] at hrL ⊢
  have hK4 : ks.length ≤ 4096 := hlK
  have hC4 : C ≤ 4096 := by omega
  have hrM := h.2.1
  have HKL := Lib.hid hkL
  have HRL := Lib.hid hrL; have HRK := Lib.hid hrK
  obtain ⟨K, hK⟩ : ∃ K, K = ks.length := ⟨_, rfl⟩
  obtain ⟨R, hRe⟩ : ∃ R, R = M.length := ⟨_, rfl⟩
  rw [← hRe] at hR hrM ⊢
  have HNR := Lib.hid (fun W => newr_any R ks.length W hrM hK4)
  have HNC := Lib.hid (fun W => newr_any ks.length C W hK4 hC4)
  rw [← hK] at HNR HNC hK4 ⊢
  have HK := Lib.hid hK
  clear hNs hkL hlK hrL hrK hK hRe h
  go_enter Tryz.func16, Tryz.ntmps16
  go_wp2_with fail
  refine absC3 fun W0 hX0 h60 h70 hb0 hz => ?_
  obtain ⟨g, hg⟩ : ∃ x, x = w.heap.size := ⟨_, rfl⟩
  rw [← hg] at hX0 h60 h70 ⊢
  have hgw : w.heap.size ≤ g := by omega
  clear hz hg
  refine (HNR.out W0).mono ?_
  rintro e W1 ⟨A1, c1, gs, rfl, hgs, hO1, hb1⟩
  have b1 := hb0.trans (hb1.mono hb0.size)
  replace hX0 := hX0.below hb1 hX0.lt
  replace h60 := h60.below hb1 h60.lt
  replace h70 := h70.below hb1 h70.lt
  have l0 := hb0.size
  have l1 := b1.size
  have dj1 : ∀ x ∈ gs, x < W1.heap.size := fun x hx => by
    obtain ⟨i, hi⟩ := List.mem_iff_getElem?.1 hx
    exact (hO1.2.2.2 i x hi).lt
  clear hb0 hb1
  go_upto_region 2 with fail
  refine abs1 fun W2 h82 hb2 hz => ?_
  clear hz
  obtain ⟨g8, hg8⟩ : ∃ x, x = W1.heap.size := ⟨_, rfl⟩
  have hl8 : g + 2 < g8 := by rw [hg8]; exact h70.lt
  rw [← hg8] at h82 dj1 ⊢
  have b2 := b1.trans (hb2.mono l1)
  have l2 := b2.size
  have hO2 := hO1.below hb2
  have l12 : g8 < W2.heap.size := h82.lt
  replace hX0 := hX0.below hb2 hX0.lt
  replace h60 := h60.below hb2 h60.lt
  replace h70 := h70.below hb2 h70.lt
  have x0 := hX0.cell 0
  have x1 := hX0.cell 1
  clear hg8 hb2 hO1 b1
  go_wp2_with fail
  refine (HNC.out W2).mono ?_
  rintro e W3 ⟨A2, c2, hs, rfl, hhs, hP3, hb3⟩
  have b3 := b2.trans (hb3.mono l2)
  have hO3 := hO2.below hb3
  replace h82 := h82.below hb3 h82.lt
  replace hX0 := hX0.below hb3 hX0.lt
  replace h60 := h60.below hb3 h60.lt
  replace h70 := h70.below hb3 h70.lt
  have l3 := b3.size
  clear x0 x1 hO2 b2 hb3
  go_wp2_with fail
  refine abs1 fun W4 h94 hb4 hz => ?_
  clear hz
  obtain ⟨g9, hg9⟩ : ∃ x, x = W3.heap.size := ⟨_, rfl⟩
  have hl9 : g8 < g9 := by rw [hg9]; exact h82.lt
  rw [← hg9] at h94 ⊢
  have b4 := b3.trans (hb4.mono l3)
  have hO4 := hO3.below hb4
  have hP4 := hP3.below hb4
  have h84 := h82.below hb4 h82.lt
  replace hX0 := hX0.below hb4 hX0.lt
  replace h60 := h60.below hb4 h60.lt
  replace h70 := h70.below hb4 h70.lt
  have hdj : ∀ x ∈ gs, x ∉ hs := fun x hx hy => by
    have q1 := dj1 x hx
    have q2 := hP3.2.2.1 x hy
    omega
  have hI : RolI w W4 R C K g (g + 1) g8 g9 W0.heap.size W2.heap.size (.slice A R c) (.slice A1 R c1) (.slice A2 K c2) gs hs (partT 0 0 (usF C Ns L ks)) (part 0 0 (peF L ks)) := by
    rw [partT_zero, part_zero]
    exact ⟨hO4, hP4, hdj, l0, l2, hX0, h60, h70, h84, h94, b4⟩
  have HGS := Lib.hid hgs; have HHS := Lib.hid hhs
  clear hg9 hb4 b3 b4 hO3 hP3 hO4 hP4 h82 h84 h94 hX0 h60 h70 hdj dj1 l0 l1 l2 l3 l12 hgs hhs HNR HNC
  refine wp_loopF (β := Nat) (fun r f => #[f 0, .slice Al L.length cl, .slice Ak K ck, .pointer (some ⟨g, 0, none⟩), f 4, f 5, .pointer (some ⟨g + 1, 0, none⟩), .pointer (some ⟨g + 2, 0, none⟩), .pointer (some ⟨g8, 0, none⟩), .pointer (some ⟨g9, 0, none⟩), f 10, f 11, f 12, f 13, f 14, f 15, f 16, f 17, f 18, f 19, f 20, f 21, f 22, f 23, f 24, .slice Ak K ck, .int .i64 (K : Int), .int .i64 (r : Int), f 28, f 29, f 30, f 31, f 32, f 33, f 34, f 35, f 36, f 37, f 38, f 39, f 40, f 41, f 42, f 43, f 44, f 45, f 46, f 47, f 48, f 49, f 50, f 51, f 52, f 53, f 54, f 55, f 56, f 57, f 58, f 59, f 60, f 61, f 62, f 63, f 64, f 65, f 66, f 67, f 68, f 69, f 70, f 71, f 72, f 73, f 74, f 75, f 76, f 77, f 78, f 79])
    (fun r ds W => r ≤ K ∧ ds = [] ∧ RolI w W R C K g (g + 1) g8 g9 W0.heap.size W2.heap.size (.slice A R c) (.slice A1 R c1) (.slice A2 K c2) gs hs (partT r 0 (usF C Ns L ks)) (part r 0 (peF L ks))) (fun r => K - r) 0 rfl
    ⟨Nat.zero_le _, rfl, hI⟩ ?_
  clear hI
  rintro r f ds W ⟨hrK, rfl, hI⟩
  dsimp only at hrK ⊢
  have HI := Lib.hid hI
  clear hI
  by_cases hlt : r < K
  · have hltk : r < ks.length := by rw [← HK.out]; exact hlt
    obtain ⟨k, hk⟩ : ∃ k, ks[r]? = some k := ⟨_, List.getElem?_eq_getElem hltk⟩
    have hkl := HKL.out k (List.mem_of_getElem? hk)
    obtain ⟨s, hs⟩ : ∃ s, L[k]? = some s := ⟨_, List.getElem?_eq_getElem hkl⟩
    have hgd : ks.getD r 0 = k := by rw [List.getD_eq_getElem?_getD, hk]; rfl
    have hgs' : L.getD k 0 = s := by rw [List.getD_eq_getElem?_getD, hs]; rfl
    have hu : ∀ i, usF C Ns L ks i r = (havN C Ns s).testBit i := fun i => by unfold usF; rw [hgd, hgs']
    have hp : ∀ j, peF L ks r j = s.testBit j := fun j => by unfold peF; rw [hgd, hgs']
    obtain ⟨gk, ok, rfl, hgk, ck1⟩ := (HRK.out.below HI.out.bel) (by rw [List.length_map]; omega)
    have k1 := ck1 r (i64 k) (by rw [List.getElem?_map, hk]; rfl)
    have b80 := HI.out.b8.cell 0
    have b81 := HI.out.b8.cell 1
    obtain ⟨X, hX⟩ : ∃ X, X = havN C Ns s := ⟨_, rfl⟩
    rw [← hX] at hu
    have HU := Lib.hid hu; have HP := Lib.hid hp; have HS := Lib.hid hs; have HX := Lib.hid hX
    clear hu hp hs hX hk hgd hgs' ck1
    go_wp2_with fail
    refine wp_loopF (β := Nat) (fun i f => #[f 0, .slice Al L.length cl, .slice (some ⟨gk, ok, none⟩) K ck, .pointer (some ⟨g, 0, none⟩), f 4, f 5, .pointer (some ⟨g + 1, 0, none⟩), .pointer (some ⟨g + 2, 0, none⟩), .pointer (some ⟨g8, 0, none⟩), .pointer (some ⟨g9, 0, none⟩), .int .i64 (r : Int), .int .i64 (k : Int), f 12, f 13, f 14, f 15, f 16, f 17, f 18, f 19, f 20, f 21, f 22, f 23, f 24, .slice (some ⟨gk, ok, none⟩) K ck, .int .i64 (K : Int), .int .i64 (r : Int), f 28, f 29, f 30, f 31, f 32, f 33, .int .i64 (R : Int), .int .i64 (i : Int), f 36, f 37, f 38, f 39, f 40, f 41, f 42, f 43, f 44, f 45, f 46, f 47, f 48, f 49, f 50, f 51, f 52, f 53, f 54, f 55, f 56, f 57, f 58, f 59, f 60, f 61, f 62, f 63, f 64, f 65, f 66, f 67, f 68, f 69, f 70, f 71, f 72, f 73, f 74, f 75, f 76, f 77, f 78, f 79])
      (fun i ds V => i ≤ R ∧ ds = [] ∧ RolI w V R C K g (g + 1) g8 g9 W0.heap.size W2.heap.size (.slice A R c) (.slice A1 R c1) (.slice A2 K c2) gs hs (partT r i (usF C Ns L ks)) (part r 0 (peF L ks))) (fun i => R - i) 0 rfl
      ⟨Nat.zero_le _, rfl, HI.out⟩ ?_
    clear HI k1 b80 b81
    rintro i f ds V ⟨hiR, rfl, hI⟩
    dsimp only at hiR ⊢
    have HI := Lib.hid hI
    clear hI
    by_cases hltR : i < R
    · have hig : i < gs.length := by rw [HGS.out]; exact hltR
      have b80 := HI.out.b8.cell 0
      have b81 := HI.out.b8.cell 1
      obtain ⟨gl, ol, rfl, hgl, e0, e1⟩ := row_conV (HRL.out.below HI.out.bel) HS.out
      rw [← HX.out] at e0
      have ho1 := HI.out.o1
      rw [← HGS.out] at ho1
      obtain ⟨ga, oa, eA, hga, ca, hBa, hba⟩ := ho1.at_ hig
      subst eA
      have cb := hBa.cell r
      rw [bools_get (by omega)] at cb
      have fb := hBa.frozen r
      have lb := hBa.lt
      have hS := (HI.out.put1 hig (j := r) (usF C Ns L ks i r)).on (Below.refl _ _).drew
      rw [partT_step] at hS
      rw [HU.out i] at hS
      have ex := tmod_form X i
      generalize gs[i] = gi at *
      clear ho1 hBa HI
      generalize X.testBit i = xb at *
      have HSS := Lib.hid hS
      clear hS
      go_upto_region 9 with fail
      cases xb
      · rw [if_neg (by simp)] at ex
        refine wp_spine (fun W => Below V.heap.size V W) [0, 1, 2, 3, 4, 5, 6, 7, 8, 9, 10, 11, 12, 13, 14, 15] [16] (by kernel_rfl) (by kernel_rfl) ?_
        iterate 16 (refine wpE_op (v := ?_) rfl rfl (fun W hW => ?_) ?_; rotate_left; (have y0 := onB hW b80; have y1 := onB hW b81; have y2 := onB hW ca; have y3 := onB hW e0; have y4 := onB hW e1; go_simp; first | done | with_reducible rfl); simp only [Act.put, List.setIfInBounds_toArray, List.set_cons_zero, List.set_cons_succ])
        refine wpE_nil ⟨fun h => (by cases h), wpSp_op rfl (Below.refl _ _).drew ?_⟩
        go_wp2_with fail
        refine nxt_nil ?_
        go_wp2_with fail
        exact ⟨i + 1, rfl, ⟨by omega, by first | rfl | trivial, by simpa using HSS.out⟩, by omega⟩
      · rw [if_pos rfl] at ex
        refine wp_spine (fun W => Below V.heap.size V W) [0, 1, 2, 3, 4, 5, 6, 7, 8, 9, 10, 11, 12, 13, 14, 15] [16] (by kernel_rfl) (by kernel_rfl) ?_
        iterate 16 (refine wpE_op (v := ?_) rfl rfl (fun W hW => ?_) ?_; rotate_left; (have y0 := onB hW b80; have y1 := onB hW b81; have y2 := onB hW ca; have y3 := onB hW e0; have y4 := onB hW e1; go_simp; first | done | with_reducible rfl); simp only [Act.put, List.setIfInBounds_toArray, List.set_cons_zero, List.set_cons_succ])
        refine wpE_nil ⟨fun h => (by cases h), wpSp_op rfl (Below.refl _ _).drew ?_⟩
        go_wp2_with fail
        refine nxt_nil ?_
        go_wp2_with fail
        exact ⟨i + 1, rfl, ⟨by omega, by first | rfl | trivial, by simpa using HSS.out⟩, by omega⟩
    · obtain rfl : i = R := by omega
      have hI := HI.out.col_done HGS.out
      clear HI
      go_wp2_with fail
      refine wp_loopF (β := Nat) (fun j f => #[f 0, .slice Al L.length cl, .slice (some ⟨gk, ok, none⟩) K ck, .pointer (some ⟨g, 0, none⟩), f 4, f 5, .pointer (some ⟨g + 1, 0, none⟩), .pointer (some ⟨g + 2, 0, none⟩), .pointer (some ⟨g8, 0, none⟩), .pointer (some ⟨g9, 0, none⟩), .int .i64 (r : Int), .int .i64 (k : Int), f 12, .int .i64 (j : Int), f 14, f 15, f 16, f 17, f 18, f 19, f 20, f 21, f 22, f 23, f 24, .slice (some ⟨gk, ok, none⟩) K ck, .int .i64 (K : Int), .int .i64 (r : Int), f 28, f 29, f 30, f 31, f 32, f 33, f 34, f 35, f 36, f 37, f 38, f 39, f 40, f 41, f 42, f 43, f 44, f 45, f 46, f 47, f 48, f 49, f 50, f 51, f 52, f 53, f 54, f 55, f 56, f 57, f 58, f 59, f 60, f 61, f 62, f 63, f 64, f 65, f 66, f 67, f 68, f 69, f 70, f 71, f 72, f 73, f 74, f 75, f 76, f 77, f 78, f 79])
        (fun j ds V => j ≤ C ∧ ds = [] ∧ RolI w V i C K g (g + 1) g8 g9 W0.heap.size W2.heap.size (.slice A i c) (.slice A1 i c1) (.slice A2 K c2) gs hs (partT (r + 1) 0 (usF C Ns L ks)) (part r j (peF L ks))) (fun j => C - j) 0 rfl
        ⟨Nat.zero_le _, rfl, hI⟩ ?_
      clear hI
      rintro j f ds V ⟨hjC, rfl, hI⟩
      dsimp only at hjC ⊢
      have HI := Lib.hid hI
      clear hI
      have x0 := HI.out.bX.cell 0
      have x1 := HI.out.bX.cell 1
      by_cases hltC : j < C
      · have hig : r < hs.length := by rw [HHS.out]; exact hlt
        have b90 := HI.out.b9.cell 0
        have b91 := HI.out.b9.cell 1
        obtain ⟨gl, ol, rfl, hgl, e0, e1⟩ := row_conV (HRL.out.below HI.out.bel) HS.out
        rw [← HX.out] at e0
        have ho1 := HI.out.o2
        rw [← HHS.out] at ho1
        obtain ⟨ga, oa, eA, hga, ca, hBa, hba⟩ := ho1.at_ hig
        subst eA
        have cb := hBa.cell j
        rw [bools_get hltC] at cb
        have fb := hBa.frozen j
        have lb := hBa.lt
        have hS := (HI.out.put2 hig (j := j) (peF L ks r j)).on (Below.refl _ _).drew
        rw [part_step] at hS
        rw [HP.out j] at hS
        have ex := tmod_form s j
        generalize hs[r] = gi at *
        clear ho1 hBa HI
        generalize s.testBit j = xb at *
        have HSS := Lib.hid hS
        clear hS
        go_upto_region 14 with fail
        cases xb
        · rw [if_neg (by simp)] at ex
          refine wp_spine (fun W => Below V.heap.size V W) [0, 1, 2, 3, 4, 5, 6, 7, 8, 9, 10, 11, 12, 13, 14, 15] [16] (by kernel_rfl) (by kernel_rfl) ?_
          iterate 16 (refine wpE_op (v := ?_) rfl rfl (fun W hW => ?_) ?_; rotate_left; (have y0 := onB hW b90; have y1 := onB hW b91; have y2 := onB hW ca; have y3 := onB hW e0; have y4 := onB hW e1; go_simp; first | done | with_reducible rfl); simp only [Act.put, List.setIfInBounds_toArray, List.set_cons_zero, List.set_cons_succ])
          refine wpE_nil ⟨fun h => (by cases h), wpSp_op rfl (Below.refl _ _).drew ?_⟩
          go_wp2_with fail
          refine nxt_nil ?_
          go_wp2_with fail
          exact ⟨j + 1, rfl, ⟨by omega, by first | rfl | trivial, by simpa using HSS.out⟩, by omega⟩
        · rw [if_pos rfl] at ex
          refine wp_spine (fun W => Below V.heap.size V W) [0, 1, 2, 3, 4, 5, 6, 7, 8, 9, 10, 11, 12, 13, 14, 15] [16] (by kernel_rfl) (by kernel_rfl) ?_
          iterate 16 (refine wpE_op (v := ?_) rfl rfl (fun W hW => ?_) ?_; rotate_left; (have y0 := onB hW b90; have y1 := onB hW b91; have y2 := onB hW ca; have y3 := onB hW e0; have y4 := onB hW e1; go_simp; first | done | with_reducible rfl); simp only [Act.put, List.setIfInBounds_toArray, List.set_cons_zero, List.set_cons_succ])
          refine wpE_nil ⟨fun h => (by cases h), wpSp_op rfl (Below.refl _ _).drew ?_⟩
          go_wp2_with fail
          refine nxt_nil ?_
          go_wp2_with fail
          exact ⟨j + 1, rfl, ⟨by omega, by first | rfl | trivial, by simpa using HSS.out⟩, by omega⟩
      · obtain rfl : j = C := by omega
        have hI := HI.out.row_done
        clear HI
        have HI := Lib.hid hI
        clear hI
        go_wp2_with fail
        exact ⟨r + 1, rfl, ⟨by omega, by first | rfl | trivial, HI.out⟩, by omega⟩
  · obtain rfl : r = K := by omega
    go_upto_region 16 with fail
    have hI := HI.out.on (Below.refl _ _).drew
    refine wp_mix (fun V => Blk V g8 28 #[.int .i64 (r : Int), .slice A1 R c1] ∧ Blk V g9 28 #[.int .i64 (C : Int), .slice A2 r c2]) 4 (by kernel_rfl) (by kernel_rfl) ⟨hI.b8, hI.b9⟩ ?_
    obtain ⟨V, hV⟩ : ∃ V, V = W.drew := ⟨_, rfl⟩
    rw [← hV] at hI ⊢
    clear hV HI
    (refine m_q 0 (v := ?_) (by kernel_rfl) rfl rfl (fun W hW => ?_) ?_; rotate_left; (have y0 := hW.1.cell 0; have y1 := hW.1.cell 1; go_simp; first | done | with_reducible rfl); simp only [Act.put, List.setIfInBounds_toArray, List.set_cons_zero, List.set_cons_succ])
    (refine m_q 1 (v := ?_) (by kernel_rfl) rfl rfl (fun W hW => ?_) ?_; rotate_left; (have y0 := hW.2.cell 0; have y1 := hW.2.cell 1; go_simp; first | done | with_reducible rfl); simp only [Act.put, List.setIfInBounds_toArray, List.set_cons_zero, List.set_cons_succ])
    have f60 := hI.b6.frozen 0
    have f61 := hI.b6.frozen 1
    have f70 := hI.b7.frozen 0
    have f71 := hI.b7.frozen 1
    have c60 := hI.b6.cell 0
    have c61 := hI.b6.cell 1
    have c70 := hI.b7.cell 0
    have c71 := hI.b7.cell 1
    have l6 := hI.b6.lt
    have l7 := hI.b7.lt
    have e8 := (hI.b8.far (p := ⟨g + 1, 0, none⟩) (show g8 ≠ g + 1 by omega) (.int .i64 (r : Int))).far (p := ⟨g + 1, 1, none⟩) (show g8 ≠ g + 1 by omega) (.slice A1 R c1)
    have e9 := (hI.b9.far (p := ⟨g + 1, 0, none⟩) (show g9 ≠ g + 1 by omega) (.int .i64 (r : Int))).far (p := ⟨g + 1, 1, none⟩) (show g9 ≠ g + 1 by omega) (.slice A1 R c1)
    have k8 := (e8.far (p := ⟨g + 1 + 1, 0, none⟩) (show g8 ≠ g + 1 + 1 by omega) (.int .i64 (C : Int))).far (p := ⟨g + 1 + 1, 1, none⟩) (show g8 ≠ g + 1 + 1 by omega) (.slice A2 r c2)
    have k9 := (e9.far (p := ⟨g + 1 + 1, 0, none⟩) (show g9 ≠ g + 1 + 1 by omega) (.int .i64 (C : Int))).far (p := ⟨g + 1 + 1, 1, none⟩) (show g9 ≠ g + 1 + 1 by omega) (.slice A2 r c2)
    obtain ⟨hu, hp, B6, B7, hbl⟩ := hI.res (Nat.le_succ_of_le hgw) (.int .i64 (r : Int)) (.slice A1 R c1) (.int .i64 (C : Int)) (.slice A2 r c2)
    have hu' := TRef.of_own hu HGS.out hK4 hrM
    have hp' := TRef.of_own hp HHS.out hC4 hK4
    have eu : mat R r (partT r 0 (usF C Ns L ks)) = mat R r (usF C Ns L ks) := mat_congr fun i hi j hj => by unfold partT part; rw [if_pos (by omega)]
    have ep : mat r C (part r 0 (peF L ks)) = mat r C (peF L ks) := mat_congr fun i hi j hj => by unfold part; rw [if_pos (by omega)]
    rw [eu] at hu'
    rw [ep] at hp'
    have HU := hideC hu'; have HP := hideC hp'; have H8 := Lib.hid e8; have H9 := Lib.hid e9; have K8 := Lib.hid k8; have K9 := Lib.hid k9; have HB6 := Lib.hid B6; have HB7 := Lib.hid B7; have HBL := Lib.hid hbl
    clear hu' hp' hu hp eu ep e8 e9 k8 k9 B6 B7 hbl hI
    refine m_s1 2 (by kernel_rfl) rfl ?_
    go_wp2_with fail
    refine m_keep ⟨H8.out, H9.out⟩ ?_
    refine m_s1 3 (by kernel_rfl) rfl ?_
    go_wp2_with fail
    refine m_keep ⟨K8.out, K9.out⟩ ?_
    refine m_end (by kernel_rfl) ?_
    clear c60 c61 c70 c71 f60 f61 f70 f71
    go_wp2_with fail
    have c60 := HB6.out.cell 0
    have c61 := HB6.out.cell 1
    have c70 := HB7.out.cell 0
    have c71 := HB7.out.cell 1
    refine bodyPost_ret (v := .tuple #[refV r A1 R c1, refV C A2 r c2]) (by simp [results, Tryz.results16, go_sem, c60, c61, c70, c71]) rfl ⟨A1, c1, A2, c2, rfl, HU.out, HP.out, HBL.out⟩
end Mix2
end Go.Proofs.YtlakjhhpdbgekaaGreatDoor
