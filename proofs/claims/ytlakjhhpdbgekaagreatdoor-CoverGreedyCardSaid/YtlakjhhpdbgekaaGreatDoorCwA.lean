import Derived.Test.YtlakjhhpdbgekaaGreatDoorCw7
import Derived.Test.YtlakjhhpdbgekaaGreatDoorCw9
/-
  The reference of chapter 48: the walk of Greedy.
-/
namespace Go.Proofs.YtlakjhhpdbgekaaGreatDoor
open Go.RowKit

theorem own_st2 {W : World} {base g n size : Nat} {e : TypeId} {v : Value} {xs : List Value} {cs : Array Value} (h : W.ownsRow base e size v n xs) (hB : Blk W g 28 cs) (ht : 28 ≠ e) (x y : Value) : (st2 W g x y).ownsRow base e size v n xs := by
  have h1 := ownsRow_setCell_other h (a := ⟨g, 0, none⟩) (fun q => own_ne h hB ht q.symm) x
  exact ownsRow_setCell_other h1 (a := ⟨g, 1, none⟩) (fun q => own_ne h1 (hB.set_ 0 x) ht q.symm) y
theorem but_st2 {W W' : World} {g : Nat} (h : But (some g) W W') (x y : Value) : But (some g) W (st2 W' g x y) :=
  (h.trans (But.setCell W' ⟨g, 0, none⟩ x)).trans (But.setCell _ ⟨g, 1, none⟩ y)
theorem TRef.grown {W W' : World} {C base2 size2 m c : Nat} {A : Option Addr} {M : List (List Bool)} {e2 : TypeId} {u : Value} {ys : List Value} (h : TRef W C A c M) (hg : W.grownBy W' u.ownBlock) (hu : W.ownsRow base2 e2 size2 u m ys) (h1 : 89 ≠ e2) (h2 : 4 ≠ e2) : TRef W' C A c M :=
  let ⟨hC, hR, base, gs, f, ho, a, b⟩ := h
  ⟨hC, hR, base, gs, f, ⟨own_grownT ho.1 hu h1 hg, ho.2.1, ho.2.2.1, fun i g hi => (ho.2.2.2 i g hi).grown hg (own_ne hu (ho.2.2.2 i g hi) h2)⟩, a, b⟩
theorem Bo1.grown {w W W' : World} {g base2 size2 m : Nat} {x y : Value} {e2 : TypeId} {u : Value} {ys : List Value} (h : Bo1 w W g x y) (hg : W.grownBy W' u.ownBlock) (hu : W.ownsRow base2 e2 size2 u m ys) (h1 : 28 ≠ e2) : Bo1 w W' g x y :=
  ⟨h.1.grown hg (own_ne hu h.1 h1), h.2⟩
/-- The numbers that the reference chooses. -/
def grR (C : Nat) (Ns : List Nat) : List Nat := greedyR C Ns (closL C Ns) (cellsOf Ns).length (cellsOf Ns)
theorem grR_spec {C : Nat} {Ns : List Nat} (hl : Ns.length ≤ 4096) (hin : rowsIn C Ns) (hR : Ns.length ≤ 5) (hC : C ≤ 5) : atL (closL C Ns) (grR C Ns) = greC C Ns ∧ (∀ k ∈ grR C Ns, k < (closL C Ns).length) ∧ (grR C Ns).length ≤ 25 :=
  ⟨greedy_same hl hin _ _ fun _ h => h, greedyR_lt (clos_cov hl hin) _ _ fun _ h => h, Nat.le_trans (greedyR_len _ _) (cells_25 hR hC hin (under_self Ns))⟩
namespace Mix2
set_option maxRecDepth 100000 in
set_option maxHeartbeats 16000000 in
theorem greedy48_any (C : Nat) (A : Option Addr) (c : Nat) (M : List (List Bool)) (w : World) (h : IsRef w C A M) (hC : C ≤ 5) (hR : M.length ≤ 5) :
    Calls Tryz.prog 21 #[refV C A M.length c] w fun e w' => ∃ v, e = .returned v ∧ w'.ownsRow w.heap.size 3 1 v (grR C (nsOf C M)).length ((grR C (nsOf C M)).map i64) ∧ Below w.heap.size w w' := by
  obtain ⟨i0, hi0, hz0, hz1, hz2⟩ := info_parts info_int48
  have hnl : (nsOf C M).length = M.length := nsTo_len ..
  have hl : (nsOf C M).length ≤ 4096 := by rw [hnl]; omega
  have hin := rowsIn_nsOf C M (by omega)
  have h25 := cells_25 (C := C) (by rw [hnl]; exact hR) hC hin (under_self (nsOf C M))
  have hlen := greedyR_len (C := C) (Ns := nsOf C M) (L := closL C (nsOf C M)) (cellsOf (nsOf C M)).length (cellsOf (nsOf C M))
  have hcov := clos_cov (C := C) hl hin
  have hL4 : (closL C (nsOf C M)).length ≤ 4096 := Nat.le_trans (closL_len C _) (Nat.le_trans (Nat.pow_le_pow_right (by omega) hC) (by decide))
  have HCO := Lib.hid (fun W (hb : Below w.heap.size w W) => concepts48_any C A c M W (h.below hb) (by omega) (by omega))
  have HH := Lib.hid h
  have hCle : C ≤ 4096 := by omega
  have HSM := Lib.hid (fun W B d o (hb : Below w.heap.size w W) (hB : IsRef W C B (doneM C M o)) (ho : OnesOf C M o) => (by
    have q := samer_any C C B A d c (doneM C M o) M W hB (h.below hb)
    rwa [doneM_len, done_same hCle ho] at q : Calls Tryz.prog 67 #[refV C B M.length d, refV C A M.length c] W fun e w' => e = .returned (.bool (decide (o = []))) ∧ Below W.heap.size W w'))
  unfold grR
  obtain ⟨L, hL⟩ : ∃ L, L = closL C (nsOf C M) := ⟨_, rfl⟩
  rw [← hL] at hlen hcov hL4 HCO ⊢
  obtain ⟨T, hT⟩ : ∃ T, T = (cellsOf (nsOf C M)).length := ⟨_, rfl⟩
  rw [← hT] at h25 hlen ⊢
  obtain ⟨res, hres⟩ : ∃ r, r = greedyR C (nsOf C M) L T (cellsOf (nsOf C M)) := ⟨_, rfl⟩
  rw [← hres] at hlen ⊢
  have HCV := Lib.hid hcov; have HRES := Lib.hid hres; have HTT := Lib.hid hT
  clear hlen hcov hL hT hres hin hl hnl h
  go_enter Tryz.func21, Tryz.ntmps21
  go_wp2_with fail
  refine absC1 fun W0 hX0 hb0 hz => ?_
  obtain ⟨X, hXe⟩ : ∃ g, g = w.heap.size := ⟨_, rfl⟩
  rw [← hXe] at hX0 ⊢
  clear hXe hz
  refine (HCO.out W0 hb0).mono ?_
  rintro e w1 ⟨v1, rfl, hown1, hb1⟩
  have b1 := hb0.trans (hb1.mono hb0.size)
  have hX1 := hX0.below hb1 hX0.lt
  obtain ⟨A1, c1, rfl, hlc1, -⟩ := hown1.row
  have lX1 := hX1.lt
  clear HCO hX0 hb1 hb0
  have x0 := hX1.cell 0
  have x1 := hX1.cell 1
  have HN := hideC (newr_any M.length C w1 (by omega) hCle)
  go_wp2_with fail
  refine HN.out.mono ?_
  rintro e w2 ⟨A4, c4, gs, rfl, hgs, hO4, hb2⟩
  have b2 := b1.trans (hb2.mono b1.size)
  have hown2 := hown1.below hb2
  have hX2 := hX1.below hb2 hX1.lt
  have lX2 := hX2.lt
  clear HN x0 x1 hown1 hX1
  have l12 : w.heap.size ≤ w2.heap.size := b2.size
  clear hb2
  go_wp2_with fail
  refine abs1 fun W2 h4 hb3 hz => ?_
  clear hz
  obtain ⟨g4, hg4⟩ : ∃ x, x = w2.heap.size := ⟨_, rfl⟩
  rw [← hg4] at h4 lX2 l12 ⊢
  have b3 := b2.trans (hb3.mono b2.size)
  have hown3 := hown2.below hb3
  have hX3 := hX2.below hb3 hX2.lt
  have hO5 := hO4.below hb3
  have hT4 : TRef W2 C A4 c4 (doneM C M (cellsOf (nsOf C M))) := by
    have := TRef.of_own hO5 hgs hCle (by omega)
    rwa [show mat M.length C (fun _ _ => false) = doneM C M (cellsOf (nsOf C M)) from mat_congr fun i hi j hj => (done_all i hi j hj hCle).symm] at this
  have hne : X ≠ g4 := by omega
  have HOWN := Lib.hid hown3; have HX := Lib.hid hX3; have H4 := Lib.hid h4
  have hlw : w.heap.size ≤ W2.heap.size := b3.size
  clear hg4 hO4 hO5 hb3 b2 hown2 hX2 hown3 hX3 hgs b1
  refine wp_loopF (β := List (Nat × Nat) × List Nat × Value × Option Addr × Nat × Nat) (fun x f => #[f 0, .pointer (some ⟨X, 0, none⟩), .slice none 0 0, .slice A1 L.length c1, .pointer (some ⟨g4, 0, none⟩), x.2.2.1, f 6, f 7, f 8, f 9, f 10, f 11, f 12, f 13, f 14, f 15, f 16, f 17, f 18, f 19, f 20, f 21, f 22, f 23, f 24, f 25, f 26, f 27, f 28, f 29, f 30, f 31, f 32, f 33, f 34, f 35, f 36, f 37, f 38, f 39, f 40, f 41, f 42, f 43, f 44, f 45, f 46, f 47, f 48, f 49, f 50, f 51, f 52])
    (fun x ds W => ds = [] ∧ OnesOf C M x.1 ∧ W.ownsRow W2.heap.size 3 1 x.2.2.1 x.2.1.length (x.2.1.map i64) ∧ Bo1 w W g4 (.int .i64 (C : Int)) (.slice x.2.2.2.1 M.length x.2.2.2.2.1) ∧ TRef W C x.2.2.2.1 x.2.2.2.2.1 (doneM C M x.1) ∧ res = x.2.1 ++ greedyR C (nsOf C M) L x.2.2.2.2.2 x.1 ∧ x.1.length ≤ x.2.2.2.2.2 ∧ x.2.1.length + x.2.2.2.2.2 ≤ T ∧ But (some g4) W2 W ∧ Below w.heap.size w W) (fun x => x.2.2.2.2.2)
    (cellsOf (nsOf C M), [], .slice none 0 0, A4, c4, T) rfl
    ⟨rfl, OnesOf.all C M, World.ownsRow_nil _ _ _ _, ⟨h4, l12⟩, hT4, HRES.out, Nat.le_of_eq HTT.out.symm, by simp, But.refl _ _, b3⟩ ?_
  clear h4 hT4 b3
  rintro ⟨o, ks, v5, B, d, f0⟩ f ds W ⟨rfl, ho, hown, hB, hTR, hre, hof, hkf, kW, bW⟩
  dsimp only at ho hown hB hTR hre hof hkf ⊢
  have hXW := kW.blk HX.out (fun e => hne (by injection e))
  have x0 := hXW.cell 0
  have x1 := hXW.cell 1
  have c0 := hB.1.cell 0
  have c1' := hB.1.cell 1
  have HS1 := hideC (HSM.out W B d o bW hTR.ref ho)
  have HO := Lib.hid ho; have HRE := Lib.hid hre; have HOF := Lib.hid hof; have HKF := Lib.hid hkf
  clear ho hre hof hkf
  go_wp2_with fail
  refine HS1.out.mono ?_
  rintro e W1 ⟨rfl, hb1⟩
  have kW1 := kW.below hb1
  have bW1 := bW.trans (hb1.mono bW.size)
  have hB1 := hB.below hb1
  have hTR1 := hTR.below hb1
  have hown1 := own_below hown hb1
  clear HS1 x0 x1 c0 c1' hXW kW bW hB hTR hown hb1
  by_cases ho0 : o = []
  · have hd : decide (o = []) = true := decide_eq_true ho0
    have hre : res = ks := by rw [HRE.out, ho0, greedyR_nil, List.append_nil]
    have HR := Lib.hid hre
    clear ho0 hre
    go_wp2_with fail
    go_ret
    refine ⟨v5, rfl, by rw [HR.out]; exact own_low hown1 hlw, bW1⟩
  · have hd : decide (o = []) = false := decide_eq_false ho0
    have hcv : ∀ c ∈ o, ∃ k, k < L.length ∧ inS C (nsOf C M) (L.getD k 0) c = true := fun c hc => HCV.out c (HO.out.2 c hc)
    obtain ⟨hb1, -, hb3⟩ := bestR_on hcv ho0
    have hrs : ∃ f1, f0 = f1 + 1 ∧ res = (ks ++ [bestRk C (nsOf C M) L o L.length]) ++ greedyR C (nsOf C M) L f1 (lessL C (nsOf C M) o (L.getD (bestRk C (nsOf C M) L o L.length) 0)) := by
      have h1 := HOF.out
      have h2 := List.length_pos_iff.2 ho0
      refine ⟨f0 - 1, by omega, ?_⟩
      rw [HRE.out, show f0 = (f0 - 1) + 1 by omega, greedyR, if_neg ho0]
      simp
    obtain ⟨f1, hf1, hre⟩ := hrs
    have HRE2 := Lib.hid hre; have HF1 := Lib.hid hf1; have HB3 := Lib.hid hb3
    clear ho0 hcv hre hf1 hb3 HRE
    go_wp2_with fail
    refine wp_loopF (β := Nat) (fun k f => #[f 0, .pointer (some ⟨X, 0, none⟩), .slice none 0 0, .slice A1 L.length c1, .pointer (some ⟨g4, 0, none⟩), v5, .int .i64 (bestRk C (nsOf C M) L o k : Int), f 7, f 8, f 9, f 10, f 11, f 12, f 13, f 14, f 15, f 16, f 17, f 18, f 19, .slice A1 L.length c1, .int .i64 (L.length : Int), .int .i64 (k : Int), f 23, f 24, f 25, f 26, f 27, f 28, f 29, f 30, f 31, f 32, f 33, f 34, f 35, f 36, f 37, f 38, f 39, f 40, f 41, f 42, f 43, f 44, f 45, f 46, f 47, f 48, f 49, f 50, f 51, f 52])
      (fun k ds V => k ≤ L.length ∧ ds = [] ∧ Below W1.heap.size W1 V) (fun k => L.length - k) 0 rfl ⟨Nat.zero_le _, rfl, Below.refl _ _⟩ ?_
    clear hd
    rintro k f ds Vo ⟨hk, rfl, hbV⟩
    dsimp only at hk ⊢
    have kV := kW1.below hbV
    have bV := bW1.trans (hbV.mono bW1.size)
    have hBV := hB1.below hbV
    have hTV := hTR1.below hbV
    have hXV := kV.blk HX.out (fun e => hne (by injection e))
    have hownL : OwnD Vo W0.heap.size (.slice A1 L.length c1) C (nsOf C M) L := own_butT HOWN.out H4.out (by decide) kV
    obtain ⟨A1', c1', eA, -, hrL⟩ := hownL.row
    cases eA
    by_cases hlt : k < L.length
    · have hbk : bestRk C (nsOf C M) L o k < L.length := by
        rcases (bestRk_spec (C := C) (Ns := nsOf C M) (L := L) (o := o) k).1 with h | ⟨_, h⟩ <;> omega
      obtain ⟨s, hs⟩ : ∃ s, L[k]? = some s := ⟨_, List.getElem?_eq_getElem hlt⟩
      obtain ⟨t, ht⟩ : ∃ t, L[bestRk C (nsOf C M) L o k]? = some t := ⟨_, List.getElem?_eq_getElem hbk⟩
      have hgs : L.getD k 0 = s := by rw [List.getD_eq_getElem?_getD, hs]; rfl
      have hgt : L.getD (bestRk C (nsOf C M) L o k) 0 = t := by rw [List.getD_eq_getElem?_getD, ht]; rfl
      obtain ⟨gl, ol, rfl, hgl, p0, p1⟩ := row_conV hrL hs
      obtain ⟨gl', ol', eq, -, q0, q1⟩ := row_conV hrL ht
      cases eq
      have hst : bestRk C (nsOf C M) L o (k + 1) = if o.countP (inS C (nsOf C M) t) < o.countP (inS C (nsOf C M) s) then k else bestRk C (nsOf C M) L o k := by rw [bestRk, hgs, hgt]
      have hcs := fun W (hb : Below Vo.heap.size Vo W) => covered_any C A B c d M o s W (hTV.below hb).ref HO.out (by omega) (by omega)
      have hct := fun W (hb : Below Vo.heap.size Vo W) => covered_any C A B c d M o t W (hTV.below hb).ref HO.out (by omega) (by omega)
      obtain ⟨r, hr⟩ : ∃ r, r = havN C (nsOf C M) s := ⟨_, rfl⟩
      obtain ⟨r2, hr2⟩ : ∃ r, r = havN C (nsOf C M) t := ⟨_, rfl⟩
      obtain ⟨n1, hn1⟩ : ∃ n, n = o.countP (inS C (nsOf C M) s) := ⟨_, rfl⟩
      obtain ⟨n2, hn2⟩ : ∃ n, n = o.countP (inS C (nsOf C M) t) := ⟨_, rfl⟩
      rw [← hn1, ← hr] at hcs
      rw [← hn2, ← hr2] at hct
      rw [← hn1, ← hn2] at hst
      rw [← hr] at p0
      rw [← hr2] at q0
      have HCS := Lib.hid hcs; have HCT := Lib.hid hct; have HST := Lib.hid hst
      have c40 := hBV.1.cell 0
      have c41 := hBV.1.cell 1
      have x0 := hXV.cell 0
      have x1 := hXV.cell 1
      obtain ⟨bk, hbke⟩ : ∃ x, x = bestRk C (nsOf C M) L o k := ⟨_, rfl⟩
      rw [← hbke] at hbk q0 q1 HST ⊢
      clear hs ht hgs hgt hst hcs hct hr hr2 hn1 hn2 hrL hownL hbke
      go_upto_region 9 with fail
      refine wp_mix (fun V => Below Vo.heap.size Vo V) 15 (by kernel_rfl) (by kernel_rfl) (Below.refl _ _).drew ?_
      have hr := (Below.refl Vo.heap.size Vo).drew
      obtain ⟨U, hU⟩ : ∃ U, U = Vo.drew := ⟨_, rfl⟩
      rw [← hU] at hr ⊢
      clear hU
      (refine m_q 0 (v := ?_) (by kernel_rfl) rfl rfl (fun W hW => ?_) ?_; rotate_left; (have y0 := onB hW x0; have y1 := onB hW x1; have y2 := onB hW c40; have y3 := onB hW c41; go_simp; first | done | with_reducible rfl); simp only [Act.put, List.setIfInBounds_toArray, List.set_cons_zero, List.set_cons_succ]); (refine m_q 1 (v := ?_) (by kernel_rfl) rfl rfl (fun W hW => ?_) ?_; rotate_left; (have y0 := onB hW x0; have y1 := onB hW x1; have y2 := onB hW c40; have y3 := onB hW c41; go_simp; first | done | with_reducible rfl); simp only [Act.put, List.setIfInBounds_toArray, List.set_cons_zero, List.set_cons_succ])
      (refine m_q 2 (v := ?_) (by kernel_rfl) rfl rfl (fun W hW => ?_) ?_; rotate_left; (go_simp; first | done | with_reducible rfl); simp only [Act.put, List.setIfInBounds_toArray, List.set_cons_zero, List.set_cons_succ]); (refine m_q 3 (v := ?_) (by kernel_rfl) rfl rfl (fun W hW => ?_) ?_; rotate_left; (go_simp; first | done | with_reducible rfl); simp only [Act.put, List.setIfInBounds_toArray, List.set_cons_zero, List.set_cons_succ]); (refine m_q 4 (v := ?_) (by kernel_rfl) rfl rfl (fun W hW => ?_) ?_; rotate_left; (go_simp; first | done | with_reducible rfl); simp only [Act.put, List.setIfInBounds_toArray, List.set_cons_zero, List.set_cons_succ])
      (refine m_q 5 (v := ?_) (by kernel_rfl) rfl rfl (fun W hW => ?_) ?_; rotate_left; (have y0 := onB hW p0; have y1 := onB hW p1; go_simp; first | done | with_reducible rfl); simp only [Act.put, List.setIfInBounds_toArray, List.set_cons_zero, List.set_cons_succ])
      (refine m_q 7 (v := ?_) (by kernel_rfl) rfl rfl (fun W hW => ?_) ?_; rotate_left; (have y0 := onB hW x0; have y1 := onB hW x1; have y2 := onB hW c40; have y3 := onB hW c41; go_simp; first | done | with_reducible rfl); simp only [Act.put, List.setIfInBounds_toArray, List.set_cons_zero, List.set_cons_succ]); (refine m_q 8 (v := ?_) (by kernel_rfl) rfl rfl (fun W hW => ?_) ?_; rotate_left; (have y0 := onB hW x0; have y1 := onB hW x1; have y2 := onB hW c40; have y3 := onB hW c41; go_simp; first | done | with_reducible rfl); simp only [Act.put, List.setIfInBounds_toArray, List.set_cons_zero, List.set_cons_succ])
      (refine m_q 9 (v := ?_) (by kernel_rfl) rfl rfl (fun W hW => ?_) ?_; rotate_left; (go_simp; first | done | with_reducible rfl); simp only [Act.put, List.setIfInBounds_toArray, List.set_cons_zero, List.set_cons_succ]); (refine m_q 10 (v := ?_) (by kernel_rfl) rfl rfl (fun W hW => ?_) ?_; rotate_left; (go_simp; first | done | with_reducible rfl); simp only [Act.put, List.setIfInBounds_toArray, List.set_cons_zero, List.set_cons_succ]); (refine m_q 11 (v := ?_) (by kernel_rfl) rfl rfl (fun W hW => ?_) ?_; rotate_left; (go_simp; first | done | with_reducible rfl); simp only [Act.put, List.setIfInBounds_toArray, List.set_cons_zero, List.set_cons_succ])
      (refine m_q 12 (v := ?_) (by kernel_rfl) rfl rfl (fun W hW => ?_) ?_; rotate_left; (have y0 := onB hW q0; have y1 := onB hW q1; go_simp; first | done | with_reducible rfl); simp only [Act.put, List.setIfInBounds_toArray, List.set_cons_zero, List.set_cons_succ])
      have HC1 := hideC (HCS.out U hr)
      refine m_s1 6 (by kernel_rfl) rfl ?_
      go_wp2_with fail
      refine HC1.out.mono ?_
      rintro e U1 ⟨rfl, hu1⟩
      have hr1 := hr.trans (hu1.mono hr.size)
      go_wp2_with fail
      refine m_keep hr1 ?_
      have HC2 := hideC (HCT.out U1 hr1)
      refine m_s1 13 (by kernel_rfl) rfl ?_
      go_wp2_with fail
      refine HC2.out.mono ?_
      rintro e U2 ⟨rfl, hu2⟩
      have hr2 := hr1.trans (hu2.mono hr1.size)
      go_wp2_with fail
      refine m_keep hr2 ?_
      (refine m_q 14 (v := ?_) (by kernel_rfl) rfl rfl (fun W hW => ?_) ?_; rotate_left; (go_simp; first | done | with_reducible rfl); simp only [Act.put, List.setIfInBounds_toArray, List.set_cons_zero, List.set_cons_succ])
      refine m_end (by kernel_rfl) ?_
      have hbV2 := hbV.trans (hr2.mono hbV.size)
      have hst := HST.out
      clear hr hr1 hr2 HC1 HC2 HCS HCT x0 x1 c40 c41 p0 p1 q0 q1 hu1 hu2
      by_cases hlt2 : n2 < n1
      · have hd : decide ((n2 : Int) < (n1 : Int)) = true := decide_eq_true (by omega)
        have hd2 : decide (n2 < n1) = true := decide_eq_true hlt2
        rw [if_pos hlt2] at hst
        have HS2 := Lib.hid hst
        clear hst HST
        go_wp2_with fail
        exact ⟨k + 1, by rw [HS2.out]; rfl, ⟨by omega, by first | rfl | trivial, hbV2⟩, by omega⟩
      · have hd : decide ((n2 : Int) < (n1 : Int)) = false := decide_eq_false (by omega)
        have hd2 : decide (n2 < n1) = false := decide_eq_false hlt2
        rw [if_neg hlt2] at hst
        have HS2 := Lib.hid hst
        clear hst HST
        go_wp2_with fail
        exact ⟨k + 1, by rw [HS2.out]; rfl, ⟨by omega, by first | rfl | trivial, hbV2⟩, by omega⟩
    · obtain rfl : k = L.length := by omega
      obtain ⟨bk, hbke⟩ : ∃ x, x = bestRk C (nsOf C M) L o L.length := ⟨_, rfl⟩
      have hre := HRE2.out
      have hb3 := HB3.out
      rw [← hbke] at hre hb3 hb1 ⊢
      obtain ⟨s, hs⟩ : ∃ s, L[bk]? = some s := ⟨_, List.getElem?_eq_getElem hb1⟩
      have hgd : L.getD bk 0 = s := by rw [List.getD_eq_getElem?_getD, hs]; rfl
      rw [hgd] at hre hb3
      have hownV := own_below hown1 hbV
      have hkl : ks.length ≤ 25 := by have := HKF.out; omega
      have hsz : W2.heap.size ≤ Vo.heap.size := kV.1
      have hlocs := own_below hownV ((Below.refl Vo.heap.size Vo).alloc (Nat.le_refl _) (.cells #[.int .i64 (bk : Int)] 3))
      have hba : Below Vo.heap.size Vo (Vo.alloc (.cells #[.int .i64 (bk : Int)] 3)) := (Below.refl _ _).alloc (Nat.le_refl _) _
      have HREN := Lib.hid hre; have HB3N := Lib.hid hb3; have HSS := Lib.hid hs
      clear hre hb3 hgd hs hbke hrL hownL hXV HRE2 HB3
      go_upto_region 13 with (at_builtin; refine wpList_append_own _ rfl _ _ 40 rfl (W2.heap.size) 3 i0 (.int .i64 0) 1 8 Tryz.underlying40 hi0 hz0 hz1 hz2 rfl (by decide) _ _ _ rfl (hlocs) ⟨Vo.heap.size, 0, none⟩ 1 1 [.int .i64 (bk : Int)] rfl rfl (cell_one_new _ _ _) (by simp [Value.oneCell']) (by unfold maxLen; omega) (by omega) (by simp; omega) ?_; intro v' w3 hown' hgrow _)
      have hown3 : w3.ownsRow W2.heap.size 3 1 v' (ks ++ [bk]).length ((ks ++ [bk]).map i64) := by
        rw [List.length_append, List.map_append]; exact hown'
      have k3 := (kV.below hba).grownO hlocs hgrow
      have b3 := (bV.alloc bV.size (.cells #[.int .i64 (bk : Int)] 3)).grown hgrow (Nat.le_trans bV.size hba.size) (fun q hq => Nat.le_trans hlw (hlocs.lt q hq).1)
      have hB3 := (hBV.below hba).grown hgrow hlocs (by decide)
      have hT3 := (hTV.below hba).grown hgrow hlocs (by decide) (by decide)
      clear hown' hgrow hlocs hba hBV hTV kV bV hownV hbV kW1 bW1 hB1 hTR1 hown1
      have hownL : OwnD w3 W0.heap.size (.slice A1 L.length c1) C (nsOf C M) L := own_butT HOWN.out H4.out (by decide) k3
      obtain ⟨A1'', c1'', eA, -, hrL⟩ := hownL.row
      cases eA
      obtain ⟨gl, ol, rfl, hgl, p0, p1⟩ := row_conV hrL HSS.out
      have had := fun W (hb : Below w3.heap.size w3 W) => addr_done C B d M o s W (hT3.below hb).ref (by omega) (by omega)
      obtain ⟨r, hr⟩ : ∃ r, r = havN C (nsOf C M) s := ⟨_, rfl⟩
      rw [← hr] at had p0
      have HAD := Lib.hid had
      have c40 := hB3.1.cell 0
      have c41 := hB3.1.cell 1
      clear had hr hrL hownL
      go_upto_region 13 with fail
      refine wp_mix (fun V => Below w3.heap.size w3 V) 7 (by kernel_rfl) (by kernel_rfl) (Below.refl _ _).drew ?_
      have hr := (Below.refl w3.heap.size w3).drew
      obtain ⟨U, hU⟩ : ∃ U, U = w3.drew := ⟨_, rfl⟩
      rw [← hU] at hr ⊢
      clear hU
      (refine m_q 0 (v := ?_) (by kernel_rfl) rfl rfl (fun W hW => ?_) ?_; rotate_left; (have y2 := onB hW c40; have y3 := onB hW c41; go_simp; first | done | with_reducible rfl); simp only [Act.put, List.setIfInBounds_toArray, List.set_cons_zero, List.set_cons_succ])
      (refine m_q 1 (v := ?_) (by kernel_rfl) rfl rfl (fun W hW => ?_) ?_; rotate_left; (go_simp; first | done | with_reducible rfl); simp only [Act.put, List.setIfInBounds_toArray, List.set_cons_zero, List.set_cons_succ]); (refine m_q 2 (v := ?_) (by kernel_rfl) rfl rfl (fun W hW => ?_) ?_; rotate_left; (go_simp; first | done | with_reducible rfl); simp only [Act.put, List.setIfInBounds_toArray, List.set_cons_zero, List.set_cons_succ]); (refine m_q 3 (v := ?_) (by kernel_rfl) rfl rfl (fun W hW => ?_) ?_; rotate_left; (go_simp; first | done | with_reducible rfl); simp only [Act.put, List.setIfInBounds_toArray, List.set_cons_zero, List.set_cons_succ])
      (refine m_q 4 (v := ?_) (by kernel_rfl) rfl rfl (fun W hW => ?_) ?_; rotate_left; (have y0 := onB hW p0; have y1 := onB hW p1; go_simp; first | done | with_reducible rfl); simp only [Act.put, List.setIfInBounds_toArray, List.set_cons_zero, List.set_cons_succ])
      have HA1 := hideC (HAD.out U hr)
      refine m_s1 5 (by kernel_rfl) rfl ?_
      go_wp2_with fail
      refine HA1.out.mono ?_
      rintro e U1 ⟨A', d', rfl, hT', hu1⟩
      have hr1 := hr.trans (hu1.mono hr.size)
      go_wp2_with fail
      refine m_keep hr1 ?_
      have hB5 := hB3.below hr1
      have hown5 := own_below hown3 hr1
      have k5 := k3.below hr1
      have b5 := b3.trans (hr1.mono b3.size)
      have hBn := hB5.put (.int .i64 (C : Int)) (.slice A' M.length d')
      have hTn := hB5.tref hT' (.int .i64 (C : Int)) (.slice A' M.length d')
      have hon := own_st2 hown5 hB5.1 (by decide) (.int .i64 (C : Int)) (.slice A' M.length d')
      have kn := but_st2 k5 (.int .i64 (C : Int)) (.slice A' M.length d')
      have bn := hB5.base b5 (.int .i64 (C : Int)) (.slice A' M.length d')
      have e0 := hB5.1.cell 0
      have e1 := hB5.1.cell 1
      have f0' := hB5.1.frozen 0
      have f1' := hB5.1.frozen 1
      have l4 := hB5.lt
      have HBN := Lib.hid hBn; have HTN := Lib.hid hTn; have HON := Lib.hid hon; have HKN := Lib.hid kn; have HBEL := Lib.hid bn
      clear hr hr1 HA1 HAD hB5 hown5 k5 b5 hBn hTn hon kn bn hT' hu1 hB3 hown3 k3 b3 hT3 c40 c41 p0 p1
      refine m_s1 6 (by kernel_rfl) rfl ?_
      go_wp2_with fail
      refine m_clear (by kernel_rfl) ?_
      refine m_end (by kernel_rfl) ?_
      go_wp2_with fail
      exact ⟨(lessL C (nsOf C M) o s, ks ++ [bk], v', A', d', f1), rfl, ⟨by first | rfl | trivial, HO.out.less s, HON.out, HBN.out, HTN.out, HREN.out, by have := HB3N.out; have := HOF.out; have := HF1.out; show (lessL C (nsOf C M) o s).length ≤ f1; omega, by have := HKF.out; have := HF1.out; simp only [List.length_append, List.length_cons, List.length_nil]; omega, HKN.out, HBEL.out⟩, by have := HF1.out; show f1 < f0; omega⟩
end Mix2
end Go.Proofs.YtlakjhhpdbgekaaGreatDoor
