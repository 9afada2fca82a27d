/-
  The reference of chapter 47: covers, Least.
-/
import Derived.Test.YtlehoomnddcblaaDoorRrA
import Derived.Test.YtlehoomnddcblaaDoorRnA
namespace Go.Proofs.YtlehoomnddcblaaDoor
open Go.RowKit

theorem cells_has {C : Nat} {M : List (List Bool)} (hC : C ≤ 4096) {c : Nat × Nat} (h : c ∈ cellsOf (nsOf C M)) : c.1 < M.length ∧ c.2 < C ∧ hasR C M c.1 c.2 = true := by
  obtain ⟨h1, h2⟩ := mem_cellsOf.1 h
  rw [nsTo_len] at h1
  rw [nsOf_get h1, testBit_rowN _ _ _ _ hC, hasR_nat] at h2
  simp only [Bool.and_eq_true, decide_eq_true_eq] at h2
  exact ⟨h1, h2.1.2, by rw [hasR_nat]; simp [h1, h2.1.2, h2.2]⟩
/-- As many concepts as columns cover all ones. -/
theorem cov_cols {C : Nat} {Ns : List Nat} (hl : Ns.length ≤ 4096) (hin : rowsIn C Ns) (o : List (Nat × Nat)) (ho : ∀ c ∈ o, c ∈ cellsOf Ns) : Cov C Ns C o := by
  refine ⟨(List.range C).map fun j => cloN C Ns (2 ^ j), by simp, fun s hs => ?_, fun c hc => ?_⟩
  · obtain ⟨j, _, rfl⟩ := List.mem_map.1 hs
    exact clo_clo hl _
  · obtain ⟨h1, h2⟩ := mem_cellsOf.1 (ho c hc)
    have hjC : c.2 < C := by
      have := hin c.1 h1
      rw [← this, Nat.testBit_and, testBit_lowN, Bool.and_eq_true, decide_eq_true_eq] at h2
      exact h2.2
    refine ⟨_, List.mem_map.2 ⟨c.2, List.mem_range.2 hjC, rfl⟩, ?_⟩
    unfold inS
    rw [Bool.and_eq_true, hav_clo hl, testBit_havN C Ns hl]
    refine ⟨clo_sup hl hjC (by simp), h1, fun y hy _ => ?_⟩
    rw [Nat.testBit_two_pow, decide_eq_true_eq] at hy
    rw [← hy]; exact h2
theorem con_len {C : Nat} (Ns : List Nat) (i j : Nat) : (conL C Ns i j).length ≤ 2 ^ C := by
  have hnd : (conL C Ns i j).Nodup := (conL_lec C Ns i j).imp fun {x y} h e => by subst e; rw [lecR_irrefl] at h; cases h
  refine Nat.le_trans (List.Nodup.length_le_of_subset (l₂ := List.range (2 ^ C)) hnd fun s hs => ?_) (by simp)
  rw [mem_conL, inC, Bool.and_eq_true, Bool.and_eq_true, decide_eq_true_eq] at hs
  rw [List.mem_range, ← hs.1.1]
  exact clo_lt C Ns s
theorem con_lt64 {C : Nat} {Ns : List Nat} {i j s : Nat} (hC : C ≤ 60) (h : s ∈ conL C Ns i j) : s < 2 ^ 64 := by
  rw [mem_conL, inC, Bool.and_eq_true, Bool.and_eq_true, decide_eq_true_eq] at h
  rw [← h.1.1]
  exact Nat.lt_of_lt_of_le (clo_lt C _ s) (Nat.pow_le_pow_right (by omega) (by omega))
theorem cells_len {C : Nat} {Ns : List Nat} (hin : rowsIn C Ns) (hC : C ≤ 12) (hR : Ns.length ≤ 60) : (cellsOf Ns).length ≤ 1000 := by
  have key : ∀ l : List Nat, (∀ i ∈ l, i < Ns.length) → (l.flatMap fun i => (mems (Ns.getD i 0)).map fun j => (i, j)).length ≤ l.length * C := by
    intro l
    induction l with
    | nil => intro _; simp
    | cons i l ih =>
      intro hl
      have h1 := ih fun k hk => hl k (by simp [hk])
      have h2 : (mems (Ns.getD i 0)).length ≤ C := by
        rw [mems_under (n := C) fun j hj => ?_]
        · exact Nat.le_trans (List.length_filter_le _ _) (by simp)
        · have := hin i (hl i (by simp))
          rw [← this, Nat.testBit_and, testBit_lowN, Bool.and_eq_true, decide_eq_true_eq] at hj
          exact hj.2
      rw [List.flatMap_cons, List.length_append, List.length_map, List.length_cons, Nat.add_mul, Nat.one_mul]
      omega
  have := key (List.range Ns.length) fun i hi => List.mem_range.1 hi
  rw [List.length_range] at this
  exact Nat.le_trans this (Nat.le_trans (Nat.mul_le_mul hR hC) (by decide))
namespace Mix2
set_option maxRecDepth 100000 in
set_option maxHeartbeats 8000000 in
theorem covers_any (C : Nat) (A : Option Addr) (c : Nat) (M : List (List Bool)) (hC : C ≤ 12) (hR : M.length ≤ 60) : ∀ (b : Nat) (v : Value) (o : List (Nat × Nat)) (w : World), b ≤ 1000 → IsRef w C A M → IsPairs w v (cz o) → (∀ d ∈ o, d ∈ cellsOf (nsOf C M)) →
    Calls Tryd.prog 96 #[refV C A M.length c, v, .int .i64 b] w fun e w' => e = .returned (.bool (covF C (nsOf C M) b o)) ∧ Below w.heap.size w w' := by
  intro b
  induction b with
  | zero =>
    intro v o w hb1 h hp ho
    obtain ⟨B, d, rfl, hrow, hlc, hlm⟩ := hp
    match o, ho, hrow, hlc, hlm with
    | [], _, _, _, _ =>
      go_enter Tryd.func96, Tryd.ntmps96
      go_wp2_with fail
      go_ret
      exact ⟨by simp [covF], (Below.refl _ _).alloc (Nat.le_refl _) _⟩
    | x :: o, _, _, hlc, _ =>
      have hl0 : (cz (x :: o)).length = o.length + 1 := by simp [cz]
      rw [hl0]
      clear hl0 hlc
      go_enter Tryd.func96, Tryd.ntmps96
      go_wp2_with fail
      go_ret
      exact ⟨by simp [covF], (Below.refl _ _).alloc (Nat.le_refl _) _⟩
  | succ b ih =>
    intro v o w hb1 hI hp ho
    obtain ⟨B, d, rfl, hrow, hlc, hlm⟩ := hp
    match o, ho, hrow, hlc, hlm with
    | [], _, _, _, _ =>
      go_enter Tryd.func96, Tryd.ntmps96
      go_wp2_with fail
      go_ret
      exact ⟨by simp [covF], (Below.refl _ _).alloc (Nat.le_refl _) _⟩
    | x :: o', ho, hrow, hlc, hlm =>
      obtain ⟨o, hoe⟩ : ∃ o, o = x :: o' := ⟨_, rfl⟩
      obtain ⟨hx1, hx2, hx3⟩ := cells_has (by omega) (ho x (by simp))
      have hcr : conR C M x.1 x.2 = conL C (nsOf C M) x.1 x.2 := by unfold conR; rw [if_pos hx3, Int.toNat_natCast, Int.toNat_natCast]
      have hcv : covF C (nsOf C M) (b + 1) o = (conL C (nsOf C M) x.1 x.2).any fun s => covF C (nsOf C M) b (lessL C (nsOf C M) o s) := by rw [hoe, covF]
      have hl0 : (cz (x :: o')).length = o.length := by rw [cz_len, hoe]
      have hpos : 0 < o.length := by rw [hoe]; simp
      have hget : o[0]? = some x := by rw [hoe]; rfl
      rw [hl0]
      rw [hl0] at hlc hlm
      rw [← hoe] at hrow ho ⊢
      obtain ⟨g1, o1, rfl, hg1, c0, c1⟩ := row_pairs hrow (cz_get hget)
      rw [Nat.zero_mul, Nat.add_zero] at c0 c1
      have hP : IsPairs w (.slice (some ⟨g1, o1, none⟩) o.length d) (cz o) := ⟨_, d, by rw [cz_len], hrow, by rw [cz_len]; exact hlc, by rw [cz_len]; exact hlm⟩
      have hcc := fun W (hb : Below w.heap.size w W) => concr_any C A c M x.1 x.2 W (hI.below hb) hC hR
      rw [hcr] at hcc
      have hlen := con_len (C := C) (nsOf C M) x.1 x.2
      have h2C : 2 ^ C ≤ 4096 := Nat.le_trans (Nat.pow_le_pow_right (by omega) hC) (by decide)
      have h64 : ∀ s ∈ conL C (nsOf C M) x.1 x.2, s < 2 ^ 64 := fun s hs => con_lt64 (by omega) hs
      obtain ⟨L, hL⟩ : ∃ L, L = conL C (nsOf C M) x.1 x.2 := ⟨_, rfl⟩
      rw [← hL] at hcc hcv hlen h64
      have hwo := fun W u s (hb : Below w.heap.size w W) (hu : IsPairs W u (cz o)) => without_ref C A c M u o s W (hI.below hb) hC hR hu fun d hd => ⟨(cells_has (by omega) (ho d hd)).1, (cells_has (by omega) (ho d hd)).2.1⟩
      have hih := fun W u s (hb : Below w.heap.size w W) (hu : IsPairs W u (cz (lessL C (nsOf C M) o s))) => ih u (lessL C (nsOf C M) o s) W (by omega) (hI.below hb) hu fun d hd => ho d (mem_lessL.1 hd).1
      have hll := fun s => Nat.le_trans (lessL_len C (nsOf C M) o s) hlm
      obtain ⟨F, hF⟩ : ∃ F : Nat → Bool, F = fun s => covF C (nsOf C M) b (lessL C (nsOf C M) o s) := ⟨_, rfl⟩
      have hFs : ∀ s, covF C (nsOf C M) b (lessL C (nsOf C M) o s) = F s := fun s => by rw [hF]
      have hcv2 : covF C (nsOf C M) (b + 1) o = L.any F := by rw [hcv, hF]
      rw [hcv2]
      simp only [hFs] at hih
      obtain ⟨G, hG⟩ : ∃ G : Nat → List (Nat × Nat), G = fun s => lessL C (nsOf C M) o s := ⟨_, rfl⟩
      have hGs : ∀ s, lessL C (nsOf C M) o s = G s := fun s => by rw [hG]
      simp only [hGs] at hih hwo hll
      have HCC := Lib.hid hcc; have HWO := Lib.hid hwo; have HIH := Lib.hid hih; have HLL := Lib.hid hll
      clear hcc hwo hih hll hcv hcv2 hF hFs hG hGs hoe hget hcr hL hrow ih hl0
      go_enter Tryd.func96, Tryd.ntmps96
      have hln : ¬ (o.length : Int) = 0 := by omega
      have hlnb : ((o.length : Int) == 0) = false := by rw [beq_eq_false_iff_ne]; omega
      have hbn : ¬ (((b + 1 : Nat) : Int)) = 0 := by omega
      have hbnb : (((b + 1 : Nat) : Int) == 0) = false := by rw [beq_eq_false_iff_ne]; omega
      have hbw := Below.refl w.heap.size w
      go_wp2_with fail
      refine abs1 fun w1 hX hb hz => ?_
      clear hz
      replace hbw := hbw.trans (hb.mono hbw.size); replace hP := hP.below hb; replace c0 := onB hb c0; replace c1 := onB hb c1
      clear hb
      have d0 := c0; have d1 := c1
      go_wp2_with fail
      refine wp_mix (fun V => Below w1.heap.size w1 V) 12 (by kernel_rfl) (by kernel_rfl) (Below.refl _ _).drew ?_
      have hr : Below w1.heap.size w1 w1.drew := (Below.refl _ _).drew
      obtain ⟨u1, hw⟩ : ∃ V, V = w1.drew := ⟨_, rfl⟩
      rw [← hw] at hr ⊢; clear hw
      have hb := hr
      have x0 := hX.cell 0
      have x1 := hX.cell 1
      replace hbw := hbw.trans (hb.mono hbw.size); replace hP := hP.below hb; replace c0 := onB hb c0; replace c1 := onB hb c1; replace hX := hX.below hb hX.lt
      clear hb
      (refine m_q 0 (v := ?_) (by kernel_rfl) rfl rfl (fun W hW => ?_) ?_; rotate_left; (have zx0 := onB hW x0; have zx1 := onB hW x1; have z0 := onB hW d0; have z1 := onB hW d1; go_simp; first | done | with_reducible rfl); simp only [Act.put, List.setIfInBounds_toArray, List.set_cons_zero, List.set_cons_succ]); (refine m_q 1 (v := ?_) (by kernel_rfl) rfl rfl (fun W hW => ?_) ?_; rotate_left; (have zx0 := onB hW x0; have zx1 := onB hW x1; have z0 := onB hW d0; have z1 := onB hW d1; go_simp; first | done | with_reducible rfl); simp only [Act.put, List.setIfInBounds_toArray, List.set_cons_zero, List.set_cons_succ]); (refine m_q 2 (v := ?_) (by kernel_rfl) rfl rfl (fun W hW => ?_) ?_; rotate_left; (have zx0 := onB hW x0; have zx1 := onB hW x1; have z0 := onB hW d0; have z1 := onB hW d1; go_simp; first | done | with_reducible rfl); simp only [Act.put, List.setIfInBounds_toArray, List.set_cons_zero, List.set_cons_succ]); (refine m_q 3 (v := ?_) (by kernel_rfl) rfl rfl (fun W hW => ?_) ?_; rotate_left; (have zx0 := onB hW x0; have zx1 := onB hW x1; have z0 := onB hW d0; have z1 := onB hW d1; go_simp; first | done | with_reducible rfl); simp only [Act.put, List.setIfInBounds_toArray, List.set_cons_zero, List.set_cons_succ]); (refine m_q 4 (v := ?_) (by kernel_rfl) rfl rfl (fun W hW => ?_) ?_; rotate_left; (have zx0 := onB hW x0; have zx1 := onB hW x1; have z0 := onB hW d0; have z1 := onB hW d1; go_simp; first | done | with_reducible rfl); simp only [Act.put, List.setIfInBounds_toArray, List.set_cons_zero, List.set_cons_succ]); (refine m_q 5 (v := ?_) (by kernel_rfl) rfl rfl (fun W hW => ?_) ?_; rotate_left; (have zx0 := onB hW x0; have zx1 := onB hW x1; have z0 := onB hW d0; have z1 := onB hW d1; go_simp; first | done | with_reducible rfl); simp only [Act.put, List.setIfInBounds_toArray, List.set_cons_zero, List.set_cons_succ]); (refine m_q 6 (v := ?_) (by kernel_rfl) rfl rfl (fun W hW => ?_) ?_; rotate_left; (have zx0 := onB hW x0; have zx1 := onB hW x1; have z0 := onB hW d0; have z1 := onB hW d1; go_simp; first | done | with_reducible rfl); simp only [Act.put, List.setIfInBounds_toArray, List.set_cons_zero, List.set_cons_succ]); (refine m_q 7 (v := ?_) (by kernel_rfl) rfl rfl (fun W hW => ?_) ?_; rotate_left; (have zx0 := onB hW x0; have zx1 := onB hW x1; have z0 := onB hW d0; have z1 := onB hW d1; go_simp; first | done | with_reducible rfl); simp only [Act.put, List.setIfInBounds_toArray, List.set_cons_zero, List.set_cons_succ]); (refine m_q 8 (v := ?_) (by kernel_rfl) rfl rfl (fun W hW => ?_) ?_; rotate_left; (have zx0 := onB hW x0; have zx1 := onB hW x1; have z0 := onB hW d0; have z1 := onB hW d1; go_simp; first | done | with_reducible rfl); simp only [Act.put, List.setIfInBounds_toArray, List.set_cons_zero, List.set_cons_succ])
      (refine m_q 11 (v := ?_) (by kernel_rfl) rfl rfl (fun W hW => ?_) ?_; rotate_left; (go_simp; first | done | with_reducible rfl); simp only [Act.put, List.setIfInBounds_toArray, List.set_cons_zero, List.set_cons_succ])
      refine m_s1 9 (by kernel_rfl) rfl ?_
      go_wp2_with fail
      refine (HCC.out _ hbw).mono ?_
      rintro e u2 ⟨vL, rfl, hoL, hb⟩
      replace hbw := hbw.trans (hb.mono hbw.size); replace hP := hP.below hb; replace c0 := onB hb c0; replace c1 := onB hb c1; replace hX := hX.below hb hX.lt; replace hr := hr.trans (hb.mono hr.size)
      clear hb
      go_wp2_with fail
      refine m_keep hr ?_
      obtain ⟨AL, cL, rfl, hLc, -, hLr, -⟩ := row_of_own hoL
      clear hoL
      (refine m_q 10 (v := ?_) (by kernel_rfl) rfl rfl (fun W hW => ?_) ?_; rotate_left; (go_simp; first | done | with_reducible rfl); simp only [Act.put, List.setIfInBounds_toArray, List.set_cons_zero, List.set_cons_succ])
      refine m_end (by kernel_rfl) ?_
      clear x0 x1
      clear c0 c1 d0 d1 hln hlnb hbn hbnb
      go_wp2_with fail
      refine wp_loopF (β := Nat) (fun k f => #[f 0, .slice (some ⟨g1, o1, none⟩) o.length d, .int .i64 ((b + 1 : Nat) : Int), .pointer (some ⟨w.heap.size, 0, none⟩), f 4, f 5, .bool false, f 7, f 8, f 9, f 10, f 11, f 12, f 13, f 14, f 15, f 16, f 17, f 18, f 19, f 20, f 21, f 22, .slice AL L.length cL, .int .i64 (L.length : Int), .int .i64 (k : Int), f 26, f 27, f 28, f 29, f 30, f 31, f 32, f 33, f 34, f 35, f 36, f 37])
        (fun k ds V => k ≤ L.length ∧ ds = [] ∧ Below u2.heap.size u2 V ∧ (L.take k).any F = false) (fun k => L.length - k) 0 rfl ⟨Nat.zero_le _, rfl, Below.refl _ _, by simp⟩ ?_
      rintro k f ds v9 ⟨hk, rfl, hv, hno⟩
      dsimp only at hk ⊢
      have HN := Lib.hid hno
      clear hno
      have hb := hv
      replace hbw := hbw.trans (hb.mono hbw.size); replace hP := hP.below hb; replace hX := hX.below hb hX.lt; replace hLr := hLr.below hb
      clear hb
      by_cases hlt : k < L.length
      · obtain ⟨s, hsx⟩ : ∃ s, L[k]? = some s := ⟨_, List.getElem?_eq_getElem hlt⟩
        obtain ⟨g2, o2, rfl, hg2, hc2⟩ := hLr (by rw [List.length_map]; omega)
        have d2 := hc2 k (.int .u64 (s : Int)) (by rw [List.getElem?_map, hsx]; rfl)
        have htk : L.take (k + 1) = L.take k ++ [s] := by rw [List.take_add_one, hsx]; rfl
        have HTK := Lib.hid htk; have HMS := Lib.hid (List.mem_of_getElem? hsx)
        have hb1m : wrap64 (((b + 1 : Nat) : Int) - 1) = (b : Int) := by rw [IntWalk.wrap64_in _ ⟨by omega, by omega⟩]; omega
        have hb1i : IntKind.i64.wrap (((b + 1 : Nat) : Int) - 1) = (b : Int) := by rw [i64w ⟨by omega, by omega⟩]; omega
        clear hc2 hsx htk
        go_wp2_with fail
        refine wp_mix (fun V => Below v9.heap.size v9 V) 8 (by kernel_rfl) (by kernel_rfl) (Below.refl _ _).drew ?_
        have hr : Below v9.heap.size v9 v9.drew := (Below.refl _ _).drew
        obtain ⟨u3, hw⟩ : ∃ V, V = v9.drew := ⟨_, rfl⟩
        rw [← hw] at hr ⊢; clear hw
        have hb := hr
        have x0 := hX.cell 0
        have x1 := hX.cell 1
        replace hbw := hbw.trans (hb.mono hbw.size); replace hP := hP.below hb; replace hX := hX.below hb hX.lt; replace hLr := hLr.below hb; replace hv := hv.trans (hb.mono hv.size)
        clear hb
        (refine m_q 0 (v := ?_) (by kernel_rfl) rfl rfl (fun W hW => ?_) ?_; rotate_left; (have zx0 := onB hW x0; have zx1 := onB hW x1; go_simp; first | done | with_reducible rfl); simp only [Act.put, List.setIfInBounds_toArray, List.set_cons_zero, List.set_cons_succ]); (refine m_q 1 (v := ?_) (by kernel_rfl) rfl rfl (fun W hW => ?_) ?_; rotate_left; (have zx0 := onB hW x0; have zx1 := onB hW x1; go_simp; first | done | with_reducible rfl); simp only [Act.put, List.setIfInBounds_toArray, List.set_cons_zero, List.set_cons_succ]); (refine m_q 2 (v := ?_) (by kernel_rfl) rfl rfl (fun W hW => ?_) ?_; rotate_left; (have zx0 := onB hW x0; have zx1 := onB hW x1; go_simp; first | done | with_reducible rfl); simp only [Act.put, List.setIfInBounds_toArray, List.set_cons_zero, List.set_cons_succ]); (refine m_q 3 (v := ?_) (by kernel_rfl) rfl rfl (fun W hW => ?_) ?_; rotate_left; (have zx0 := onB hW x0; have zx1 := onB hW x1; go_simp; first | done | with_reducible rfl); simp only [Act.put, List.setIfInBounds_toArray, List.set_cons_zero, List.set_cons_succ])
        clear d2
        (refine m_q 5 (v := ?_) (by kernel_rfl) rfl rfl (fun W hW => ?_) ?_; rotate_left; (go_simp; first | done | with_reducible rfl); simp only [Act.put, List.setIfInBounds_toArray, List.set_cons_zero, List.set_cons_succ]); (refine m_q 6 (v := ?_) (by kernel_rfl) rfl rfl (fun W hW => ?_) ?_; rotate_left; (go_simp; first | done | with_reducible rfl); simp only [Act.put, List.setIfInBounds_toArray, List.set_cons_zero, List.set_cons_succ])
        refine m_s1 4 (by kernel_rfl) rfl ?_
        go_wp2_with fail
        refine (HWO.out _ _ s hbw hP).mono ?_
        rintro e u4 ⟨u5, rfl, hu5, hb⟩
        replace hbw := hbw.trans (hb.mono hbw.size); replace hP := hP.below hb; replace hX := hX.below hb hX.lt; replace hLr := hLr.below hb; replace hv := hv.trans (hb.mono hv.size); replace hr := hr.trans (hb.mono hr.size)
        clear hb
        go_wp2_with fail
        refine m_keep hr ?_
        have hp5 := hu5.pairs (by rw [cz_len]; exact HLL.out s)
        clear hu5
        refine m_s1 7 (by kernel_rfl) rfl ?_
        go_wp2_with fail
        refine (HIH.out _ _ s hbw hp5).mono ?_
        rintro e u5 ⟨rfl, hb⟩
        replace hbw := hbw.trans (hb.mono hbw.size); replace hP := hP.below hb; replace hX := hX.below hb hX.lt; replace hLr := hLr.below hb; replace hv := hv.trans (hb.mono hv.size); replace hr := hr.trans (hb.mono hr.size); replace hp5 := hp5.below hb
        clear hb
        go_wp2_with fail
        refine m_keep hr ?_
        refine m_end (by kernel_rfl) ?_
        clear x0 x1
        obtain ⟨t, ht⟩ : ∃ t, t = F s := ⟨_, rfl⟩
        rw [← ht]
        cases t with
        | true =>
          have hy : L.any F = true := List.any_eq_true.2 ⟨s, HMS.out, ht.symm⟩
          have HY := Lib.hid hy
          clear hy ht
          go_wp2_with fail
          go_ret
          exact ⟨by rw [HY.out]; rfl, hbw⟩
        | false =>
          have hn : (L.take (k + 1)).any F = false := by rw [HTK.out, List.any_append, HN.out]; simp [← ht]
          have HN2 := Lib.hid hn
          clear hn ht
          go_wp2_with fail
          exact ⟨k + 1, rfl, ⟨by omega, by first | rfl | trivial, hv, HN2.out⟩, by omega⟩
      · obtain rfl : k = L.length := by omega
        have hn := HN.out
        rw [List.take_length] at hn
        have HY := Lib.hid hn
        clear hn
        go_wp2_with fail
        go_ret
        exact ⟨by rw [HY.out]; rfl, hbw⟩
set_option maxRecDepth 100000 in
set_option maxHeartbeats 8000000 in
/-- Least: the least number of concepts that cover all ones. -/
theorem leastr_any (C : Nat) (A : Option Addr) (c : Nat) (M : List (List Bool)) (w : World) (hC : C ≤ 12) (hR : M.length ≤ 60) (hI : IsRef w C A M) :
    Calls Tryd.prog 48 #[refV C A M.length c] w fun e w' => ∃ b : Nat, e = .returned (.int .i64 b) ∧ covF C (nsOf C M) b (cellsOf (nsOf C M)) = true ∧ (∀ b', b' < b → covF C (nsOf C M) b' (cellsOf (nsOf C M)) = false) ∧ b ≤ C ∧ Below w.heap.size w w' := by
  have hcols : covF C (nsOf C M) C (cellsOf (nsOf C M)) = true := (covF_iff _ _ _ _).2 (cov_cols (by rw [nsTo_len]; omega) (rowsIn_nsOf C M (by omega)) _ fun _ h => h)
  have hlen : (cellsOf (nsOf C M)).length ≤ 1000 := by
    exact cells_len (C := C) (rowsIn_nsOf C M (by omega)) hC (by rw [nsTo_len]; exact hR)
  have hon := fun W (hb : Below w.heap.size w W) => ones_ref C A c M W (hI.below hb) hC hR
  have hcv := fun W u (b : Nat) (h1 : b ≤ 1000) (hb : Below w.heap.size w W) (hu : IsPairs W u (cz (cellsOf (nsOf C M)))) => covers_any C A c M hC hR b u _ W h1 (hI.below hb) hu fun _ h => h
  obtain ⟨O, hO⟩ : ∃ O, O = cellsOf (nsOf C M) := ⟨_, rfl⟩
  rw [← hO] at hon hcv hcols hlen ⊢
  obtain ⟨F, hF⟩ : ∃ F : Nat → Bool, F = fun b => covF C (nsOf C M) b O := ⟨_, rfl⟩
  have hFs : ∀ b, covF C (nsOf C M) b O = F b := fun b => by rw [hF]
  simp only [hFs] at hcv hcols ⊢
  have HON := Lib.hid hon; have HCV := Lib.hid hcv; have HCO := Lib.hid hcols; have HLE := Lib.hid hlen
  clear hon hcv hcols hlen hO hF hFs
  go_enter Tryd.func48, Tryd.ntmps48
  go_wp2_with fail
  refine abs1 fun w1 hX1 hb1 hz => ?_
  clear hz
  refine wp_loopF (β := Nat) (fun b f => #[f 0, .pointer (some ⟨w.heap.size, 0, none⟩), .int .i64 0, .int .i64 (b : Int), f 4, f 5, f 6, f 7, f 8, f 9, f 10, f 11, f 12])
    (fun b ds V => b ≤ C ∧ ds = [] ∧ Below w1.heap.size w1 V ∧ ∀ b', b' < b → F b' = false) (fun b => C + 1 - b) 0 rfl ⟨Nat.zero_le _, rfl, Below.refl _ _, fun b' h => by omega⟩ ?_
  rintro b f ds v9 ⟨hbC, rfl, hv, hno⟩
  dsimp only at hbC ⊢
  have HN := Lib.hid hno
  clear hno
  have hbw := hb1.trans (hv.mono hb1.size)
  have hX := hX1.below hv hX1.lt
  go_wp2_with fail
  refine wp_mix (fun V => Below v9.heap.size v9 V) 6 (by kernel_rfl) (by kernel_rfl) (Below.refl _ _).drew ?_
  have hr : Below v9.heap.size v9 v9.drew := (Below.refl _ _).drew
  obtain ⟨u1, hw⟩ : ∃ V, V = v9.drew := ⟨_, rfl⟩
  rw [← hw] at hr ⊢; clear hw
  have hb := hr
  have x0 := hX.cell 0
  have x1 := hX.cell 1
  replace hbw := hbw.trans (hb.mono hbw.size); replace hv := hv.trans (hb.mono hv.size); replace hX := hX.below hb hX.lt
  clear hb
  (refine m_q 0 (v := ?_) (by kernel_rfl) rfl rfl (fun W hW => ?_) ?_; rotate_left; (have zx0 := onB hW x0; have zx1 := onB hW x1; go_simp; first | done | with_reducible rfl); simp only [Act.put, List.setIfInBounds_toArray, List.set_cons_zero, List.set_cons_succ]); (refine m_q 1 (v := ?_) (by kernel_rfl) rfl rfl (fun W hW => ?_) ?_; rotate_left; (have zx0 := onB hW x0; have zx1 := onB hW x1; go_simp; first | done | with_reducible rfl); simp only [Act.put, List.setIfInBounds_toArray, List.set_cons_zero, List.set_cons_succ]); (refine m_q 3 (v := ?_) (by kernel_rfl) rfl rfl (fun W hW => ?_) ?_; rotate_left; (have zx0 := onB hW x0; have zx1 := onB hW x1; go_simp; first | done | with_reducible rfl); simp only [Act.put, List.setIfInBounds_toArray, List.set_cons_zero, List.set_cons_succ])
  refine m_s1 2 (by kernel_rfl) rfl ?_
  go_wp2_with fail
  refine (HON.out _ hbw).mono ?_
  rintro e u2 ⟨u5, rfl, hu5, hb⟩
  replace hbw := hbw.trans (hb.mono hbw.size); replace hv := hv.trans (hb.mono hv.size); replace hX := hX.below hb hX.lt; replace hr := hr.trans (hb.mono hr.size)
  clear hb
  go_wp2_with fail
  refine m_keep hr ?_
  have hp5 := hu5.pairs (by rw [cz_len]; have := HLE.out; omega)
  clear hu5
  refine m_s1 4 (by kernel_rfl) rfl ?_
  go_wp2_with fail
  refine (HCV.out _ _ b (by omega) hbw hp5).mono ?_
  rintro e u3 ⟨rfl, hb⟩
  replace hbw := hbw.trans (hb.mono hbw.size); replace hv := hv.trans (hb.mono hv.size); replace hX := hX.below hb hX.lt; replace hr := hr.trans (hb.mono hr.size); replace hp5 := hp5.below hb
  clear hb
  go_wp2_with fail
  refine m_keep hr ?_
  (refine m_q 5 (v := ?_) (by kernel_rfl) rfl rfl (fun W hW => ?_) ?_; rotate_left; (go_simp; first | done | with_reducible rfl); simp only [Act.put, List.setIfInBounds_toArray, List.set_cons_zero, List.set_cons_succ])
  refine m_end (by kernel_rfl) ?_
  clear x0 x1
  obtain ⟨t, ht⟩ : ∃ t, t = F b := ⟨_, rfl⟩
  rw [← ht]
  cases t with
  | true =>
    have HT := Lib.hid ht.symm
    clear ht
    go_wp2_with fail
    go_ret
    exact ⟨b, rfl, HT.out, HN.out, hbC, hbw⟩
  | false =>
    have hlt : b < C := by
      rcases Nat.lt_or_ge b C with h | h
      · exact h
      · obtain rfl : b = C := by omega
        rw [HCO.out] at ht; cases ht
    have hn : ∀ b', b' < b + 1 → F b' = false := fun b' hb' => by
      by_cases e : b' = b
      · subst e; exact ht.symm
      · exact HN.out b' (by omega)
    have HN2 := Lib.hid hn
    clear hn ht
    go_wp2_with fail
    exact ⟨b + 1, rfl, ⟨by omega, by first | rfl | trivial, hv, HN2.out⟩, by omega⟩
end Mix2
end Go.Proofs.YtlehoomnddcblaaDoor
