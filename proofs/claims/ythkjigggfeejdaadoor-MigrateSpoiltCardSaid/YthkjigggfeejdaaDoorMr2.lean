import Derived.Test.YthkjigggfeejdaaDoorMr1
namespace Go.Proofs.YthkjigggfeejdaaDoor
open Go.RowKit

/-! Stores of two and of four cells. -/
def put4 (W : World) (g : Nat) (a b c d : Value) : World := (((W.setCell ⟨g, 0, none⟩ a).setCell ⟨g, 1, none⟩ b).setCell ⟨g, 2, none⟩ c).setCell ⟨g, 3, none⟩ d
theorem Blk.putd {W : World} {g : Nat} {t : TypeId} {a b c d : Value} (h : Blk W g t #[a, b, c, d]) (a' b' c' d' : Value) : Blk (put4 W g a' b' c' d') g t #[a', b', c', d'] := by
  have := (((h.set_ 0 a').set_ 1 b').set_ 2 c').set_ 3 d'
  simpa [put4] using this
theorem Blk.far4 {W : World} {g g' : Nat} {t : TypeId} {cs : Array Value} (h : Blk W g t cs) (hne : g ≠ g') (a b c d : Value) : Blk (put4 W g' a b c d) g t cs :=
  (((h.far (p := ⟨g', 0, none⟩) hne a).far (p := ⟨g', 1, none⟩) hne b).far (p := ⟨g', 2, none⟩) hne c).far (p := ⟨g', 3, none⟩) hne d
theorem below_put4 {B : Nat} {w W : World} {g : Nat} (h : Below B w W) (hg : B ≤ g) (a b c d : Value) : Below B w (put4 W g a b c d) :=
  (((h.setCell (p := ⟨g, 0, none⟩) hg a).setCell (p := ⟨g, 1, none⟩) hg b).setCell (p := ⟨g, 2, none⟩) hg c).setCell (p := ⟨g, 3, none⟩) hg d
theorem TRef.far2 {W : World} {C : Nat} {A : Option Addr} {c : Nat} {M : List (List Bool)} (h : TRef W C A c M) {b : Nat} {t : TypeId} {cs : Array Value} (hB : Blk W b t cs) (h1 : t ≠ 96) (h2 : t ≠ 4) (x y : Value) : TRef (put2 W b x y) C A c M :=
  (h.far hB h1 h2 0 x).far (hB.set_ 0 x) h1 h2 1 y
theorem TRef.far4 {W : World} {C : Nat} {A : Option Addr} {c : Nat} {M : List (List Bool)} (h : TRef W C A c M) {b : Nat} {t : TypeId} {cs : Array Value} (hB : Blk W b t cs) (h1 : t ≠ 96) (h2 : t ≠ 4) (x y z v : Value) : TRef (put4 W b x y z v) C A c M :=
  (((h.far hB h1 h2 0 x).far (hB.set_ 0 x) h1 h2 1 y).far ((hB.set_ 0 x).set_ 1 y) h1 h2 2 z).far (((hB.set_ 0 x).set_ 1 y).set_ 2 z) h1 h2 3 v
/-- A configuration of the reference's. -/
structure RC (w : World) (C : Nat) (A : Option Addr) (c D : Nat) (B : Option Addr) (d : Nat) (M P : List (List Bool)) : Prop where
  users : TRef w C A c M
  perms : TRef w D B d P
theorem RC.below {w w' : World} {C c D d : Nat} {A B : Option Addr} {M P : List (List Bool)} (h : RC w C A c D B d M P) (hb : Below w.heap.size w w') : RC w' C A c D B d M P := ⟨h.users.below hb, h.perms.below hb⟩
set_option maxRecDepth 100000 in
set_option maxHeartbeats 2000000 in
theorem raccess_own (C c D d : Nat) (A B : Option Addr) (M P : List (List Bool)) (w : World) (h : RC w C A c D B d M P) (hC : C = P.length) :
    Calls Tryd.prog 20 #[rcfV C A M.length c D B P.length d] w fun e w' => ∃ A' c', e = .returned (refV D A' M.length c') ∧ TRef w' D A' c' (accM C D M P) ∧ Below w.heap.size w w' := by
  have HP := hideC (fun W hW => prodr_own C D A B c d M P W (h.users.ref.below (w' := W) hW) (h.perms.ref.below hW) hC)
  clear hC
  go_enter Tryd.func20, Tryd.ntmps20
  go_wp2_with fail
  refine absC2 fun W0 hX hY hb0 hz => ?_
  refine (HP.out W0 hb0).mono ?_
  rintro e w1 ⟨A', c', rfl, hm, hb1⟩
  have b1 := hb0.trans (hb1.mono hb0.size)
  have hY1 := hY.below hb1 hY.lt
  have y0 := hY1.cell 0
  have y1 := hY1.cell 1
  have f0 := hY1.frozen 0
  have f1 := hY1.frozen 1
  go_wp2_with fail
  have hE := hY1.putc (.int .i64 (D : Int)) (.slice A' M.length c')
  have hmE := hm.far2 hY1 (by decide) (by decide) (.int .i64 (D : Int)) (.slice A' M.length c')
  have bE := below_put2 b1 (g := w.heap.size + 1) (by omega) (.int .i64 (D : Int)) (.slice A' M.length c')
  have cX := hE.cell 0
  have cY := hE.cell 1
  unfold put2 at cX cY
  exact bodyPost_ret (v := .agg #[.int .i64 (D : Int), .slice A' M.length c']) (by simp [results, Tryd.results20, go_sem, cX, cY]) rfl ⟨A', c', rfl, hmE, bE⟩
/-- What the reference's Apply leaves. -/
def RPost (w : World) (C D : Nat) (M P : List (List Bool)) (k : Nat) (x y : Int) (e : Ending) (w' : World) : Prop :=
  Below w.heap.size w w' ∧ ((stepE C D M P k x y ≠ 0 ∧ e = .returned (.tuple #[.agg #[.int .i64 0, .slice none 0 0, .int .i64 0, .slice none 0 0], .int .i64 (stepE C D M P k x y)])) ∨
    (stepE C D M P k x y = 0 ∧ ∃ A' c' B' d', e = .returned (.tuple #[rcfV C A' M.length c' D B' P.length d', .int .i64 0]) ∧ RC w' C A' c' D B' d' (stepU C M k x y) (stepP D P k x y)))
theorem RPost.err {w w' : World} {C D : Nat} {M P : List (List Bool)} {k : Nat} {x y : Int} {E : Nat} (h : stepE C D M P k x y = E) (h0 : E ≠ 0) (hb : Below w.heap.size w w') : RPost w C D M P k x y (.returned (.tuple #[.agg #[.int .i64 0, .slice none 0 0, .int .i64 0, .slice none 0 0], .int .i64 E])) w' := by
  subst h; exact ⟨hb, .inl ⟨h0, rfl⟩⟩
abbrev rstepV (k x y : Int) : Value := .agg #[.int .i64 k, .int .i64 x, .int .i64 y]
theorem TRef.row {w : World} {C : Nat} {A : Option Addr} {c : Nat} {M : List (List Bool)} (h : TRef w C A c M) {i j : Nat} (hi : i < M.length) (hj : j < C) :
    ∃ g off g2 off2 d, A = some ⟨g, off, none⟩ ∧ g < w.heap.size ∧ g2 < w.heap.size ∧ w.cell? ⟨g, off + i, none⟩ = some (.slice (some ⟨g2, off2, none⟩) C d) ∧ w.cell? ⟨g2, off2 + j, none⟩ = some (.bool (mget M i j)) := h.ref.at_ hi hj
set_option maxRecDepth 100000 in
set_option maxHeartbeats 2000000 in
theorem rapply_bad (C c D d : Nat) (A B : Option Addr) (M P : List (List Bool)) (k : Nat) (x y : Int) (w : World) (hk : k < 1 ∨ 4 < k) :
    Calls Tryd.prog 24 #[rcfV C A M.length c D B P.length d, rstepV k x y] w (RPost w C D M P k x y) := by
  have HE : Hid (stepE C D M P k x y = 1) := hideC (by rw [stepE, if_pos hk])
  have hk2 : (k : Int) < 1 ∨ ¬ (k : Int) < 1 ∧ (4 : Int) < (k : Int) := by omega
  clear hk
  go_enter Tryd.func24, Tryd.ntmps24
  rcases hk2 with hk1 | ⟨hk1, hk4⟩
  all_goals
    go_wp2_with (first | fail)
    have r0 := Blk.new_ (w := (w.alloc (.cells #[.int .i64 (C : Int), .slice A M.length c, .int .i64 (D : Int), .slice B P.length d] 31)).alloc (.cells #[.int .i64 (k : Int), .int .i64 x, .int .i64 y] 48)) (n := w.heap.size + 2) (by simp) 31 #[.int .i64 0, .slice none 0 0, .int .i64 0, .slice none 0 0]
    exact bodyPost_ret (v := .tuple #[.agg #[.int .i64 0, .slice none 0 0, .int .i64 0, .slice none 0 0], .int .i64 1]) (by simp [results, Tryd.results24, go_sem]) rfl (RPost.err HE.out (by decide) ((((Below.refl _ _).alloc (Nat.le_refl _) _).alloc (by simp) _).alloc (by simp; omega) _))
set_option maxRecDepth 100000 in
set_option maxHeartbeats 4000000 in
theorem rapply_1 (C c D d : Nat) (A B : Option Addr) (M P : List (List Bool)) (x y : Int) (w : World) (h : RC w C A c D B d M P) :
    Calls Tryd.prog 24 #[rcfV C A M.length c D B P.length d, rstepV 1 x y] w (RPost w C D M P 1 x y) := by
  have hE0 : stepE C D M P 1 x y = if insideB M.length C x y = false then 2 else if mget M x.toNat y.toNat = true then 7 else 0 := by
    rw [stepE, if_neg (by decide)]; rfl
  have HE0 := Lib.hid hE0
  clear hE0
  have hmR := h.users.2.1
  have hmC := h.users.1
  go_enter Tryd.func24, Tryd.ntmps24
  by_cases hin : 0 ≤ x ∧ x < M.length ∧ 0 ≤ y ∧ y < C
  · obtain ⟨hx0, hx1, hy0, hy1⟩ := hin
    obtain ⟨I, rfl⟩ := Int.eq_ofNat_of_zero_le hx0
    obtain ⟨J, rfl⟩ := Int.eq_ofNat_of_zero_le hy0
    have hI : I < M.length := by omega
    have hJ : J < C := by omega
    have hE1 := HE0.out
    rw [if_neg (by unfold insideB; rw [decide_eq_false_iff_not]; exact fun hh => hh ⟨hx0, hx1, hy0, hy1⟩), Int.toNat_natCast, Int.toNat_natCast] at hE1
    have HE1 := Lib.hid hE1
    clear hE1 HE0 hx0 hx1 hy0 hy1
    obtain ⟨bg, hbg⟩ : ∃ b, b = mget M I J := ⟨_, rfl⟩
    go_wp2_with fail
    refine abs4 fun W0 hK hS hR hm hb0 hz => ?_
    have hC0 := h.below hb0
    have HZ := Lib.hid hz; clear hz
    obtain ⟨g, off, g2, off2, d2, hAe, hg, hg2, q1, q2⟩ := hC0.users.row hI hJ
    rw [← hbg] at q2
    have HBG := Lib.hid hbg
    have HAE := Lib.hid hAe
    have s0 := hS.cell 0
    have s1 := hS.cell 1
    have s2 := hS.cell 2
    have m0 := hm.cell 0
    have m1 := hm.cell 1
    rw [HAE.out] at m1
    clear hbg hAe
    refine wp_spine (fun W => Below W0.heap.size W0 W) [0, 1, 2, 3, 4, 5, 6, 7, 8, 9, 10, 11] [] (by kernel_rfl) (by kernel_rfl) ?_
    by_cases hbe : bg = true
    · subst hbe
      have HE : Hid (stepE C D M P 1 I J = 7) := hideC (by rw [HE1.out, ← HBG.out]; rfl)
      clear HE1 HBG
      iterate 12 (refine wpE_op (v := ?_) rfl rfl (fun W hW => ?_) ?_; rotate_left; (have z1 := onB hW s0; have z2 := onB hW s1; have z3 := onB hW s2; have z4 := onB hW m1; have z5 := onB hW q1; have z6 := onB hW q2; go_simp; first | done | with_reducible rfl); simp only [Act.put, List.setIfInBounds_toArray, List.set_cons_zero, List.set_cons_succ])
      refine wpE_nil ⟨fun _ => (Below.refl _ _).drew, wpSp_nil ?_⟩
      have hbd : Below W0.heap.size W0 W0.drew := (Below.refl _ _).drew
      have bq := hb0.trans (hbd.mono hb0.size)
      have hRq := hR.below hbd hR.lt
      obtain ⟨Wq, hWqe⟩ : ∃ V, V = W0.drew := ⟨_, rfl⟩
      rw [← hWqe] at bq hRq ⊢
      clear s0 s1 s2 m0 m1 q1 q2 hWqe hbd hR hK hS hm
      have s0 := hRq.cell 0
      have s1 := hRq.cell 1
      have s2 := hRq.cell 2
      have s3 := hRq.cell 3
      have f0 := hRq.frozen 0
      have f1 := hRq.frozen 1
      have f2 := hRq.frozen 2
      have f3 := hRq.frozen 3
      go_wp2_with fail
      have rE := hRq.putd (.int .i64 0) (.slice none 0 0) (.int .i64 0) (.slice none 0 0)
      have bE := below_put4 bq (g := w.heap.size + 2) (by omega) (.int .i64 0) (.slice none 0 0) (.int .i64 0) (.slice none 0 0)
      have cX := rE.cell 0
      have cY := rE.cell 1
      have cZ := rE.cell 2
      have cW := rE.cell 3
      unfold put4 at cX cY cZ cW bE
      exact bodyPost_ret (v := .tuple #[.agg #[.int .i64 0, .slice none 0 0, .int .i64 0, .slice none 0 0], .int .i64 7]) (by simp [results, Tryd.results24, go_sem, cX, cY, cZ, cW]) rfl (RPost.err HE.out (by decide) bE)
    · obtain rfl : bg = false := by cases bg <;> simp_all
      clear hbe
      have HE : Hid (stepE C D M P 1 I J = 0) := hideC (by rw [HE1.out, ← HBG.out]; rfl)
      clear HE1 HBG
      iterate 12 (refine wpE_op (v := ?_) rfl rfl (fun W hW => ?_) ?_; rotate_left; (have z1 := onB hW s0; have z2 := onB hW s1; have z3 := onB hW s2; have z4 := onB hW m1; have z5 := onB hW q1; have z6 := onB hW q2; go_simp; first | done | with_reducible rfl); simp only [Act.put, List.setIfInBounds_toArray, List.set_cons_zero, List.set_cons_succ])
      refine wpE_nil ⟨fun _ => (Below.refl _ _).drew, wpSp_nil ?_⟩
      have hbd : Below W0.heap.size W0 W0.drew := (Below.refl _ _).drew
      have bq := hb0.trans (hbd.mono hb0.size)
      have hRq := hR.below hbd hR.lt
      have hKq := hK.below hbd hK.lt
      have hSq := hS.below hbd hS.lt
      have hmq := hm.below hbd hm.lt
      have hWq := hC0.below hbd
      obtain ⟨Wq, hWqe⟩ : ∃ V, V = W0.drew := ⟨_, rfl⟩
      rw [← hWqe] at bq hRq hKq hSq hmq hWq ⊢
      clear s0 s1 s2 m0 m1 q1 q2 hWqe hbd hR hK hS hm hC0 hg hg2
      have s0 := hSq.cell 0
      have s1 := hSq.cell 1
      have s2 := hSq.cell 2
      have m0 := hmq.cell 0
      have m1 := hmq.cell 1
      go_wp2_with fail
      refine (withr_own C A c M I J true Wq hWq.users.ref hI hJ).mono ?_
      rintro e w4 ⟨A', c', rfl, ht, hb4⟩
      have b4 := bq.trans (hb4.mono bq.size)
      have hR4 := hRq.below hb4 hRq.lt
      have hK4 := hKq.below hb4 hKq.lt
      have hS4 := hSq.below hb4 hSq.lt
      have hm4 := hmq.below hb4 hmq.lt
      have hW4 := hWq.below hb4
      clear s0 s1 s2 m0 m1 hRq hKq hSq hmq hWq bq hb4
      have s0 := hS4.cell 0
      have k0 := hK4.cell 0
      have k1 := hK4.cell 1
      have k2 := hK4.cell 2
      have k3 := hK4.cell 3
      have m0 := hm4.cell 0
      have m1 := hm4.cell 1
      have fm0 := hm4.frozen 0
      have fm1 := hm4.frozen 1
      have r0 := hR4.cell 0
      have r1 := hR4.cell 1
      have r2 := hR4.cell 2
      have r3 := hR4.cell 3
      have f0 := hR4.frozen 0
      have f1 := hR4.frozen 1
      have f2 := hR4.frozen 2
      have f3 := hR4.frozen 3
      go_wp2_with fail
      have hm5 := hm4.putc (.int .i64 (C : Int)) (.slice A' M.length c')
      have hR5 := hR4.far2 (g' := w.heap.size + 3) (by omega) (.int .i64 (C : Int)) (.slice A' M.length c')
      have ht5 := ht.far2 hm4 (by decide) (by decide) (.int .i64 (C : Int)) (.slice A' M.length c')
      have hu5 := hW4.users.far2 hm4 (by decide) (by decide) (.int .i64 (C : Int)) (.slice A' M.length c')
      have hp5 := hW4.perms.far2 hm4 (by decide) (by decide) (.int .i64 (C : Int)) (.slice A' M.length c')
      have b5 := below_put2 b4 (g := w.heap.size + 3) (by omega) (.int .i64 (C : Int)) (.slice A' M.length c')
      have hR6 := hR5.putd (.int .i64 (C : Int)) (.slice A' M.length c') (.int .i64 (D : Int)) (.slice B P.length d)
      have ht6 := ht5.far4 hR5 (by decide) (by decide) (.int .i64 (C : Int)) (.slice A' M.length c') (.int .i64 (D : Int)) (.slice B P.length d)
      have hu6 := hu5.far4 hR5 (by decide) (by decide) (.int .i64 (C : Int)) (.slice A' M.length c') (.int .i64 (D : Int)) (.slice B P.length d)
      have hp6 := hp5.far4 hR5 (by decide) (by decide) (.int .i64 (C : Int)) (.slice A' M.length c') (.int .i64 (D : Int)) (.slice B P.length d)
      have b6 := below_put4 b5 (g := w.heap.size + 2) (by omega) (.int .i64 (C : Int)) (.slice A' M.length c') (.int .i64 (D : Int)) (.slice B P.length d)
      have cX := hR6.cell 0
      have cY := hR6.cell 1
      have cZ := hR6.cell 2
      have cW := hR6.cell 3
      unfold put4 put2 at cX cY cZ cW b6
      refine bodyPost_ret (v := .tuple #[rcfV C A' M.length c' D B P.length d, .int .i64 0]) (by simp [results, Tryd.results24, go_sem, cX, cY, cZ, cW]) rfl ⟨b6, .inr ⟨HE.out, A', c', B, d, rfl, ?_⟩⟩
      have e1 : stepU C M 1 I J = mat M.length C (withF M I J true) := rfl
      have e2 : stepP D P 1 I J = P := rfl
      rw [e1, e2]
      exact ⟨ht6, hp6⟩
  · have HE : Hid (stepE C D M P 1 x y = 2) := hideC (by rw [HE0.out, if_pos (by unfold insideB; rw [decide_eq_false_iff_not]; exact hin)])
    have hout : x < 0 ∨ (¬ x < 0 ∧ (M.length : Int) ≤ x) ∨ (¬ x < 0 ∧ ¬ (M.length : Int) ≤ x ∧ y < 0) ∨ (¬ x < 0 ∧ ¬ (M.length : Int) ≤ x ∧ ¬ y < 0 ∧ (C : Int) ≤ y) := by omega
    clear hin HE0
    rcases hout with h1 | ⟨h1, h2⟩ | ⟨h1, h2, h3⟩ | ⟨h1, h2, h3, h4⟩
    all_goals
      go_wp2_with fail
      exact bodyPost_ret (v := .tuple #[.agg #[.int .i64 0, .slice none 0 0, .int .i64 0, .slice none 0 0], .int .i64 2]) (by simp [results, Tryd.results24, go_sem]) rfl (RPost.err HE.out (by decide) (((((Below.refl _ _).alloc (Nat.le_refl _) _).alloc (by simp) _).alloc (by simp; omega) _).alloc (by simp; omega) _))
set_option maxRecDepth 100000 in
set_option maxHeartbeats 4000000 in
theorem rapply_2 (C c D d : Nat) (A B : Option Addr) (M P : List (List Bool)) (x y : Int) (w : World) (h : RC w C A c D B d M P) :
    Calls Tryd.prog 24 #[rcfV C A M.length c D B P.length d, rstepV 2 x y] w (RPost w C D M P 2 x y) := by
  have hE0 : stepE C D M P 2 x y = if insideB M.length C x y = false then 2 else if mget M x.toNat y.toNat = false then 7 else 0 := by
    rw [stepE, if_neg (by decide)]; rfl
  have HE0 := Lib.hid hE0
  clear hE0
  have hmR := h.users.2.1
  have hmC := h.users.1
  go_enter Tryd.func24, Tryd.ntmps24
  by_cases hin : 0 ≤ x ∧ x < M.length ∧ 0 ≤ y ∧ y < C
  · obtain ⟨hx0, hx1, hy0, hy1⟩ := hin
    obtain ⟨I, rfl⟩ := Int.eq_ofNat_of_zero_le hx0
    obtain ⟨J, rfl⟩ := Int.eq_ofNat_of_zero_le hy0
    have hI : I < M.length := by omega
    have hJ : J < C := by omega
    have hE1 := HE0.out
    rw [if_neg (by unfold insideB; rw [decide_eq_false_iff_not]; exact fun hh => hh ⟨hx0, hx1, hy0, hy1⟩), Int.toNat_natCast, Int.toNat_natCast] at hE1
    have HE1 := Lib.hid hE1
    clear hE1 HE0 hx0 hx1 hy0 hy1
    obtain ⟨bg, hbg⟩ : ∃ b, b = mget M I J := ⟨_, rfl⟩
    go_wp2_with fail
    refine abs4 fun W0 hK hS hR hm hb0 hz => ?_
    have hC0 := h.below hb0
    have HZ := Lib.hid hz; clear hz
    obtain ⟨g, off, g2, off2, d2, hAe, hg, hg2, q1, q2⟩ := hC0.users.row hI hJ
    rw [← hbg] at q2
    have HBG := Lib.hid hbg
    have HAE := Lib.hid hAe
    have s0 := hS.cell 0
    have s1 := hS.cell 1
    have s2 := hS.cell 2
    have m0 := hm.cell 0
    have m1 := hm.cell 1
    rw [HAE.out] at m1
    clear hbg hAe
    refine wp_spine (fun W => Below W0.heap.size W0 W) [0, 1, 2, 3, 4, 5, 6, 7, 8, 9, 10, 11] [] (by kernel_rfl) (by kernel_rfl) ?_
    by_cases hbe : bg = false
    · subst hbe
      have HE : Hid (stepE C D M P 2 I J = 7) := hideC (by rw [HE1.out, ← HBG.out]; rfl)
      clear HE1 HBG
      iterate 12 (refine wpE_op (v := ?_) rfl rfl (fun W hW => ?_) ?_; rotate_left; (have z1 := onB hW s0; have z2 := onB hW s1; have z3 := onB hW s2; have z4 := onB hW m1; have z5 := onB hW q1; have z6 := onB hW q2; go_simp; first | done | with_reducible rfl); simp only [Act.put, List.setIfInBounds_toArray, List.set_cons_zero, List.set_cons_succ])
      refine wpE_nil ⟨fun _ => (Below.refl _ _).drew, wpSp_nil ?_⟩
      have hbd : Below W0.heap.size W0 W0.drew := (Below.refl _ _).drew
      have bq := hb0.trans (hbd.mono hb0.size)
      have hRq := hR.below hbd hR.lt
      obtain ⟨Wq, hWqe⟩ : ∃ V, V = W0.drew := ⟨_, rfl⟩
      rw [← hWqe] at bq hRq ⊢
      clear s0 s1 s2 m0 m1 q1 q2 hWqe hbd hR hK hS hm
      have s0 := hRq.cell 0
      have s1 := hRq.cell 1
      have s2 := hRq.cell 2
      have s3 := hRq.cell 3
      have f0 := hRq.frozen 0
      have f1 := hRq.frozen 1
      have f2 := hRq.frozen 2
      have f3 := hRq.frozen 3
      go_wp2_with fail
      have rE := hRq.putd (.int .i64 0) (.slice none 0 0) (.int .i64 0) (.slice none 0 0)
      have bE := below_put4 bq (g := w.heap.size + 2) (by omega) (.int .i64 0) (.slice none 0 0) (.int .i64 0) (.slice none 0 0)
      have cX := rE.cell 0
      have cY := rE.cell 1
      have cZ := rE.cell 2
      have cW := rE.cell 3
      unfold put4 at cX cY cZ cW bE
      exact bodyPost_ret (v := .tuple #[.agg #[.int .i64 0, .slice none 0 0, .int .i64 0, .slice none 0 0], .int .i64 7]) (by simp [results, Tryd.results24, go_sem, cX, cY, cZ, cW]) rfl (RPost.err HE.out (by decide) bE)
    · obtain rfl : bg = true := by cases bg <;> simp_all
      clear hbe
      have HE : Hid (stepE C D M P 2 I J = 0) := hideC (by rw [HE1.out, ← HBG.out]; rfl)
      clear HE1 HBG
      iterate 12 (refine wpE_op (v := ?_) rfl rfl (fun W hW => ?_) ?_; rotate_left; (have z1 := onB hW s0; have z2 := onB hW s1; have z3 := onB hW s2; have z4 := onB hW m1; have z5 := onB hW q1; have z6 := onB hW q2; go_simp; first | done | with_reducible rfl); simp only [Act.put, List.setIfInBounds_toArray, List.set_cons_zero, List.set_cons_succ])
      refine wpE_nil ⟨fun _ => (Below.refl _ _).drew, wpSp_nil ?_⟩
      have hbd : Below W0.heap.size W0 W0.drew := (Below.refl _ _).drew
      have bq := hb0.trans (hbd.mono hb0.size)
      have hRq := hR.below hbd hR.lt
      have hKq := hK.below hbd hK.lt
      have hSq := hS.below hbd hS.lt
      have hmq := hm.below hbd hm.lt
      have hWq := hC0.below hbd
      obtain ⟨Wq, hWqe⟩ : ∃ V, V = W0.drew := ⟨_, rfl⟩
      rw [← hWqe] at bq hRq hKq hSq hmq hWq ⊢
      clear s0 s1 s2 m0 m1 q1 q2 hWqe hbd hR hK hS hm hC0 hg hg2
      have s0 := hSq.cell 0
      have s1 := hSq.cell 1
      have s2 := hSq.cell 2
      have m0 := hmq.cell 0
      have m1 := hmq.cell 1
      go_wp2_with fail
      refine (withr_own C A c M I J false Wq hWq.users.ref hI hJ).mono ?_
      rintro e w4 ⟨A', c', rfl, ht, hb4⟩
      have b4 := bq.trans (hb4.mono bq.size)
      have hR4 := hRq.below hb4 hRq.lt
      have hK4 := hKq.below hb4 hKq.lt
      have hS4 := hSq.below hb4 hSq.lt
      have hm4 := hmq.below hb4 hmq.lt
      have hW4 := hWq.below hb4
      clear s0 s1 s2 m0 m1 hRq hKq hSq hmq hWq bq hb4
      have s0 := hS4.cell 0
      have k0 := hK4.cell 0
      have k1 := hK4.cell 1
      have k2 := hK4.cell 2
      have k3 := hK4.cell 3
      have m0 := hm4.cell 0
      have m1 := hm4.cell 1
      have fm0 := hm4.frozen 0
      have fm1 := hm4.frozen 1
      have r0 := hR4.cell 0
      have r1 := hR4.cell 1
      have r2 := hR4.cell 2
      have r3 := hR4.cell 3
      have f0 := hR4.frozen 0
      have f1 := hR4.frozen 1
      have f2 := hR4.frozen 2
      have f3 := hR4.frozen 3
      go_wp2_with fail
      have hm5 := hm4.putc (.int .i64 (C : Int)) (.slice A' M.length c')
      have hR5 := hR4.far2 (g' := w.heap.size + 3) (by omega) (.int .i64 (C : Int)) (.slice A' M.length c')
      have ht5 := ht.far2 hm4 (by decide) (by decide) (.int .i64 (C : Int)) (.slice A' M.length c')
      have hu5 := hW4.users.far2 hm4 (by decide) (by decide) (.int .i64 (C : Int)) (.slice A' M.length c')
      have hp5 := hW4.perms.far2 hm4 (by decide) (by decide) (.int .i64 (C : Int)) (.slice A' M.length c')
      have b5 := below_put2 b4 (g := w.heap.size + 3) (by omega) (.int .i64 (C : Int)) (.slice A' M.length c')
      have hR6 := hR5.putd (.int .i64 (C : Int)) (.slice A' M.length c') (.int .i64 (D : Int)) (.slice B P.length d)
      have ht6 := ht5.far4 hR5 (by decide) (by decide) (.int .i64 (C : Int)) (.slice A' M.length c') (.int .i64 (D : Int)) (.slice B P.length d)
      have hu6 := hu5.far4 hR5 (by decide) (by decide) (.int .i64 (C : Int)) (.slice A' M.length c') (.int .i64 (D : Int)) (.slice B P.length d)
      have hp6 := hp5.far4 hR5 (by decide) (by decide) (.int .i64 (C : Int)) (.slice A' M.length c') (.int .i64 (D : Int)) (.slice B P.length d)
      have b6 := below_put4 b5 (g := w.heap.size + 2) (by omega) (.int .i64 (C : Int)) (.slice A' M.length c') (.int .i64 (D : Int)) (.slice B P.length d)
      have cX := hR6.cell 0
      have cY := hR6.cell 1
      have cZ := hR6.cell 2
      have cW := hR6.cell 3
      unfold put4 put2 at cX cY cZ cW b6
      refine bodyPost_ret (v := .tuple #[rcfV C A' M.length c' D B P.length d, .int .i64 0]) (by simp [results, Tryd.results24, go_sem, cX, cY, cZ, cW]) rfl ⟨b6, .inr ⟨HE.out, A', c', B, d, rfl, ?_⟩⟩
      have e1 : stepU C M 2 I J = mat M.length C (withF M I J false) := rfl
      have e2 : stepP D P 2 I J = P := rfl
      rw [e1, e2]
      exact ⟨ht6, hp6⟩
  · have HE : Hid (stepE C D M P 2 x y = 2) := hideC (by rw [HE0.out, if_pos (by unfold insideB; rw [decide_eq_false_iff_not]; exact hin)])
    have hout : x < 0 ∨ (¬ x < 0 ∧ (M.length : Int) ≤ x) ∨ (¬ x < 0 ∧ ¬ (M.length : Int) ≤ x ∧ y < 0) ∨ (¬ x < 0 ∧ ¬ (M.length : Int) ≤ x ∧ ¬ y < 0 ∧ (C : Int) ≤ y) := by omega
    clear hin HE0
    rcases hout with h1 | ⟨h1, h2⟩ | ⟨h1, h2, h3⟩ | ⟨h1, h2, h3, h4⟩
    all_goals
      go_wp2_with fail
      exact bodyPost_ret (v := .tuple #[.agg #[.int .i64 0, .slice none 0 0, .int .i64 0, .slice none 0 0], .int .i64 2]) (by simp [results, Tryd.results24, go_sem]) rfl (RPost.err HE.out (by decide) (((((Below.refl _ _).alloc (Nat.le_refl _) _).alloc (by simp) _).alloc (by simp; omega) _).alloc (by simp; omega) _))
set_option maxRecDepth 100000 in
set_option maxHeartbeats 4000000 in
theorem rapply_3 (C c D d : Nat) (A B : Option Addr) (M P : List (List Bool)) (x y : Int) (w : World) (h : RC w C A c D B d M P) :
    Calls Tryd.prog 24 #[rcfV C A M.length c D B P.length d, rstepV 3 x y] w (RPost w C D M P 3 x y) := by
  have hE0 : stepE C D M P 3 x y = if insideB P.length D x y = false then 2 else if mget P x.toNat y.toNat = true then 7 else 0 := by
    rw [stepE, if_neg (by decide)]; rfl
  have HE0 := Lib.hid hE0
  clear hE0
  have hmR := h.perms.2.1
  have hmC := h.perms.1
  go_enter Tryd.func24, Tryd.ntmps24
  by_cases hin : 0 ≤ x ∧ x < P.length ∧ 0 ≤ y ∧ y < D
  · obtain ⟨hx0, hx1, hy0, hy1⟩ := hin
    obtain ⟨I, rfl⟩ := Int.eq_ofNat_of_zero_le hx0
    obtain ⟨J, rfl⟩ := Int.eq_ofNat_of_zero_le hy0
    have hI : I < P.length := by omega
    have hJ : J < D := by omega
    have hE1 := HE0.out
    rw [if_neg (by unfold insideB; rw [decide_eq_false_iff_not]; exact fun hh => hh ⟨hx0, hx1, hy0, hy1⟩), Int.toNat_natCast, Int.toNat_natCast] at hE1
    have HE1 := Lib.hid hE1
    clear hE1 HE0 hx0 hx1 hy0 hy1
    obtain ⟨bg, hbg⟩ : ∃ b, b = mget P I J := ⟨_, rfl⟩
    go_wp2_with fail
    refine abs4 fun W0 hK hS hR hm hb0 hz => ?_
    have hC0 := h.below hb0
    have HZ := Lib.hid hz; clear hz
    obtain ⟨g, off, g2, off2, d2, hAe, hg, hg2, q1, q2⟩ := hC0.perms.row hI hJ
    rw [← hbg] at q2
    have HBG := Lib.hid hbg
    have HAE := Lib.hid hAe
    have s0 := hS.cell 0
    have s1 := hS.cell 1
    have s2 := hS.cell 2
    have m0 := hm.cell 0
    have m1 := hm.cell 1
    rw [HAE.out] at m1
    clear hbg hAe
    refine wp_spine (fun W => Below W0.heap.size W0 W) [0, 1, 2, 3, 4, 5, 6, 7, 8, 9, 10, 11] [] (by kernel_rfl) (by kernel_rfl) ?_
    by_cases hbe : bg = true
    · subst hbe
      have HE : Hid (stepE C D M P 3 I J = 7) := hideC (by rw [HE1.out, ← HBG.out]; rfl)
      clear HE1 HBG
      iterate 12 (refine wpE_op (v := ?_) rfl rfl (fun W hW => ?_) ?_; rotate_left; (have z1 := onB hW s0; have z2 := onB hW s1; have z3 := onB hW s2; have z4 := onB hW m1; have z5 := onB hW q1; have z6 := onB hW q2; go_simp; first | done | with_reducible rfl); simp only [Act.put, List.setIfInBounds_toArray, List.set_cons_zero, List.set_cons_succ])
      refine wpE_nil ⟨fun _ => (Below.refl _ _).drew, wpSp_nil ?_⟩
      have hbd : Below W0.heap.size W0 W0.drew := (Below.refl _ _).drew
      have bq := hb0.trans (hbd.mono hb0.size)
      have hRq := hR.below hbd hR.lt
      obtain ⟨Wq, hWqe⟩ : ∃ V, V = W0.drew := ⟨_, rfl⟩
      rw [← hWqe] at bq hRq ⊢
      clear s0 s1 s2 m0 m1 q1 q2 hWqe hbd hR hK hS hm
      have s0 := hRq.cell 0
      have s1 := hRq.cell 1
      have s2 := hRq.cell 2
      have s3 := hRq.cell 3
      have f0 := hRq.frozen 0
      have f1 := hRq.frozen 1
      have f2 := hRq.frozen 2
      have f3 := hRq.frozen 3
      go_wp2_with fail
      have rE := hRq.putd (.int .i64 0) (.slice none 0 0) (.int .i64 0) (.slice none 0 0)
      have bE := below_put4 bq (g := w.heap.size + 2) (by omega) (.int .i64 0) (.slice none 0 0) (.int .i64 0) (.slice none 0 0)
      have cX := rE.cell 0
      have cY := rE.cell 1
      have cZ := rE.cell 2
      have cW := rE.cell 3
      unfold put4 at cX cY cZ cW bE
      exact bodyPost_ret (v := .tuple #[.agg #[.int .i64 0, .slice none 0 0, .int .i64 0, .slice none 0 0], .int .i64 7]) (by simp [results, Tryd.results24, go_sem, cX, cY, cZ, cW]) rfl (RPost.err HE.out (by decide) bE)
    · obtain rfl : bg = false := by cases bg <;> simp_all
      clear hbe
      have HE : Hid (stepE C D M P 3 I J = 0) := hideC (by rw [HE1.out, ← HBG.out]; rfl)
      clear HE1 HBG
      iterate 12 (refine wpE_op (v := ?_) rfl rfl (fun W hW => ?_) ?_; rotate_left; (have z1 := onB hW s0; have z2 := onB hW s1; have z3 := onB hW s2; have z4 := onB hW m1; have z5 := onB hW q1; have z6 := onB hW q2; go_simp; first | done | with_reducible rfl); simp only [Act.put, List.setIfInBounds_toArray, List.set_cons_zero, List.set_cons_succ])
      refine wpE_nil ⟨fun _ => (Below.refl _ _).drew, wpSp_nil ?_⟩
      have hbd : Below W0.heap.size W0 W0.drew := (Below.refl _ _).drew
      have bq := hb0.trans (hbd.mono hb0.size)
      have hRq := hR.below hbd hR.lt
      have hKq := hK.below hbd hK.lt
      have hSq := hS.below hbd hS.lt
      have hmq := hm.below hbd hm.lt
      have hWq := hC0.below hbd
      obtain ⟨Wq, hWqe⟩ : ∃ V, V = W0.drew := ⟨_, rfl⟩
      rw [← hWqe] at bq hRq hKq hSq hmq hWq ⊢
      clear s0 s1 s2 m0 m1 q1 q2 hWqe hbd hR hK hS hm hC0 hg hg2
      have s0 := hSq.cell 0
      have s1 := hSq.cell 1
      have s2 := hSq.cell 2
      have m0 := hmq.cell 0
      have m1 := hmq.cell 1
      go_wp2_with fail
      refine (withr_own D B d P I J true Wq hWq.perms.ref hI hJ).mono ?_
      rintro e w4 ⟨A', c', rfl, ht, hb4⟩
      have b4 := bq.trans (hb4.mono bq.size)
      have hR4 := hRq.below hb4 hRq.lt
      have hK4 := hKq.below hb4 hKq.lt
      have hS4 := hSq.below hb4 hSq.lt
      have hm4 := hmq.below hb4 hmq.lt
      have hW4 := hWq.below hb4
      clear s0 s1 s2 m0 m1 hRq hKq hSq hmq hWq bq hb4
      have s0 := hS4.cell 0
      have k0 := hK4.cell 0
      have k1 := hK4.cell 1
      have k2 := hK4.cell 2
      have k3 := hK4.cell 3
      have m0 := hm4.cell 0
      have m1 := hm4.cell 1
      have fm0 := hm4.frozen 0
      have fm1 := hm4.frozen 1
      have r0 := hR4.cell 0
      have r1 := hR4.cell 1
      have r2 := hR4.cell 2
      have r3 := hR4.cell 3
      have f0 := hR4.frozen 0
      have f1 := hR4.frozen 1
      have f2 := hR4.frozen 2
      have f3 := hR4.frozen 3
      go_wp2_with fail
      have hm5 := hm4.putc (.int .i64 (D : Int)) (.slice A' P.length c')
      have hR5 := hR4.far2 (g' := w.heap.size + 3) (by omega) (.int .i64 (D : Int)) (.slice A' P.length c')
      have ht5 := ht.far2 hm4 (by decide) (by decide) (.int .i64 (D : Int)) (.slice A' P.length c')
      have hu5 := hW4.users.far2 hm4 (by decide) (by decide) (.int .i64 (D : Int)) (.slice A' P.length c')
      have hp5 := hW4.perms.far2 hm4 (by decide) (by decide) (.int .i64 (D : Int)) (.slice A' P.length c')
      have b5 := below_put2 b4 (g := w.heap.size + 3) (by omega) (.int .i64 (D : Int)) (.slice A' P.length c')
      have hR6 := hR5.putd (.int .i64 (C : Int)) (.slice A M.length c) (.int .i64 (D : Int)) (.slice A' P.length c')
      have ht6 := ht5.far4 hR5 (by decide) (by decide) (.int .i64 (C : Int)) (.slice A M.length c) (.int .i64 (D : Int)) (.slice A' P.length c')
      have hu6 := hu5.far4 hR5 (by decide) (by decide) (.int .i64 (C : Int)) (.slice A M.length c) (.int .i64 (D : Int)) (.slice A' P.length c')
      have hp6 := hp5.far4 hR5 (by decide) (by decide) (.int .i64 (C : Int)) (.slice A M.length c) (.int .i64 (D : Int)) (.slice A' P.length c')
      have b6 := below_put4 b5 (g := w.heap.size + 2) (by omega) (.int .i64 (C : Int)) (.slice A M.length c) (.int .i64 (D : Int)) (.slice A' P.length c')
      have cX := hR6.cell 0
      have cY := hR6.cell 1
      have cZ := hR6.cell 2
      have cW := hR6.cell 3
      unfold put4 put2 at cX cY cZ cW b6
      refine bodyPost_ret (v := .tuple #[rcfV C A M.length c D A' P.length c', .int .i64 0]) (by simp [results, Tryd.results24, go_sem, cX, cY, cZ, cW]) rfl ⟨b6, .inr ⟨HE.out, A, c, A', c', rfl, ?_⟩⟩
      have e1 : stepU C M 3 I J = M := rfl
      have e2 : stepP D P 3 I J = mat P.length D (withF P I J true) := rfl
      rw [e1, e2]
      exact ⟨hu6, ht6⟩
  · have HE : Hid (stepE C D M P 3 x y = 2) := hideC (by rw [HE0.out, if_pos (by unfold insideB; rw [decide_eq_false_iff_not]; exact hin)])
    have hout : x < 0 ∨ (¬ x < 0 ∧ (P.length : Int) ≤ x) ∨ (¬ x < 0 ∧ ¬ (P.length : Int) ≤ x ∧ y < 0) ∨ (¬ x < 0 ∧ ¬ (P.length : Int) ≤ x ∧ ¬ y < 0 ∧ (D : Int) ≤ y) := by omega
    clear hin HE0
    rcases hout with h1 | ⟨h1, h2⟩ | ⟨h1, h2, h3⟩ | ⟨h1, h2, h3, h4⟩
    all_goals
      go_wp2_with fail
      exact bodyPost_ret (v := .tuple #[.agg #[.int .i64 0, .slice none 0 0, .int .i64 0, .slice none 0 0], .int .i64 2]) (by simp [results, Tryd.results24, go_sem]) rfl (RPost.err HE.out (by decide) (((((Below.refl _ _).alloc (Nat.le_refl _) _).alloc (by simp) _).alloc (by simp; omega) _).alloc (by simp; omega) _))
set_option maxRecDepth 100000 in
set_option maxHeartbeats 4000000 in
theorem rapply_4 (C c D d : Nat) (A B : Option Addr) (M P : List (List Bool)) (x y : Int) (w : World) (h : RC w C A c D B d M P) :
    Calls Tryd.prog 24 #[rcfV C A M.length c D B P.length d, rstepV 4 x y] w (RPost w C D M P 4 x y) := by
  have hE0 : stepE C D M P 4 x y = if insideB P.length D x y = false then 2 else if mget P x.toNat y.toNat = false then 7 else 0 := by
    rw [stepE, if_neg (by decide)]; rfl
  have HE0 := Lib.hid hE0
  clear hE0
  have hmR := h.perms.2.1
  have hmC := h.perms.1
  go_enter Tryd.func24, Tryd.ntmps24
  by_cases hin : 0 ≤ x ∧ x < P.length ∧ 0 ≤ y ∧ y < D
  · obtain ⟨hx0, hx1, hy0, hy1⟩ := hin
    obtain ⟨I, rfl⟩ := Int.eq_ofNat_of_zero_le hx0
    obtain ⟨J, rfl⟩ := Int.eq_ofNat_of_zero_le hy0
    have hI : I < P.length := by omega
    have hJ : J < D := by omega
    have hE1 := HE0.out
    rw [if_neg (by unfold insideB; rw [decide_eq_false_iff_not]; exact fun hh => hh ⟨hx0, hx1, hy0, hy1⟩), Int.toNat_natCast, Int.toNat_natCast] at hE1
    have HE1 := Lib.hid hE1
    clear hE1 HE0 hx0 hx1 hy0 hy1
    obtain ⟨bg, hbg⟩ : ∃ b, b = mget P I J := ⟨_, rfl⟩
    go_wp2_with fail
    refine abs4 fun W0 hK hS hR hm hb0 hz => ?_
    have hC0 := h.below hb0
    have HZ := Lib.hid hz; clear hz
    obtain ⟨g, off, g2, off2, d2, hAe, hg, hg2, q1, q2⟩ := hC0.perms.row hI hJ
    rw [← hbg] at q2
    have HBG := Lib.hid hbg
    have HAE := Lib.hid hAe
    have s0 := hS.cell 0
    have s1 := hS.cell 1
    have s2 := hS.cell 2
    have m0 := hm.cell 0
    have m1 := hm.cell 1
    rw [HAE.out] at m1
    clear hbg hAe
    refine wp_spine (fun W => Below W0.heap.size W0 W) [0, 1, 2, 3, 4, 5, 6, 7, 8, 9, 10, 11] [] (by kernel_rfl) (by kernel_rfl) ?_
    by_cases hbe : bg = false
    · subst hbe
      have HE : Hid (stepE C D M P 4 I J = 7) := hideC (by rw [HE1.out, ← HBG.out]; rfl)
      clear HE1 HBG
      iterate 12 (refine wpE_op (v := ?_) rfl rfl (fun W hW => ?_) ?_; rotate_left; (have z1 := onB hW s0; have z2 := onB hW s1; have z3 := onB hW s2; have z4 := onB hW m1; have z5 := onB hW q1; have z6 := onB hW q2; go_simp; first | done | with_reducible rfl); simp only [Act.put, List.setIfInBounds_toArray, List.set_cons_zero, List.set_cons_succ])
      refine wpE_nil ⟨fun _ => (Below.refl _ _).drew, wpSp_nil ?_⟩
      have hbd : Below W0.heap.size W0 W0.drew := (Below.refl _ _).drew
      have bq := hb0.trans (hbd.mono hb0.size)
      have hRq := hR.below hbd hR.lt
      obtain ⟨Wq, hWqe⟩ : ∃ V, V = W0.drew := ⟨_, rfl⟩
      rw [← hWqe] at bq hRq ⊢
      clear s0 s1 s2 m0 m1 q1 q2 hWqe hbd hR hK hS hm
      have s0 := hRq.cell 0
      have s1 := hRq.cell 1
      have s2 := hRq.cell 2
      have s3 := hRq.cell 3
      have f0 := hRq.frozen 0
      have f1 := hRq.frozen 1
      have f2 := hRq.frozen 2
      have f3 := hRq.frozen 3
      go_wp2_with fail
      have rE := hRq.putd (.int .i64 0) (.slice none 0 0) (.int .i64 0) (.slice none 0 0)
      have bE := below_put4 bq (g := w.heap.size + 2) (by omega) (.int .i64 0) (.slice none 0 0) (.int .i64 0) (.slice none 0 0)
      have cX := rE.cell 0
      have cY := rE.cell 1
      have cZ := rE.cell 2
      have cW := rE.cell 3
      unfold put4 at cX cY cZ cW bE
      exact bodyPost_ret (v := .tuple #[.agg #[.int .i64 0, .slice none 0 0, .int .i64 0, .slice none 0 0], .int .i64 7]) (by simp [results, Tryd.results24, go_sem, cX, cY, cZ, cW]) rfl (RPost.err HE.out (by decide) bE)
    · obtain rfl : bg = true := by cases bg <;> simp_all
      clear hbe
      have HE : Hid (stepE C D M P 4 I J = 0) := hideC (by rw [HE1.out, ← HBG.out]; rfl)
      clear HE1 HBG
      iterate 12 (refine wpE_op (v := ?_) rfl rfl (fun W hW => ?_) ?_; rotate_left; (have z1 := onB hW s0; have z2 := onB hW s1; have z3 := onB hW s2; have z4 := onB hW m1; have z5 := onB hW q1; have z6 := onB hW q2; go_simp; first | done | with_reducible rfl); simp only [Act.put, List.setIfInBounds_toArray, List.set_cons_zero, List.set_cons_succ])
      refine wpE_nil ⟨fun _ => (Below.refl _ _).drew, wpSp_nil ?_⟩
      have hbd : Below W0.heap.size W0 W0.drew := (Below.refl _ _).drew
      have bq := hb0.trans (hbd.mono hb0.size)
      have hRq := hR.below hbd hR.lt
      have hKq := hK.below hbd hK.lt
      have hSq := hS.below hbd hS.lt
      have hmq := hm.below hbd hm.lt
      have hWq := hC0.below hbd
      obtain ⟨Wq, hWqe⟩ : ∃ V, V = W0.drew := ⟨_, rfl⟩
      rw [← hWqe] at bq hRq hKq hSq hmq hWq ⊢
      clear s0 s1 s2 m0 m1 q1 q2 hWqe hbd hR hK hS hm hC0 hg hg2
      have s0 := hSq.cell 0
      have s1 := hSq.cell 1
      have s2 := hSq.cell 2
      have m0 := hmq.cell 0
      have m1 := hmq.cell 1
      go_wp2_with fail
      refine (withr_own D B d P I J false Wq hWq.perms.ref hI hJ).mono ?_
      rintro e w4 ⟨A', c', rfl, ht, hb4⟩
      have b4 := bq.trans (hb4.mono bq.size)
      have hR4 := hRq.below hb4 hRq.lt
      have hK4 := hKq.below hb4 hKq.lt
      have hS4 := hSq.below hb4 hSq.lt
      have hm4 := hmq.below hb4 hmq.lt
      have hW4 := hWq.below hb4
      clear s0 s1 s2 m0 m1 hRq hKq hSq hmq hWq bq hb4
      have s0 := hS4.cell 0
      have k0 := hK4.cell 0
      have k1 := hK4.cell 1
      have k2 := hK4.cell 2
      have k3 := hK4.cell 3
      have m0 := hm4.cell 0
      have m1 := hm4.cell 1
      have fm0 := hm4.frozen 0
      have fm1 := hm4.frozen 1
      have r0 := hR4.cell 0
      have r1 := hR4.cell 1
      have r2 := hR4.cell 2
      have r3 := hR4.cell 3
      have f0 := hR4.frozen 0
      have f1 := hR4.frozen 1
      have f2 := hR4.frozen 2
      have f3 := hR4.frozen 3
      go_wp2_with fail
      have hm5 := hm4.putc (.int .i64 (D : Int)) (.slice A' P.length c')
      have hR5 := hR4.far2 (g' := w.heap.size + 3) (by omega) (.int .i64 (D : Int)) (.slice A' P.length c')
      have ht5 := ht.far2 hm4 (by decide) (by decide) (.int .i64 (D : Int)) (.slice A' P.length c')
      have hu5 := hW4.users.far2 hm4 (by decide) (by decide) (.int .i64 (D : Int)) (.slice A' P.length c')
      have hp5 := hW4.perms.far2 hm4 (by decide) (by decide) (.int .i64 (D : Int)) (.slice A' P.length c')
      have b5 := below_put2 b4 (g := w.heap.size + 3) (by omega) (.int .i64 (D : Int)) (.slice A' P.length c')
      have hR6 := hR5.putd (.int .i64 (C : Int)) (.slice A M.length c) (.int .i64 (D : Int)) (.slice A' P.length c')
      have ht6 := ht5.far4 hR5 (by decide) (by decide) (.int .i64 (C : Int)) (.slice A M.length c) (.int .i64 (D : Int)) (.slice A' P.length c')
      have hu6 := hu5.far4 hR5 (by decide) (by decide) (.int .i64 (C : Int)) (.slice A M.length c) (.int .i64 (D : Int)) (.slice A' P.length c')
      have hp6 := hp5.far4 hR5 (by decide) (by decide) (.int .i64 (C : Int)) (.slice A M.length c) (.int .i64 (D : Int)) (.slice A' P.length c')
      have b6 := below_put4 b5 (g := w.heap.size + 2) (by omega) (.int .i64 (C : Int)) (.slice A M.length c) (.int .i64 (D : Int)) (.slice A' P.length c')
      have cX := hR6.cell 0
      have cY := hR6.cell 1
      have cZ := hR6.cell 2
      have cW := hR6.cell 3
      unfold put4 put2 at cX cY cZ cW b6
      refine bodyPost_ret (v := .tuple #[rcfV C A M.length c D A' P.length c', .int .i64 0]) (by simp [results, Tryd.results24, go_sem, cX, cY, cZ, cW]) rfl ⟨b6, .inr ⟨HE.out, A, c, A', c', rfl, ?_⟩⟩
      have e1 : stepU C M 4 I J = M := rfl
      have e2 : stepP D P 4 I J = mat P.length D (withF P I J false) := rfl
      rw [e1, e2]
      exact ⟨hu6, ht6⟩
  · have HE : Hid (stepE C D M P 4 x y = 2) := hideC (by rw [HE0.out, if_pos (by unfold insideB; rw [decide_eq_false_iff_not]; exact hin)])
    have hout : x < 0 ∨ (¬ x < 0 ∧ (P.length : Int) ≤ x) ∨ (¬ x < 0 ∧ ¬ (P.length : Int) ≤ x ∧ y < 0) ∨ (¬ x < 0 ∧ ¬ (P.length : Int) ≤ x ∧ ¬ y < 0 ∧ (D : Int) ≤ y) := by omega
    clear hin HE0
    rcases hout with h1 | ⟨h1, h2⟩ | ⟨h1, h2, h3⟩ | ⟨h1, h2, h3, h4⟩
    all_goals
      go_wp2_with fail
      exact bodyPost_ret (v := .tuple #[.agg #[.int .i64 0, .slice none 0 0, .int .i64 0, .slice none 0 0], .int .i64 2]) (by simp [results, Tryd.results24, go_sem]) rfl (RPost.err HE.out (by decide) (((((Below.refl _ _).alloc (Nat.le_refl _) _).alloc (by simp) _).alloc (by simp; omega) _).alloc (by simp; omega) _))
theorem rapply_any (C c D d : Nat) (A B : Option Addr) (M P : List (List Bool)) (k : Nat) (x y : Int) (w : World) (h : RC w C A c D B d M P) :
    Calls Tryd.prog 24 #[rcfV C A M.length c D B P.length d, rstepV k x y] w (RPost w C D M P k x y) := by
  by_cases hk : k < 1 ∨ 4 < k
  · exact rapply_bad C c D d A B M P k x y w hk
  · have h4 : k = 1 ∨ k = 2 ∨ k = 3 ∨ k = 4 := by omega
    rcases h4 with rfl | rfl | rfl | rfl
    · exact rapply_1 C c D d A B M P x y w h
    · exact rapply_2 C c D d A B M P x y w h
    · exact rapply_3 C c D d A B M P x y w h
    · exact rapply_4 C c D d A B M P x y w h
end Go.Proofs.YthkjigggfeejdaaDoor
