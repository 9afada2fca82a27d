import Derived.Test.YthkjigggfeejdaaDoorMr6
import Derived.Test.YthkjigggfeejdaaDoorMig10
namespace Go.Proofs.YthkjigggfeejdaaDoor
open Go.RowKit

/-- Steps of the reference's with any numbers, as cells. -/
def cellsQ (l : List (Nat × Int × Int)) : List Value := l.flatMap fun s => [.int .i64 (s.1 : Int), .int .i64 s.2.1, .int .i64 s.2.2]
theorem cellsQ_len (l : List (Nat × Int × Int)) : (cellsQ l).length = l.length * 3 := by
  induction l with
  | nil => rfl
  | cons s l ih => have : cellsQ (s :: l) = [.int .i64 (s.1 : Int), .int .i64 s.2.1, .int .i64 s.2.2] ++ cellsQ l := rfl
                   rw [this, List.length_append, ih]; simp; omega
theorem cellsQ_get : ∀ (l : List (Nat × Int × Int)) (k : Nat) s, l[k]? = some s → (cellsQ l)[k * 3]? = some (.int .i64 (s.1 : Int)) ∧ (cellsQ l)[k * 3 + 1]? = some (.int .i64 s.2.1) ∧ (cellsQ l)[k * 3 + 2]? = some (.int .i64 s.2.2)
  | [], _, _, h => by simp at h
  | a :: l, 0, s, h => by
    simp at h; subst h
    exact ⟨rfl, rfl, rfl⟩
  | a :: l, k + 1, s, h => by
    have e : cellsQ (a :: l) = [.int .i64 (a.1 : Int), .int .i64 a.2.1, .int .i64 a.2.2] ++ cellsQ l := rfl
    have h2 : l[k]? = some s := by simpa using h
    obtain ⟨h0, h1, h3⟩ := cellsQ_get l k s h2
    rw [e]
    refine ⟨?_, ?_, ?_⟩
    · rw [List.getElem?_append_right (by simp; omega)]; rw [← h0]; congr 1; simp; omega
    · rw [List.getElem?_append_right (by simp; omega)]; rw [← h1]; congr 1; simp; omega
    · rw [List.getElem?_append_right (by simp; omega)]; rw [← h3]; congr 1; simp; omega
theorem IsRef.wide {w : World} {C : Nat} {A : Option Addr} {M : List (List Bool)} (h : IsRef w C A M) : Wide C M := fun r hr => by
  obtain ⟨i, hi⟩ := List.getElem?_of_mem hr
  obtain ⟨_, _, vs, _, _, h5⟩ := h
  exact (h5 i r hi).1
theorem withinB_sub {D : Nat} {M P : List (List Bool)} (hl : M.length = P.length) : withinB D D M P = decide (subM D M P) := by
  unfold withinB
  rw [Bool.eq_iff_iff, decide_eq_true_eq, decide_eq_true_eq]
  exact ⟨fun h => h.2, fun h => ⟨⟨hl, rfl⟩, h⟩⟩
theorem sameB_eq {D : Nat} {M P : List (List Bool)} (hM : Wide D M) (hP : Wide D P) (hl : M.length = P.length) : sameB D D M P = decide (M = P) := by
  unfold sameB
  rw [withinB_sub hl, withinB_sub hl.symm, Bool.eq_iff_iff, Bool.and_eq_true, decide_eq_true_eq, decide_eq_true_eq, decide_eq_true_eq]
  constructor
  · rintro ⟨h1, h2⟩; exact sub_anti hM hP hl h1 h2
  · rintro rfl; exact ⟨fun i hi j hj h => h, fun i hi j hj h => h⟩
theorem RC.far2 {W : World} {C c D d : Nat} {A B : Option Addr} {M P : List (List Bool)} (h : RC W C A c D B d M P) {b : Nat} {cs : Array Value} (hB : Blk W b 28 cs) (x y : Value) : RC (put2 W b x y) C A c D B d M P :=
  ⟨h.users.far2 hB (by decide) (by decide) x y, h.perms.far2 hB (by decide) (by decide) x y⟩
/-- Two configurations in variables. -/
structure V0 (w W : World) (X8 X9 n D Ul : Nat) (Ac : Option Addr) (cc : Nat) (Bc : Option Addr) (dc : Nat) (U P : List (List Bool)) (Ae : Option Addr) (ce : Nat) (Be : Option Addr) (de : Nat) (EU EP : List (List Bool)) : Prop where
  cur : RC W n Ac cc D Bc dc U P
  cell : Blk W X8 31 #[.int .i64 (n : Int), .slice Ac Ul cc, .int .i64 (D : Int), .slice Bc n dc]
  fin : RC W n Ae ce D Be de EU EP
  cellE : Blk W X9 31 #[.int .i64 (n : Int), .slice Ae Ul ce, .int .i64 (D : Int), .slice Be n de]
  ne : X8 ≠ X9
  above : w.heap.size ≤ X8
  lenU : U.length = Ul
  lenP : P.length = n
  lenEU : EU.length = Ul
  lenEP : EP.length = n
  below : Below w.heap.size w W
/-- Two matrices in variables. -/
structure VB (W : World) (g5 g6 D Ul : Nat) (Ab : Option Addr) (cb : Nat) (Aa : Option Addr) (ca : Nat) (X Y : List (List Bool)) : Prop where
  cB : Blk W g5 28 #[.int .i64 (D : Int), .slice Ab Ul cb]
  cA : Blk W g6 28 #[.int .i64 (D : Int), .slice Aa Ul ca]
  tX : TRef W D Ab cb X
  tY : TRef W D Aa ca Y
section
variable {w W W' : World} {X8 X9 n D Ul : Nat} {Ac : Option Addr} {cc : Nat} {Bc : Option Addr} {dc : Nat} {U P : List (List Bool)} {Ae : Option Addr} {ce : Nat} {Be : Option Addr} {de : Nat} {EU EP : List (List Bool)}
theorem V0.next (h : V0 w W X8 X9 n D Ul Ac cc Bc dc U P Ae ce Be de EU EP) (hb : Below W.heap.size W W') : V0 w W' X8 X9 n D Ul Ac cc Bc dc U P Ae ce Be de EU EP :=
  ⟨h.cur.below hb, h.cell.below hb h.cell.lt, h.fin.below hb, h.cellE.below hb h.cellE.lt, h.ne, h.above, h.lenU, h.lenP, h.lenEU, h.lenEP, h.below.trans (hb.mono h.below.size)⟩
theorem V0.far2 (h : V0 w W X8 X9 n D Ul Ac cc Bc dc U P Ae ce Be de EU EP) {b : Nat} {cs : Array Value} (hB : Blk W b 28 cs) (hb : w.heap.size ≤ b) (x y : Value) : V0 w (put2 W b x y) X8 X9 n D Ul Ac cc Bc dc U P Ae ce Be de EU EP :=
  ⟨h.cur.far2 hB x y, h.cell.far2 (h.cell.ne_ hB (by decide)) x y, h.fin.far2 hB x y, h.cellE.far2 (h.cellE.ne_ hB (by decide)) x y, h.ne, h.above, h.lenU, h.lenP, h.lenEU, h.lenEP, below_put2 h.below hb x y⟩
theorem V0.put (h : V0 w W X8 X9 n D Ul Ac cc Bc dc U P Ae ce Be de EU EP) {Ac' : Option Addr} {cc' : Nat} {Bc' : Option Addr} {dc' : Nat} {U' P' : List (List Bool)} (hc : RC W n Ac' cc' D Bc' dc' U' P') (l1 : U'.length = Ul) (l2 : P'.length = n) :
    V0 w (put4 W X8 (.int .i64 (n : Int)) (.slice Ac' Ul cc') (.int .i64 (D : Int)) (.slice Bc' n dc')) X8 X9 n D Ul Ac' cc' Bc' dc' U' P' Ae ce Be de EU EP :=
  ⟨hc.far4 h.cell _ _ _ _, h.cell.putd _ _ _ _, h.fin.far4 h.cell _ _ _ _, h.cellE.far4 (fun e => h.ne e.symm) _ _ _ _, h.ne, h.above, l1, l2, h.lenEU, h.lenEP, below_put4 h.below h.above _ _ _ _⟩
variable {g5 g6 : Nat} {Ab : Option Addr} {cb : Nat} {Aa : Option Addr} {ca : Nat} {X Y : List (List Bool)}
theorem VB.next (h : VB W g5 g6 D Ul Ab cb Aa ca X Y) (hb : Below W.heap.size W W') : VB W' g5 g6 D Ul Ab cb Aa ca X Y := ⟨h.cB.below hb h.cB.lt, h.cA.below hb h.cA.lt, h.tX.below hb, h.tY.below hb⟩
theorem VB.far4 (h : VB W g5 g6 D Ul Ab cb Aa ca X Y) {b : Nat} {cs : Array Value} (hB : Blk W b 31 cs) (x y z v : Value) : VB (put4 W b x y z v) g5 g6 D Ul Ab cb Aa ca X Y :=
  ⟨h.cB.far4 (h.cB.ne_ hB (by decide)) x y z v, h.cA.far4 (h.cA.ne_ hB (by decide)) x y z v, h.tX.far4 hB (by decide) (by decide) x y z v, h.tY.far4 hB (by decide) (by decide) x y z v⟩
end
/-- What the reference's Verify leaves. -/
def rvPost (w : World) (r : Nat × Nat) (e : Ending) (w' : World) : Prop := e = .returned (.tuple #[.int .i64 r.1, .int .i64 r.2]) ∧ Below w.heap.size w w'
theorem rvPost_intro {w w' : World} {r : Nat × Nat} {a b : Nat} (h : r = (a, b)) (hb : Below w.heap.size w w') : rvPost w r (.returned (.tuple #[.int .i64 a, .int .i64 b])) w' := by
  subst h; exact ⟨rfl, hb⟩
set_option maxRecDepth 100000 in
set_option maxHeartbeats 20000000 in
theorem rverify_any (C c D d C' c' d' : Nat) (A B A' B' : Option Addr) (M P M' P' : List (List Bool)) (AL : Option Addr) (cL : Nat) (l : List (Nat × Int × Int)) (w : World) (hU : IsRef w C A M) (hP : IsRef w D B P) (hU' : IsRef w C' A' M') (hP' : IsRef w D B' P') (hC : C = P.length) (hC' : C' = P'.length) (hl : M.length = M'.length) (hn : jn P P' ≤ 4096)
    (hr : Row w AL (cellsQ l)) (hL : l.length ≤ maxLen) :
    Calls Tryd.prog 33 #[rcfV C A M.length c D B P.length d, rcfV C' A' M'.length c' D B' P'.length d', .slice AL l.length cL] w (rvPost w (verJ D M P M' P' l)) := by
  unfold maxLen at hL
  have HJ : ∀ W, Below w.heap.size w W → _ := fun W hW => rjoint_any C c D d C' c' d' A B A' B' M P M' P' W (hU.below hW) (hP.below hW) (hU'.below hW) (hP'.below hW) hC hC' hn
  have hUl : (jU (jn P P') (List.range P.length) M).length = M.length := by rw [jU, mat_len]
  have hUl' : (jU (jn P P') (jl P P') M').length = M.length := by rw [jU, mat_len, hl]
  have hPl : (jP (jn P P') D (List.range P.length) P).length = jn P P' := by rw [jP, mat_len]
  have hPl' : (jP (jn P P') D (jl P P') P').length = jn P P' := by rw [jP, mat_len]
  rw [← hl] at HJ
  rw [← hl]
  unfold verJ
  obtain ⟨n, hnn⟩ : ∃ n, n = jn P P' := ⟨_, rfl⟩
  rw [← hnn] at HJ hUl hUl' hPl hPl' hn ⊢
  obtain ⟨Ua, hUa⟩ : ∃ X, X = jU n (List.range P.length) M := ⟨_, rfl⟩
  obtain ⟨Pa, hPa⟩ : ∃ X, X = jP n D (List.range P.length) P := ⟨_, rfl⟩
  obtain ⟨Ub, hUb⟩ : ∃ X, X = jU n (jl P P') M' := ⟨_, rfl⟩
  obtain ⟨Pb, hPb⟩ : ∃ X, X = jP n D (jl P P') P' := ⟨_, rfl⟩
  rw [← hUa] at HJ hUl ⊢
  rw [← hPa] at HJ hPl ⊢
  rw [← hUb] at HJ hUl' ⊢
  rw [← hPb] at HJ hPl' ⊢
  have HJ := hideC HJ
  obtain ⟨Ul, hUL⟩ : ∃ X, X = M.length := ⟨_, rfl⟩
  rw [← hUL] at HJ hUl hUl' ⊢
  have HULe := Lib.hid hUL
  obtain ⟨X, hX⟩ : ∃ X, X = accM n D Ua Pa := ⟨_, rfl⟩
  obtain ⟨Y, hY⟩ : ∃ X, X = accM n D Ub Pb := ⟨_, rfl⟩
  have hXl : X.length = Ul := by rw [hX, accM_len, hUl]
  have hYl : Y.length = Ul := by rw [hY, accM_len, hUl']
  have HA1 : Hid (∀ (A : Option Addr) (c : Nat) (B : Option Addr) (d : Nat) (W : World), RC W n A c D B d Ua Pa → Calls Tryd.prog 20 #[rcfV n A Ul c D B n d] W fun e w' => ∃ A' c', e = .returned (refV D A' Ul c') ∧ TRef w' D A' c' X ∧ Below W.heap.size W w') := hideC fun A c B d W h => by
    have := raccess_own n c D d A B Ua Pa W h hPl.symm
    rwa [hUl, hPl, ← hX] at this
  have HA2 : Hid (∀ (A : Option Addr) (c : Nat) (B : Option Addr) (d : Nat) (W : World), RC W n A c D B d Ub Pb → Calls Tryd.prog 20 #[rcfV n A Ul c D B n d] W fun e w' => ∃ A' c', e = .returned (refV D A' Ul c') ∧ TRef w' D A' c' Y ∧ Below W.heap.size W w') := hideC fun A c B d W h => by
    have := raccess_own n c D d A B Ub Pb W h hPl'.symm
    rwa [hUl', hPl', ← hY] at this
  unfold verOf
  rw [← hX, ← hY]
  have hHm : mat Ua.length D (orF X Y) = mat X.length D (orF X Y) := by rw [hUl, hXl]
  have hLm : mat Ua.length D (andF X Y) = mat X.length D (andF X Y) := by rw [hUl, hXl]
  rw [hHm, hLm]
  obtain ⟨Hm, hHm2⟩ : ∃ Z, Z = mat X.length D (orF X Y) := ⟨_, rfl⟩
  obtain ⟨Lm, hLm2⟩ : ∃ Z, Z = mat X.length D (andF X Y) := ⟨_, rfl⟩
  have HOR : Hid (∀ (A B : Option Addr) (c d : Nat) (W : World), IsRef W D A X → IsRef W D B Y → Calls Tryd.prog 64 #[refV D A Ul c, refV D B Ul d] W fun e w' => ∃ A' c', e = .returned (refV D A' Ul c') ∧ IsRef w' D A' Hm ∧ Below W.heap.size W w') := hideC fun A B c d W h1 h2 => by
    have := orr_any D A B c d X Y W h1 h2 (hXl.trans hYl.symm)
    rw [← hHm2] at this
    rwa [hXl, hYl] at this
  have HAND : Hid (∀ (A B : Option Addr) (c d : Nat) (W : World), IsRef W D A X → IsRef W D B Y → Calls Tryd.prog 65 #[refV D A Ul c, refV D B Ul d] W fun e w' => ∃ A' c', e = .returned (refV D A' Ul c') ∧ IsRef w' D A' Lm ∧ Below W.heap.size W w') := hideC fun A B c d W h1 h2 => by
    have := andr_any D A B c d X Y W h1 h2 (hXl.trans hYl.symm)
    rw [← hLm2] at this
    rwa [hXl, hYl] at this
  rw [← hHm2, ← hLm2]
  obtain ⟨res, hres⟩ : ∃ r, r = verR n D Hm Lm Ub Pb 0 l Ua Pa := ⟨_, rfl⟩
  rw [← hres]
  have HRES := Lib.hid hres.symm
  have HHm := Lib.hid (show Hm.length = Ul by rw [hHm2, mat_len, hXl])
  have HLm := Lib.hid (show Lm.length = Ul by rw [hLm2, mat_len, hXl])
  have HU := Lib.hid hUl
  have HU' := Lib.hid hUl'
  have HP := Lib.hid hPl
  have HP' := Lib.hid hPl'
  clear hUa hPa hUb hPb hUl hUl' hPl hPl' hnn hl hHm hLm hHm2 hLm2 hres hX hY hXl hYl hC hC' hUL
  go_enter Tryd.func33, Tryd.ntmps33
  go_wp2_with fail
  refine absC2 fun W0 hA hB hbel0 hz => ?_
  refine (HJ.out W0 hbel0).mono ?_
  rintro e w1 ⟨A1, c1, B1, d1, A2, c2, B2, d2, rfl, hca, hcb, hb1⟩
  have bel1 := hbel0.trans (hb1.mono hbel0.size)
  clear hA hB hz hb1 hbel0
  go_wp2_with fail
  refine abs2 fun W2 hXx hYy hb2 hz => ?_
  have bel2 := bel1.trans (hb2.mono bel1.size)
  have j : V0 w W2 w1.heap.size (w1.heap.size + 1) n D Ul A1 c1 B1 d1 Ua Pa A2 c2 B2 d2 Ub Pb := ⟨hca.below hb2, hXx, hcb.below hb2, hYy, by omega, bel1.size, HU.out, HP.out, HU'.out, HP'.out, bel2⟩
  obtain ⟨X8, hX8⟩ : ∃ x, x = w1.heap.size := ⟨_, rfl⟩
  rw [← hX8] at j ⊢
  clear hz hca hcb hb2 hXx hYy bel1 bel2 hX8
  go_upto_region 3 with fail
  go_cut [10, 11] (fun s10 s11 wx => ∃ g5 g6 Ab cb Aa ca, s10 = ptr g5 ∧ s11 = ptr g6 ∧ V0 w wx X8 (X8 + 1) n D Ul A1 c1 B1 d1 Ua Pa A2 c2 B2 d2 Ub Pb ∧ VB wx g5 g6 D Ul Ab cb Aa ca X Y)
  case first =>
    have x0 := j.cell.cell 0
    have x1 := j.cell.cell 1
    have x2 := j.cell.cell 2
    have x3 := j.cell.cell 3
    have y0 := j.cellE.cell 0
    have y1 := j.cellE.cell 1
    have y2 := j.cellE.cell 2
    have y3 := j.cellE.cell 3
    have hbq : Below W2.heap.size W2 W2.drew := (Below.refl _ _).drew
    replace j := j.next hbq
    obtain ⟨wq, hwq⟩ : ∃ V, V = W2.drew := ⟨_, rfl⟩
    rw [← hwq] at hbq j
    refine wp_mix (fun V => Below W2.heap.size W2 V) 8 (by kernel_rfl) (by kernel_rfl) (Below.refl _ _).drew ?_
    rw [← hwq]
    clear hwq
    (refine m_q 0 (v := ?_) (by kernel_rfl) rfl rfl (fun W hW => ?_) ?_; rotate_left; (have z0 := onB hW x0; have z1 := onB hW x1; have z2 := onB hW x2; have z3 := onB hW x3; have u0 := onB hW y0; have u1 := onB hW y1; have u2 := onB hW y2; have u3 := onB hW y3; go_simp; first | done | with_reducible rfl); simp only [Act.put, List.setIfInBounds_toArray, List.set_cons_zero, List.set_cons_succ]); (refine m_q 2 (v := ?_) (by kernel_rfl) rfl rfl (fun W hW => ?_) ?_; rotate_left; (have z0 := onB hW x0; have z1 := onB hW x1; have z2 := onB hW x2; have z3 := onB hW x3; have u0 := onB hW y0; have u1 := onB hW y1; have u2 := onB hW y2; have u3 := onB hW y3; go_simp; first | done | with_reducible rfl); simp only [Act.put, List.setIfInBounds_toArray, List.set_cons_zero, List.set_cons_succ])
    clear x0 x1 x2 x3 y0 y1 y2 y3
    refine m_s3 1 4 5 (by kernel_rfl) rfl rfl rfl ?_ ?_ ?_
    · go_wp2_with fail
      refine (HA1.out _ _ _ _ wq j.cur).mono ?_
      rintro e wk1 ⟨A1, k1, rfl, ho1, hb⟩
      replace j := j.next hb
      go_wp2_with fail
      refine m_next (by first | exact hb | exact hbq.trans (hb.mono hbq.size)) ?_
      clear hb
      refine m_s3 3 4 5 (by kernel_rfl) rfl rfl rfl ?_ ?_ ?_
      · go_wp2_with fail
        refine (HA2.out _ _ _ _ wk1 j.fin).mono ?_
        rintro e wk2 ⟨A2, k2, rfl, ho2, hb⟩
        replace j := j.next hb; replace ho1 := ho1.below hb
        go_wp2_with fail
        refine m_next (by first | exact hb | exact hbq.trans (hb.mono hbq.size)) ?_
        clear hb
        refine m_s2 4 5 (by kernel_rfl) rfl rfl ?_ ?_
        · go_wp2_with fail
          have hg5 := j.below.size
          refine absN fun wk3 hB5 hb hzq => ?_
          clear hzq
          replace j := j.next hb; replace ho1 := ho1.below hb; replace ho2 := ho2.below hb
          refine m_next (by first | exact hb | exact hbq.trans (hb.mono hbq.size)) ?_
          generalize wk2.heap.size = g5 at hB5 hg5 ⊢
          clear hb
          refine m_s1 5 (by kernel_rfl) rfl ?_
          go_wp2_with fail
          have hg6 := j.below.size
          have hne := Nat.ne_of_lt hB5.lt
          refine absN fun wk4 hB6 hb hzq => ?_
          clear hzq
          replace j := j.next hb; replace ho1 := ho1.below hb; replace ho2 := ho2.below hb; replace hB5 := hB5.below hb hB5.lt
          refine m_next (by first | exact hb | exact hbq.trans (hb.mono hbq.size)) ?_
          generalize wk3.heap.size = g6 at hB6 hg6 hne ⊢
          clear hb
          have e0 := hB5.cell 0; have e1 := hB5.cell 1; have f0 := hB5.frozen 0; have f1 := hB5.frozen 1
          have P5 := hB5.putc (.int .i64 (D : Int)) (.slice A1 Ul k1)
          have P6 := hB6.far2 (Ne.symm hne) (.int .i64 (D : Int)) (.slice A1 Ul k1)
          have O1 := ho1.far2 hB5 (by decide) (by decide) (.int .i64 (D : Int)) (.slice A1 Ul k1)
          have O2 := ho2.far2 hB5 (by decide) (by decide) (.int .i64 (D : Int)) (.slice A1 Ul k1)
          have J := j.far2 hB5 hg5 (.int .i64 (D : Int)) (.slice A1 Ul k1)
          clear hB5 hB6 ho1 ho2 j
          refine m_s1 6 (by kernel_rfl) rfl ?_
          go_wp2_with fail
          refine m_clear (W := put2 wk4 g5 (.int .i64 (D : Int)) (.slice A1 Ul k1)) (by kernel_rfl) ?_
          obtain ⟨W7, hW7⟩ : ∃ W7, W7 = put2 wk4 g5 (.int .i64 (D : Int)) (.slice A1 Ul k1) := ⟨_, rfl⟩
          rw [← hW7] at P5 P6 O1 O2 J ⊢; clear hW7 e0 e1 f0 f1
          have e0 := P6.cell 0; have e1 := P6.cell 1; have f0 := P6.frozen 0; have f1 := P6.frozen 1
          have R6 := P6.putc (.int .i64 (D : Int)) (.slice A2 Ul k2)
          have R5 := P5.far2 hne (.int .i64 (D : Int)) (.slice A2 Ul k2)
          have X1 := O1.far2 P6 (by decide) (by decide) (.int .i64 (D : Int)) (.slice A2 Ul k2)
          have X2 := O2.far2 P6 (by decide) (by decide) (.int .i64 (D : Int)) (.slice A2 Ul k2)
          have XJ := J.far2 P6 hg6 (.int .i64 (D : Int)) (.slice A2 Ul k2)
          clear P5 P6 O1 O2 J
          refine m_s1 7 (by kernel_rfl) rfl ?_
          go_wp2_with fail
          refine m_clear (W := put2 W7 g6 (.int .i64 (D : Int)) (.slice A2 Ul k2)) (by kernel_rfl) ?_
          refine m_end (by kernel_rfl) ?_
          go_wp2_with fail
          go_meet
          exact ⟨_, _, A1, k1, A2, k2, rfl, rfl, XJ, ⟨R5, R6, X1, X2⟩⟩
        · go_wp2_with fail
          have hg6 := j.below.size
          refine absN fun wk5 hB6 hb hzq => ?_
          clear hzq
          replace j := j.next hb; replace ho1 := ho1.below hb; replace ho2 := ho2.below hb
          refine m_next (by first | exact hb | exact hbq.trans (hb.mono hbq.size)) ?_
          generalize wk2.heap.size = g6 at hB6 hg6 ⊢
          clear hb
          refine m_s1 4 (by kernel_rfl) rfl ?_
          go_wp2_with fail
          have hg5 := j.below.size
          have hne := Nat.ne_of_gt hB6.lt
          refine absN fun wk6 hB5 hb hzq => ?_
          clear hzq
          replace j := j.next hb; replace ho1 := ho1.below hb; replace ho2 := ho2.below hb; replace hB6 := hB6.below hb hB6.lt
          refine m_next (by first | exact hb | exact hbq.trans (hb.mono hbq.size)) ?_
          generalize wk5.heap.size = g5 at hB5 hg5 hne ⊢
          clear hb
          have e0 := hB5.cell 0; have e1 := hB5.cell 1; have f0 := hB5.frozen 0; have f1 := hB5.frozen 1
          have P5 := hB5.putc (.int .i64 (D : Int)) (.slice A1 Ul k1)
          have P6 := hB6.far2 (Ne.symm hne) (.int .i64 (D : Int)) (.slice A1 Ul k1)
          have O1 := ho1.far2 hB5 (by decide) (by decide) (.int .i64 (D : Int)) (.slice A1 Ul k1)
          have O2 := ho2.far2 hB5 (by decide) (by decide) (.int .i64 (D : Int)) (.slice A1 Ul k1)
          have J := j.far2 hB5 hg5 (.int .i64 (D : Int)) (.slice A1 Ul k1)
          clear hB5 hB6 ho1 ho2 j
          refine m_s1 6 (by kernel_rfl) rfl ?_
          go_wp2_with fail
          refine m_clear (W := put2 wk6 g5 (.int .i64 (D : Int)) (.slice A1 Ul k1)) (by kernel_rfl) ?_
          obtain ⟨W7, hW7⟩ : ∃ W7, W7 = put2 wk6 g5 (.int .i64 (D : Int)) (.slice A1 Ul k1) := ⟨_, rfl⟩
          rw [← hW7] at P5 P6 O1 O2 J ⊢; clear hW7 e0 e1 f0 f1
          have e0 := P6.cell 0; have e1 := P6.cell 1; have f0 := P6.frozen 0; have f1 := P6.frozen 1
          have R6 := P6.putc (.int .i64 (D : Int)) (.slice A2 Ul k2)
          have R5 := P5.far2 hne (.int .i64 (D : Int)) (.slice A2 Ul k2)
          have X1 := O1.far2 P6 (by decide) (by decide) (.int .i64 (D : Int)) (.slice A2 Ul k2)
          have X2 := O2.far2 P6 (by decide) (by decide) (.int .i64 (D : Int)) (.slice A2 Ul k2)
          have XJ := J.far2 P6 hg6 (.int .i64 (D : Int)) (.slice A2 Ul k2)
          clear P5 P6 O1 O2 J
          refine m_s1 7 (by kernel_rfl) rfl ?_
          go_wp2_with fail
          refine m_clear (W := put2 W7 g6 (.int .i64 (D : Int)) (.slice A2 Ul k2)) (by kernel_rfl) ?_
          refine m_end (by kernel_rfl) ?_
          go_wp2_with fail
          go_meet
          exact ⟨_, _, A1, k1, A2, k2, rfl, rfl, XJ, ⟨R5, R6, X1, X2⟩⟩
      · go_wp2_with fail
        have hg5 := j.below.size
        refine absN fun wk7 hB5 hb hzq => ?_
        clear hzq
        replace j := j.next hb; replace ho1 := ho1.below hb
        refine m_next (by first | exact hb | exact hbq.trans (hb.mono hbq.size)) ?_
        generalize wk1.heap.size = g5 at hB5 hg5 ⊢
        clear hb
        refine m_s2 3 5 (by kernel_rfl) rfl rfl ?_ ?_
        · go_wp2_with fail
          refine (HA2.out _ _ _ _ wk7 j.fin).mono ?_
          rintro e wk8 ⟨A2, k2, rfl, ho2, hb⟩
          replace j := j.next hb; replace ho1 := ho1.below hb; replace hB5 := hB5.below hb hB5.lt
          go_wp2_with fail
          refine m_next (by first | exact hb | exact hbq.trans (hb.mono hbq.size)) ?_
          clear hb
          refine m_s1 5 (by kernel_rfl) rfl ?_
          go_wp2_with fail
          have hg6 := j.below.size
          have hne := Nat.ne_of_lt hB5.lt
          refine absN fun wk9 hB6 hb hzq => ?_
          clear hzq
          replace j := j.next hb; replace ho1 := ho1.below hb; replace ho2 := ho2.below hb; replace hB5 := hB5.below hb hB5.lt
          refine m_next (by first | exact hb | exact hbq.trans (hb.mono hbq.size)) ?_
          generalize wk8.heap.size = g6 at hB6 hg6 hne ⊢
          clear hb
          have e0 := hB5.cell 0; have e1 := hB5.cell 1; have f0 := hB5.frozen 0; have f1 := hB5.frozen 1
          have P5 := hB5.putc (.int .i64 (D : Int)) (.slice A1 Ul k1)
          have P6 := hB6.far2 (Ne.symm hne) (.int .i64 (D : Int)) (.slice A1 Ul k1)
          have O1 := ho1.far2 hB5 (by decide) (by decide) (.int .i64 (D : Int)) (.slice A1 Ul k1)
          have O2 := ho2.far2 hB5 (by decide) (by decide) (.int .i64 (D : Int)) (.slice A1 Ul k1)
          have J := j.far2 hB5 hg5 (.int .i64 (D : Int)) (.slice A1 Ul k1)
          clear hB5 hB6 ho1 ho2 j
          refine m_s1 6 (by kernel_rfl) rfl ?_
          go_wp2_with fail
          refine m_clear (W := put2 wk9 g5 (.int .i64 (D : Int)) (.slice A1 Ul k1)) (by kernel_rfl) ?_
          obtain ⟨W7, hW7⟩ : ∃ W7, W7 = put2 wk9 g5 (.int .i64 (D : Int)) (.slice A1 Ul k1) := ⟨_, rfl⟩
          rw [← hW7] at P5 P6 O1 O2 J ⊢; clear hW7 e0 e1 f0 f1
          have e0 := P6.cell 0; have e1 := P6.cell 1; have f0 := P6.frozen 0; have f1 := P6.frozen 1
          have R6 := P6.putc (.int .i64 (D : Int)) (.slice A2 Ul k2)
          have R5 := P5.far2 hne (.int .i64 (D : Int)) (.slice A2 Ul k2)
          have X1 := O1.far2 P6 (by decide) (by decide) (.int .i64 (D : Int)) (.slice A2 Ul k2)
          have X2 := O2.far2 P6 (by decide) (by decide) (.int .i64 (D : Int)) (.slice A2 Ul k2)
          have XJ := J.far2 P6 hg6 (.int .i64 (D : Int)) (.slice A2 Ul k2)
          clear P5 P6 O1 O2 J
          refine m_s1 7 (by kernel_rfl) rfl ?_
          go_wp2_with fail
          refine m_clear (W := put2 W7 g6 (.int .i64 (D : Int)) (.slice A2 Ul k2)) (by kernel_rfl) ?_
          refine m_end (by kernel_rfl) ?_
          go_wp2_with fail
          go_meet
          exact ⟨_, _, A1, k1, A2, k2, rfl, rfl, XJ, ⟨R5, R6, X1, X2⟩⟩
        · go_wp2_with fail
          have hg6 := j.below.size
          have hne := Nat.ne_of_lt hB5.lt
          refine absN fun wk10 hB6 hb hzq => ?_
          clear hzq
          replace j := j.next hb; replace ho1 := ho1.below hb; replace hB5 := hB5.below hb hB5.lt
          refine m_next (by first | exact hb | exact hbq.trans (hb.mono hbq.size)) ?_
          generalize wk7.heap.size = g6 at hB6 hg6 hne ⊢
          clear hb
          refine m_s1 3 (by kernel_rfl) rfl ?_
          go_wp2_with fail
          refine (HA2.out _ _ _ _ wk10 j.fin).mono ?_
          rintro e wk11 ⟨A2, k2, rfl, ho2, hb⟩
          replace j := j.next hb; replace ho1 := ho1.below hb; replace hB5 := hB5.below hb hB5.lt; replace hB6 := hB6.below hb hB6.lt
          go_wp2_with fail
          refine m_next (by first | exact hb | exact hbq.trans (hb.mono hbq.size)) ?_
          clear hb
          have e0 := hB5.cell 0; have e1 := hB5.cell 1; have f0 := hB5.frozen 0; have f1 := hB5.frozen 1
          have P5 := hB5.putc (.int .i64 (D : Int)) (.slice A1 Ul k1)
          have P6 := hB6.far2 (Ne.symm hne) (.int .i64 (D : Int)) (.slice A1 Ul k1)
          have O1 := ho1.far2 hB5 (by decide) (by decide) (.int .i64 (D : Int)) (.slice A1 Ul k1)
          have O2 := ho2.far2 hB5 (by decide) (by decide) (.int .i64 (D : Int)) (.slice A1 Ul k1)
          have J := j.far2 hB5 hg5 (.int .i64 (D : Int)) (.slice A1 Ul k1)
          clear hB5 hB6 ho1 ho2 j
          refine m_s1 6 (by kernel_rfl) rfl ?_
          go_wp2_with fail
          refine m_clear (W := put2 wk11 g5 (.int .i64 (D : Int)) (.slice A1 Ul k1)) (by kernel_rfl) ?_
          obtain ⟨W7, hW7⟩ : ∃ W7, W7 = put2 wk11 g5 (.int .i64 (D : Int)) (.slice A1 Ul k1) := ⟨_, rfl⟩
          rw [← hW7] at P5 P6 O1 O2 J ⊢; clear hW7 e0 e1 f0 f1
          have e0 := P6.cell 0; have e1 := P6.cell 1; have f0 := P6.frozen 0; have f1 := P6.frozen 1
          have R6 := P6.putc (.int .i64 (D : Int)) (.slice A2 Ul k2)
          have R5 := P5.far2 hne (.int .i64 (D : Int)) (.slice A2 Ul k2)
          have X1 := O1.far2 P6 (by decide) (by decide) (.int .i64 (D : Int)) (.slice A2 Ul k2)
          have X2 := O2.far2 P6 (by decide) (by decide) (.int .i64 (D : Int)) (.slice A2 Ul k2)
          have XJ := J.far2 P6 hg6 (.int .i64 (D : Int)) (.slice A2 Ul k2)
          clear P5 P6 O1 O2 J
          refine m_s1 7 (by kernel_rfl) rfl ?_
          go_wp2_with fail
          refine m_clear (W := put2 W7 g6 (.int .i64 (D : Int)) (.slice A2 Ul k2)) (by kernel_rfl) ?_
          refine m_end (by kernel_rfl) ?_
          go_wp2_with fail
          go_meet
          exact ⟨_, _, A1, k1, A2, k2, rfl, rfl, XJ, ⟨R5, R6, X1, X2⟩⟩
      · go_wp2_with fail
        have hg6 := j.below.size
        refine absN fun wk12 hB6 hb hzq => ?_
        clear hzq
        replace j := j.next hb; replace ho1 := ho1.below hb
        refine m_next (by first | exact hb | exact hbq.trans (hb.mono hbq.size)) ?_
        generalize wk1.heap.size = g6 at hB6 hg6 ⊢
        clear hb
        refine m_s2 3 4 (by kernel_rfl) rfl rfl ?_ ?_
        · go_wp2_with fail
          refine (HA2.out _ _ _ _ wk12 j.fin).mono ?_
          rintro e wk13 ⟨A2, k2, rfl, ho2, hb⟩
          replace j := j.next hb; replace ho1 := ho1.below hb; replace hB6 := hB6.below hb hB6.lt
          go_wp2_with fail
          refine m_next (by first | exact hb | exact hbq.trans (hb.mono hbq.size)) ?_
          clear hb
          refine m_s1 4 (by kernel_rfl) rfl ?_
          go_wp2_with fail
          have hg5 := j.below.size
          have hne := Nat.ne_of_gt hB6.lt
          refine absN fun wk14 hB5 hb hzq => ?_
          clear hzq
          replace j := j.next hb; replace ho1 := ho1.below hb; replace ho2 := ho2.below hb; replace hB6 := hB6.below hb hB6.lt
          refine m_next (by first | exact hb | exact hbq.trans (hb.mono hbq.size)) ?_
          generalize wk13.heap.size = g5 at hB5 hg5 hne ⊢
          clear hb
          have e0 := hB5.cell 0; have e1 := hB5.cell 1; have f0 := hB5.frozen 0; have f1 := hB5.frozen 1
          have P5 := hB5.putc (.int .i64 (D : Int)) (.slice A1 Ul k1)
          have P6 := hB6.far2 (Ne.symm hne) (.int .i64 (D : Int)) (.slice A1 Ul k1)
          have O1 := ho1.far2 hB5 (by decide) (by decide) (.int .i64 (D : Int)) (.slice A1 Ul k1)
          have O2 := ho2.far2 hB5 (by decide) (by decide) (.int .i64 (D : Int)) (.slice A1 Ul k1)
          have J := j.far2 hB5 hg5 (.int .i64 (D : Int)) (.slice A1 Ul k1)
          clear hB5 hB6 ho1 ho2 j
          refine m_s1 6 (by kernel_rfl) rfl ?_
          go_wp2_with fail
          refine m_clear (W := put2 wk14 g5 (.int .i64 (D : Int)) (.slice A1 Ul k1)) (by kernel_rfl) ?_
          obtain ⟨W7, hW7⟩ : ∃ W7, W7 = put2 wk14 g5 (.int .i64 (D : Int)) (.slice A1 Ul k1) := ⟨_, rfl⟩
          rw [← hW7] at P5 P6 O1 O2 J ⊢; clear hW7 e0 e1 f0 f1
          have e0 := P6.cell 0; have e1 := P6.cell 1; have f0 := P6.frozen 0; have f1 := P6.frozen 1
          have R6 := P6.putc (.int .i64 (D : Int)) (.slice A2 Ul k2)
          have R5 := P5.far2 hne (.int .i64 (D : Int)) (.slice A2 Ul k2)
          have X1 := O1.far2 P6 (by decide) (by decide) (.int .i64 (D : Int)) (.slice A2 Ul k2)
          have X2 := O2.far2 P6 (by decide) (by decide) (.int .i64 (D : Int)) (.slice A2 Ul k2)
          have XJ := J.far2 P6 hg6 (.int .i64 (D : Int)) (.slice A2 Ul k2)
          clear P5 P6 O1 O2 J
          refine m_s1 7 (by kernel_rfl) rfl ?_
          go_wp2_with fail
          refine m_clear (W := put2 W7 g6 (.int .i64 (D : Int)) (.slice A2 Ul k2)) (by kernel_rfl) ?_
          refine m_end (by kernel_rfl) ?_
          go_wp2_with fail
          go_meet
          exact ⟨_, _, A1, k1, A2, k2, rfl, rfl, XJ, ⟨R5, R6, X1, X2⟩⟩
        · go_wp2_with fail
          have hg5 := j.below.size
          have hne := Nat.ne_of_gt hB6.lt
          refine absN fun wk15 hB5 hb hzq => ?_
          clear hzq
          replace j := j.next hb; replace ho1 := ho1.below hb; replace hB6 := hB6.below hb hB6.lt
          refine m_next (by first | exact hb | exact hbq.trans (hb.mono hbq.size)) ?_
          generalize wk12.heap.size = g5 at hB5 hg5 hne ⊢
          clear hb
          refine m_s1 3 (by kernel_rfl) rfl ?_
          go_wp2_with fail
          refine (HA2.out _ _ _ _ wk15 j.fin).mono ?_
          rintro e wk16 ⟨A2, k2, rfl, ho2, hb⟩
          replace j := j.next hb; replace ho1 := ho1.below hb; replace hB5 := hB5.below hb hB5.lt; replace hB6 := hB6.below hb hB6.lt
          go_wp2_with fail
          refine m_next (by first | exact hb | exact hbq.trans (hb.mono hbq.size)) ?_
          clear hb
          have e0 := hB5.cell 0; have e1 := hB5.cell 1; have f0 := hB5.frozen 0; have f1 := hB5.frozen 1
          have P5 := hB5.putc (.int .i64 (D : Int)) (.slice A1 Ul k1)
          have P6 := hB6.far2 (Ne.symm hne) (.int .i64 (D : Int)) (.slice A1 Ul k1)
          have O1 := ho1.far2 hB5 (by decide) (by decide) (.int .i64 (D : Int)) (.slice A1 Ul k1)
          have O2 := ho2.far2 hB5 (by decide) (by decide) (.int .i64 (D : Int)) (.slice A1 Ul k1)
          have J := j.far2 hB5 hg5 (.int .i64 (D : Int)) (.slice A1 Ul k1)
          clear hB5 hB6 ho1 ho2 j
          refine m_s1 6 (by kernel_rfl) rfl ?_
          go_wp2_with fail
          refine m_clear (W := put2 wk16 g5 (.int .i64 (D : Int)) (.slice A1 Ul k1)) (by kernel_rfl) ?_
          obtain ⟨W7, hW7⟩ : ∃ W7, W7 = put2 wk16 g5 (.int .i64 (D : Int)) (.slice A1 Ul k1) := ⟨_, rfl⟩
          rw [← hW7] at P5 P6 O1 O2 J ⊢; clear hW7 e0 e1 f0 f1
          have e0 := P6.cell 0; have e1 := P6.cell 1; have f0 := P6.frozen 0; have f1 := P6.frozen 1
          have R6 := P6.putc (.int .i64 (D : Int)) (.slice A2 Ul k2)
          have R5 := P5.far2 hne (.int .i64 (D : Int)) (.slice A2 Ul k2)
          have X1 := O1.far2 P6 (by decide) (by decide) (.int .i64 (D : Int)) (.slice A2 Ul k2)
          have X2 := O2.far2 P6 (by decide) (by decide) (.int .i64 (D : Int)) (.slice A2 Ul k2)
          have XJ := J.far2 P6 hg6 (.int .i64 (D : Int)) (.slice A2 Ul k2)
          clear P5 P6 O1 O2 J
          refine m_s1 7 (by kernel_rfl) rfl ?_
          go_wp2_with fail
          refine m_clear (W := put2 W7 g6 (.int .i64 (D : Int)) (.slice A2 Ul k2)) (by kernel_rfl) ?_
          refine m_end (by kernel_rfl) ?_
          go_wp2_with fail
          go_meet
          exact ⟨_, _, A1, k1, A2, k2, rfl, rfl, XJ, ⟨R5, R6, X1, X2⟩⟩
    · go_wp2_with fail
      have hg5 := j.below.size
      refine absN fun wk17 hB5 hb hzq => ?_
      clear hzq
      replace j := j.next hb
      refine m_next (by first | exact hb | exact hbq.trans (hb.mono hbq.size)) ?_
      generalize wq.heap.size = g5 at hB5 hg5 ⊢
      clear hb
      refine m_s2 1 5 (by kernel_rfl) rfl rfl ?_ ?_
      · go_wp2_with fail
        refine (HA1.out _ _ _ _ wk17 j.cur).mono ?_
        rintro e wk18 ⟨A1, k1, rfl, ho1, hb⟩
        replace j := j.next hb; replace hB5 := hB5.below hb hB5.lt
        go_wp2_with fail
        refine m_next (by first | exact hb | exact hbq.trans (hb.mono hbq.size)) ?_
        clear hb
        refine m_s2 3 5 (by kernel_rfl) rfl rfl ?_ ?_
        · go_wp2_with fail
          refine (HA2.out _ _ _ _ wk18 j.fin).mono ?_
          rintro e wk19 ⟨A2, k2, rfl, ho2, hb⟩
          replace j := j.next hb; replace ho1 := ho1.below hb; replace hB5 := hB5.below hb hB5.lt
          go_wp2_with fail
          refine m_next (by first | exact hb | exact hbq.trans (hb.mono hbq.size)) ?_
          clear hb
          refine m_s1 5 (by kernel_rfl) rfl ?_
          go_wp2_with fail
          have hg6 := j.below.size
          have hne := Nat.ne_of_lt hB5.lt
          refine absN fun wk20 hB6 hb hzq => ?_
          clear hzq
          replace j := j.next hb; replace ho1 := ho1.below hb; replace ho2 := ho2.below hb; replace hB5 := hB5.below hb hB5.lt
          refine m_next (by first | exact hb | exact hbq.trans (hb.mono hbq.size)) ?_
          generalize wk19.heap.size = g6 at hB6 hg6 hne ⊢
          clear hb
          have e0 := hB5.cell 0; have e1 := hB5.cell 1; have f0 := hB5.frozen 0; have f1 := hB5.frozen 1
          have P5 := hB5.putc (.int .i64 (D : Int)) (.slice A1 Ul k1)
          have P6 := hB6.far2 (Ne.symm hne) (.int .i64 (D : Int)) (.slice A1 Ul k1)
          have O1 := ho1.far2 hB5 (by decide) (by decide) (.int .i64 (D : Int)) (.slice A1 Ul k1)
          have O2 := ho2.far2 hB5 (by decide) (by decide) (.int .i64 (D : Int)) (.slice A1 Ul k1)
          have J := j.far2 hB5 hg5 (.int .i64 (D : Int)) (.slice A1 Ul k1)
          clear hB5 hB6 ho1 ho2 j
          refine m_s1 6 (by kernel_rfl) rfl ?_
          go_wp2_with fail
          refine m_clear (W := put2 wk20 g5 (.int .i64 (D : Int)) (.slice A1 Ul k1)) (by kernel_rfl) ?_
          obtain ⟨W7, hW7⟩ : ∃ W7, W7 = put2 wk20 g5 (.int .i64 (D : Int)) (.slice A1 Ul k1) := ⟨_, rfl⟩
          rw [← hW7] at P5 P6 O1 O2 J ⊢; clear hW7 e0 e1 f0 f1
          have e0 := P6.cell 0; have e1 := P6.cell 1; have f0 := P6.frozen 0; have f1 := P6.frozen 1
          have R6 := P6.putc (.int .i64 (D : Int)) (.slice A2 Ul k2)
          have R5 := P5.far2 hne (.int .i64 (D : Int)) (.slice A2 Ul k2)
          have X1 := O1.far2 P6 (by decide) (by decide) (.int .i64 (D : Int)) (.slice A2 Ul k2)
          have X2 := O2.far2 P6 (by decide) (by decide) (.int .i64 (D : Int)) (.slice A2 Ul k2)
          have XJ := J.far2 P6 hg6 (.int .i64 (D : Int)) (.slice A2 Ul k2)
          clear P5 P6 O1 O2 J
          refine m_s1 7 (by kernel_rfl) rfl ?_
          go_wp2_with fail
          refine m_clear (W := put2 W7 g6 (.int .i64 (D : Int)) (.slice A2 Ul k2)) (by kernel_rfl) ?_
          refine m_end (by kernel_rfl) ?_
          go_wp2_with fail
          go_meet
          exact ⟨_, _, A1, k1, A2, k2, rfl, rfl, XJ, ⟨R5, R6, X1, X2⟩⟩
        · go_wp2_with fail
          have hg6 := j.below.size
          have hne := Nat.ne_of_lt hB5.lt
          refine absN fun wk21 hB6 hb hzq => ?_
          clear hzq
          replace j := j.next hb; replace ho1 := ho1.below hb; replace hB5 := hB5.below hb hB5.lt
          refine m_next (by first | exact hb | exact hbq.trans (hb.mono hbq.size)) ?_
          generalize wk18.heap.size = g6 at hB6 hg6 hne ⊢
          clear hb
          refine m_s1 3 (by kernel_rfl) rfl ?_
          go_wp2_with fail
          refine (HA2.out _ _ _ _ wk21 j.fin).mono ?_
          rintro e wk22 ⟨A2, k2, rfl, ho2, hb⟩
          replace j := j.next hb; replace ho1 := ho1.below hb; replace hB5 := hB5.below hb hB5.lt; replace hB6 := hB6.below hb hB6.lt
          go_wp2_with fail
          refine m_next (by first | exact hb | exact hbq.trans (hb.mono hbq.size)) ?_
          clear hb
          have e0 := hB5.cell 0; have e1 := hB5.cell 1; have f0 := hB5.frozen 0; have f1 := hB5.frozen 1
          have P5 := hB5.putc (.int .i64 (D : Int)) (.slice A1 Ul k1)
          have P6 := hB6.far2 (Ne.symm hne) (.int .i64 (D : Int)) (.slice A1 Ul k1)
          have O1 := ho1.far2 hB5 (by decide) (by decide) (.int .i64 (D : Int)) (.slice A1 Ul k1)
          have O2 := ho2.far2 hB5 (by decide) (by decide) (.int .i64 (D : Int)) (.slice A1 Ul k1)
          have J := j.far2 hB5 hg5 (.int .i64 (D : Int)) (.slice A1 Ul k1)
          clear hB5 hB6 ho1 ho2 j
          refine m_s1 6 (by kernel_rfl) rfl ?_
          go_wp2_with fail
          refine m_clear (W := put2 wk22 g5 (.int .i64 (D : Int)) (.slice A1 Ul k1)) (by kernel_rfl) ?_
          obtain ⟨W7, hW7⟩ : ∃ W7, W7 = put2 wk22 g5 (.int .i64 (D : Int)) (.slice A1 Ul k1) := ⟨_, rfl⟩
          rw [← hW7] at P5 P6 O1 O2 J ⊢; clear hW7 e0 e1 f0 f1
          have e0 := P6.cell 0; have e1 := P6.cell 1; have f0 := P6.frozen 0; have f1 := P6.frozen 1
          have R6 := P6.putc (.int .i64 (D : Int)) (.slice A2 Ul k2)
          have R5 := P5.far2 hne (.int .i64 (D : Int)) (.slice A2 Ul k2)
          have X1 := O1.far2 P6 (by decide) (by decide) (.int .i64 (D : Int)) (.slice A2 Ul k2)
          have X2 := O2.far2 P6 (by decide) (by decide) (.int .i64 (D : Int)) (.slice A2 Ul k2)
          have XJ := J.far2 P6 hg6 (.int .i64 (D : Int)) (.slice A2 Ul k2)
          clear P5 P6 O1 O2 J
          refine m_s1 7 (by kernel_rfl) rfl ?_
          go_wp2_with fail
          refine m_clear (W := put2 W7 g6 (.int .i64 (D : Int)) (.slice A2 Ul k2)) (by kernel_rfl) ?_
          refine m_end (by kernel_rfl) ?_
          go_wp2_with fail
          go_meet
          exact ⟨_, _, A1, k1, A2, k2, rfl, rfl, XJ, ⟨R5, R6, X1, X2⟩⟩
      · go_wp2_with fail
        have hg6 := j.below.size
        have hne := Nat.ne_of_lt hB5.lt
        refine absN fun wk23 hB6 hb hzq => ?_
        clear hzq
        replace j := j.next hb; replace hB5 := hB5.below hb hB5.lt
        refine m_next (by first | exact hb | exact hbq.trans (hb.mono hbq.size)) ?_
        generalize wk17.heap.size = g6 at hB6 hg6 hne ⊢
        clear hb
        refine m_s1 1 (by kernel_rfl) rfl ?_
        go_wp2_with fail
        refine (HA1.out _ _ _ _ wk23 j.cur).mono ?_
        rintro e wk24 ⟨A1, k1, rfl, ho1, hb⟩
        replace j := j.next hb; replace hB5 := hB5.below hb hB5.lt; replace hB6 := hB6.below hb hB6.lt
        go_wp2_with fail
        refine m_next (by first | exact hb | exact hbq.trans (hb.mono hbq.size)) ?_
        clear hb
        refine m_s1 3 (by kernel_rfl) rfl ?_
        go_wp2_with fail
        refine (HA2.out _ _ _ _ wk24 j.fin).mono ?_
        rintro e wk25 ⟨A2, k2, rfl, ho2, hb⟩
        replace j := j.next hb; replace ho1 := ho1.below hb; replace hB5 := hB5.below hb hB5.lt; replace hB6 := hB6.below hb hB6.lt
        go_wp2_with fail
        refine m_next (by first | exact hb | exact hbq.trans (hb.mono hbq.size)) ?_
        clear hb
        have e0 := hB5.cell 0; have e1 := hB5.cell 1; have f0 := hB5.frozen 0; have f1 := hB5.frozen 1
        have P5 := hB5.putc (.int .i64 (D : Int)) (.slice A1 Ul k1)
        have P6 := hB6.far2 (Ne.symm hne) (.int .i64 (D : Int)) (.slice A1 Ul k1)
        have O1 := ho1.far2 hB5 (by decide) (by decide) (.int .i64 (D : Int)) (.slice A1 Ul k1)
        have O2 := ho2.far2 hB5 (by decide) (by decide) (.int .i64 (D : Int)) (.slice A1 Ul k1)
        have J := j.far2 hB5 hg5 (.int .i64 (D : Int)) (.slice A1 Ul k1)
        clear hB5 hB6 ho1 ho2 j
        refine m_s1 6 (by kernel_rfl) rfl ?_
        go_wp2_with fail
        refine m_clear (W := put2 wk25 g5 (.int .i64 (D : Int)) (.slice A1 Ul k1)) (by kernel_rfl) ?_
        obtain ⟨W7, hW7⟩ : ∃ W7, W7 = put2 wk25 g5 (.int .i64 (D : Int)) (.slice A1 Ul k1) := ⟨_, rfl⟩
        rw [← hW7] at P5 P6 O1 O2 J ⊢; clear hW7 e0 e1 f0 f1
        have e0 := P6.cell 0; have e1 := P6.cell 1; have f0 := P6.frozen 0; have f1 := P6.frozen 1
        have R6 := P6.putc (.int .i64 (D : Int)) (.slice A2 Ul k2)
        have R5 := P5.far2 hne (.int .i64 (D : Int)) (.slice A2 Ul k2)
        have X1 := O1.far2 P6 (by decide) (by decide) (.int .i64 (D : Int)) (.slice A2 Ul k2)
        have X2 := O2.far2 P6 (by decide) (by decide) (.int .i64 (D : Int)) (.slice A2 Ul k2)
        have XJ := J.far2 P6 hg6 (.int .i64 (D : Int)) (.slice A2 Ul k2)
        clear P5 P6 O1 O2 J
        refine m_s1 7 (by kernel_rfl) rfl ?_
        go_wp2_with fail
        refine m_clear (W := put2 W7 g6 (.int .i64 (D : Int)) (.slice A2 Ul k2)) (by kernel_rfl) ?_
        refine m_end (by kernel_rfl) ?_
        go_wp2_with fail
        go_meet
        exact ⟨_, _, A1, k1, A2, k2, rfl, rfl, XJ, ⟨R5, R6, X1, X2⟩⟩
    · go_wp2_with fail
      have hg6 := j.below.size
      refine absN fun wk26 hB6 hb hzq => ?_
      clear hzq
      replace j := j.next hb
      refine m_next (by first | exact hb | exact hbq.trans (hb.mono hbq.size)) ?_
      generalize wq.heap.size = g6 at hB6 hg6 ⊢
      clear hb
      refine m_s2 1 4 (by kernel_rfl) rfl rfl ?_ ?_
      · go_wp2_with fail
        refine (HA1.out _ _ _ _ wk26 j.cur).mono ?_
        rintro e wk27 ⟨A1, k1, rfl, ho1, hb⟩
        replace j := j.next hb; replace hB6 := hB6.below hb hB6.lt
        go_wp2_with fail
        refine m_next (by first | exact hb | exact hbq.trans (hb.mono hbq.size)) ?_
        clear hb
        refine m_s2 3 4 (by kernel_rfl) rfl rfl ?_ ?_
        · go_wp2_with fail
          refine (HA2.out _ _ _ _ wk27 j.fin).mono ?_
          rintro e wk28 ⟨A2, k2, rfl, ho2, hb⟩
          replace j := j.next hb; replace ho1 := ho1.below hb; replace hB6 := hB6.below hb hB6.lt
          go_wp2_with fail
          refine m_next (by first | exact hb | exact hbq.trans (hb.mono hbq.size)) ?_
          clear hb
          refine m_s1 4 (by kernel_rfl) rfl ?_
          go_wp2_with fail
          have hg5 := j.below.size
          have hne := Nat.ne_of_gt hB6.lt
          refine absN fun wk29 hB5 hb hzq => ?_
          clear hzq
          replace j := j.next hb; replace ho1 := ho1.below hb; replace ho2 := ho2.below hb; replace hB6 := hB6.below hb hB6.lt
          refine m_next (by first | exact hb | exact hbq.trans (hb.mono hbq.size)) ?_
          generalize wk28.heap.size = g5 at hB5 hg5 hne ⊢
          clear hb
          have e0 := hB5.cell 0; have e1 := hB5.cell 1; have f0 := hB5.frozen 0; have f1 := hB5.frozen 1
          have P5 := hB5.putc (.int .i64 (D : Int)) (.slice A1 Ul k1)
          have P6 := hB6.far2 (Ne.symm hne) (.int .i64 (D : Int)) (.slice A1 Ul k1)
          have O1 := ho1.far2 hB5 (by decide) (by decide) (.int .i64 (D : Int)) (.slice A1 Ul k1)
          have O2 := ho2.far2 hB5 (by decide) (by decide) (.int .i64 (D : Int)) (.slice A1 Ul k1)
          have J := j.far2 hB5 hg5 (.int .i64 (D : Int)) (.slice A1 Ul k1)
          clear hB5 hB6 ho1 ho2 j
          refine m_s1 6 (by kernel_rfl) rfl ?_
          go_wp2_with fail
          refine m_clear (W := put2 wk29 g5 (.int .i64 (D : Int)) (.slice A1 Ul k1)) (by kernel_rfl) ?_
          obtain ⟨W7, hW7⟩ : ∃ W7, W7 = put2 wk29 g5 (.int .i64 (D : Int)) (.slice A1 Ul k1) := ⟨_, rfl⟩
          rw [← hW7] at P5 P6 O1 O2 J ⊢; clear hW7 e0 e1 f0 f1
          have e0 := P6.cell 0; have e1 := P6.cell 1; have f0 := P6.frozen 0; have f1 := P6.frozen 1
          have R6 := P6.putc (.int .i64 (D : Int)) (.slice A2 Ul k2)
          have R5 := P5.far2 hne (.int .i64 (D : Int)) (.slice A2 Ul k2)
          have X1 := O1.far2 P6 (by decide) (by decide) (.int .i64 (D : Int)) (.slice A2 Ul k2)
          have X2 := O2.far2 P6 (by decide) (by decide) (.int .i64 (D : Int)) (.slice A2 Ul k2)
          have XJ := J.far2 P6 hg6 (.int .i64 (D : Int)) (.slice A2 Ul k2)
          clear P5 P6 O1 O2 J
          refine m_s1 7 (by kernel_rfl) rfl ?_
          go_wp2_with fail
          refine m_clear (W := put2 W7 g6 (.int .i64 (D : Int)) (.slice A2 Ul k2)) (by kernel_rfl) ?_
          refine m_end (by kernel_rfl) ?_
          go_wp2_with fail
          go_meet
          exact ⟨_, _, A1, k1, A2, k2, rfl, rfl, XJ, ⟨R5, R6, X1, X2⟩⟩
        · go_wp2_with fail
          have hg5 := j.below.size
          have hne := Nat.ne_of_gt hB6.lt
          refine absN fun wk30 hB5 hb hzq => ?_
          clear hzq
          replace j := j.next hb; replace ho1 := ho1.below hb; replace hB6 := hB6.below hb hB6.lt
          refine m_next (by first | exact hb | exact hbq.trans (hb.mono hbq.size)) ?_
          generalize wk27.heap.size = g5 at hB5 hg5 hne ⊢
          clear hb
          refine m_s1 3 (by kernel_rfl) rfl ?_
          go_wp2_with fail
          refine (HA2.out _ _ _ _ wk30 j.fin).mono ?_
          rintro e wk31 ⟨A2, k2, rfl, ho2, hb⟩
          replace j := j.next hb; replace ho1 := ho1.below hb; replace hB5 := hB5.below hb hB5.lt; replace hB6 := hB6.below hb hB6.lt
          go_wp2_with fail
          refine m_next (by first | exact hb | exact hbq.trans (hb.mono hbq.size)) ?_
          clear hb
          have e0 := hB5.cell 0; have e1 := hB5.cell 1; have f0 := hB5.frozen 0; have f1 := hB5.frozen 1
          have P5 := hB5.putc (.int .i64 (D : Int)) (.slice A1 Ul k1)
          have P6 := hB6.far2 (Ne.symm hne) (.int .i64 (D : Int)) (.slice A1 Ul k1)
          have O1 := ho1.far2 hB5 (by decide) (by decide) (.int .i64 (D : Int)) (.slice A1 Ul k1)
          have O2 := ho2.far2 hB5 (by decide) (by decide) (.int .i64 (D : Int)) (.slice A1 Ul k1)
          have J := j.far2 hB5 hg5 (.int .i64 (D : Int)) (.slice A1 Ul k1)
          clear hB5 hB6 ho1 ho2 j
          refine m_s1 6 (by kernel_rfl) rfl ?_
          go_wp2_with fail
          refine m_clear (W := put2 wk31 g5 (.int .i64 (D : Int)) (.slice A1 Ul k1)) (by kernel_rfl) ?_
          obtain ⟨W7, hW7⟩ : ∃ W7, W7 = put2 wk31 g5 (.int .i64 (D : Int)) (.slice A1 Ul k1) := ⟨_, rfl⟩
          rw [← hW7] at P5 P6 O1 O2 J ⊢; clear hW7 e0 e1 f0 f1
          have e0 := P6.cell 0; have e1 := P6.cell 1; have f0 := P6.frozen 0; have f1 := P6.frozen 1
          have R6 := P6.putc (.int .i64 (D : Int)) (.slice A2 Ul k2)
          have R5 := P5.far2 hne (.int .i64 (D : Int)) (.slice A2 Ul k2)
          have X1 := O1.far2 P6 (by decide) (by decide) (.int .i64 (D : Int)) (.slice A2 Ul k2)
          have X2 := O2.far2 P6 (by decide) (by decide) (.int .i64 (D : Int)) (.slice A2 Ul k2)
          have XJ := J.far2 P6 hg6 (.int .i64 (D : Int)) (.slice A2 Ul k2)
          clear P5 P6 O1 O2 J
          refine m_s1 7 (by kernel_rfl) rfl ?_
          go_wp2_with fail
          refine m_clear (W := put2 W7 g6 (.int .i64 (D : Int)) (.slice A2 Ul k2)) (by kernel_rfl) ?_
          refine m_end (by kernel_rfl) ?_
          go_wp2_with fail
          go_meet
          exact ⟨_, _, A1, k1, A2, k2, rfl, rfl, XJ, ⟨R5, R6, X1, X2⟩⟩
      · go_wp2_with fail
        have hg5 := j.below.size
        have hne := Nat.ne_of_gt hB6.lt
        refine absN fun wk32 hB5 hb hzq => ?_
        clear hzq
        replace j := j.next hb; replace hB6 := hB6.below hb hB6.lt
        refine m_next (by first | exact hb | exact hbq.trans (hb.mono hbq.size)) ?_
        generalize wk26.heap.size = g5 at hB5 hg5 hne ⊢
        clear hb
        refine m_s1 1 (by kernel_rfl) rfl ?_
        go_wp2_with fail
        refine (HA1.out _ _ _ _ wk32 j.cur).mono ?_
        rintro e wk33 ⟨A1, k1, rfl, ho1, hb⟩
        replace j := j.next hb; replace hB5 := hB5.below hb hB5.lt; replace hB6 := hB6.below hb hB6.lt
        go_wp2_with fail
        refine m_next (by first | exact hb | exact hbq.trans (hb.mono hbq.size)) ?_
        clear hb
        refine m_s1 3 (by kernel_rfl) rfl ?_
        go_wp2_with fail
        refine (HA2.out _ _ _ _ wk33 j.fin).mono ?_
        rintro e wk34 ⟨A2, k2, rfl, ho2, hb⟩
        replace j := j.next hb; replace ho1 := ho1.below hb; replace hB5 := hB5.below hb hB5.lt; replace hB6 := hB6.below hb hB6.lt
        go_wp2_with fail
        refine m_next (by first | exact hb | exact hbq.trans (hb.mono hbq.size)) ?_
        clear hb
        have e0 := hB5.cell 0; have e1 := hB5.cell 1; have f0 := hB5.frozen 0; have f1 := hB5.frozen 1
        have P5 := hB5.putc (.int .i64 (D : Int)) (.slice A1 Ul k1)
        have P6 := hB6.far2 (Ne.symm hne) (.int .i64 (D : Int)) (.slice A1 Ul k1)
        have O1 := ho1.far2 hB5 (by decide) (by decide) (.int .i64 (D : Int)) (.slice A1 Ul k1)
        have O2 := ho2.far2 hB5 (by decide) (by decide) (.int .i64 (D : Int)) (.slice A1 Ul k1)
        have J := j.far2 hB5 hg5 (.int .i64 (D : Int)) (.slice A1 Ul k1)
        clear hB5 hB6 ho1 ho2 j
        refine m_s1 6 (by kernel_rfl) rfl ?_
        go_wp2_with fail
        refine m_clear (W := put2 wk34 g5 (.int .i64 (D : Int)) (.slice A1 Ul k1)) (by kernel_rfl) ?_
        obtain ⟨W7, hW7⟩ : ∃ W7, W7 = put2 wk34 g5 (.int .i64 (D : Int)) (.slice A1 Ul k1) := ⟨_, rfl⟩
        rw [← hW7] at P5 P6 O1 O2 J ⊢; clear hW7 e0 e1 f0 f1
        have e0 := P6.cell 0; have e1 := P6.cell 1; have f0 := P6.frozen 0; have f1 := P6.frozen 1
        have R6 := P6.putc (.int .i64 (D : Int)) (.slice A2 Ul k2)
        have R5 := P5.far2 hne (.int .i64 (D : Int)) (.slice A2 Ul k2)
        have X1 := O1.far2 P6 (by decide) (by decide) (.int .i64 (D : Int)) (.slice A2 Ul k2)
        have X2 := O2.far2 P6 (by decide) (by decide) (.int .i64 (D : Int)) (.slice A2 Ul k2)
        have XJ := J.far2 P6 hg6 (.int .i64 (D : Int)) (.slice A2 Ul k2)
        clear P5 P6 O1 O2 J
        refine m_s1 7 (by kernel_rfl) rfl ?_
        go_wp2_with fail
        refine m_clear (W := put2 W7 g6 (.int .i64 (D : Int)) (.slice A2 Ul k2)) (by kernel_rfl) ?_
        refine m_end (by kernel_rfl) ?_
        go_wp2_with fail
        go_meet
        exact ⟨_, _, A1, k1, A2, k2, rfl, rfl, XJ, ⟨R5, R6, X1, X2⟩⟩
  case rest =>
    obtain ⟨g5, g6, Ab, cb, Aa, ca, rfl, rfl, v0, vb0⟩ := hcut
    clear j HJ HA1 HA2
    go_wp2_with fail
    refine wp_loopF (β := Nat) (fun k f => #[f 0, f 1, .slice AL l.length cL, f 3, f 4, f 5, f 6, f 7, .pointer (some ⟨X8, 0, none⟩), .pointer (some ⟨X8 + 1, 0, none⟩), ptr g5, ptr g6, f 12, f 13, f 14, f 15, f 16, f 17, f 18, f 19, f 20, f 21, f 22, f 23, f 24, f 25, f 26, .slice AL l.length cL, .int .i64 (l.length : Int), .int .i64 (k : Int), f 30, f 31, f 32, f 33, f 34, f 35, f 36, f 37, f 38, f 39, f 40, f 41, f 42, f 43, f 44, f 45, f 46, f 47, f 48, f 49, f 50, f 51, f 52, f 53, f 54, f 55, f 56, f 57, f 58, f 59, f 60, f 61, f 62, f 63, f 64, f 65, f 66, f 67, f 68, f 69, f 70, f 71, f 72, f 73, f 74, f 75, f 76, f 77, f 78])
      (fun k ds wr => k ≤ l.length ∧ ds = [] ∧ ∃ Ac cc Bc dc U P, V0 w wr X8 (X8 + 1) n D Ul Ac cc Bc dc U P A2 c2 B2 d2 Ub Pb ∧ VB wr g5 g6 D Ul Ab cb Aa ca X Y ∧ Hid (verR n D Hm Lm Ub Pb k (l.drop k) U P = res)) (fun k => l.length - k) 0 rfl ⟨Nat.zero_le _, rfl, A1, c1, B1, d1, Ua, Pa, v0, vb0, HRES⟩ ?_
    rintro k f ds wr ⟨hk, rfl, Ac, cc, Bc, dc, U, P2, v, vb, HV⟩
    clear v0 vb0 HRES
    dsimp only
    by_cases hlt : k < l.length
    · obtain ⟨⟨kd, x, y⟩, hs⟩ : ∃ s, l[k]? = some s := ⟨l[k], List.getElem?_eq_getElem hlt⟩
      have hdr : l.drop k = (kd, x, y) :: l.drop (k + 1) := by
        rw [List.drop_eq_getElem_cons hlt]
        rw [List.getElem?_eq_getElem hlt] at hs
        rw [Option.some.inj hs]
      have hV := HV.out
      rw [hdr, verR] at hV
      dsimp only at hV
      have HV2 := Lib.hid hV
      obtain ⟨g, off, rfl, hg, hc⟩ := hr (by rw [cellsQ_len]; omega)
      obtain ⟨q0, q1, q2⟩ := cellsQ_get l k _ hs
      have t0 := onB v.below (hc _ _ q0)
      have t1 := onB v.below (hc _ _ q1)
      have t2 := onB v.below (hc _ _ q2)
      rw [← Nat.add_assoc] at t1 t2
      have x0 := v.cell.cell 0
      have x1 := v.cell.cell 1
      have x2 := v.cell.cell 2
      have x3 := v.cell.cell 3
      have lX := v.cell.lt
      clear hV HV hdr hs q0 q1 q2 hc
      go_wp2_with fail
      refine absC1 fun W1 hS1 hb1 hz1 => ?_
      have v1 := v.next hb1
      have vb1 := vb.next hb1
      have HAP := rapply_any n cc D dc Ac Bc U P2 kd x y W1 v1.cur
      rw [v.lenU, v.lenP] at HAP
      have hUl := stepU_len n U kd x y
      have hPl := stepP_len D P2 kd x y
      unfold RPost at HAP
      obtain ⟨E, hE⟩ : ∃ E, E = stepE n D U P2 kd x y := ⟨_, rfl⟩
      obtain ⟨U2, hU2⟩ : ∃ X, X = stepU n U kd x y := ⟨_, rfl⟩
      obtain ⟨P3, hP3⟩ : ∃ X, X = stepP D P2 kd x y := ⟨_, rfl⟩
      have hV := HV2.out
      rw [← hE, ← hU2, ← hP3] at hV HAP
      rw [← hU2, v.lenU] at hUl
      rw [← hP3, v.lenP] at hPl
      rw [v.lenU, v.lenP] at HAP
      have HUL := Lib.hid hUl
      have HPL := Lib.hid hPl
      have HV3 := Lib.hid hV
      have HAPP := hideC HAP
      clear hE hU2 hP3 hV HV2 hUl hPl x0 x1 x2 x3 t0 t1 t2 lX HAP v vb
      refine HAPP.out.mono ?_
      rintro e w2 ⟨hb2, ⟨hE0, rfl⟩ | ⟨hE0, u2, k2, p2, m2, rfl, hc2⟩⟩
      · have v2 := v1.next hb2
        have hv := HV3.out
        rw [if_pos hE0] at hv
        have HV4 := Lib.hid hv.symm
        have e1 : ((E : Int) != 0) = true := by simp; omega
        clear hv hE0 v1 vb1 HV3 HAPP
        go_wp2_with fail
        go_ret2
        exact rvPost_intro HV4.out (v2.below.alloc v2.below.size _)
      · have v2 := v1.next hb2
        have vb2 := vb1.next hb2
        have hv := HV3.out
        rw [if_neg (by omega)] at hv
        have HV4 := Lib.hid hv
        subst hE0
        have sc := v2.cell.lt
        have y0 := v2.cell.cell 0
        have y1 := v2.cell.cell 1
        have y2 := v2.cell.cell 2
        have y3 := v2.cell.cell 3
        have f0 := v2.cell.frozen 0
        have f1 := v2.cell.frozen 1
        have f2 := v2.cell.frozen 2
        have f3 := v2.cell.frozen 3
        clear hv v1 vb1 HV3 HAPP
        go_wp2_with fail
        refine absC1 (w := put4 w2 X8 (.int .i64 (n : Int)) (.slice u2 Ul k2) (.int .i64 (D : Int)) (.slice p2 n m2)) fun W5 hN5 hb5 hz5 => ?_
        have v5 := (v2.put hc2 HUL.out HPL.out).next hb5
        have vb5 := (vb2.far4 v2.cell (.int .i64 (n : Int)) (.slice u2 Ul k2) (.int .i64 (D : Int)) (.slice p2 n m2)).next hb5
        have hal := accM_len n D U2 P3
        have HACC := raccess_own n k2 D m2 u2 p2 U2 P3 W5 v5.cur HPL.out.symm
        rw [HUL.out, HPL.out] at HACC
        obtain ⟨AC, hAC⟩ : ∃ X, X = accM n D U2 P3 := ⟨_, rfl⟩
        have hv := HV4.out
        rw [← hAC] at hv hal HACC
        rw [HUL.out] at hal
        have HV5 := Lib.hid hv
        have HAL := Lib.hid hal
        have HACCH := hideC HACC
        clear hv hal hAC HV4 HACC v2 vb2 hc2 hN5 hb5 hz5 hb2 sc y0 y1 y2 y3 f0 f1 f2 f3
        refine HACCH.out.mono ?_
        rintro e w6 ⟨q, kq, rfl, hq, hb6⟩
        have v6 := v5.next hb6
        have vb6 := vb5.next hb6
        clear v5 vb5 hb6 HACCH
        go_wp2_with fail
        refine abs1 fun W7 hQ7 hb7 hz7 => ?_
        have v7 := v6.next hb7
        have vb7 := vb6.next hb7
        have hq7 := hq.below hb7
        have q0 := hQ7.cell 0
        have q1 := hQ7.cell 1
        have b0 := vb7.cB.cell 0
        have b1 := vb7.cB.cell 1
        have a0 := vb7.cA.cell 0
        have a1 := vb7.cA.cell 1
        have HW1 := hideC (fun A' c' W (hb : Below W7.heap.size W7 W) h => withinr_any D D q A' kq c' AC Hm W (hq7.ref.below hb) h)
        have HW2 := hideC (fun A' c' W (hb : Below W7.heap.size W7 W) h => withinr_any D D A' q c' kq Lm AC W h (hq7.ref.below hb))
        have HO := hideC (fun W (hb : Below W7.heap.size W7 W) => HOR.out Ab Aa cb ca W (vb7.tX.ref.below hb) (vb7.tY.ref.below hb))
        have HA := hideC (fun W (hb : Below W7.heap.size W7 W) => HAND.out Ab Aa cb ca W (vb7.tX.ref.below hb) (vb7.tY.ref.below hb))
        rw [withinB_sub (HAL.out.trans HHm.out.symm), HAL.out, HHm.out] at HW1
        rw [withinB_sub (HLm.out.trans HAL.out.symm), HAL.out, HLm.out] at HW2
        clear v6 vb6 hq hb7 hz7
        refine wp_spine (fun W => Below W7.heap.size W7 W) [0, 1, 2] [3, 4, 5] (by kernel_rfl) (by kernel_rfl) ?_
        iterate 3 (refine wpE_op (v := ?_) rfl rfl (fun W hW => ?_) ?_; rotate_left; (have z0 := onB hW q0; have z1 := onB hW q1; have z2 := onB hW b0; have z3 := onB hW b1; have z4 := onB hW a0; have z5 := onB hW a1; go_simp; first | done | with_reducible rfl); simp only [Act.put, List.setIfInBounds_toArray, List.set_cons_zero, List.set_cons_succ])
        have hd : Below W7.heap.size W7 W7.drew := (Below.refl _ _).drew
        refine wpE_nil ⟨fun h => (by cases h), wpSp_op rfl hd ?_⟩
        go_wp2_with fail
        refine (HO.out W7.drew hd).mono ?_
        rintro e w8 ⟨A8, c8, rfl, ht8, hb8⟩
        have hd8 := hd.trans (hb8.mono hd.size)
        go_wp2_with fail
        refine nxt_op rfl hd8 ?_
        go_wp2_with fail
        refine (HW1.out A8 c8 w8 hd8 ht8).mono ?_
        rintro e w9 ⟨rfl, hb9⟩
        have hd9 := hd8.trans (hb9.mono hd8.size)
        have v9 := v7.next hd9
        have vb9 := vb7.next hd9
        by_cases h1 : subM D AC Hm
        · have hd1 : decide (subM D AC Hm) = true := decide_eq_true h1
          have hv := HV5.out
          rw [if_neg (fun hh => hh h1)] at hv
          have HV6 := Lib.hid hv
          clear hv h1 HV5
          go_wp2_with fail
          refine nxt_op rfl hd9 ?_
          go_wp2_with fail
          refine nxt_nil ?_
          have q0 := onB hd9 q0
          have q1 := onB hd9 q1
          have b0 := onB hd9 b0
          have b1 := onB hd9 b1
          have a0 := onB hd9 a0
          have a1 := onB hd9 a1
          clear hd hd8 ht8 hb8 hb9
          go_wp2_with fail
          refine wp_spine (fun W => Below w9.heap.size w9 W) [0, 1, 3] [2, 4, 5] (by kernel_rfl) (by kernel_rfl) ?_
          iterate 3 (refine wpE_op (v := ?_) rfl rfl (fun W hW => ?_) ?_; rotate_left; (have z0 := onB hW q0; have z1 := onB hW q1; have z2 := onB hW b0; have z3 := onB hW b1; have z4 := onB hW a0; have z5 := onB hW a1; go_simp; first | done | with_reducible rfl); simp only [Act.put, List.setIfInBounds_toArray, List.set_cons_zero, List.set_cons_succ])
          have he : Below w9.heap.size w9 w9.drew := (Below.refl _ _).drew
          refine wpE_nil ⟨fun h => (by cases h), wpSp_op rfl he ?_⟩
          go_wp2_with fail
          refine (HA.out w9.drew (hd9.trans (he.mono hd9.size))).mono ?_
          rintro e w10 ⟨A10, c10, rfl, ht10, hb10⟩
          have he10 := he.trans (hb10.mono he.size)
          go_wp2_with fail
          refine nxt_op rfl he10 ?_
          go_wp2_with fail
          refine (HW2.out A10 c10 w10 (hd9.trans (he10.mono hd9.size)) ht10).mono ?_
          rintro e w11 ⟨rfl, hb11⟩
          have he11 := he10.trans (hb11.mono he10.size)
          have v11 := v9.next he11
          have vb11 := vb9.next he11
          by_cases h2 : subM D Lm AC
          · have hd2 : decide (subM D Lm AC) = true := decide_eq_true h2
            have hv := HV6.out
            rw [if_neg (fun hh => hh h2)] at hv
            have HV7 := Lib.hid hv
            clear hv h2 HV6
            go_wp2_with fail
            refine nxt_op rfl he11 ?_
            go_wp2_with fail
            refine nxt_nil ?_
            go_wp2_with fail
            exact ⟨k + 1, rfl, ⟨by omega, by first | rfl | trivial, _, _, _, _, U2, P3, v11, vb11, HV7⟩, by omega⟩
          · have hd2 : decide (subM D Lm AC) = false := decide_eq_false h2
            have hv := HV6.out
            rw [if_pos h2] at hv
            have HV7 := Lib.hid hv.symm
            clear hv h2 HV6
            go_wp2_with fail
            refine nxt_op rfl he11 ?_
            go_wp2_with fail
            refine nxt_nil ?_
            go_wp2_with fail
            go_ret2
            exact rvPost_intro HV7.out v11.below
        · have hd1 : decide (subM D AC Hm) = false := decide_eq_false h1
          have hv := HV5.out
          rw [if_pos h1] at hv
          have HV6 := Lib.hid hv.symm
          clear hv h1 HV5
          go_wp2_with fail
          refine nxt_op rfl hd9 ?_
          go_wp2_with fail
          refine nxt_nil ?_
          go_wp2_with fail
          go_ret2
          exact rvPost_intro HV6.out v9.below
    · obtain rfl : k = l.length := by omega
      have hV := HV.out
      rw [List.drop_length, verR] at hV
      have HV2 := Lib.hid hV.symm
      have x0 := v.cell.cell 0
      have x1 := v.cell.cell 1
      have x2 := v.cell.cell 2
      have x3 := v.cell.cell 3
      have y0 := v.cellE.cell 0
      have y1 := v.cellE.cell 1
      have y2 := v.cellE.cell 2
      have y3 := v.cellE.cell 3
      have HE1 : Hid (∀ W, Below wr.heap.size wr W → Calls Tryd.prog 52 #[refV n Ac Ul cc, refV n A2 Ul c2] W fun e w' => e = .returned (.bool (decide (U = Ub))) ∧ Below W.heap.size W w') := hideC fun W hb => by
        have := samer_any n n Ac A2 cc c2 U Ub W (v.cur.users.ref.below hb) (v.fin.users.ref.below hb)
        rwa [sameB_eq v.cur.users.ref.wide v.fin.users.ref.wide (v.lenU.trans v.lenEU.symm), v.lenU, v.lenEU] at this
      have HE2 : Hid (∀ W, Below wr.heap.size wr W → Calls Tryd.prog 52 #[refV D Bc n dc, refV D B2 n d2] W fun e w' => e = .returned (.bool (decide (P2 = Pb))) ∧ Below W.heap.size W w') := hideC fun W hb => by
        have := samer_any D D Bc B2 dc d2 P2 Pb W (v.cur.perms.ref.below hb) (v.fin.perms.ref.below hb)
        rwa [sameB_eq v.cur.perms.ref.wide v.fin.perms.ref.wide (v.lenP.trans v.lenEP.symm), v.lenP, v.lenEP] at this
      clear hV HV vb
      go_wp2_with fail
      refine (HE1.out wr (Below.refl _ _)).mono ?_
      rintro e w5 ⟨rfl, hb5⟩
      have v5 := v.next hb5
      by_cases h1 : U = Ub
      · have hd1 : decide (U = Ub) = true := decide_eq_true h1
        have H1 := Lib.hid h1
        clear x0 x1 x2 x3 y0 y1 y2 y3 h1
        have x2 := v5.cell.cell 2
        have x3 := v5.cell.cell 3
        have y2 := v5.cellE.cell 2
        have y3 := v5.cellE.cell 3
        go_wp2_with fail
        refine (HE2.out w5 hb5).mono ?_
        rintro e w6 ⟨rfl, hb6⟩
        have v6 := v5.next hb6
        by_cases h2 : P2 = Pb
        · have hd2 : decide (P2 = Pb) = true := decide_eq_true h2
          have hv := HV2.out
          rw [if_pos ⟨H1.out, h2⟩] at hv
          have HV3 := Lib.hid hv
          clear hv h2
          go_wp2_with fail
          go_ret2
          exact rvPost_intro HV3.out v6.below
        · have hd2 : decide (P2 = Pb) = false := decide_eq_false h2
          have hv := HV2.out
          rw [if_neg (fun hh => h2 hh.2)] at hv
          have HV3 := Lib.hid hv
          clear hv h2
          go_wp2_with fail
          go_ret2
          exact rvPost_intro HV3.out v6.below
      · have hd1 : decide (U = Ub) = false := decide_eq_false h1
        have hv := HV2.out
        rw [if_neg (fun hh => h1 hh.1)] at hv
        have HV3 := Lib.hid hv
        clear hv h1
        go_wp2_with fail
        go_ret2
        exact rvPost_intro HV3.out v5.below
end Go.Proofs.YthkjigggfeejdaaDoor
