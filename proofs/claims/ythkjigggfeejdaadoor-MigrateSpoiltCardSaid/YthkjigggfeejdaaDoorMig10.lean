import Derived.Test.YthkjigggfeejdaaDoorMig9
import Derived.Test.YthkjigggfeejdaaDoorMig4
namespace Go.Proofs.YthkjigggfeejdaaDoor
open Go.RowKit
attribute [local go_sem] Oper.semAt_some

/-- Steps with any numbers, as cells. -/
def cellsZ (l : List (Nat × Int × Int)) : List Value := l.flatMap fun s => [.int .u8 (s.1 : Int), .int .i64 s.2.1, .int .i64 s.2.2]
theorem cellsZ_len (l : List (Nat × Int × Int)) : (cellsZ l).length = l.length * 3 := by
  induction l with
  | nil => rfl
  | cons s l ih => have : cellsZ (s :: l) = [.int .u8 (s.1 : Int), .int .i64 s.2.1, .int .i64 s.2.2] ++ cellsZ l := rfl
                   rw [this, List.length_append, ih]; simp; omega
theorem cellsZ_get : ∀ (l : List (Nat × Int × Int)) (k : Nat) s, l[k]? = some s → (cellsZ l)[k * 3]? = some (.int .u8 (s.1 : Int)) ∧ (cellsZ l)[k * 3 + 1]? = some (.int .i64 s.2.1) ∧ (cellsZ l)[k * 3 + 2]? = some (.int .i64 s.2.2)
  | [], _, _, h => by simp at h
  | a :: l, 0, s, h => by
    simp at h; subst h
    exact ⟨rfl, rfl, rfl⟩
  | a :: l, k + 1, s, h => by
    have e : cellsZ (a :: l) = [.int .u8 (a.1 : Int), .int .i64 a.2.1, .int .i64 a.2.2] ++ cellsZ l := rfl
    have h2 : l[k]? = some s := by simpa using h
    obtain ⟨h0, h1, h3⟩ := cellsZ_get l k s h2
    rw [e]
    refine ⟨?_, ?_, ?_⟩
    · rw [List.getElem?_append_right (by simp; omega)]; rw [← h0]; congr 1; simp; omega
    · rw [List.getElem?_append_right (by simp; omega)]; rw [← h1]; congr 1; simp; omega
    · rw [List.getElem?_append_right (by simp; omega)]; rw [← h3]; congr 1; simp; omega
/-- The first flaw of a plan, and the number of its step. -/
def verR (n D : Nat) (Hm Lm EU EP : List (List Bool)) : Nat → List (Nat × Int × Int) → List (List Bool) → List (List Bool) → Nat × Nat
  | k, [], U, P => if U = EU ∧ P = EP then (1, k) else (5, k)
  | k, s :: l, U, P =>
    if stepE n D U P s.1 s.2.1 s.2.2 ≠ 0 then (2, k)
    else if ¬ subM D (accM n D (stepU n U s.1 s.2.1 s.2.2) (stepP D P s.1 s.2.1 s.2.2)) Hm then (3, k)
    else if ¬ subM D Lm (accM n D (stepU n U s.1 s.2.1 s.2.2) (stepP D P s.1 s.2.1 s.2.2)) then (4, k)
    else verR n D Hm Lm EU EP (k + 1) l (stepU n U s.1 s.2.1 s.2.2) (stepP D P s.1 s.2.1 s.2.2)
/-- The same for two configurations over joint roles. -/
def verOf (n D : Nat) (U P EU EP : List (List Bool)) (l : List (Nat × Int × Int)) : Nat × Nat :=
  verR n D (mat U.length D (orF (accM n D U P) (accM n D EU EP))) (mat U.length D (andF (accM n D U P) (accM n D EU EP))) EU EP 0 l U P
/-- The same for any two configurations that fit. -/
def verJ (D : Nat) (M P M' P' : List (List Bool)) (l : List (Nat × Int × Int)) : Nat × Nat :=
  verOf (jn P P') D (jU (jn P P') (List.range P.length) M) (jP (jn P P') D (List.range P.length) P) (jU (jn P P') (jl P P') M') (jP (jn P P') D (jl P P') P') l
theorem stepU_len (C : Nat) (M : List (List Bool)) (k : Nat) (x y : Int) : (stepU C M k x y).length = M.length := by unfold stepU; split <;> simp [mat_len]
theorem stepP_len (D : Nat) (P : List (List Bool)) (k : Nat) (x y : Int) : (stepP D P k x y).length = P.length := by unfold stepP; split <;> simp [mat_len]
theorem accM_len (C D : Nat) (M P : List (List Bool)) : (accM C D M P).length = M.length := by rw [accM, mat_len]

/-- What holds in Verify. -/
structure VI (w W : World) (X Y hi lo e1 e2 n D : Nat) (Hm Lm EU EP : List (List Bool)) (qu qp : Nat) (U P : List (List Bool)) : Prop where
  cur : IsCfg W qu qp n D U P
  cell : Blk W X 38 #[ptr qu, ptr qp]
  fin : IsCfg W e1 e2 n D EU EP
  cellE : Blk W Y 38 #[ptr e1, ptr e2]
  high : PM W hi D Hm
  low : PM W lo D Lm
  ne : X ≠ Y
  above : w.heap.size ≤ X
  len : U.length = EU.length
  below : Below w.heap.size w W
section
variable {w W W' : World} {X Y hi lo e1 e2 n D : Nat} {Hm Lm EU EP : List (List Bool)} {qu qp : Nat} {U P : List (List Bool)}
theorem VI.next (h : VI w W X Y hi lo e1 e2 n D Hm Lm EU EP qu qp U P) (hb : Below W.heap.size W W') : VI w W' X Y hi lo e1 e2 n D Hm Lm EU EP qu qp U P :=
  ⟨h.cur.below hb, h.cell.below hb h.cell.lt, h.fin.below hb, h.cellE.below hb h.cellE.lt, h.high.below hb, h.low.below hb, h.ne, h.above, h.len, h.below.trans (hb.mono h.below.size)⟩
theorem VI.put {qu' qp' : Nat} {U' P' : List (List Bool)} (h : VI w W X Y hi lo e1 e2 n D Hm Lm EU EP qu qp U P) (hc : IsCfg W qu' qp' n D U' P') (hl : U'.length = U.length) : VI w (put2 W X (ptr qu') (ptr qp')) X Y hi lo e1 e2 n D Hm Lm EU EP qu' qp' U' P' :=
  ⟨hc.cfg2 h.cell, h.cell.putc _ _, h.fin.cfg2 h.cell, h.cellE.far2 (fun e => h.ne e.symm) _ _, h.high.cfg2 h.cell, h.low.cfg2 h.cell, h.ne, h.above, hl.trans h.len, below_put2 h.below h.above _ _⟩
end
/-- What Verify leaves. -/
def vPost (w : World) (r : Nat × Nat) (e : Ending) (w' : World) : Prop := e = .returned (.tuple #[.int .u8 r.1, .int .i64 r.2, .int .i64 0]) ∧ Below w.heap.size w w'
theorem vPost_intro {w w' : World} {r : Nat × Nat} {a b : Nat} (h : r = (a, b)) (hb : Below w.heap.size w w') : vPost w r (.returned (.tuple #[.int .u8 a, .int .i64 b, .int .i64 0])) w' := by
  subst h; exact ⟨rfl, hb⟩
set_option maxRecDepth 100000 in
set_option maxHeartbeats 4000000 in
theorem verify_any (u p u' p' C C' D : Nat) (M P M' P' : List (List Bool)) (A : Option Addr) (c : Nat) (l : List (Nat × Int × Int)) (w : World) (h : IsCfg w u p C D M P) (h' : IsCfg w u' p' C' D M' P') (hl : M.length = M'.length) (hn : jn P P' ≤ 256) (hM : M.length ≤ 256) (hD : D ≤ 256) (hT : Tab w)
    (hr : Row w A (cellsZ l)) (hk : ∀ s ∈ l, s.1 ≤ 255) (hL : l.length ≤ maxLen) :
    Calls Tryd.prog 30 #[cfgV u p, cfgV u' p', .slice A l.length c] w (vPost w (verJ D M P M' P' l)) := by
  unfold maxLen at hL
  have HJ : ∀ W, Below w.heap.size w W → _ := fun W hW => joint_any u p u' p' C C' D M P M' P' W (h.below hW) (h'.below hW) hl hn hM hD (hT.below hW)
  have hUl : (jU (jn P P') (List.range P.length) M).length = M.length := by rw [jU, mat_len]
  have hUl' : (jU (jn P P') (jl P P') M').length = M.length := by rw [jU, mat_len, hl]
  unfold verJ
  obtain ⟨n, hnn⟩ : ∃ n, n = jn P P' := ⟨_, rfl⟩
  rw [← hnn] at HJ hUl hUl' hn ⊢
  obtain ⟨Ua, hUa⟩ : ∃ X, X = jU n (List.range P.length) M := ⟨_, rfl⟩
  obtain ⟨Pa, hPa⟩ : ∃ X, X = jP n D (List.range P.length) P := ⟨_, rfl⟩
  obtain ⟨Ub, hUb⟩ : ∃ X, X = jU n (jl P P') M' := ⟨_, rfl⟩
  obtain ⟨Pb, hPb⟩ : ∃ X, X = jP n D (jl P P') P' := ⟨_, rfl⟩
  rw [← hUa] at HJ hUl ⊢
  rw [← hPa] at HJ ⊢
  rw [← hUb] at HJ hUl' ⊢
  rw [← hPb] at HJ ⊢
  have HJ := hideC HJ
  have HBD := hideC (fun x1 x2 y1 y2 W hx hy hT => bounds_any x1 x2 y1 y2 n n D Ua Pa Ub Pb W hx hy (hUl.trans hUl'.symm) hT)
  obtain ⟨Hm, hHm⟩ : ∃ X, X = mat Ua.length D (orF (accM n D Ua Pa) (accM n D Ub Pb)) := ⟨_, rfl⟩
  obtain ⟨Lm, hLm⟩ : ∃ X, X = mat Ua.length D (andF (accM n D Ua Pa) (accM n D Ub Pb)) := ⟨_, rfl⟩
  unfold verOf
  rw [← hHm, ← hLm] at HBD ⊢
  obtain ⟨res, hres⟩ : ∃ r, r = verR n D Hm Lm Ub Pb 0 l Ua Pa := ⟨_, rfl⟩
  rw [← hres]
  have HRES := Lib.hid hres.symm
  have HHm := Lib.hid (show Hm.length = Ub.length by rw [hHm, mat_len, hUl, hUl'])
  have HLm := Lib.hid (show Lm.length = Ub.length by rw [hLm, mat_len, hUl, hUl'])
  have HUU := Lib.hid (hUl.trans hUl'.symm)
  have HKK := Lib.hid hk
  clear hUa hPa hUb hPb hUl hUl' hnn hl hHm hLm hres hk
  go_enter Tryd.func30, Tryd.ntmps30
  go_wp2_with fail
  refine absC2 fun W0 hA hB hbel0 hz => ?_
  refine (HJ.out W0 hbel0).mono ?_
  rintro e w1 ⟨a1, a2, b1, b2, A1, c1, rfl, hca, hcb, _, hb1⟩
  have bel1 := hbel0.trans (hb1.mono hbel0.size)
  clear hA hB hz hb1 hbel0
  go_wp2_with fail
  refine absC2 fun W2 hX hY hb2 hz => ?_
  have bel2 := bel1.trans (hb2.mono bel1.size)
  have hca2 := hca.below hb2
  have hcb2 := hcb.below hb2
  clear hz hca hcb hb2
  refine (HBD.out a1 a2 b1 b2 W2 hca2 hcb2 (hT.below bel2)).mono ?_
  rintro e w3 ⟨hi, lo, rfl, hhi, hlo, hb3⟩
  have v0 : VI w w3 w1.heap.size (w1.heap.size + 1) hi lo b1 b2 n D Hm Lm Ub Pb a1 a2 Ua Pa :=
    ⟨hca2.below hb3, hX.below hb3 hX.lt, hcb2.below hb3, hY.below hb3 hY.lt, hhi, hlo, by omega, bel1.size, HUU.out, bel2.trans (hb3.mono bel2.size)⟩
  obtain ⟨X, hXe⟩ : ∃ X, X = w1.heap.size := ⟨_, rfl⟩
  rw [← hXe] at v0 ⊢
  clear hX hY hca2 hcb2 hhi hlo hb3 HJ HBD bel1 bel2 HUU hXe
  go_wp2_with fail
  refine wp_loopF (β := Nat) (fun k f => #[f 0, f 1, .slice A l.length c, f 3, f 4, f 5, f 6, f 7, f 8, .pointer (some ⟨X, 0, none⟩), .pointer (some ⟨X + 1, 0, none⟩), f 11, f 12, ptr hi, ptr lo, f 15, f 16, f 17, f 18, f 19, f 20, f 21, f 22, f 23, f 24, f 25, f 26, f 27, f 28, f 29, f 30, f 31, f 32, f 33, f 34, f 35, f 36, f 37, f 38, f 39, f 40, .slice A l.length c, .int .i64 (l.length : Int), .int .i64 (k : Int), f 44, f 45, f 46, f 47, f 48, f 49, f 50, f 51, f 52, f 53, f 54, f 55, f 56, f 57, f 58, f 59, f 60, f 61, f 62, f 63, f 64, f 65, f 66, f 67, f 68, f 69, f 70, f 71, f 72, f 73, f 74, f 75, f 76, f 77, f 78, f 79, f 80, f 81, f 82, f 83, f 84, f 85, f 86, f 87, f 88, f 89, f 90, f 91, f 92, f 93, f 94])
    (fun k ds wr => k ≤ l.length ∧ ds = [] ∧ ∃ qu qp U P, VI w wr X (X + 1) hi lo b1 b2 n D Hm Lm Ub Pb qu qp U P ∧ Hid (verR n D Hm Lm Ub Pb k (l.drop k) U P = res)) (fun k => l.length - k) 0 rfl ⟨Nat.zero_le _, rfl, a1, a2, Ua, Pa, v0, HRES⟩ ?_
  rintro k f ds wr ⟨hk, rfl, qu, qp, U, P, v, HV⟩
  clear v0 HRES
  dsimp only
  by_cases hlt : k < l.length
  · obtain ⟨⟨kd, x, y⟩, hs⟩ : ∃ s, l[k]? = some s := ⟨l[k], List.getElem?_eq_getElem hlt⟩
    have hkd : kd ≤ 255 := HKK.out _ (List.mem_of_getElem? hs)
    have hdr : l.drop k = (kd, x, y) :: l.drop (k + 1) := by
      rw [List.drop_eq_getElem_cons hlt]
      rw [List.getElem?_eq_getElem hlt] at hs
      rw [Option.some.inj hs]
    have hV := HV.out
    rw [hdr, verR] at hV
    dsimp only at hV
    have HV2 := Lib.hid hV
    obtain ⟨g, off, rfl, hg, hc⟩ := hr (by rw [cellsZ_len]; omega)
    obtain ⟨g0, g1, g2⟩ := cellsZ_get l k _ hs
    have d0 := onB v.below (hc _ _ g0)
    have d1 := onB v.below (hc _ _ g1)
    have d2 := onB v.below (hc _ _ g2)
    rw [← Nat.add_assoc] at d1 d2
    have x0 := v.cell.cell 0
    have x1 := v.cell.cell 1
    have lX := v.cell.lt
    clear hV HV hdr hs g0 g1 g2 hc
    go_wp2_with fail
    refine absC1 fun W1 hS1 hb1 hz1 => ?_
    have v1 := v.next hb1
    refine (mapply_any qu qp n D U P kd x y W1 v1.cur hkd).mono ?_
    have hUl := stepU_len n U kd x y
    obtain ⟨E, hE⟩ : ∃ E, E = stepE n D U P kd x y := ⟨_, rfl⟩
    obtain ⟨U2, hU2⟩ : ∃ X, X = stepU n U kd x y := ⟨_, rfl⟩
    obtain ⟨P2, hP2⟩ : ∃ X, X = stepP D P kd x y := ⟨_, rfl⟩
    unfold APost
    have hV := HV2.out
    rw [← hE, ← hU2, ← hP2] at hV ⊢
    rw [← hU2] at hUl
    have HUL := Lib.hid hUl
    have HV3 := Lib.hid hV
    clear hE hU2 hP2 hV HV2 hUl x0 x1 d0 d1 d2 lX
    rintro e w2 ⟨hb2, ⟨hE0, rfl⟩ | ⟨hE0, u2, p2, rfl, hc2⟩⟩
    · have v2 := v1.next hb2
      have hv := HV3.out
      rw [if_pos hE0] at hv
      have HV4 := Lib.hid hv.symm
      have e1 : ((E : Int) != 0) = true := by simp; omega
      clear hv hE0 v1 v HV3
      go_wp2_with fail
      go_ret3
      exact vPost_intro HV4.out (v2.below.alloc v2.below.size _)
    · have v2 := v1.next hb2
      have hv := HV3.out
      rw [if_neg (by omega)] at hv
      have HV4 := Lib.hid hv
      subst hE0
      have sc := v2.cell.lt
      clear hv v1 v HV3
      go_wp2_with fail
      refine absC1 fun W3 hN3 hb3 hz3 => ?_
      have v3 := v2.next hb3
      have hc3 := hc2.below hb3
      have hal := accM_len n D U2 P2
      have HACC := hideC (maccess_any u2 p2 n D U2 P2 W3 hc3 (hT.below v3.below))
      obtain ⟨AC, hAC⟩ : ∃ X, X = accM n D U2 P2 := ⟨_, rfl⟩
      have hv := HV4.out
      rw [← hAC] at hv hal
      have HV5 := Lib.hid hv
      have HAL := Lib.hid hal
      have HAC := Lib.hid hAC
      refine HACC.out.mono ?_
      rintro e w4 ⟨q, rfl, hq, hb4⟩
      have hq' : PM w4 q D AC := by rw [HAC.out]; exact hq
      have v4 := v3.next hb4
      have hc4 := hc3.below hb4
      have hN4 := hN3.below hb4 hN3.lt
      have hW1 := hideC (fun W hb => pm_within q hi D AC Hm W (hq'.below hb) (v4.high.below hb) (HAL.out.trans (HUL.out.trans (v4.len.trans HHm.out.symm))))
      have hW2 := hideC (fun W hb => pm_within lo q D Lm AC W (v4.low.below hb) (hq'.below hb) (HLm.out.trans (v4.len.symm.trans (HUL.out.symm.trans HAL.out.symm))))
      clear hv hal hAC HV4 HACC hq v2 v3 hc2 hc3 hN3 hb3 hz3 hb4 HAC
      go_wp2_with fail
      refine (hW1.out w4 (Below.refl _ _)).mono ?_
      rintro e w5 ⟨rfl, hb5⟩
      by_cases h1 : subM D AC Hm
      · have hd1 : decide (subM D AC Hm) = true := decide_eq_true h1
        have hv := HV5.out
        rw [if_neg (fun hh => hh h1)] at hv
        have HV6 := Lib.hid hv
        clear hv h1 HV5
        go_wp2_with fail
        refine (hW2.out w5 hb5).mono ?_
        rintro e w6 ⟨rfl, hb6⟩
        have hb46 := hb5.trans (hb6.mono hb5.size)
        have v6 := v4.next hb46
        have hc6 := hc4.below hb46
        have hN6 := hN4.below hb46 hN4.lt
        by_cases h2 : subM D Lm AC
        · have hd2 : decide (subM D Lm AC) = true := decide_eq_true h2
          have hv := HV6.out
          rw [if_neg (fun hh => hh h2)] at hv
          have HV7 := Lib.hid hv
          have y0 := hN6.cell 0
          have y1 := hN6.cell 1
          have x0 := v6.cell.cell 0
          have x1 := v6.cell.cell 1
          have f0 := v6.cell.frozen 0
          have f1 := v6.cell.frozen 1
          clear hv h2 HV6
          go_wp2_with fail
          exact ⟨k + 1, rfl, ⟨by omega, by first | rfl | trivial, _, _, U2, P2, v6.put hc6 HUL.out, HV7⟩, by omega⟩
        · have hd2 : decide (subM D Lm AC) = false := decide_eq_false h2
          have hv := HV6.out
          rw [if_pos h2] at hv
          have HV7 := Lib.hid hv.symm
          clear hv h2 HV6
          go_wp2_with fail
          go_ret3
          exact vPost_intro HV7.out v6.below
      · have hd1 : decide (subM D AC Hm) = false := decide_eq_false h1
        have v5 := v4.next hb5
        have hv := HV5.out
        rw [if_pos h1] at hv
        have HV6 := Lib.hid hv.symm
        clear hv h1 HV5
        go_wp2_with fail
        go_ret3
        exact vPost_intro HV6.out v5.below
  · obtain rfl : k = l.length := by omega
    have hV := HV.out
    rw [List.drop_length, verR] at hV
    have HV2 := Lib.hid hV.symm
    have x0 := v.cell.cell 0
    have x1 := v.cell.cell 1
    have y0 := v.cellE.cell 0
    have y1 := v.cellE.cell 1
    have HE1 := hideC (fun W hb => pm_equal qu b1 n U Ub W (v.cur.users.below (w' := W) hb) (v.fin.users.below hb) v.len)
    have HE2 := hideC (fun W hb => pm_equal qp b2 D P Pb W (v.cur.perms.below (w' := W) hb) (v.fin.perms.below hb) (v.cur.roles.symm.trans v.fin.roles))
    clear hV HV
    go_wp2_with fail
    refine (HE1.out wr (Below.refl _ _)).mono ?_
    rintro e w5 ⟨rfl, hb5⟩
    have v5 := v.next hb5
    by_cases h1 : U = Ub
    · have hd1 : decide (U = Ub) = true := decide_eq_true h1
      have H1 := Lib.hid h1
      clear x0 x1 y0 y1 h1
      have x0 := v5.cell.cell 0
      have x1 := v5.cell.cell 1
      have y0 := v5.cellE.cell 0
      have y1 := v5.cellE.cell 1
      go_wp2_with fail
      refine (HE2.out w5 hb5).mono ?_
      rintro e w6 ⟨rfl, hb6⟩
      have v6 := v5.next hb6
      by_cases h2 : P = Pb
      · have hd2 : decide (P = Pb) = true := decide_eq_true h2
        have hv := HV2.out
        rw [if_pos ⟨H1.out, h2⟩] at hv
        have HV3 := Lib.hid hv
        clear hv h2
        go_wp2_with fail
        go_ret3
        exact vPost_intro HV3.out v6.below
      · have hd2 : decide (P = Pb) = false := decide_eq_false h2
        have hv := HV2.out
        rw [if_neg (fun hh => h2 hh.2)] at hv
        have HV3 := Lib.hid hv
        clear hv h2
        go_wp2_with fail
        go_ret3
        exact vPost_intro HV3.out v6.below
    · have hd1 : decide (U = Ub) = false := decide_eq_false h1
      have hv := HV2.out
      rw [if_neg (fun hh => h1 hh.1)] at hv
      have HV3 := Lib.hid hv
      clear hv h1
      go_wp2_with fail
      go_ret3
      exact vPost_intro HV3.out v5.below
set_option maxRecDepth 100000 in
set_option maxHeartbeats 4000000 in
theorem verify_no (u p u' p' C C' D D' : Nat) (M P M' P' : List (List Bool)) (v : Value) (w : World) (h : IsCfg w u p C D M P) (hu' : PM w u' C' M') (hp' : PM w p' D' P') (hne : u' ≠ p') (hno : C' ≠ P'.length ∨ M.length ≠ M'.length ∨ D ≠ D') :
    Calls Tryd.prog 30 #[cfgV u p, cfgV u' p', v] w fun e w' => e = .returned (.tuple #[.int .u8 0, .int .i64 0, .int .i64 1]) ∧ Below w.heap.size w w' := by
  have HJ := hideC (fun W hW => joint_no u p u' p' C C' D D' M P M' P' W (h.below (w' := W) hW) (hu'.below hW) (hp'.below hW) hne hno)
  clear hno
  go_enter Tryd.func30, Tryd.ntmps30
  go_wp2_with fail
  refine absC2 fun W0 hA hB hbel0 hz => ?_
  refine (HJ.out W0 hbel0).mono ?_
  rintro e w1 ⟨rfl, hb1⟩
  have bel1 := hbel0.trans (hb1.mono hbel0.size)
  clear hA hB hz hb1 hbel0
  go_wp2_with fail
  go_ret3
  exact ⟨rfl, (bel1.alloc bel1.size _).alloc (by have := bel1.size; simp; omega) _⟩
end Go.Proofs.YthkjigggfeejdaaDoor
