import Derived.Test.YthkjigggfeejdaaDoorMl5
namespace Go.Proofs.YthkjigggfeejdaaDoor
open Go.RowKit

theorem and255 (x : Int) : ∃ kd : Nat, kd ≤ 255 ∧ bits .and .i64 x 255 = (kd : Int) := by
  refine ⟨(BitVec.ofInt 64 x).toNat % 256, by omega, ?_⟩
  show IntKind.i64.wrap ((BitVec.ofInt 64 x &&& BitVec.ofInt 64 255).toNat : Int) = _
  rw [BitVec.toNat_and, show (BitVec.ofInt 64 255).toNat = 2 ^ 8 - 1 by decide, Nat.and_two_pow_sub_one_eq_mod, IntKind.wrap_i64]
  omega
/-- The configuration behind a step, or none. -/
def ARes (w : World) (E C D : Nat) (U P : List (List Bool)) (s1 s2 : Option Addr) : Prop :=
  (E ≠ 0 → s1 = none ∧ s2 = none) ∧ (E = 0 → ∃ u p, s1 = some ⟨u, 0, none⟩ ∧ s2 = some ⟨p, 0, none⟩ ∧ IsCfg w u p C D U P)
theorem ARes.below {w w' : World} {E C D : Nat} {U P : List (List Bool)} {s1 s2 : Option Addr} (h : ARes w E C D U P s1 s2) (hb : Below w.heap.size w w') : ARes w' E C D U P s1 s2 :=
  ⟨h.1, fun e => by obtain ⟨u, p, h1, h2, h3⟩ := h.2 e; exact ⟨u, p, h1, h2, h3.below hb⟩⟩
theorem ARes.cfg2 {w : World} {E C D : Nat} {U P : List (List Bool)} {s1 s2 : Option Addr} (h : ARes w E C D U P s1 s2) {X : Nat} {a b c d : Option Addr} (hX : Blk w X 38 #[.pointer a, .pointer b]) : ARes (put2 w X (.pointer c) (.pointer d)) E C D U P s1 s2 :=
  ⟨h.1, fun e => by obtain ⟨u, p, h1, h2, h3⟩ := h.2 e; exact ⟨u, p, h1, h2, h3.cfg2 hX⟩⟩
theorem apply_res (u p C D : Nat) (M P : List (List Bool)) (k : Nat) (x y : Int) (w : World) (h : IsCfg w u p C D M P) (hk : k ≤ 255) :
    Calls Tryd.prog 22 #[cfgV u p, stepV k x y] w fun e w' => ∃ s1 s2, e = .returned (.tuple #[.agg #[.pointer s1, .pointer s2], .int .i64 (stepE C D M P k x y)]) ∧ ARes w' (stepE C D M P k x y) C D (stepU C M k x y) (stepP D P k x y) s1 s2 ∧ Below w.heap.size w w' := by
  refine (mapply_any u p C D M P k x y w h hk).mono ?_
  rintro e w' ⟨hb, ⟨h0, rfl⟩ | ⟨h0, u', p', rfl, hc⟩⟩
  · exact ⟨none, none, rfl, ⟨fun _ => ⟨rfl, rfl⟩, fun e => absurd e h0⟩, hb⟩
  · exact ⟨some ⟨u', 0, none⟩, some ⟨p', 0, none⟩, by rw [h0]; rfl, ⟨fun e => absurd h0 e, fun _ => ⟨u', p', rfl, rfl, hc⟩⟩, hb⟩
section
variable {w W : World} {X3 X4 u a b p : Nat} {A1 : Option Addr} {c1 : Nat} {B1 : Option Addr} {d1 : Nat} {A2 : Option Addr} {c2 : Nat} {B2 : Option Addr} {d2 : Nat} {M P M' P' : List (List Bool)}
theorem LI.set_ (h : LI w W X3 X4 u a b p A1 c1 B1 d1 A2 c2 B2 d2 M P M' P') (hT : Tab w) {g : Nat} {t : TypeId} {cs : Array Value} (hB : Blk W g t cs) (n1 : 31 ≠ t) (n2 : t ≠ 96) (n3 : t ≠ 4) (hg : w.heap.size ≤ g) (i : Nat) (x : Value) : LI w (W.setCell ⟨g, i, none⟩ x) X3 X4 u a b p A1 c1 B1 d1 A2 c2 B2 d2 M P M' P' :=
  ⟨h.old.far (p := ⟨g, i, none⟩) (h.old.ne_ hB n1) x, h.new.far (p := ⟨g, i, none⟩) (h.new.ne_ hB n1) x, ⟨h.rc.users.far hB n2 n3 i x, h.rc.perms.far hB n2 n3 i x⟩, ⟨h.rc'.users.far hB n2 n3 i x, h.rc'.perms.far hB n2 n3 i x⟩, h.lM, h.lP, h.lM', h.lP', h.bd, hT.below (h.below.setCell (p := ⟨g, i, none⟩) hg x), h.below.setCell (p := ⟨g, i, none⟩) hg x⟩
theorem IsCfg.set_ {u p C D : Nat} {M P : List (List Bool)} (h : IsCfg W u p C D M P) {g : Nat} {cs : Array Value} (hB : Blk W g 48 cs) (hns : ∀ (k : Nat) A n c, cs[k]? ≠ some (.slice A n c)) (i : Nat) (x : Value) : IsCfg (W.setCell ⟨g, i, none⟩ x) u p C D M P :=
  ⟨h.users.far hB (h.users.ne_ hB (by decide)) (by decide) hns i x, h.perms.far hB (h.perms.ne_ hB (by decide)) (by decide) hns i x, h.roles, h.ne⟩
end
theorem ints_ns {a b c : Int} : ∀ (k : Nat) A n d, (#[.int .i64 a, .int .i64 b, .int .i64 c] : Array Value)[k]? ≠ some (.slice A n d) := by
  intro k A n d
  rcases k with _ | _ | _ | k <;> simp
set_option maxRecDepth 100000 in
set_option maxHeartbeats 40000000 in
theorem applies_walk (v : Value) (u a b p : Nat) (zs : List Int) (k0 x y : Int) (w : World) (hT : Tab w) (h : IsRaw49 w v u a b p zs) :
    Calls Tryd.prog 4 #[v, rstepV k0 x y] w fun e w' => e = .returned (.bool true) ∧ Below w.heap.size w w' := by
  have hbd := h.bd
  have HIN := hideC h
  obtain ⟨u0, a0, b0, p0, AZ, cZ, hv, _⟩ := id h
  subst hv
  clear h
  obtain ⟨kd, hkd, hke⟩ := and255 k0
  have HKE := Lib.hid hke
  clear hke
  go_enter Tryd.func4, Tryd.ntmps4
  go_wp2_with fail
  refine absC2 fun W0 hX hS hb0 hz => ?_
  clear hz
  refine (awake_any49 W0 (hT.below hb0)).mono ?_
  rintro e w1 ⟨rfl, hb1⟩
  have b1 := hb0.trans (hb1.mono hb0.size)
  have hX1 := hX.below hb1 hX.lt
  have hS1 := hS.below hb1 hS.lt
  have x0 := hX1.cell 0
  have x1 := hX1.cell 1
  have x2 := hX1.cell 2
  have x3 := hX1.cell 3
  have x4 := hX1.cell 4
  clear hX hb0 hb1 hS
  have HMK := hideC (rmake_any _ u a b p zs w1 (HIN.out.below b1))
  go_wp2_with fail
  refine HMK.out.mono ?_
  rintro e w2 ⟨M, P, M', P', A1, c1, B1, d1, A2, c2, B2, d2, rfl, hc, hc', lM, lP, lM', lP', hb2⟩
  have b2 := b1.trans (hb2.mono b1.size)
  have hS2 := hS1.below hb2 hS1.lt
  clear x0 x1 x2 x3 x4 HMK hX1 hb2 b1 hS1
  go_wp2_with fail
  refine absC2 fun w3 h3 h4 hb3 hz3 => ?_
  have j : LI w w3 w2.heap.size (w2.heap.size + 1) u a b p A1 c1 B1 d1 A2 c2 B2 d2 M P M' P' := ⟨h3, h4, hc.below hb3, hc'.below hb3, lM, lP, lM', lP', hbd, hT.below (b2.trans (hb3.mono b2.size)), b2.trans (hb3.mono b2.size)⟩
  have hS3 := hS2.below hb3 hS2.lt
  obtain ⟨X3, hX3⟩ : ∃ x, x = w2.heap.size := ⟨_, rfl⟩
  rw [← hX3] at j ⊢
  clear hX3 h3 h4 hc hc' lM lP lM' lP' hb3 hz3 b2 hbd HIN hS2
  refine j.cfgA.mono ?_
  rintro e w4 ⟨q1, r1, rfl, hq, hb4⟩
  have j4 := j.next hb4
  have hS4 := hS3.below hb4 hS3.lt
  have s0 := hS4.cell 0
  have s1 := hS4.cell 1
  have s2 := hS4.cell 2
  have sf := hS4.frozen 0
  have sl := hS4.lt
  have sb := j4.below.size
  have hke := HKE.out
  clear j hS3 hb4
  go_wp2_with fail
  have jS := j4.set_ hT hS4 (by decide) (by decide) (by decide) (by omega) 0 (.int .i64 (kd : Int))
  have hqS := hq.set_ hS4 ints_ns 0 (.int .i64 (kd : Int))
  have hSS := hS4.set_ 0 (.int .i64 (kd : Int))
  refine abs1 (w := w4.setCell ⟨w.heap.size + 1, 0, none⟩ (.int .i64 (kd : Int))) fun w5 h7 hb5 hz5 => ?_
  have hsz : (w4.setCell ⟨w.heap.size + 1, 0, none⟩ (.int .i64 (kd : Int))).heap.size = w4.heap.size := by simp
  have j := jS.next hb5
  have hq := hqS.below hb5
  have h3 : Blk w5 (w.heap.size + 1) 48 #[.int .i64 (kd : Int), .int .i64 x, .int .i64 y] := hSS.below hb5 hSS.lt
  rw [hsz] at h7
  obtain ⟨X7, hX7⟩ : ∃ x, x = w4.heap.size := ⟨_, rfl⟩
  rw [← hX7] at h7 ⊢
  clear hX7 hsz hz5 hb5 jS hqS hSS j4 s0 s1 s2 sf sl sb hS4 hke HKE
  go_upto_region 7 with fail
  go_cut [8, 9] (fun s8 s9 wx => ∃ g8 r1' r2', s8 = ptr g8 ∧ s9 = .int .i64 (stepE a p M P kd x y) ∧ Blk wx g8 38 #[.pointer r1', .pointer r2'] ∧ IsCfg wx q1 r1 a p M P ∧ ARes wx (stepE a p M P kd x y) a p (stepU a M kd x y) (stepP p P kd x y) r1' r2' ∧
    Blk wx X7 38 #[ptr q1, ptr r1] ∧ Blk wx (w.heap.size + 1) 48 #[.int .i64 (kd : Int), .int .i64 x, .int .i64 y] ∧ LI w wx X3 (X3 + 1) u a b p A1 c1 B1 d1 A2 c2 B2 d2 M P M' P')
  case first =>
    have hd : Below w5.heap.size w5 w5.drew := (Below.refl _ _).drew
    replace j := j.next hd
    replace hq := hq.below hd
    replace h7 := h7.below hd h7.lt
    replace h3 := h3.below hd h3.lt
    refine wp_mix (fun V => Blk V X7 38 #[ptr q1, ptr r1] ∧ Blk V (w.heap.size + 1) 48 #[.int .i64 (kd : Int), .int .i64 x, .int .i64 y]) 10 (by kernel_rfl) (by kernel_rfl) ⟨h7, h3⟩ ?_
    obtain ⟨wq, hwq⟩ : ∃ V, V = w5.drew := ⟨_, rfl⟩
    rw [← hwq] at hd j hq h7 h3 ⊢
    clear hwq
    (refine m_q 0 (v := ?_) (by kernel_rfl) rfl rfl (fun W hW => ?_) ?_; rotate_left; (have z0 := hW.1.cell 0; have z1 := hW.1.cell 1; have u0 := hW.2.cell 0; have u1 := hW.2.cell 1; have u2 := hW.2.cell 2; go_simp; first | done | with_reducible rfl); simp only [Act.put, List.setIfInBounds_toArray, List.set_cons_zero, List.set_cons_succ]); (refine m_q 1 (v := ?_) (by kernel_rfl) rfl rfl (fun W hW => ?_) ?_; rotate_left; (have z0 := hW.1.cell 0; have z1 := hW.1.cell 1; have u0 := hW.2.cell 0; have u1 := hW.2.cell 1; have u2 := hW.2.cell 2; go_simp; first | done | with_reducible rfl); simp only [Act.put, List.setIfInBounds_toArray, List.set_cons_zero, List.set_cons_succ])
    refine m_s2 2 7 (by kernel_rfl) rfl rfl ?_ ?_
    · go_wp2_with fail
      refine (step_any kd x y _ hkd).mono ?_
      rintro e wk1 ⟨rfl, hb⟩
      replace j := j.next hb; replace hq := hq.below hb; replace h7 := h7.below hb h7.lt; replace h3 := h3.below hb h3.lt
      go_wp2_with fail
      refine m_keep ⟨h7, h3⟩ ?_
      clear hb
      refine m_s2 3 7 (by kernel_rfl) rfl rfl ?_ ?_
      · go_wp2_with fail
        refine (apply_res q1 r1 a p M P kd x y _ hq hkd).mono ?_
        rintro e wk2 ⟨s1, s2, rfl, hA, hb⟩
        replace j := j.next hb; replace hq := hq.below hb; replace h7 := h7.below hb h7.lt; replace h3 := h3.below hb h3.lt
        go_wp2_with fail
        refine m_keep ⟨h7, h3⟩ ?_
        (refine m_q 4 (v := ?_) (by kernel_rfl) rfl rfl (fun W hW => ?_) ?_; rotate_left; (go_simp; first | done | with_reducible rfl); simp only [Act.put, List.setIfInBounds_toArray, List.set_cons_zero, List.set_cons_succ]); (refine m_q 5 (v := ?_) (by kernel_rfl) rfl rfl (fun W hW => ?_) ?_; rotate_left; (go_simp; first | done | with_reducible rfl); simp only [Act.put, List.setIfInBounds_toArray, List.set_cons_zero, List.set_cons_succ]); (refine m_q 6 (v := ?_) (by kernel_rfl) rfl rfl (fun W hW => ?_) ?_; rotate_left; (go_simp; first | done | with_reducible rfl); simp only [Act.put, List.setIfInBounds_toArray, List.set_cons_zero, List.set_cons_succ])
        clear hb
        refine m_s1 7 (by kernel_rfl) rfl ?_
        go_wp2_with fail
        have hB8_lo := j.below.size; have hB8_hi := h7.lt
        refine absN fun wk3 hB8 hb hzq => ?_
        clear hzq
        replace j := j.next hb; replace hq := hq.below hb; replace h7 := h7.below hb h7.lt; replace h3 := h3.below hb h3.lt; replace hA := hA.below hb
        refine m_keep ⟨h7, h3⟩ ?_
        generalize wk2.heap.size = g8 at hB8 hB8_lo hB8_hi ⊢
        clear hb
        have e0 := hB8.cell 0; have e1 := hB8.cell 1; have f0 := hB8.frozen 0; have f1 := hB8.frozen 1
        have P8 := hB8.putc (.pointer s1) (.pointer s2)
        have J := j.cfg2 hT hB8 hB8_lo (.pointer s1) (.pointer s2)
        have Q := hq.cfg2 (c := s1) (d := s2) hB8; have A1 := hA.cfg2 (c := s1) (d := s2) hB8
        have Y7 := h7.far2 (Nat.ne_of_lt hB8_hi) (.pointer s1) (.pointer s2)
        have Y3 := h3.far2 (h3.ne_ hB8 (by decide)) (.pointer s1) (.pointer s2)
        clear hB8 j hq hA h7 h3
        refine m_s1 8 (by kernel_rfl) rfl ?_
        go_wp2_with fail
        refine m_keep (W := put2 wk3 g8 (.pointer s1) (.pointer s2)) ⟨Y7, Y3⟩ ?_
        (refine m_q 9 (v := ?_) (by kernel_rfl) rfl rfl (fun W hW => ?_) ?_; rotate_left; (go_simp; first | done | with_reducible rfl); simp only [Act.put, List.setIfInBounds_toArray, List.set_cons_zero, List.set_cons_succ])
        refine m_end (by kernel_rfl) ?_
        go_wp2_with fail
        go_meet
        exact ⟨_, s1, s2, rfl, rfl, P8, Q, A1, Y7, Y3, J⟩
      · go_wp2_with fail
        have hB8_lo := j.below.size; have hB8_hi := h7.lt
        refine absN fun wk4 hB8 hb hzq => ?_
        clear hzq
        replace j := j.next hb; replace hq := hq.below hb; replace h7 := h7.below hb h7.lt; replace h3 := h3.below hb h3.lt
        refine m_keep ⟨h7, h3⟩ ?_
        generalize wk1.heap.size = g8 at hB8 hB8_lo hB8_hi ⊢
        clear hb
        refine m_s1 3 (by kernel_rfl) rfl ?_
        go_wp2_with fail
        refine (apply_res q1 r1 a p M P kd x y _ hq hkd).mono ?_
        rintro e wk5 ⟨s1, s2, rfl, hA, hb⟩
        replace j := j.next hb; replace hq := hq.below hb; replace h7 := h7.below hb h7.lt; replace h3 := h3.below hb h3.lt; replace hB8 := hB8.below hb hB8.lt
        go_wp2_with fail
        refine m_keep ⟨h7, h3⟩ ?_
        (refine m_q 4 (v := ?_) (by kernel_rfl) rfl rfl (fun W hW => ?_) ?_; rotate_left; (go_simp; first | done | with_reducible rfl); simp only [Act.put, List.setIfInBounds_toArray, List.set_cons_zero, List.set_cons_succ]); (refine m_q 5 (v := ?_) (by kernel_rfl) rfl rfl (fun W hW => ?_) ?_; rotate_left; (go_simp; first | done | with_reducible rfl); simp only [Act.put, List.setIfInBounds_toArray, List.set_cons_zero, List.set_cons_succ]); (refine m_q 6 (v := ?_) (by kernel_rfl) rfl rfl (fun W hW => ?_) ?_; rotate_left; (go_simp; first | done | with_reducible rfl); simp only [Act.put, List.setIfInBounds_toArray, List.set_cons_zero, List.set_cons_succ])
        clear hb
        have e0 := hB8.cell 0; have e1 := hB8.cell 1; have f0 := hB8.frozen 0; have f1 := hB8.frozen 1
        have P8 := hB8.putc (.pointer s1) (.pointer s2)
        have J := j.cfg2 hT hB8 hB8_lo (.pointer s1) (.pointer s2)
        have Q := hq.cfg2 (c := s1) (d := s2) hB8; have A1 := hA.cfg2 (c := s1) (d := s2) hB8
        have Y7 := h7.far2 (Nat.ne_of_lt hB8_hi) (.pointer s1) (.pointer s2)
        have Y3 := h3.far2 (h3.ne_ hB8 (by decide)) (.pointer s1) (.pointer s2)
        clear hB8 j hq hA h7 h3
        refine m_s1 8 (by kernel_rfl) rfl ?_
        go_wp2_with fail
        refine m_keep (W := put2 wk5 g8 (.pointer s1) (.pointer s2)) ⟨Y7, Y3⟩ ?_
        (refine m_q 9 (v := ?_) (by kernel_rfl) rfl rfl (fun W hW => ?_) ?_; rotate_left; (go_simp; first | done | with_reducible rfl); simp only [Act.put, List.setIfInBounds_toArray, List.set_cons_zero, List.set_cons_succ])
        refine m_end (by kernel_rfl) ?_
        go_wp2_with fail
        go_meet
        exact ⟨_, s1, s2, rfl, rfl, P8, Q, A1, Y7, Y3, J⟩
    · go_wp2_with fail
      have hB8_lo := j.below.size; have hB8_hi := h7.lt
      refine absN fun wk6 hB8 hb hzq => ?_
      clear hzq
      replace j := j.next hb; replace hq := hq.below hb; replace h7 := h7.below hb h7.lt; replace h3 := h3.below hb h3.lt
      refine m_keep ⟨h7, h3⟩ ?_
      generalize wq.heap.size = g8 at hB8 hB8_lo hB8_hi ⊢
      clear hb
      refine m_s1 2 (by kernel_rfl) rfl ?_
      go_wp2_with fail
      refine (step_any kd x y _ hkd).mono ?_
      rintro e wk7 ⟨rfl, hb⟩
      replace j := j.next hb; replace hq := hq.below hb; replace h7 := h7.below hb h7.lt; replace h3 := h3.below hb h3.lt; replace hB8 := hB8.below hb hB8.lt
      go_wp2_with fail
      refine m_keep ⟨h7, h3⟩ ?_
      clear hb
      refine m_s1 3 (by kernel_rfl) rfl ?_
      go_wp2_with fail
      refine (apply_res q1 r1 a p M P kd x y _ hq hkd).mono ?_
      rintro e wk8 ⟨s1, s2, rfl, hA, hb⟩
      replace j := j.next hb; replace hq := hq.below hb; replace h7 := h7.below hb h7.lt; replace h3 := h3.below hb h3.lt; replace hB8 := hB8.below hb hB8.lt
      go_wp2_with fail
      refine m_keep ⟨h7, h3⟩ ?_
      (refine m_q 4 (v := ?_) (by kernel_rfl) rfl rfl (fun W hW => ?_) ?_; rotate_left; (go_simp; first | done | with_reducible rfl); simp only [Act.put, List.setIfInBounds_toArray, List.set_cons_zero, List.set_cons_succ]); (refine m_q 5 (v := ?_) (by kernel_rfl) rfl rfl (fun W hW => ?_) ?_; rotate_left; (go_simp; first | done | with_reducible rfl); simp only [Act.put, List.setIfInBounds_toArray, List.set_cons_zero, List.set_cons_succ]); (refine m_q 6 (v := ?_) (by kernel_rfl) rfl rfl (fun W hW => ?_) ?_; rotate_left; (go_simp; first | done | with_reducible rfl); simp only [Act.put, List.setIfInBounds_toArray, List.set_cons_zero, List.set_cons_succ])
      clear hb
      have e0 := hB8.cell 0; have e1 := hB8.cell 1; have f0 := hB8.frozen 0; have f1 := hB8.frozen 1
      have P8 := hB8.putc (.pointer s1) (.pointer s2)
      have J := j.cfg2 hT hB8 hB8_lo (.pointer s1) (.pointer s2)
      have Q := hq.cfg2 (c := s1) (d := s2) hB8; have A1 := hA.cfg2 (c := s1) (d := s2) hB8
      have Y7 := h7.far2 (Nat.ne_of_lt hB8_hi) (.pointer s1) (.pointer s2)
      have Y3 := h3.far2 (h3.ne_ hB8 (by decide)) (.pointer s1) (.pointer s2)
      clear hB8 j hq hA h7 h3
      refine m_s1 8 (by kernel_rfl) rfl ?_
      go_wp2_with fail
      refine m_keep (W := put2 wk8 g8 (.pointer s1) (.pointer s2)) ⟨Y7, Y3⟩ ?_
      (refine m_q 9 (v := ?_) (by kernel_rfl) rfl rfl (fun W hW => ?_) ?_; rotate_left; (go_simp; first | done | with_reducible rfl); simp only [Act.put, List.setIfInBounds_toArray, List.set_cons_zero, List.set_cons_succ])
      refine m_end (by kernel_rfl) ?_
      go_wp2_with fail
      go_meet
      exact ⟨_, s1, s2, rfl, rfl, P8, Q, A1, Y7, Y3, J⟩
  case rest =>
    obtain ⟨g8, s1, s2, rfl, rfl, h8, hq, hA, h7, h3, J⟩ := hcut
    clear j
    have HAP := rapply_any a c1 p d1 A1 B1 M P kd x y wc J.rc
    rw [J.lM, J.lP] at HAP
    unfold RPost at HAP
    rw [J.lM, J.lP] at HAP
    obtain ⟨E, hE⟩ : ∃ E, E = stepE a p M P kd x y := ⟨_, rfl⟩
    have lU := stepU_len a M kd x y
    have lPp := stepP_len p P kd x y
    obtain ⟨U2, hU2⟩ : ∃ X, X = stepU a M kd x y := ⟨_, rfl⟩
    obtain ⟨P2, hP2⟩ : ∃ X, X = stepP p P kd x y := ⟨_, rfl⟩
    rw [← hE, ← hU2, ← hP2] at HAP hA
    rw [← hE]
    rw [← hU2, J.lM] at lU
    rw [← hP2, J.lP] at lPp
    have HAPP := hideC HAP
    have LU := Lib.hid lU
    have LP := Lib.hid lPp
    clear hE hU2 hP2 HAP lU lPp
    have x0 := J.old.cell 0
    have x1 := J.old.cell 1
    have x2 := J.old.cell 2
    have x3 := J.old.cell 3
    have y0 := h3.cell 0
    have y1 := h3.cell 1
    have y2 := h3.cell 2
    go_wp2_with fail
    refine HAPP.out.mono ?_
    have hbd := J.bd
    have HSM := hideC (fun W hW => same49_yes q1 r1 a c1 p d1 A1 B1 M P W (hq.users.below (w' := W) hW) (hq.perms.below hW) (J.rc.users.ref.below hW) (J.rc.perms.ref.below hW) (by omega) (by have := J.lM; omega) (by omega) (by have := J.lP; omega))
    rw [J.lM, J.lP] at HSM
    rintro e w6 ⟨hb6, ⟨hE0, rfl⟩ | ⟨hE0, A9, c9, B9, d9, rfl, hrc⟩⟩
    · obtain ⟨rfl, rfl⟩ := hA.1 hE0
      have e1 : ((E : Int) != 0) = true := by simp; omega
      have J6 := J.next hb6
      have h86 := h8.below hb6 h8.lt
      have h76 := h7.below hb6 h7.lt
      clear x0 x1 x2 x3 y0 y1 y2 h8 h7 h3 J hA hE0 HAPP hq
      have z0 := h76.cell 0
      have z1 := h76.cell 1
      have z2 := J6.old.cell 0
      have z3 := J6.old.cell 1
      have z4 := J6.old.cell 2
      have z5 := J6.old.cell 3
      have l7 := h76.lt
      have l3 := J6.old.lt
      go_wp2_with fail
      refine absC1 fun w7 h10 hb7 hz7 => ?_
      have J7 := J6.next hb7
      have h87 := h86.below hb7 h86.lt
      clear z0 z1 z2 z3 z4 z5 l7 l3
      refine (HSM.out w7 (hb6.trans (hb7.mono hb6.size))).mono ?_
      rintro e w8 ⟨rfl, hb8⟩
      have J8 := J7.next hb8
      have h88 := h87.below hb8 h87.lt
      have z0 := h88.cell 0
      have z1 := h88.cell 1
      go_wp2_with fail
      go_ret
      exact ⟨rfl, J8.below⟩
    · obtain ⟨u2, p2, rfl, rfl, hc2⟩ := hA.2 hE0
      subst hE0
      have J6 := J.next hb6
      have h86 := h8.below hb6 h8.lt
      have h76 := h7.below hb6 h7.lt
      have hc6 := hc2.below hb6
      clear x0 x1 x2 x3 y0 y1 y2 h8 h7 h3 J hA HAPP hq hc2
      have z0 := h76.cell 0
      have z1 := h76.cell 1
      have z2 := J6.old.cell 0
      have z3 := J6.old.cell 1
      have z4 := J6.old.cell 2
      have z5 := J6.old.cell 3
      have l7 := h76.lt
      have l3 := J6.old.lt
      go_wp2_with fail
      refine absC1 fun w7 h10 hb7 hz7 => ?_
      have J7 := J6.next hb7
      have h87 := h86.below hb7 h86.lt
      have hc7 := hc6.below hb7
      have hr7 := hrc.below hb7
      clear z0 z1 z2 z3 z4 z5 l7 l3 hc6 hrc
      refine (HSM.out w7 (hb6.trans (hb7.mono hb6.size))).mono ?_
      rintro e w8 ⟨rfl, hb8⟩
      have J8 := J7.next hb8
      have h88 := h87.below hb8 h87.lt
      have h108 := h10.below hb8 h10.lt
      have hc8 := hc7.below hb8
      have hr8 := hr7.below hb8
      have z0 := h88.cell 0
      have z1 := h88.cell 1
      have y0 := h108.cell 0
      have y1 := h108.cell 1
      have y2 := h108.cell 2
      have y3 := h108.cell 3
      have HS2 := same49_yes u2 p2 a c9 p d9 A9 B9 U2 P2 w8 hc8.users hc8.perms hr8.users.ref hr8.perms.ref (by omega) (by have := LU.out; omega) (by omega) (by have := LP.out; omega)
      rw [LU.out, LP.out] at HS2
      have HS3 := hideC HS2
      clear HS2 hc8 hr8 hc7 hr7 hz7
      go_wp2_with fail
      refine HS3.out.mono ?_
      rintro e w9 ⟨rfl, hb9⟩
      go_wp2_with fail
      go_ret
      exact ⟨rfl, (J8.next hb9).below⟩
end Go.Proofs.YthkjigggfeejdaaDoor
