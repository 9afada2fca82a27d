import Derived.Test.YtjlcnbfkblmoeaaDoorRead8
import Derived.Test.YtjlcnbfkblmoeaaDoorLaw12
namespace Go.Proofs.YtjlcnbfkblmoeaaDoor
open Go.RowKit

/-- Bytes as a string has them. -/
def toU (l : List Nat) : List UInt8 := l.map fun b => UInt8.ofNat b
theorem toU_at {l : List Nat} (h : ∀ b ∈ l, b < 256) {j : Nat} (hj : j < l.length) : ((toU l)[j]'(by simpa [toU] using hj)).toNat = l[j] := by
  unfold toU
  rw [List.getElem_map, UInt8.toNat_ofNat']
  have := h _ (List.getElem_mem hj)
  omega
theorem conv_by {W : World} {A : Option Addr} {c : Nat} {l : List Nat} (h : IsBy W A c l) (hl : ∀ b ∈ l, b < 256) :
    (convert 22 9 (.slice A l.length c)).run Tryd.prog W = .ok (.string ⟨(toU l).toArray⟩) W := by
  have hlen : (toU l).length = l.length := by simp [toU]
  by_cases h0 : l = []
  · subst h0
    rw [run_convert_bytes_string W _ _ _ A _ c Tryd.underlying22 Tryd.underlying5 Tryd.underlying9]
    cases A <;> simp [Conv.bytesToString, loadCells, toU] <;> rfl
  · obtain ⟨g, off, rfl, _, _⟩ := h.cell (k := 0) (List.length_pos_iff.2 h0)
    have := run_convert_bytes_back (P := Tryd.prog) W 22 9 5 ⟨g, off, none⟩ c (toU l) Tryd.underlying22 Tryd.underlying5 Tryd.underlying9 (fun j hj => by
      have hj' : j < l.length := by rw [← hlen]; exact hj
      obtain ⟨g', off', e, _, hc⟩ := h.cell hj'
      cases e
      have e : (⟨g, off, none⟩ : Addr).add j = ⟨g, off + j, none⟩ := by unfold Addr.add; split <;> simp_all
      rw [e, hc, toU_at hl hj'])
    rwa [hlen] at this
theorem mbytes_by (q C : Nat) (Ns : List Nat) (l : List Nat) (hm : mbytes C Ns Ns.length = zb l) (W : World) (h : IsMat W q C Ns) :
    Calls Tryd.prog 54 #[ptr q] W fun e w' => ∃ g c, e = .returned (.slice (some ⟨g, 0, none⟩) l.length c) ∧ IsBy w' (some ⟨g, 0, none⟩) c l ∧ 0 < l.length ∧ Below W.heap.size W w' := by
  refine (mbytes_any q C Ns W h).mono ?_
  rintro e w' ⟨g, c, rfl, hown, hp, hc, hb⟩
  rw [hm] at hown hp hc ⊢
  have hl : (zb l).length = l.length := by simp
  rw [hl] at hown hp hc ⊢
  obtain ⟨_, _, e, h6, h7, h8, _⟩ := row_of_own hown
  cases e
  exact ⟨g, c, rfl, ⟨h6, h7, (fun e => by cases e), h8⟩, hp, hb⟩
theorem ns_lt {C : Nat} {M : List (List Bool)} (hC : C ≤ 8) : ∀ N ∈ nsOf C M, N < 2 ^ C := by
  intro N hN
  obtain ⟨i, hi, rfl⟩ := List.mem_map.1 hN
  apply Nat.lt_pow_two_of_testBit
  intro j hj
  rw [testBit_rowN _ _ _ _ (by omega), hasR_nat]
  simp; omega
set_option maxRecDepth 100000 in
set_option maxHeartbeats 40000000 in
theorem bytes_walk (v : Value) (R C : Nat) (zs : List Int) (A : Option Addr) (c0 : Nat) (ps : List Nat) (cut : Nat) (w : World) (hT : Tab w) (h : IsRaw w v R C zs) (hp : IsBy w A c0 ps) (hps : ∀ b ∈ ps, b < 256) (hcut : cut ≤ 255) :
    Calls Tryd.prog 12 #[v, .slice A ps.length c0, .int .u8 cut] w fun e w' => e = .returned (.bool true) ∧ Below w.heap.size w w' := by
  have hbd := h.bd
  obtain ⟨r, c, A0, d0, hv, _⟩ := id h
  subst hv
  have HIN := hideC h; clear h
  go_enter Tryd.func12, Tryd.ntmps12
  go_wp2_with fail
  refine absC1 fun W0 hX hbel0 hz => ?_
  have HZ := Lib.hid hz; clear hz
  (with_reducible refine (awake_any W0 (hT.below hbel0)).mono ?_); rintro e w1 ⟨rfl, hb1⟩
  have b1 := hbel0.trans (hb1.mono hbel0.size)
  have hX1 := hX.below hb1 hX.lt
  have x0 := hX1.cell 0
  have x1 := hX1.cell 1
  have x2 := hX1.cell 2
  have HM := hideC (make_raw _ R C zs w1 (HIN.out.below b1))
  go_wp2_with fail; (with_reducible refine (HM.out).mono ?_); rintro e w2 ⟨A2, c2, rfl, hI2, hb2⟩
  have b2 := b1.trans (hb2.mono b1.size)
  obtain ⟨M, hMd⟩ : ∃ M, M = rawM R C zs := ⟨_, rfl⟩
  have hML : M.length = R := by rw [hMd, mat_len]
  rw [← hMd] at hI2
  subst hML
  clear hMd HM HIN hX hX1 x0 x1 x2
  go_wp2_with fail
  refine absC1 fun W3 hY hb3 hz3 => ?_
  have HZ3 := Lib.hid hz3; clear hz3
  have b3 := b2.trans (hb3.mono b2.size)
  have hI3 := hI2.below hb3
  (with_reducible refine (matrixl_any C A2 c2 M W3 hI3 (by omega) (by omega)).mono ?_); rintro e w4 ⟨q, rfl, hm4, _, hb4⟩
  have b4 := b3.trans (hb4.mono b3.size)
  have hY4 := hY.below hb4 hY.lt
  have y0 := hY4.cell 0
  have y1 := hY4.cell 1
  have hI4 := hI3.below hb4
  have hp4 := hp.below b4
  clear hY hI2 hI3 hb3 b2 b3 hb1 hb2 hb4 b1 hbel0 hT hp
  obtain ⟨L, hL⟩ : ∃ L, L = mb C (nsOf C M) := ⟨_, rfl⟩
  have hNl : (nsOf C M).length = M.length := nsTo_len C M M.length
  have hlt256 : ∀ N ∈ nsOf C M, N < 256 := fun N hN => Nat.lt_of_lt_of_le (ns_lt (by omega) N hN) (Nat.le_trans (Nat.pow_le_pow_right (by omega) (show C ≤ 8 by omega)) (by omega))
  have hmb : mbytes C (nsOf C M) (nsOf C M).length = zb L := by rw [hL]; exact mb_bytes (by omega) (by omega) hlt256
  have hL256 : ∀ b ∈ L, b < 256 := by rw [hL]; exact mb_lt (by omega) (by omega) hlt256
  have hrd : rM L = some ((C, nsOf C M), []) := by rw [hL]; exact rM_mb (by omega) (by omega) (ns_lt (by omega))
  have hLlen : L.length ≤ 20 := by
    have : ∀ k, (mbk C (nsOf C M) k).length ≤ 2 + 2 * k := by
      intro k
      induction k with
      | zero => simp [mbk]
      | succ k ih =>
        by_cases hk : k < (nsOf C M).length
        · rw [mbk_succ hk, List.length_append]
          have := sb_len (nsOf C M)[k]
          omega
        · have e : mbk C (nsOf C M) (k + 1) = mbk C (nsOf C M) k := by unfold mbk; rw [List.take_of_length_le (by omega), List.take_of_length_le (by omega)]
          rw [e]; omega
    have := this (nsOf C M).length
    rw [mbk_full, ← hL] at this
    omega
  have KB := hideC (fun W hm => mbytes_by q C (nsOf C M) L hmb W hm)
  have KR : Hid (∀ W, IsRef W C A2 M → Calls Tryd.prog 55 #[refV C A2 M.length c2] W fun e w' => ∃ g c, e = .returned (.slice (some ⟨g, 0, none⟩) L.length c) ∧ IsBy w' (some ⟨g, 0, none⟩) c L ∧ Below W.heap.size W w') := hideC fun W hi => (bytesr_any C A2 c2 M W hi (by omega) (by omega)).mono fun e w' hh => by
    obtain ⟨v, rfl, hown, hb⟩ := hh
    rw [← hL] at hown
    obtain ⟨g, c, rfl⟩ := own_form hown (by rw [hL]; simp [mb])
    obtain ⟨_, _, e, h6, h7, h8, _⟩ := row_of_own hown
    cases e
    exact ⟨g, c, rfl, ⟨h6, h7, (fun e => by cases e), h8⟩, hb⟩
  have HRD := Lib.hid hrd
  have HL2 := Lib.hid hL256
  have HPS := Lib.hid hps
  clear hL hlt256 hmb hL256 hrd hNl hps
  go_wp2_with fail
  refine wp_mix (fun V => Below w4.heap.size w4 V) 11 (by kernel_rfl) (by kernel_rfl) (Below.refl _ _).drew ?_
  (refine m_q 0 (v := ?_) (by kernel_rfl) rfl rfl (fun W hW => ?_) ?_; rotate_left; (go_simp; first | done | with_reducible rfl); simp only [Act.put, List.setIfInBounds_toArray, List.set_cons_zero, List.set_cons_succ]); (refine m_q 1 (v := ?_) (by kernel_rfl) rfl rfl (fun W hW => ?_) ?_; rotate_left; (go_simp; first | done | with_reducible rfl); simp only [Act.put, List.setIfInBounds_toArray, List.set_cons_zero, List.set_cons_succ]); (refine m_q 2 (v := ?_) (by kernel_rfl) rfl rfl (fun W hW => ?_) ?_; rotate_left; (go_simp; first | done | with_reducible rfl); simp only [Act.put, List.setIfInBounds_toArray, List.set_cons_zero, List.set_cons_succ])
  (refine m_yes 3 (v := ?_) (by kernel_rfl) rfl (by rfl) (fun W hW => ?_) ?_; rotate_left; (go_simp; first | done | with_reducible rfl); simp only [Act.put, List.setIfInBounds_toArray, List.set_cons_zero, List.set_cons_succ])
  (refine m_yes 6 (v := ?_) (by kernel_rfl) rfl (by rfl) (fun W hW => ?_) ?_; rotate_left; (have z0 := onB hW y0; have z1 := onB hW y1; go_simp; first | done | with_reducible rfl); simp only [Act.put, List.setIfInBounds_toArray, List.set_cons_zero, List.set_cons_succ])
  refine m_s1 4 (by kernel_rfl) rfl ?_
  go_wp2_with fail
  refine (KB.out _ (hm4.below (Below.refl _ _).drew)).mono ?_
  rintro e w5 ⟨g5, c5, rfl, hby5, hLp, hb5⟩
  have k5 : Below w4.heap.size w4 w5 := (Below.refl _ _).drew.trans hb5
  have HC5 := hideC (fun V (hV : Below w5.heap.size w5 V) => conv_by (hby5.below hV) HL2.out)
  go_wp2_with fail
  refine m_next k5 ?_
  (refine m_yes 5 (v := ?_) (by kernel_rfl) rfl (by rfl) (fun W hW => ?_) ?_; rotate_left; (have z := HC5.out W hW; go_simp; first | done | with_reducible rfl); simp only [Act.put, List.setIfInBounds_toArray, List.set_cons_zero, List.set_cons_succ])
  refine m_s1 7 (by kernel_rfl) rfl ?_
  go_wp2_with fail
  refine (KR.out _ (hI4.below k5)).mono ?_
  rintro e w6 ⟨g6, c6, rfl, hby6, hb6⟩
  have k6 := k5.trans (hb6.mono k5.size)
  have HC6 := hideC (fun V (hV : Below w6.heap.size w6 V) => conv_by (hby6.below hV) HL2.out)
  go_wp2_with fail
  refine m_next hb6 ?_
  (refine m_yes 8 (v := ?_) (by kernel_rfl) rfl (by rfl) (fun W hW => ?_) ?_; rotate_left; (have z := HC6.out W hW; go_simp; first | done | with_reducible rfl); simp only [Act.put, List.setIfInBounds_toArray, List.set_cons_zero, List.set_cons_succ])
  (refine m_yes 9 (v := ?_) (by kernel_rfl) rfl (by rfl) (fun W hW => ?_) ?_; rotate_left; (go_simp; first | done | with_reducible rfl); simp only [Act.put, List.setIfInBounds_toArray, List.set_cons_zero, List.set_cons_succ])
  (refine m_q 10 (v := ?_) (by kernel_rfl) rfl rfl (fun W hW => ?_) ?_; rotate_left; (go_simp; first | done | with_reducible rfl); simp only [Act.put, List.setIfInBounds_toArray, List.set_cons_zero, List.set_cons_succ])
  refine m_end (by kernel_rfl) ?_
  clear HC5 HC6 hby5 hby6 hb5 hb6 y0 y1 KR
  have hm6 := hm4.below k6
  have hp6 := hp4.below k6
  have b6 := b4.trans (k6.mono b4.size)
  clear hm4 hp4 hI4 hY4 b4 k5 k6
  go_wp2_with fail
  refine (KB.out _ hm6).mono ?_
  rintro e w7 ⟨g7, c7, rfl, hby7, _, hb7⟩
  have b7 := b6.trans (hb7.mono b6.size)
  have hm7 := hm6.below hb7
  have hp7 := hp6.below hb7
  have HR1 := hideC (mread_any (some ⟨g7, 0, none⟩) c7 L w7 hby7 HL2.out (by omega))
  clear hb7 hm6 hp6 b6
  go_wp2_with fail; (with_reducible refine (HR1.out).mono ?_); rintro e w8 ⟨hb8, hcase⟩
  have b8 := b7.trans (hb8.mono b7.size)
  have hm8 := hm7.below hb8
  have hp8 := hp7.below hb8
  have hby8 := hby7.below hb8
  rcases hcase with ⟨q8, C8, Ns8, hr8, rfl, hmm8⟩ | ⟨hno, _⟩
  · rw [HRD.out] at hr8
    injection hr8 with hr8
    injection hr8 with hr8 _
    injection hr8 with e1 e2
    subst e1 e2
    obtain ⟨k, hk⟩ : ∃ k, k = cut % L.length := ⟨_, rfl⟩
    have hkl : k < L.length := by rw [hk]; exact Nat.mod_lt _ hLp
    have hkm : (cut : Int).tmod (L.length : Int) = (k : Int) := by rw [hk, Int.tmod_eq_emod_of_nonneg (by omega)]; rfl
    have hL0 : ((L.length : Int) == 0) = false := by rw [beq_eq_false_iff_ne]; omega
    have hc7 := hby8.1
    have hwc := i64w (x := (cut : Int)) (by omega)
    have htk : (L.take k).length = k := by rw [List.length_take]; omega
    have hR2 := mread_any (some ⟨g7, 0, none⟩) c7 (L.take k) w8 (hby8.take k) (fun b hb => HL2.out b (List.mem_of_mem_take hb)) (by omega)
    rw [htk] at hR2
    have HR2 := hideC hR2
    have HCUT := Lib.hid (fun y => rM_cut HRD.out hkl y)
    obtain ⟨m, hmd⟩ : ∃ m, m = min ps.length 60 := ⟨_, rfl⟩
    have hmin : min (ps.length : Int) 60 = (m : Int) := by omega
    have hpc := hp8.1
    have hmc : m ≤ c0 := by omega
    have htm : (ps.take m).length = m := by rw [List.length_take]; omega
    have hm60 : m ≤ 60 := by omega
    have HTM := Lib.hid htm
    clear hb8 hm7 hp7 hby7 b7 hk hR2 htk hmd htm
    go_wp2_with fail; (with_reducible refine (HR2.out).mono ?_); rintro e w9 ⟨hb9, hcase⟩
    have b9 := b8.trans (hb9.mono b8.size)
    have hp9 := hp8.below hb9
    have hm9 := hm8.below hb9
    have hmm9 := hmm8.below hb9
    rcases hcase with ⟨q9, C9, Ns9, hr9, _⟩ | ⟨_, rfl⟩
    · exact absurd hr9 (HCUT.out _)
    have hR3 := mread_any A c0 (ps.take m) w9 (hp9.take m) (fun b hb => HPS.out b (List.mem_of_mem_take hb)) (by rw [HTM.out]; omega)
    rw [HTM.out] at hR3
    have HR3 := hideC hR3
    clear hb9 hp8 hm8 hmm8 b8 hR3 hby8 hkm hL0 hc7 hwc
    go_wp2_with fail; (with_reducible refine (HR3.out).mono ?_); rintro e w10 ⟨hb10, hcase⟩
    have b10 := b9.trans (hb10.mono b9.size)
    have hp10 := hp9.below hb10
    have hm10 := hm9.below hb10
    have hmm10 := hmm9.below hb10
    clear hmin hmc hpc hp9 hm9 hmm9 b9 hb10
    rcases hcase with ⟨q10, C10, Ns10, hr10, rfl, hk10⟩ | ⟨hno, rfl⟩
    · have henc := (rM_enc (fun b hb => HPS.out b (List.mem_of_mem_take hb)) hr10).1
      have hmb2 : mbytes C10 Ns10 Ns10.length = zb (ps.take m) := by rw [henc]; simp
      have HB2 := hideC (fun W hm => mbytes_by q10 C10 Ns10 (ps.take m) hmb2 W hm)
      rw [HTM.out] at HB2
      have hcp := fun V (hV : Below w10.heap.size w10 V) => conv_by ((hp10.take m).below hV) (fun b hb => HPS.out b (List.mem_of_mem_take hb))
      rw [HTM.out] at hcp
      have HCP := hideC hcp
      clear hcp henc hmb2 hr10 hp10
      go_wp2_with fail
      refine wp_mix (fun V => Below w10.heap.size w10 V) 22 (by kernel_rfl) (by kernel_rfl) (Below.refl _ _).drew ?_
      (refine m_q 0 (v := ?_) (by kernel_rfl) rfl rfl (fun W hW => ?_) ?_; rotate_left; (go_simp; first | done | with_reducible rfl); simp only [Act.put, List.setIfInBounds_toArray, List.set_cons_zero, List.set_cons_succ]); (refine m_q 1 (v := ?_) (by kernel_rfl) rfl rfl (fun W hW => ?_) ?_; rotate_left; (go_simp; first | done | with_reducible rfl); simp only [Act.put, List.setIfInBounds_toArray, List.set_cons_zero, List.set_cons_succ]); (refine m_q 2 (v := ?_) (by kernel_rfl) rfl rfl (fun W hW => ?_) ?_; rotate_left; (go_simp; first | done | with_reducible rfl); simp only [Act.put, List.setIfInBounds_toArray, List.set_cons_zero, List.set_cons_succ])
      (refine m_yes 3 (v := ?_) (by kernel_rfl) rfl (by rfl) (fun W hW => ?_) ?_; rotate_left; (go_simp; first | done | with_reducible rfl); simp only [Act.put, List.setIfInBounds_toArray, List.set_cons_zero, List.set_cons_succ]); (refine m_yes 6 (v := ?_) (by kernel_rfl) rfl (by rfl) (fun W hW => ?_) ?_; rotate_left; (go_simp; first | done | with_reducible rfl); simp only [Act.put, List.setIfInBounds_toArray, List.set_cons_zero, List.set_cons_succ])
      (refine m_yes 7 (v := ?_) (by kernel_rfl) rfl (by rfl) (fun W hW => ?_) ?_; rotate_left; (have z := HCP.out W hW; go_simp; first | done | with_reducible rfl); simp only [Act.put, List.setIfInBounds_toArray, List.set_cons_zero, List.set_cons_succ])
      refine m_s1 4 (by kernel_rfl) rfl ?_
      go_wp2_with fail
      refine (HB2.out _ (hk10.below (Below.refl _ _).drew)).mono ?_
      rintro e w11 ⟨g11, c11, rfl, hby11, _, hb11⟩
      have k11 : Below w10.heap.size w10 w11 := (Below.refl _ _).drew.trans hb11
      have hc11 := fun V (hV : Below w11.heap.size w11 V) => conv_by (hby11.below hV) (fun b hb => HPS.out b (List.mem_of_mem_take hb))
      rw [HTM.out] at hc11
      have HC11 := hideC hc11
      clear hc11
      go_wp2_with fail
      refine m_next k11 ?_
      (refine m_yes 5 (v := ?_) (by kernel_rfl) rfl (by rfl) (fun W hW => ?_) ?_; rotate_left; (have z := HC11.out W hW; go_simp; first | done | with_reducible rfl); simp only [Act.put, List.setIfInBounds_toArray, List.set_cons_zero, List.set_cons_succ])
      (refine m_yes 8 (v := ?_) (by kernel_rfl) rfl (by rfl) (fun W hW => ?_) ?_; rotate_left; (go_simp; first | done | with_reducible rfl); simp only [Act.put, List.setIfInBounds_toArray, List.set_cons_zero, List.set_cons_succ])
      (refine m_q 9 (v := ?_) (by kernel_rfl) rfl rfl (fun W hW => ?_) ?_; rotate_left; (go_simp; first | done | with_reducible rfl); simp only [Act.put, List.setIfInBounds_toArray, List.set_cons_zero, List.set_cons_succ]); (refine m_q 10 (v := ?_) (by kernel_rfl) rfl rfl (fun W hW => ?_) ?_; rotate_left; (go_simp; first | done | with_reducible rfl); simp only [Act.put, List.setIfInBounds_toArray, List.set_cons_zero, List.set_cons_succ])
      (refine m_yes 11 (v := ?_) (by kernel_rfl) rfl (by rfl) (fun W hW => ?_) ?_; rotate_left; (go_simp; first | done | with_reducible rfl); simp only [Act.put, List.setIfInBounds_toArray, List.set_cons_zero, List.set_cons_succ]); (refine m_yes 12 (v := ?_) (by kernel_rfl) rfl (by rfl) (fun W hW => ?_) ?_; rotate_left; (go_simp; first | done | with_reducible rfl); simp only [Act.put, List.setIfInBounds_toArray, List.set_cons_zero, List.set_cons_succ]); (refine m_yes 13 (v := ?_) (by kernel_rfl) rfl (by rfl) (fun W hW => ?_) ?_; rotate_left; (go_simp; first | done | with_reducible rfl); simp only [Act.put, List.setIfInBounds_toArray, List.set_cons_zero, List.set_cons_succ])
      (refine m_no 14 (by kernel_rfl) rfl (by rfl) ?_; simp only [Act.put, List.setIfInBounds_toArray, List.set_cons_zero, List.set_cons_succ]); (refine m_no 15 (by kernel_rfl) rfl (by rfl) ?_; simp only [Act.put, List.setIfInBounds_toArray, List.set_cons_zero, List.set_cons_succ]); (refine m_no 16 (by kernel_rfl) rfl (by rfl) ?_; simp only [Act.put, List.setIfInBounds_toArray, List.set_cons_zero, List.set_cons_succ])
      (refine m_no 17 (by kernel_rfl) rfl (by rfl) ?_; simp only [Act.put, List.setIfInBounds_toArray, List.set_cons_zero, List.set_cons_succ]); (refine m_no 18 (by kernel_rfl) rfl (by rfl) ?_; simp only [Act.put, List.setIfInBounds_toArray, List.set_cons_zero, List.set_cons_succ])
      (refine m_no 19 (by kernel_rfl) rfl (by rfl) ?_; simp only [Act.put, List.setIfInBounds_toArray, List.set_cons_zero, List.set_cons_succ])
      (refine m_yes 20 (v := ?_) (by kernel_rfl) rfl (by rfl) (fun W hW => ?_) ?_; rotate_left; (go_simp; first | done | with_reducible rfl); simp only [Act.put, List.setIfInBounds_toArray, List.set_cons_zero, List.set_cons_succ])
      (refine m_q 21 (v := ?_) (by kernel_rfl) rfl rfl (fun W hW => ?_) ?_; rotate_left; (go_simp; first | done | with_reducible rfl); simp only [Act.put, List.setIfInBounds_toArray, List.set_cons_zero, List.set_cons_succ])
      refine m_end (by kernel_rfl) ?_
      have hEq := equal_self q8 q C (nsOf C M) w11 (hmm10.below k11) (hm10.below k11)
      have HEQ := hideC hEq
      have b11 := b10.trans (k11.mono b10.size)
      clear HC11 HCP HB2 hby11 hb11 hEq hk10
      go_wp2_with fail
      refine HEQ.out.mono ?_
      rintro e w12 ⟨rfl, hb12⟩
      go_wp2_with fail
      go_ret
      exact ⟨rfl, b11.trans (hb12.mono b11.size)⟩
    · clear hno
      go_wp2_with fail
      refine wp_spine (fun W => Below w10.heap.size w10 W) [0, 1, 2, 3, 4, 5, 6, 7, 8, 9, 10, 11, 12, 13, 14, 15, 16, 17, 18, 19, 20, 21] [] (by kernel_rfl) (by kernel_rfl) ?_
      iterate 3 (refine wpE_op (v := ?_) rfl rfl (fun W hW => ?_) ?_; rotate_left; (go_simp; first | done | with_reducible rfl); simp only [Act.put, List.setIfInBounds_toArray, List.set_cons_zero, List.set_cons_succ])
      iterate 6 (refine wpE_no rfl (by rfl) ?_; simp only [Act.put, List.setIfInBounds_toArray, List.set_cons_zero, List.set_cons_succ])
      iterate 2 (refine wpE_op (v := ?_) rfl rfl (fun W hW => ?_) ?_; rotate_left; (go_simp; first | done | with_reducible rfl); simp only [Act.put, List.setIfInBounds_toArray, List.set_cons_zero, List.set_cons_succ])
      iterate 9 (refine wpE_yes (v := ?_) rfl (by rfl) (fun W hW => ?_) ?_; rotate_left; (go_simp; first | done | with_reducible rfl); simp only [Act.put, List.setIfInBounds_toArray, List.set_cons_zero, List.set_cons_succ])
      iterate 1 (refine wpE_yes (v := ?_) rfl (by rfl) (fun W hW => ?_) ?_; rotate_left; (go_simp; first | done | with_reducible rfl); simp only [Act.put, List.setIfInBounds_toArray, List.set_cons_zero, List.set_cons_succ])
      iterate 1 (refine wpE_op (v := ?_) rfl rfl (fun W hW => ?_) ?_; rotate_left; (go_simp; first | done | with_reducible rfl); simp only [Act.put, List.setIfInBounds_toArray, List.set_cons_zero, List.set_cons_succ])
      refine wpE_nil ⟨fun _ => (Below.refl _ _).drew, wpSp_nil ?_⟩
      have kd : Below w10.heap.size w10 w10.drew := (Below.refl _ _).drew
      have hEq := equal_self q8 q C (nsOf C M) w10.drew (hmm10.below kd) (hm10.below kd)
      have HEQ := hideC hEq
      have b11 := b10.trans (kd.mono b10.size)
      clear hEq
      go_wp2_with fail
      refine HEQ.out.mono ?_
      rintro e w12 ⟨rfl, hb12⟩
      go_wp2_with fail
      go_ret
      exact ⟨rfl, b11.trans (hb12.mono b11.size)⟩
  · exact absurd HRD.out (hno _)
end Go.Proofs.YtjlcnbfkblmoeaaDoor
