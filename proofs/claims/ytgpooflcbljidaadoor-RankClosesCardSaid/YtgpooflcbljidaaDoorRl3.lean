/-
  The law RankCloses.
-/
import Derived.Test.YtgpooflcbljidaaDoorRn7
import Derived.Test.YtgpooflcbljidaaDoorRrA
import Derived.Test.YtgpooflcbljidaaDoorRl2
import Derived.Test.YtgpooflcbljidaaDoorMix2
import Derived.Test.YtgpooflcbljidaaDoorJoin
import Derived.Deep.DeepCutAuto
import Derived.Deep.CutBlock
namespace Go.Proofs.YtgpooflcbljidaaDoor
open Go.RowKit
theorem wrap6 {x : Nat} (hx : x ≤ 255) : IntKind.i64.wrap ((x : Int).tmod 6) = (x : Int) % 6 := by
  rw [Int.tmod_eq_emod_of_nonneg (by omega), i64w ⟨by omega, by omega⟩]
/-- An element of the concepts that contain a cell. -/
theorem con_mem {C : Nat} {Ns : List Nat} (hl : Ns.length ≤ 4096) {i j s : Nat} (h : s ∈ conL C Ns i j) : cloN C Ns s = s &&& lowN C ∧ hasB s (j : Nat) = true ∧ hasB (havN C Ns s) (i : Nat) = true ∧ i < Ns.length := by
  rw [mem_conL, inC, Bool.and_eq_true, Bool.and_eq_true, decide_eq_true_eq] at h
  obtain ⟨⟨h1, h2⟩, h3⟩ := h
  refine ⟨?_, ?_, ?_, havN_lt hl h3⟩
  · rw [h1]
    refine (nat_ext fun x => ?_ : s = s &&& lowN C)
    rw [Nat.testBit_and, testBit_lowN, Bool.and_eq_true, decide_eq_true_eq]
    exact ⟨fun hx => ⟨hx, comN_lt (by rw [cloN] at h1; rw [h1]; exact hx)⟩, fun hx => hx.1⟩
  · unfold hasB; simpa using h2
  · unfold hasB; simpa using h3
/-- The closure of columns of a row around a cell is one of them. -/
theorem lec_ne {L : List Nat} (h : Lec L) {k a b : Nat} (ha : L[k]? = some a) (hb : L[k + 1]? = some b) : a ≠ b := by
  obtain ⟨h1, rfl⟩ := List.getElem?_eq_some_iff.1 ha
  obtain ⟨h2, rfl⟩ := List.getElem?_eq_some_iff.1 hb
  intro e
  have := (List.pairwise_iff_getElem.1 h) k (k + 1) h1 h2 (by omega)
  rw [e, lecR_irrefl] at this; cases this
theorem around_mem {C : Nat} {Ns : List Nat} (hl : Ns.length ≤ 4096) (hC : C ≤ 4096) {i j : Nat} (hm : mhas C Ns (i : Nat) (j : Nat) = true) (S : Nat) : cloN C Ns (withB (S &&& mrow Ns (i : Nat)) (j : Nat)) ∈ conL C Ns i j := by
  obtain ⟨a, b, ha, hb, hal, hbC, hbit⟩ := mhas_parts hm
  obtain rfl : i = a := by omega
  obtain rfl : j = b := by omega
  rw [mrow, if_pos (by omega), Int.toNat_natCast]
  have hw : ∀ x, (withB (S &&& Ns.getD i 0) (j : Nat)).testBit x = true → (Ns.getD i 0).testBit x = true := fun x hx => by
    unfold withB at hx
    split at hx
    · rw [Int.toNat_natCast, Nat.testBit_or, Bool.or_eq_true, Nat.testBit_and, Bool.and_eq_true, Nat.testBit_two_pow, decide_eq_true_eq] at hx
      rcases hx with hx | rfl
      · exact hx.2
      · exact hbit
    · rw [Nat.testBit_and, Bool.and_eq_true] at hx; exact hx.2
  rw [mem_conL, inC, Bool.and_eq_true, Bool.and_eq_true, decide_eq_true_eq, hav_clo hl, testBit_havN C Ns hl]
  refine ⟨⟨clo_clo hl _, ?_⟩, hal, fun x hx _ => hw x hx⟩
  rw [cloN, testBit_comN]
  exact ⟨hbC, fun a ha hal => ((testBit_havN C Ns hl _ a).1 ha).2 j (by unfold withB; rw [if_pos ⟨by omega, by omega⟩, Int.toNat_natCast, Nat.testBit_or, Nat.testBit_two_pow]; simp) hbC⟩
set_option maxRecDepth 100000 in
set_option maxHeartbeats 2000000 in
theorem index_set (fv u : Value) (hfv : fv = .func (.func 27) #[.agg #[u]] #[]) (N : Nat) (A : Option Addr) (c : Nat) (vs : List Value) (L : List Nat) (w : World) (hu : IsSet w u N) (hr : Row w A vs) (hs : Sets w vs L) (hL : L.length ≤ 4096) :
    Calls Tryd.prog 77 #[.slice A L.length c, fv] w fun e w' => ∃ r : Int, e = .returned (.int .i64 r) ∧ decide (0 ≤ r) = decide (N ∈ L) ∧ Below w.heap.size w w' := by
  obtain ⟨A0, c0, rfl, _⟩ := id hu
  go_enter Tryd.func77, Tryd.ntmps77
  go_wp2_with fail
  refine wp_loopF (β := Nat) (fun i f => #[.slice A L.length c, fv, f 2, f 3, .int .i64 0, f 5, f 6, .int .i64 (L.length : Int), .int .i64 (i : Int), f 9, f 10, f 11, f 12, f 13, f 14, f 15, f 16, f 17, f 18])
    (fun i ds W => i ≤ L.length ∧ ds = [] ∧ Below w.heap.size w W ∧ N ∉ L.take i) (fun i => L.length - i) 0 rfl ⟨Nat.zero_le _, rfl, Below.refl _ _, by simp⟩ ?_
  rintro i f ds W ⟨hi, rfl, hbW, hno⟩
  dsimp only at hi ⊢
  have HN := Lib.hid hno
  clear hno
  by_cases hlt : i < L.length
  · obtain ⟨s, hsx⟩ : ∃ s, L[i]? = some s := ⟨_, List.getElem?_eq_getElem hlt⟩
    have hv : i < vs.length := by rw [hs.1]; exact hlt
    obtain ⟨v, hvx⟩ : ∃ v, vs[i]? = some v := ⟨_, List.getElem?_eq_getElem hv⟩
    have sv := (hs.2 i v s hvx hsx).below hbW
    obtain ⟨Av, cv, rfl, _⟩ := id sv
    obtain ⟨g1, o1, rfl, hg1, hc1⟩ := hr (by omega)
    have d1 := onB hbW (hc1 i _ hvx)
    have he := equal_any _ _ N s W (hu.below hbW) sv
    have htk : L.take (i + 1) = L.take i ++ [s] := by rw [List.take_add_one, hsx]; rfl
    have HM := Lib.hid (List.mem_of_getElem? hsx)
    have HTK := Lib.hid htk
    by_cases hNs : N = s
    · rw [decide_eq_true hNs] at he
      have HE := hideC he
      have HY := Lib.hid (show decide (0 ≤ (i : Int)) = decide (N ∈ L) by rw [hNs, decide_eq_true HM.out, decide_eq_true (by omega)])
      clear he hNs hvx hc1 hsx htk
      subst hfv
      go_wp2_with fail
      refine HE.out.mono ?_
      rintro e W2 ⟨rfl, hb2⟩
      go_wp2_with fail
      go_ret
      exact ⟨(i : Int), rfl, HY.out, hbW.trans (hb2.mono hbW.size)⟩
    · rw [decide_eq_false hNs] at he
      have HE := hideC he
      have HY := Lib.hid (show N ∉ L.take (i + 1) by rw [htk, List.mem_append, List.mem_singleton, not_or]; exact ⟨HN.out, hNs⟩)
      clear he hNs hvx hc1 hsx htk
      subst hfv
      go_wp2_with fail
      refine HE.out.mono ?_
      rintro e W2 ⟨rfl, hb2⟩
      go_wp2_with fail
      exact ⟨i + 1, rfl, ⟨by omega, by first | rfl | trivial, hbW.trans (hb2.mono hbW.size), HY.out⟩, by omega⟩
  · obtain rfl : i = L.length := by omega
    have hn := HN.out
    rw [List.take_length] at hn
    have HY := Lib.hid (show decide (0 ≤ (-1 : Int)) = decide (N ∈ L) by rw [decide_eq_false hn]; rfl)
    clear hn
    go_wp2_with fail
    go_ret
    exact ⟨-1, rfl, HY.out, hbW⟩
set_option maxRecDepth 100000 in
set_option maxHeartbeats 2000000 in
theorem contains_set {u : Value} {N : Nat} {A : Option Addr} {c : Nat} {vs : List Value} {L : List Nat} {w : World} {x : Bool} (hx : decide (N ∈ L) = x) (hu : IsSet w u N) (hr : Row w A vs) (hs : Sets w vs L) (hL : L.length ≤ 4096) :
    Calls Tryd.prog 33 #[.slice A L.length c, .func (.func 27) #[.agg #[u]] #[]] w fun e w' => e = .returned (.bool x) ∧ Below w.heap.size w w' := by
  have hI := index_set _ u rfl N A c vs L w hu hr hs hL
  rw [hx] at hI
  have HI := hideC hI
  clear hI
  go_enter Tryd.func33, Tryd.ntmps33
  go_wp2_with fail
  refine HI.out.mono ?_
  rintro e w1 ⟨r, rfl, hr, hb⟩
  have HR := Lib.hid hr
  clear hr
  go_wp2_with fail
  go_ret
  exact ⟨ret_bool HR.out, hb⟩
theorem closed_is47 {w : World} {p C : Nat} {Ns : List Nat} {v : Value} {S : Nat} (hx : cloN C Ns S = S &&& lowN C) (h : IsMat w p C Ns) (hs : IsSet w v S) (hT : Tab w) :
    Calls Tryd.prog 24 #[ptr p, .agg #[v]] w fun e w' => e = .returned (.bool true) ∧ Below w.heap.size w w' := by
  have := closed_any p C Ns v S w h hs hT
  rwa [decide_eq_true hx] at this
theorem has_is47 {w : World} {v : Value} {N : Nat} {i : Int} {x : Bool} (hx : hasB N i = x) (hs : IsSet w v N) : Calls Tryd.prog 25 #[.agg #[v], .int .i64 i] w fun e w' => e = .returned (.bool x) ∧ Below w.heap.size w w' := by
  have := has_any v N i w hs
  rwa [hx] at this
theorem eq_is47 {w : World} {v u : Value} {N M : Nat} {x : Bool} (hx : decide (N = M) = x) (hs : IsSet w v N) (ho : IsSet w u M) : Calls Tryd.prog 27 #[.agg #[v], .agg #[u]] w fun e w' => e = .returned (.bool x) ∧ Below w.heap.size w w' := by
  have := equal_any v u N M w hs ho
  rwa [hx] at this
namespace Mix2
set_option maxRecDepth 100000 in
set_option maxHeartbeats 8000000 in
theorem closes_walk (v : Value) (R C : Nat) (zs : List Int) (x y z : Nat) (w : World) (hT : Tab w) (h : IsRaw w v R C zs) (hx : x ≤ 255) (hy : y ≤ 255) (hz0 : z ≤ 255) :
    Calls Tryd.prog 7 #[v, .agg #[.int .u8 x, .int .u8 y], .int .u8 z] w fun e w' => e = .returned (.bool true) ∧ Below w.heap.size w w' := by
  have hbd := h.bd
  obtain ⟨r, c, A0, d0, hv, _⟩ := id h
  subst hv
  have HIN := hideC h; clear h
  go_enter Tryd.func7, Tryd.ntmps7
  go_wp2_with fail
  refine absC2 fun W0 hX hP hbel0 hz => ?_
  clear hz
  refine (awake_any47 W0 (hT.below hbel0)).mono ?_
  rintro e w1 ⟨rfl, hb1⟩
  have b1 := hbel0.trans (hb1.mono hbel0.size)
  replace hX := hX.below hb1 hX.lt
  replace hP := hP.below hb1 hP.lt
  have x0 := hX.cell 0
  have x1 := hX.cell 1
  have x2 := hX.cell 2
  have HM := hideC (make_raw _ R C zs w1 (HIN.out.below b1))
  go_wp2_with fail
  refine HM.out.mono ?_
  rintro e w2 ⟨A2, c2, rfl, hI, hb2⟩
  have b2 := b1.trans (hb2.mono b1.size)
  replace hP := hP.below hb2 hP.lt
  obtain ⟨M, hMd⟩ : ∃ M, M = rawM R C zs := ⟨_, rfl⟩
  have hML : M.length = R := by rw [hMd, mat_len]
  rw [← hMd] at hI
  subst hML
  obtain ⟨hR5, hC5⟩ := hbd
  have hl : (nsOf C M).length ≤ 4096 := by rw [nsTo_len]; omega
  have hin := rowsIn_nsOf C M (by omega)
  clear hMd HM HIN hbel0 hb1 hb2 b1 x0 x1 x2
  replace hT := hT.below b2
  clear hX
  go_wp2_with fail
  refine (matrixl_any C A2 c2 M _ hI (by omega) (by omega)).mono ?_
  rintro e u1 ⟨q1, rfl, m1, _, hb⟩
  replace hP := hP.below hb hP.lt; replace hI := hI.below hb; replace hT := hT.below hb; replace b2 := b2.trans (hb.mono b2.size)
  clear hb
  clear hI
  go_wp2_with fail
  refine wp_mix (fun V => Below u1.heap.size u1 V) 10 (by kernel_rfl) (by kernel_rfl) (Below.refl _ _).drew ?_
  have hr : Below u1.heap.size u1 u1.drew := (Below.refl _ _).drew
  obtain ⟨u2, hw⟩ : ∃ V, V = u1.drew := ⟨_, rfl⟩
  rw [← hw] at hr ⊢; clear hw
  have hb := hr
  have p0 := hP.cell 0
  have p1 := hP.cell 1
  replace hP := hP.below hb hP.lt; replace hT := hT.below hb; replace b2 := b2.trans (hb.mono b2.size); replace m1 := m1.below hb
  clear hb
  (refine m_q 0 (v := ?_) (by kernel_rfl) rfl rfl (fun W hW => ?_) ?_; rotate_left; (have zp0 := onB hW p0; have zp1 := onB hW p1; go_simp; first | done | with_reducible rfl); simp only [Act.put, List.setIfInBounds_toArray, List.set_cons_zero, List.set_cons_succ]); (refine m_q 1 (v := ?_) (by kernel_rfl) rfl rfl (fun W hW => ?_) ?_; rotate_left; (have zp0 := onB hW p0; have zp1 := onB hW p1; go_simp; first | done | with_reducible rfl); simp only [Act.put, List.setIfInBounds_toArray, List.set_cons_zero, List.set_cons_succ]); (refine m_q 2 (v := ?_) (by kernel_rfl) rfl rfl (fun W hW => ?_) ?_; rotate_left; (have zp0 := onB hW p0; have zp1 := onB hW p1; go_simp; first | done | with_reducible rfl); simp only [Act.put, List.setIfInBounds_toArray, List.set_cons_zero, List.set_cons_succ]); (refine m_q 3 (v := ?_) (by kernel_rfl) rfl rfl (fun W hW => ?_) ?_; rotate_left; (have zp0 := onB hW p0; have zp1 := onB hW p1; go_simp; first | done | with_reducible rfl); simp only [Act.put, List.setIfInBounds_toArray, List.set_cons_zero, List.set_cons_succ]); (refine m_q 4 (v := ?_) (by kernel_rfl) rfl rfl (fun W hW => ?_) ?_; rotate_left; (have zp0 := onB hW p0; have zp1 := onB hW p1; go_simp; first | done | with_reducible rfl); simp only [Act.put, List.setIfInBounds_toArray, List.set_cons_zero, List.set_cons_succ]); (refine m_q 5 (v := ?_) (by kernel_rfl) rfl rfl (fun W hW => ?_) ?_; rotate_left; (have zp0 := onB hW p0; have zp1 := onB hW p1; go_simp; first | done | with_reducible rfl); simp only [Act.put, List.setIfInBounds_toArray, List.set_cons_zero, List.set_cons_succ]); (refine m_q 6 (v := ?_) (by kernel_rfl) rfl rfl (fun W hW => ?_) ?_; rotate_left; (have zp0 := onB hW p0; have zp1 := onB hW p1; go_simp; first | done | with_reducible rfl); simp only [Act.put, List.setIfInBounds_toArray, List.set_cons_zero, List.set_cons_succ]); (refine m_q 7 (v := ?_) (by kernel_rfl) rfl rfl (fun W hW => ?_) ?_; rotate_left; (have zp0 := onB hW p0; have zp1 := onB hW p1; go_simp; first | done | with_reducible rfl); simp only [Act.put, List.setIfInBounds_toArray, List.set_cons_zero, List.set_cons_succ]); (refine m_q 8 (v := ?_) (by kernel_rfl) rfl rfl (fun W hW => ?_) ?_; rotate_left; (have zp0 := onB hW p0; have zp1 := onB hW p1; go_simp; first | done | with_reducible rfl); simp only [Act.put, List.setIfInBounds_toArray, List.set_cons_zero, List.set_cons_succ]); (refine m_q 9 (v := ?_) (by kernel_rfl) rfl rfl (fun W hW => ?_) ?_; rotate_left; (have zp0 := onB hW p0; have zp1 := onB hW p1; go_simp; first | done | with_reducible rfl); simp only [Act.put, List.setIfInBounds_toArray, List.set_cons_zero, List.set_cons_succ])
  refine m_end (by kernel_rfl) ?_
  clear p0 p1
  obtain ⟨i, hi⟩ : ∃ i : Nat, i = x % 6 := ⟨_, rfl⟩
  obtain ⟨j, hj⟩ : ∃ j : Nat, j = y % 6 := ⟨_, rfl⟩
  rw [wrap6 hx, wrap6 hy, show (x : Int) % 6 = (i : Int) by omega, show (y : Int) % 6 = (j : Int) by omega]
  clear hi hj hP
  have hcl := conP_len hl hin (i : Int) (j : Int)
  obtain ⟨L, hL⟩ : ∃ L, L = conP C (nsOf C M) i j := ⟨_, rfl⟩
  have hcc := conc_any (some ⟨q1, 0, none⟩) C (nsOf C M) i j u2 m1.mv hin hT
  rw [← hL] at hcc hcl
  have HCC := hideC hcc; have HL := Lib.hid hL
  clear hcc hL
  go_wp2_with fail
  refine (HCC.out).mono ?_
  rintro e u3 ⟨A9, n9, c9, vs9, rfl, hn9, hr9, hs9, hb⟩
  replace hT := hT.below hb; replace b2 := b2.trans (hb.mono b2.size); replace m1 := m1.below hb
  clear hb
  subst hn9
  clear HCC
  have hhm := hasm_any q1 C (nsOf C M) i j u3 m1
  cases hm : mhas C (nsOf C M) i j with
  | false =>
    rw [hm] at hhm
    have hL0 : L = [] := by rw [HL.out]; unfold conP; rw [if_neg (by rw [hm]; simp)]
    subst hL0
    have HH := hideC hhm
    clear hhm hm
    go_wp2_with fail
    refine (HH.out).mono ?_
    rintro e u4 ⟨rfl, hb⟩
    replace hT := hT.below hb; replace b2 := b2.trans (hb.mono b2.size); replace m1 := m1.below hb; replace hr9 := hr9.below hb; replace hs9 := hs9.below hb
    clear hb
    go_wp2_with fail
    go_ret
    exact ⟨rfl, b2⟩
  | true =>
    rw [hm] at hhm
    have hcd : card (mrow (nsOf C M) (i : Nat)) ≤ 12 := by
      obtain ⟨a, b, ha, hb, hal, hbC, hbit⟩ := mhas_parts hm
      rw [mrow, if_pos (by omega), Int.toNat_natCast]
      refine Nat.le_trans (card_bits (C := C) fun y hy => ?_) (by omega)
      have := hin i (by omega)
      rw [← this, Nat.testBit_and, testBit_lowN, Bool.and_eq_true, decide_eq_true_eq] at hy
      exact hy.2
    have hL1 : L = conL C (nsOf C M) i j := by rw [HL.out]; unfold conP; rw [if_pos ⟨hm, hcd⟩, Int.toNat_natCast, Int.toNat_natCast]
    have HME := Lib.hid (fun s (hs : s ∈ L) => con_mem hl (by rw [hL1] at hs; exact hs))
    have HAR := Lib.hid (fun S => (by rw [hL1]; exact around_mem hl (by omega) hm S : cloN C (nsOf C M) (withB (S &&& mrow (nsOf C M) (i : Nat)) (j : Nat)) ∈ L))
    have hle : Lec L := by rw [hL1]; exact conL_lec C _ i j
    have HNE := Lib.hid (fun (k : Nat) (a b : Nat) (ha : L[k]? = some a) (hb : L[k + 1]? = some b) => (lec_ne hle ha hb : a ≠ b))
    have HH := hideC hhm
    clear hhm hm hL1 hle hcd HL
    go_wp2_with fail
    refine (HH.out).mono ?_
    rintro e u4 ⟨rfl, hb⟩
    replace hT := hT.below hb; replace b2 := b2.trans (hb.mono b2.size); replace m1 := m1.below hb; replace hr9 := hr9.below hb; replace hs9 := hs9.below hb
    clear hb
    clear HH
    go_wp2_with fail
    refine wp_loopF (β := Nat) (fun k f => #[f 0, f 1, .int .u8 (z : Int), f 3, f 4, f 5, .bool false, ptr q1, .int .i64 (i : Int), .int .i64 (j : Int), .slice A9 L.length c9, f 11, f 12, f 13, f 14, f 15, f 16, f 17, f 18, f 19, f 20, f 21, f 22, f 23, f 24, f 25, f 26, f 27, f 28, f 29, f 30, f 31, f 32, f 33, f 34, f 35, f 36, f 37, f 38, .slice A9 L.length c9, .int .i64 (L.length : Int), .int .i64 (k : Int), f 42, f 43, f 44, f 45, f 46, f 47, f 48, f 49, f 50, f 51, f 52, f 53, f 54, f 55, f 56, f 57, f 58, f 59, f 60, f 61, f 62, f 63, f 64, f 65, f 66, f 67, f 68, f 69, f 70, f 71, f 72, f 73, f 74, f 75, f 76, f 77, f 78, f 79, f 80, f 81, f 82, f 83, f 84, f 85, f 86, f 87, f 88, f 89, f 90, f 91, f 92])
      (fun k ds V => k ≤ L.length ∧ ds = [] ∧ Below u4.heap.size u4 V) (fun k => L.length - k) 0 rfl ⟨Nat.zero_le _, rfl, Below.refl _ _⟩ ?_
    rintro k f ds v9 ⟨hk, rfl, hv⟩
    dsimp only at hk ⊢
    have hb := hv
    replace hT := hT.below hb; replace b2 := b2.trans (hb.mono b2.size); replace m1 := m1.below hb; replace hr9 := hr9.below hb; replace hs9 := hs9.below hb
    clear hb
    by_cases hlt : k < L.length
    · obtain ⟨s, hsx⟩ : ∃ s, L[k]? = some s := ⟨_, List.getElem?_eq_getElem hlt⟩
      have hvl : k < vs9.length := by rw [hs9.1]; exact hlt
      obtain ⟨vv, hvx⟩ : ∃ v, vs9[k]? = some v := ⟨_, List.getElem?_eq_getElem hvl⟩
      have sv := hs9.2 k vv s hvx hsx
      obtain ⟨Av, cv, rfl, _⟩ := id sv
      obtain ⟨g1, o1, rfl, hg1, hc1⟩ := hr9 (by omega)
      have d1 := hc1 k _ hvx
      obtain ⟨e1, e2, e3, e4⟩ := HME.out s (List.mem_of_getElem? hsx)
      have HE1 := Lib.hid e1; have HE2 := Lib.hid e2; have HE3 := Lib.hid e3; have HSX := Lib.hid hsx
      clear e1 e2 e3 e4 hsx hvx
      clear hc1 hvl
      go_wp2_with fail
      obtain ⟨gB, hgB⟩ : ∃ g, g = v9.heap.size := ⟨_, rfl⟩
      rcases Nat.eq_zero_or_pos k with hk0 | hk0
      · subst hk0
        clear hgB gB
        refine abs1 fun y1 hB hb hz => ?_
        clear hz
        replace hT := hT.below hb; replace b2 := b2.trans (hb.mono b2.size); replace m1 := m1.below hb; replace hr9 := hr9.below hb; replace hs9 := hs9.below hb; replace hv := hv.trans (hb.mono hv.size); replace sv := sv.below hb
        clear hb
        go_wp2_with fail
        refine wp_mix (fun V => Below y1.heap.size y1 V) 31 (by kernel_rfl) (by kernel_rfl) (Below.refl _ _).drew ?_
        have hr : Below y1.heap.size y1 y1.drew := (Below.refl _ _).drew
        obtain ⟨u5, hw⟩ : ∃ V, V = y1.drew := ⟨_, rfl⟩
        rw [← hw] at hr ⊢; clear hw
        have hb := hr
        have z0 := hB.cell 0
        replace hT := hT.below hb; replace b2 := b2.trans (hb.mono b2.size); replace m1 := m1.below hb; replace hr9 := hr9.below hb; replace hs9 := hs9.below hb; replace hv := hv.trans (hb.mono hv.size); replace sv := sv.below hb; replace hB := hB.below hb hB.lt
        clear hb
        (refine m_q 0 (v := ?_) (by kernel_rfl) rfl rfl (fun W hW => ?_) ?_; rotate_left; (have zz0 := onB hW z0; go_simp; first | done | with_reducible rfl); simp only [Act.put, List.setIfInBounds_toArray, List.set_cons_zero, List.set_cons_succ]); (refine m_q 1 (v := ?_) (by kernel_rfl) rfl rfl (fun W hW => ?_) ?_; rotate_left; (have zz0 := onB hW z0; go_simp; first | done | with_reducible rfl); simp only [Act.put, List.setIfInBounds_toArray, List.set_cons_zero, List.set_cons_succ])
        refine m_s1 2 (by kernel_rfl) rfl ?_
        go_wp2_with fail
        refine (closed_is47 HE1.out m1 sv hT).mono ?_
        rintro e u6 ⟨rfl, hb⟩
        replace hT := hT.below hb; replace b2 := b2.trans (hb.mono b2.size); replace m1 := m1.below hb; replace hr9 := hr9.below hb; replace hs9 := hs9.below hb; replace hv := hv.trans (hb.mono hv.size); replace sv := sv.below hb; replace hB := hB.below hb hB.lt; replace hr := hr.trans (hb.mono hr.size)
        clear hb
        go_wp2_with fail
        refine m_keep hr ?_
        (refine m_q 3 (v := ?_) (by kernel_rfl) rfl rfl (fun W hW => ?_) ?_; rotate_left; (go_simp; first | done | with_reducible rfl); simp only [Act.put, List.setIfInBounds_toArray, List.set_cons_zero, List.set_cons_succ]); (refine m_q 4 (v := ?_) (by kernel_rfl) rfl rfl (fun W hW => ?_) ?_; rotate_left; (go_simp; first | done | with_reducible rfl); simp only [Act.put, List.setIfInBounds_toArray, List.set_cons_zero, List.set_cons_succ])
        (refine m_yes 5 (v := ?_) (by kernel_rfl) rfl (by rfl) (fun W hW => ?_) ?_; rotate_left; (have zz0 := onB hW z0; go_simp; first | done | with_reducible rfl); simp only [Act.put, List.setIfInBounds_toArray, List.set_cons_zero, List.set_cons_succ])
        (refine m_yes 6 (v := ?_) (by kernel_rfl) rfl (by rfl) (fun W hW => ?_) ?_; rotate_left; (go_simp; first | done | with_reducible rfl); simp only [Act.put, List.setIfInBounds_toArray, List.set_cons_zero, List.set_cons_succ])
        refine m_s1 7 (by kernel_rfl) rfl ?_
        go_wp2_with fail
        refine (has_is47 HE2.out sv).mono ?_
        rintro e u7 ⟨rfl, hb⟩
        replace hT := hT.below hb; replace b2 := b2.trans (hb.mono b2.size); replace m1 := m1.below hb; replace hr9 := hr9.below hb; replace hs9 := hs9.below hb; replace hv := hv.trans (hb.mono hv.size); replace sv := sv.below hb; replace hB := hB.below hb hB.lt; replace hr := hr.trans (hb.mono hr.size)
        clear hb
        go_wp2_with fail
        refine m_keep hr ?_
        (refine m_yes 8 (v := ?_) (by kernel_rfl) rfl (by rfl) (fun W hW => ?_) ?_; rotate_left; (go_simp; first | done | with_reducible rfl); simp only [Act.put, List.setIfInBounds_toArray, List.set_cons_zero, List.set_cons_succ])
        (refine m_q 9 (v := ?_) (by kernel_rfl) rfl rfl (fun W hW => ?_) ?_; rotate_left; (go_simp; first | done | with_reducible rfl); simp only [Act.put, List.setIfInBounds_toArray, List.set_cons_zero, List.set_cons_succ]); (refine m_q 10 (v := ?_) (by kernel_rfl) rfl rfl (fun W hW => ?_) ?_; rotate_left; (go_simp; first | done | with_reducible rfl); simp only [Act.put, List.setIfInBounds_toArray, List.set_cons_zero, List.set_cons_succ])
        (refine m_yes 11 (v := ?_) (by kernel_rfl) rfl (by rfl) (fun W hW => ?_) ?_; rotate_left; (go_simp; first | done | with_reducible rfl); simp only [Act.put, List.setIfInBounds_toArray, List.set_cons_zero, List.set_cons_succ])
        (refine m_yes 12 (v := ?_) (by kernel_rfl) rfl (by rfl) (fun W hW => ?_) ?_; rotate_left; (have zz0 := onB hW z0; go_simp; first | done | with_reducible rfl); simp only [Act.put, List.setIfInBounds_toArray, List.set_cons_zero, List.set_cons_succ])
        (refine m_yes 14 (v := ?_) (by kernel_rfl) rfl (by rfl) (fun W hW => ?_) ?_; rotate_left; (go_simp; first | done | with_reducible rfl); simp only [Act.put, List.setIfInBounds_toArray, List.set_cons_zero, List.set_cons_succ])
        refine m_s1 13 (by kernel_rfl) rfl ?_
        go_wp2_with fail
        refine (res3 (rfl) (having_any (some ⟨q1, 0, none⟩) C (nsOf C M) _ s _ m1.mv sv hT)).mono ?_
        rintro e u8 ⟨As13, ns13, cs13, rfl, s13, hb⟩
        replace hT := hT.below hb; replace b2 := b2.trans (hb.mono b2.size); replace m1 := m1.below hb; replace hr9 := hr9.below hb; replace hs9 := hs9.below hb; replace hv := hv.trans (hb.mono hv.size); replace sv := sv.below hb; replace hB := hB.below hb hB.lt; replace hr := hr.trans (hb.mono hr.size)
        clear hb
        go_wp2_with fail
        refine m_keep hr ?_
        refine m_s1 15 (by kernel_rfl) rfl ?_
        go_wp2_with fail
        refine (has_is47 HE3.out s13).mono ?_
        rintro e u9 ⟨rfl, hb⟩
        replace hT := hT.below hb; replace b2 := b2.trans (hb.mono b2.size); replace m1 := m1.below hb; replace hr9 := hr9.below hb; replace hs9 := hs9.below hb; replace hv := hv.trans (hb.mono hv.size); replace sv := sv.below hb; replace hB := hB.below hb hB.lt; replace hr := hr.trans (hb.mono hr.size); replace s13 := s13.below hb
        clear hb
        go_wp2_with fail
        refine m_keep hr ?_
        (refine m_yes 16 (v := ?_) (by kernel_rfl) rfl (by rfl) (fun W hW => ?_) ?_; rotate_left; (go_simp; first | done | with_reducible rfl); simp only [Act.put, List.setIfInBounds_toArray, List.set_cons_zero, List.set_cons_succ])
        (refine m_q 17 (v := ?_) (by kernel_rfl) rfl rfl (fun W hW => ?_) ?_; rotate_left; (go_simp; first | done | with_reducible rfl); simp only [Act.put, List.setIfInBounds_toArray, List.set_cons_zero, List.set_cons_succ]); (refine m_q 18 (v := ?_) (by kernel_rfl) rfl rfl (fun W hW => ?_) ?_; rotate_left; (go_simp; first | done | with_reducible rfl); simp only [Act.put, List.setIfInBounds_toArray, List.set_cons_zero, List.set_cons_succ])
        (refine m_yes 19 (v := ?_) (by kernel_rfl) rfl (by rfl) (fun W hW => ?_) ?_; rotate_left; (go_simp; first | done | with_reducible rfl); simp only [Act.put, List.setIfInBounds_toArray, List.set_cons_zero, List.set_cons_succ]); (refine m_yes 20 (v := ?_) (by kernel_rfl) rfl (by rfl) (fun W hW => ?_) ?_; rotate_left; (go_simp; first | done | with_reducible rfl); simp only [Act.put, List.setIfInBounds_toArray, List.set_cons_zero, List.set_cons_succ]); (refine m_yes 21 (v := ?_) (by kernel_rfl) rfl (by rfl) (fun W hW => ?_) ?_; rotate_left; (go_simp; first | done | with_reducible rfl); simp only [Act.put, List.setIfInBounds_toArray, List.set_cons_zero, List.set_cons_succ])
        (refine m_no 22 (by kernel_rfl) rfl (by rfl) ?_; simp only [Act.put, List.setIfInBounds_toArray, List.set_cons_zero, List.set_cons_succ]); (refine m_no 23 (by kernel_rfl) rfl (by rfl) ?_; simp only [Act.put, List.setIfInBounds_toArray, List.set_cons_zero, List.set_cons_succ]); (refine m_no 24 (by kernel_rfl) rfl (by rfl) ?_; simp only [Act.put, List.setIfInBounds_toArray, List.set_cons_zero, List.set_cons_succ]); (refine m_no 25 (by kernel_rfl) rfl (by rfl) ?_; simp only [Act.put, List.setIfInBounds_toArray, List.set_cons_zero, List.set_cons_succ]); (refine m_no 26 (by kernel_rfl) rfl (by rfl) ?_; simp only [Act.put, List.setIfInBounds_toArray, List.set_cons_zero, List.set_cons_succ]); (refine m_no 27 (by kernel_rfl) rfl (by rfl) ?_; simp only [Act.put, List.setIfInBounds_toArray, List.set_cons_zero, List.set_cons_succ]); (refine m_no 28 (by kernel_rfl) rfl (by rfl) ?_; simp only [Act.put, List.setIfInBounds_toArray, List.set_cons_zero, List.set_cons_succ])
        (refine m_yes 29 (v := ?_) (by kernel_rfl) rfl (by rfl) (fun W hW => ?_) ?_; rotate_left; (go_simp; first | done | with_reducible rfl); simp only [Act.put, List.setIfInBounds_toArray, List.set_cons_zero, List.set_cons_succ])
        (refine m_q 30 (v := ?_) (by kernel_rfl) rfl rfl (fun W hW => ?_) ?_; rotate_left; (go_simp; first | done | with_reducible rfl); simp only [Act.put, List.setIfInBounds_toArray, List.set_cons_zero, List.set_cons_succ])
        refine m_end (by kernel_rfl) ?_
        clear z0
        go_wp2_with fail
        exact ⟨0 + 1, rfl, ⟨by omega, by first | rfl | trivial, hv⟩, by omega⟩
      · obtain ⟨p, hp⟩ : ∃ p, L[k - 1]? = some p := ⟨_, List.getElem?_eq_getElem (by omega)⟩
        have hvl : k - 1 < vs9.length := by rw [hs9.1]; omega
        obtain ⟨vp, hvp⟩ : ∃ v, vs9[k - 1]? = some v := ⟨_, List.getElem?_eq_getElem hvl⟩
        have sp := hs9.2 (k - 1) vp p hvp hp
        obtain ⟨Ap, cp, rfl, _⟩ := id sp
        obtain ⟨g2, o2, hx2, -, hc2⟩ := hr9 (by omega)
        cases hx2
        have d2 := hc2 (k - 1) _ hvp
        have HNEQ := Lib.hid (show decide (p = s) = false from decide_eq_false (HNE.out (k - 1) p s hp (by rw [Nat.sub_add_cancel hk0]; exact HSX.out)))
        have ek : IntKind.i64.wrap ((k : Int) - 1) = ((k - 1 : Nat) : Int) := by rw [i64w ⟨by omega, by omega⟩]; omega
        have eks : wrap64 ((k : Int) - 1) = ((k - 1 : Nat) : Int) := by rw [IntWalk.wrap64_in _ ⟨by omega, by omega⟩]; omega
        have ekp : decide ((0 : Int) < (k : Int)) = true := decide_eq_true (by omega)
        have hk1 : k - 1 < L.length := by omega
        clear hc2 hvp hvl hp hgB gB
        refine abs1 fun y1 hB hb hz => ?_
        clear hz
        replace hT := hT.below hb; replace b2 := b2.trans (hb.mono b2.size); replace m1 := m1.below hb; replace hr9 := hr9.below hb; replace hs9 := hs9.below hb; replace hv := hv.trans (hb.mono hv.size); replace sv := sv.below hb; replace sp := sp.below hb; replace d2 := onB hb d2
        clear hb
        have d3 := d2
        go_wp2_with fail
        refine wp_mix (fun V => Below y1.heap.size y1 V) 31 (by kernel_rfl) (by kernel_rfl) (Below.refl _ _).drew ?_
        have hr : Below y1.heap.size y1 y1.drew := (Below.refl _ _).drew
        obtain ⟨u5, hw⟩ : ∃ V, V = y1.drew := ⟨_, rfl⟩
        rw [← hw] at hr ⊢; clear hw
        have hb := hr
        have z0 := hB.cell 0
        replace hT := hT.below hb; replace b2 := b2.trans (hb.mono b2.size); replace m1 := m1.below hb; replace hr9 := hr9.below hb; replace hs9 := hs9.below hb; replace hv := hv.trans (hb.mono hv.size); replace sv := sv.below hb; replace sp := sp.below hb; replace d2 := onB hb d2; replace hB := hB.below hb hB.lt
        clear hb
        (refine m_q 0 (v := ?_) (by kernel_rfl) rfl rfl (fun W hW => ?_) ?_; rotate_left; (have zz0 := onB hW z0; go_simp; first | done | with_reducible rfl); simp only [Act.put, List.setIfInBounds_toArray, List.set_cons_zero, List.set_cons_succ]); (refine m_q 1 (v := ?_) (by kernel_rfl) rfl rfl (fun W hW => ?_) ?_; rotate_left; (have zz0 := onB hW z0; go_simp; first | done | with_reducible rfl); simp only [Act.put, List.setIfInBounds_toArray, List.set_cons_zero, List.set_cons_succ])
        refine m_s1 2 (by kernel_rfl) rfl ?_
        go_wp2_with fail
        refine (closed_is47 HE1.out m1 sv hT).mono ?_
        rintro e u6 ⟨rfl, hb⟩
        replace hT := hT.below hb; replace b2 := b2.trans (hb.mono b2.size); replace m1 := m1.below hb; replace hr9 := hr9.below hb; replace hs9 := hs9.below hb; replace hv := hv.trans (hb.mono hv.size); replace sv := sv.below hb; replace sp := sp.below hb; replace d2 := onB hb d2; replace hB := hB.below hb hB.lt; replace hr := hr.trans (hb.mono hr.size)
        clear hb
        go_wp2_with fail
        refine m_keep hr ?_
        (refine m_q 3 (v := ?_) (by kernel_rfl) rfl rfl (fun W hW => ?_) ?_; rotate_left; (go_simp; first | done | with_reducible rfl); simp only [Act.put, List.setIfInBounds_toArray, List.set_cons_zero, List.set_cons_succ]); (refine m_q 4 (v := ?_) (by kernel_rfl) rfl rfl (fun W hW => ?_) ?_; rotate_left; (go_simp; first | done | with_reducible rfl); simp only [Act.put, List.setIfInBounds_toArray, List.set_cons_zero, List.set_cons_succ])
        (refine m_yes 5 (v := ?_) (by kernel_rfl) rfl (by rfl) (fun W hW => ?_) ?_; rotate_left; (have zz0 := onB hW z0; go_simp; first | done | with_reducible rfl); simp only [Act.put, List.setIfInBounds_toArray, List.set_cons_zero, List.set_cons_succ])
        (refine m_yes 6 (v := ?_) (by kernel_rfl) rfl (by rfl) (fun W hW => ?_) ?_; rotate_left; (go_simp; first | done | with_reducible rfl); simp only [Act.put, List.setIfInBounds_toArray, List.set_cons_zero, List.set_cons_succ])
        refine m_s1 7 (by kernel_rfl) rfl ?_
        go_wp2_with fail
        refine (has_is47 HE2.out sv).mono ?_
        rintro e u7 ⟨rfl, hb⟩
        replace hT := hT.below hb; replace b2 := b2.trans (hb.mono b2.size); replace m1 := m1.below hb; replace hr9 := hr9.below hb; replace hs9 := hs9.below hb; replace hv := hv.trans (hb.mono hv.size); replace sv := sv.below hb; replace sp := sp.below hb; replace d2 := onB hb d2; replace hB := hB.below hb hB.lt; replace hr := hr.trans (hb.mono hr.size)
        clear hb
        go_wp2_with fail
        refine m_keep hr ?_
        (refine m_yes 8 (v := ?_) (by kernel_rfl) rfl (by rfl) (fun W hW => ?_) ?_; rotate_left; (go_simp; first | done | with_reducible rfl); simp only [Act.put, List.setIfInBounds_toArray, List.set_cons_zero, List.set_cons_succ])
        (refine m_q 9 (v := ?_) (by kernel_rfl) rfl rfl (fun W hW => ?_) ?_; rotate_left; (go_simp; first | done | with_reducible rfl); simp only [Act.put, List.setIfInBounds_toArray, List.set_cons_zero, List.set_cons_succ]); (refine m_q 10 (v := ?_) (by kernel_rfl) rfl rfl (fun W hW => ?_) ?_; rotate_left; (go_simp; first | done | with_reducible rfl); simp only [Act.put, List.setIfInBounds_toArray, List.set_cons_zero, List.set_cons_succ])
        (refine m_yes 11 (v := ?_) (by kernel_rfl) rfl (by rfl) (fun W hW => ?_) ?_; rotate_left; (go_simp; first | done | with_reducible rfl); simp only [Act.put, List.setIfInBounds_toArray, List.set_cons_zero, List.set_cons_succ])
        (refine m_yes 12 (v := ?_) (by kernel_rfl) rfl (by rfl) (fun W hW => ?_) ?_; rotate_left; (have zz0 := onB hW z0; go_simp; first | done | with_reducible rfl); simp only [Act.put, List.setIfInBounds_toArray, List.set_cons_zero, List.set_cons_succ])
        (refine m_yes 14 (v := ?_) (by kernel_rfl) rfl (by rfl) (fun W hW => ?_) ?_; rotate_left; (go_simp; first | done | with_reducible rfl); simp only [Act.put, List.setIfInBounds_toArray, List.set_cons_zero, List.set_cons_succ])
        refine m_s1 13 (by kernel_rfl) rfl ?_
        go_wp2_with fail
        refine (res3 (rfl) (having_any (some ⟨q1, 0, none⟩) C (nsOf C M) _ s _ m1.mv sv hT)).mono ?_
        rintro e u8 ⟨As13, ns13, cs13, rfl, s13, hb⟩
        replace hT := hT.below hb; replace b2 := b2.trans (hb.mono b2.size); replace m1 := m1.below hb; replace hr9 := hr9.below hb; replace hs9 := hs9.below hb; replace hv := hv.trans (hb.mono hv.size); replace sv := sv.below hb; replace sp := sp.below hb; replace d2 := onB hb d2; replace hB := hB.below hb hB.lt; replace hr := hr.trans (hb.mono hr.size)
        clear hb
        go_wp2_with fail
        refine m_keep hr ?_
        refine m_s1 15 (by kernel_rfl) rfl ?_
        go_wp2_with fail
        refine (has_is47 HE3.out s13).mono ?_
        rintro e u9 ⟨rfl, hb⟩
        replace hT := hT.below hb; replace b2 := b2.trans (hb.mono b2.size); replace m1 := m1.below hb; replace hr9 := hr9.below hb; replace hs9 := hs9.below hb; replace hv := hv.trans (hb.mono hv.size); replace sv := sv.below hb; replace sp := sp.below hb; replace d2 := onB hb d2; replace hB := hB.below hb hB.lt; replace hr := hr.trans (hb.mono hr.size); replace s13 := s13.below hb
        clear hb
        go_wp2_with fail
        refine m_keep hr ?_
        (refine m_yes 16 (v := ?_) (by kernel_rfl) rfl (by rfl) (fun W hW => ?_) ?_; rotate_left; (go_simp; first | done | with_reducible rfl); simp only [Act.put, List.setIfInBounds_toArray, List.set_cons_zero, List.set_cons_succ])
        (refine m_q 17 (v := ?_) (by kernel_rfl) rfl rfl (fun W hW => ?_) ?_; rotate_left; (go_simp; first | done | with_reducible rfl); simp only [Act.put, List.setIfInBounds_toArray, List.set_cons_zero, List.set_cons_succ]); (refine m_q 18 (v := ?_) (by kernel_rfl) rfl rfl (fun W hW => ?_) ?_; rotate_left; (go_simp; first | done | with_reducible rfl); simp only [Act.put, List.setIfInBounds_toArray, List.set_cons_zero, List.set_cons_succ])
        (refine m_yes 19 (v := ?_) (by kernel_rfl) rfl (by rfl) (fun W hW => ?_) ?_; rotate_left; (go_simp; first | done | with_reducible rfl); simp only [Act.put, List.setIfInBounds_toArray, List.set_cons_zero, List.set_cons_succ]); (refine m_yes 20 (v := ?_) (by kernel_rfl) rfl (by rfl) (fun W hW => ?_) ?_; rotate_left; (go_simp; first | done | with_reducible rfl); simp only [Act.put, List.setIfInBounds_toArray, List.set_cons_zero, List.set_cons_succ]); (refine m_yes 21 (v := ?_) (by kernel_rfl) rfl (by rfl) (fun W hW => ?_) ?_; rotate_left; (go_simp; first | done | with_reducible rfl); simp only [Act.put, List.setIfInBounds_toArray, List.set_cons_zero, List.set_cons_succ])
        (refine m_yes 22 (v := ?_) (by kernel_rfl) rfl (by rfl) (fun W hW => ?_) ?_; rotate_left; (go_simp; first | done | with_reducible rfl); simp only [Act.put, List.setIfInBounds_toArray, List.set_cons_zero, List.set_cons_succ]); (refine m_yes 23 (v := ?_) (by kernel_rfl) rfl (by rfl) (fun W hW => ?_) ?_; rotate_left; (go_simp; first | done | with_reducible rfl); simp only [Act.put, List.setIfInBounds_toArray, List.set_cons_zero, List.set_cons_succ])
        (refine m_yes 24 (v := ?_) (by kernel_rfl) rfl (by rfl) (fun W hW => ?_) ?_; rotate_left; (go_simp; first | done | with_reducible rfl); simp only [Act.put, List.setIfInBounds_toArray, List.set_cons_zero, List.set_cons_succ])
        (refine m_yes 25 (v := ?_) (by kernel_rfl) rfl (by rfl) (fun W hW => ?_) ?_; rotate_left; (go_simp; first | done | with_reducible rfl); simp only [Act.put, List.setIfInBounds_toArray, List.set_cons_zero, List.set_cons_succ])
        (refine m_yes 26 (v := ?_) (by kernel_rfl) rfl (by rfl) (fun W hW => ?_) ?_; rotate_left; (have z2 := onB hW d3; go_simp; first | done | with_reducible rfl); simp only [Act.put, List.setIfInBounds_toArray, List.set_cons_zero, List.set_cons_succ])
        (refine m_yes 27 (v := ?_) (by kernel_rfl) rfl (by rfl) (fun W hW => ?_) ?_; rotate_left; (have zz0 := onB hW z0; go_simp; first | done | with_reducible rfl); simp only [Act.put, List.setIfInBounds_toArray, List.set_cons_zero, List.set_cons_succ])
        refine m_s1 28 (by kernel_rfl) rfl ?_
        go_wp2_with fail
        refine (eq_is47 HNEQ.out sp sv).mono ?_
        rintro e u10 ⟨rfl, hb⟩
        replace hT := hT.below hb; replace b2 := b2.trans (hb.mono b2.size); replace m1 := m1.below hb; replace hr9 := hr9.below hb; replace hs9 := hs9.below hb; replace hv := hv.trans (hb.mono hv.size); replace sv := sv.below hb; replace sp := sp.below hb; replace d2 := onB hb d2; replace hB := hB.below hb hB.lt; replace hr := hr.trans (hb.mono hr.size); replace s13 := s13.below hb
        clear hb
        go_wp2_with fail
        refine m_keep hr ?_
        (refine m_yes 29 (v := ?_) (by kernel_rfl) rfl (by rfl) (fun W hW => ?_) ?_; rotate_left; (go_simp; first | done | with_reducible rfl); simp only [Act.put, List.setIfInBounds_toArray, List.set_cons_zero, List.set_cons_succ])
        (refine m_q 30 (v := ?_) (by kernel_rfl) rfl rfl (fun W hW => ?_) ?_; rotate_left; (go_simp; first | done | with_reducible rfl); simp only [Act.put, List.setIfInBounds_toArray, List.set_cons_zero, List.set_cons_succ])
        refine m_end (by kernel_rfl) ?_
        clear z0
        go_wp2_with fail
        exact ⟨k + 1, rfl, ⟨by omega, by first | rfl | trivial, hv⟩, by omega⟩
    · obtain rfl : k = L.length := by omega
      have h64 : z < 2 ^ 64 := by omega
      go_wp2_with fail
      refine (res3 rfl (set14_any z h64 _)).mono ?_
      rintro e u5 ⟨A1, n1, c1, rfl, s1, hb⟩
      replace hT := hT.below hb; replace b2 := b2.trans (hb.mono b2.size); replace m1 := m1.below hb; replace hr9 := hr9.below hb; replace hs9 := hs9.below hb; replace hv := hv.trans (hb.mono hv.size)
      clear hb
      go_wp2_with fail
      refine (res3 (rfl) (row_any q1 C (nsOf C M) i _ m1)).mono ?_
      rintro e u6 ⟨As2, ns2, cs2, rfl, s2, hb⟩
      replace hT := hT.below hb; replace b2 := b2.trans (hb.mono b2.size); replace m1 := m1.below hb; replace hr9 := hr9.below hb; replace hs9 := hs9.below hb; replace hv := hv.trans (hb.mono hv.size); replace s1 := s1.below hb
      clear hb
      go_wp2_with fail
      refine (res3 (rfl) (and_any _ _ z _ _ s1 s2)).mono ?_
      rintro e u7 ⟨As3, ns3, cs3, rfl, s3, hb⟩
      replace hT := hT.below hb; replace b2 := b2.trans (hb.mono b2.size); replace m1 := m1.below hb; replace hr9 := hr9.below hb; replace hs9 := hs9.below hb; replace hv := hv.trans (hb.mono hv.size); replace s1 := s1.below hb; replace s2 := s2.below hb
      clear hb
      go_wp2_with fail
      refine (res3 (rfl) (with_any _ _ (j : Int) _ s3)).mono ?_
      rintro e u8 ⟨As4, ns4, cs4, rfl, s4, hb⟩
      replace hT := hT.below hb; replace b2 := b2.trans (hb.mono b2.size); replace m1 := m1.below hb; replace hr9 := hr9.below hb; replace hs9 := hs9.below hb; replace hv := hv.trans (hb.mono hv.size); replace s1 := s1.below hb; replace s2 := s2.below hb; replace s3 := s3.below hb
      clear hb
      go_wp2_with fail
      refine (res3 (rfl) (close_any (some ⟨q1, 0, none⟩) C (nsOf C M) _ _ _ m1.mv s4 hT)).mono ?_
      rintro e u9 ⟨As5, ns5, cs5, rfl, s5, hb⟩
      replace hT := hT.below hb; replace b2 := b2.trans (hb.mono b2.size); replace m1 := m1.below hb; replace hr9 := hr9.below hb; replace hs9 := hs9.below hb; replace hv := hv.trans (hb.mono hv.size); replace s1 := s1.below hb; replace s2 := s2.below hb; replace s3 := s3.below hb; replace s4 := s4.below hb
      clear hb
      go_wp2_with fail
      refine absC1 fun y2 hB hb hz => ?_
      clear hz
      replace hT := hT.below hb; replace b2 := b2.trans (hb.mono b2.size); replace m1 := m1.below hb; replace hr9 := hr9.below hb; replace hs9 := hs9.below hb; replace hv := hv.trans (hb.mono hv.size); replace s1 := s1.below hb; replace s2 := s2.below hb; replace s3 := s3.below hb; replace s4 := s4.below hb; replace s5 := s5.below hb
      clear hb
      refine (contains_set (decide_eq_true (HAR.out z)) s5 hr9 hs9 hcl).mono ?_
      rintro e u10 ⟨rfl, hb⟩
      replace hT := hT.below hb; replace b2 := b2.trans (hb.mono b2.size); replace m1 := m1.below hb; replace hr9 := hr9.below hb; replace hs9 := hs9.below hb; replace hv := hv.trans (hb.mono hv.size); replace s1 := s1.below hb; replace s2 := s2.below hb; replace s3 := s3.below hb; replace s4 := s4.below hb; replace s5 := s5.below hb; replace hB := hB.below hb hB.lt
      clear hb
      go_wp2_with fail
      go_ret
      exact ⟨rfl, b2⟩
end Mix2
end Go.Proofs.YtgpooflcbljidaaDoor

