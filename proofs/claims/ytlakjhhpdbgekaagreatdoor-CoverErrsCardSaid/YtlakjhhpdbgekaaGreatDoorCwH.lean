/-
  The law CoverErrs.
-/
import Derived.Test.YtlakjhhpdbgekaaGreatDoorCwF
import Derived.Test.YtlakjhhpdbgekaaGreatDoorCvT
import Derived.Test.YtlakjhhpdbgekaaGreatDoorRb2
import Derived.Test.YtlakjhhpdbgekaaGreatDoorLaw
import Derived.Test.YtlakjhhpdbgekaaGreatDoorLaw3
import Derived.Deep.DeepCutAuto
import Derived.Deep.CutBlock
namespace Go.Proofs.YtlakjhhpdbgekaaGreatDoor
open Go.RowKit

/-- What Minimal answers to a limit. -/
def wantE (n : Int) (len : Nat) : Int := if n < 1 then 1 else if n < (len : Int) then 3 else 0
theorem clos_pos {C : Nat} {Ns : List Nat} (hl : Ns.length ≤ 4096) : 0 < (closL C Ns).length := (List.getElem?_eq_some_iff.1 (clos_first hl)).1
theorem valid_none {C : Nat} {Ns : List Nat} : validN C Ns 0 (List.replicate Ns.length 0) C [] = decide ((cellsOf Ns).length = 0) := by
  rw [Bool.eq_iff_iff, decide_eq_true_eq]
  have hz : ∀ i k, ((List.replicate Ns.length 0).getD i 0).testBit k = false := fun i k => by
    rw [List.getD_eq_getElem?_getD, List.getElem?_replicate]
    split <;> simp
  constructor
  · intro h
    rcases Nat.eq_zero_or_pos (cellsOf Ns).length with e | e
    · exact e
    · obtain ⟨c, hc⟩ := List.exists_mem_of_ne_nil _ (List.length_pos_iff.1 e)
      obtain ⟨h1, h2⟩ := mem_cellsOf.1 hc
      unfold validN at h
      rw [Bool.and_eq_true, decide_eq_true_eq, decide_eq_true_eq] at h
      have h3 := h.2.2.2.2 c.1 h1
      have h4 := congrArg (fun x => x.testBit c.2) h3
      simp only [Nat.testBit_and, h2, Bool.true_and] at h4
      obtain ⟨k, hk, _⟩ := (mprod_bit (by rw [List.length_replicate]; exact h1)).1 h4
      rw [hz] at hk
      cases hk
  · intro h
    refine valid_of rfl rfl (List.length_replicate ..) fun i hi j => ?_
    constructor
    · rintro ⟨k, hk, _⟩
      rw [hz] at hk
      cases hk
    · intro hj
      have : (i, j) ∈ cellsOf Ns := mem_cellsOf.2 ⟨hi, hj⟩
      rw [List.eq_nil_of_length_eq_zero h] at this
      cases this
theorem zeros_getE {z : Value} {n k : Nat} (h : k < n) : (zeros z n)[k]? = some z := by simp [zeros, h]
theorem sets_zerosE (w : World) (n : Nat) : Sets w (List.replicate n (.slice none 0 0)) (List.replicate n 0) := by
  refine ⟨by simp, fun k v N hv hN => ?_⟩
  rw [List.getElem?_replicate] at hv hN
  split at hv
  · rename_i h
    rw [if_pos h] at hN
    cases hv; cases hN
    exact IsSet.empty w
  · cases hv
theorem new_matE (R C : Nat) (w : World) (h1 : R ≤ 256) (h2 : C ≤ 256) :
    IsMat ((w.alloc (.cells (zeros (.slice none 0 0) R) 65)).alloc (.cells #[.int .i64 (C : Int), .slice (some ⟨w.heap.size, 0, none⟩) R R] 136)) (w.heap.size + 1) C (List.replicate R 0) := by
  have hb := (Blk.new w 65 (zeros (.slice none 0 0) R)).alloc (.cells #[.int .i64 (C : Int), .slice (some ⟨w.heap.size, 0, none⟩) R R] 136)
  have hm := Blk.new_ (n := w.heap.size + 1) (w := w.alloc (.cells (zeros (.slice none 0 0) R) 65)) (by simp) 136 #[.int .i64 (C : Int), .slice (some ⟨w.heap.size, 0, none⟩) R R]
  refine ⟨by omega, by simp; omega, some ⟨w.heap.size, 0, none⟩, R, List.replicate R (.slice none 0 0), by simpa using hm, by simp, Row.of_blk hb fun k u hu => ?_, sets_zerosE _ _⟩
  rw [List.getElem?_replicate] at hu
  split at hu
  · rename_i h; cases hu; exact zeros_getE h
  · cases hu
theorem newE_any (R C : Nat) (w : World) (h1 : R ≤ 256) (h2 : C ≤ 256) : Calls Tryz.prog 43 #[.int .i64 R, .int .i64 C] w fun e w' => ∃ q, e = pair (ptr q) 0 ∧ IsMat w' q C (List.replicate R 0) ∧ Below w.heap.size w w' :=
  (new_yes R C w h1 h2).mono fun e w' ⟨he, hw⟩ => ⟨w.heap.size + 1, he, by rw [hw]; exact new_matE R C w h1 h2, by rw [hw]; exact ((Below.refl _ _).alloc (Nat.le_refl _) _).alloc (by simp) _⟩
theorem rows13 (k : Nat) : rowsIn 13 [lowN (clamp 13), setOf [((k % 13 : Nat) : Int)]] := by
  have h1 : lowN (clamp 13) &&& lowN 13 = lowN (clamp 13) := by decide
  have h2 : setOf [((k % 13 : Nat) : Int)] &&& lowN 13 = setOf [((k % 13 : Nat) : Int)] := Nat.eq_of_testBit_eq fun i => by
    rw [Nat.testBit_and, testBit_lowN, testBit_setOf, Bool.eq_iff_iff, Bool.and_eq_true, decide_eq_true_eq, decide_eq_true_eq]
    refine ⟨fun h => h.1, fun h => ⟨h, ?_⟩⟩
    have := List.mem_singleton.1 h.2
    omega
  intro i hi
  match i, hi with
  | 0, _ => exact h1
  | 1, _ => exact h2
namespace Mix2
theorem simplify_zero (q q1 q2 C : Nat) (Ns : List Nat) (st : Int) (cl : Nat) (w : World) (hq : IsMat w q C Ns) (hq1 : IsMat w q1 0 (List.replicate Ns.length 0)) (hq2 : IsMat w q2 C (List.replicate 0 0)) (hT : Tab w) (hC : C ≤ 256) (hR : Ns.length ≤ 256) (hcl : cl = (cellsOf Ns).length) (hst : st = if 0 < cl then 7 else 0) :
    Calls Tryz.prog 23 #[ptr q, .agg #[ptr q1, ptr q2]] w fun e w' => (∃ a b, e = .returned (.tuple #[.agg #[.pointer a, .pointer b], .int .i64 st])) ∧ Below w.heap.size w w' := by
  have h0 : rowsIn 0 (List.replicate Ns.length 0) := fun i hi => by
    rw [List.length_replicate] at hi
    rw [List.getD_eq_getElem?_getD, List.getElem?_replicate, if_pos hi]; simp
  have hsf := simplify_few q q1 q2 C 0 C Ns (List.replicate Ns.length 0) [] w hq hq1 hq2 h0 hT hC hR (Or.inr rfl)
  have e : (if validN C Ns 0 (List.replicate Ns.length 0) C [] = true then (0 : Int) else 7) = st := by
    rw [valid_none, hst, ← hcl]
    by_cases h0 : cl = 0
    · rw [h0]; rfl
    · rw [decide_eq_false h0, if_neg (by simp), if_pos (by omega)]
  rw [e] at hsf
  exact hsf
theorem normal_two (q1 q C : Nat) (Ns : List Nat) (ft : Int) (w : World) (hq1 : IsMat w q1 0 (List.replicate Ns.length 0)) (hq : IsMat w q C Ns) (hC : C ≤ 256) (hR : Ns.length ≤ 256) (hft : ft = if 0 = Ns.length then 0 else 1) :
    Calls Tryz.prog 38 #[.agg #[ptr q1, ptr q]] w fun e w' => (∃ a b, e = .returned (.tuple #[.agg #[.pointer a, .pointer b], .int .i64 ft])) ∧ Below w.heap.size w w' := by
  rw [hft]
  refine normal_fit q1 q 0 C (List.replicate Ns.length 0) Ns w hq1 hq hC (by rw [List.length_replicate]; exact hR) ?_
  by_cases h0 : Ns.length = 0
  · exact .inr ⟨rfl, List.eq_nil_of_length_eq_zero h0⟩
  · exact .inl (fun e => h0 e.symm)
theorem minimal_all (p C : Nat) (Ns : List Nat) (n : Int) (w : World) (h : IsMat w p C Ns) (hin : rowsIn C Ns) (hR : Ns.length ≤ 5) (hC : C ≤ 5) (hT : Tab w) :
    Calls Tryz.prog 14 #[ptr p, .int .i64 n] w fun e w' => ∃ a b z A m d, e = .returned (.tuple #[.agg #[.pointer a, .pointer b], .agg #[.int .i64 z, .slice A m d], .int .i64 (wantE n (closL C Ns).length)]) ∧ (wantE n (closL C Ns).length = 0 ∨ a = none ∧ b = none ∧ z = 0) ∧ Below w.heap.size w w' := by
  unfold wantE
  by_cases h1 : n < 1
  · rw [if_pos h1]
    exact (minimal_arg (some ⟨p, 0, none⟩) n w (.inr h1)).mono fun e w' ⟨he, hb⟩ => ⟨_, _, _, _, _, _, he, .inr ⟨rfl, rfl, rfl⟩, hb⟩
  · rw [if_neg h1]
    by_cases h2 : n < ((closL C Ns).length : Int)
    · rw [if_pos h2]
      obtain ⟨mo, rfl⟩ := Int.eq_ofNat_of_zero_le (show 0 ≤ n by omega)
      exact (minimal_lim p C Ns mo w h hT (by omega) (.inr ⟨by omega, by omega⟩)).mono fun e w' ⟨he, hb⟩ => ⟨_, _, _, _, _, _, he, .inr ⟨rfl, rfl, rfl⟩, hb⟩
    · rw [if_neg h2]
      exact (minimal_any p C Ns n w h hin hR hC (by omega) hT).mono fun e w' ⟨u, r, A, m, c, he, _, _, _, hb⟩ => ⟨_, _, _, _, _, _, he, .inl rfl, hb⟩
set_option maxRecDepth 100000 in
set_option maxHeartbeats 16000000 in
theorem errs_walk (v : Value) (R C : Nat) (zs : List Int) (n : Int) (k : Nat) (w : World) (hT : Tab w) (h : IsRaw w v R C zs) (_hn : -9223372036854775808 ≤ n ∧ n ≤ 9223372036854775807) (hk : k ≤ 255) :
    Calls Tryz.prog 10 #[v, .int .i64 n, .int .u8 k] w fun e w' => e = .returned (.bool true) ∧ Below w.heap.size w w' := by
  have hbd := h.bd
  obtain ⟨r, c, A0, d0, hv, _⟩ := id h
  subst hv
  have HIN := hideC h; clear h
  go_enter Tryz.func10, Tryz.ntmps10
  go_wp2_with fail
  refine absC1 fun W0 hX hbel0 hz => ?_
  clear hz
  refine (awake_any48 W0 (hT.below hbel0)).mono ?_
  rintro e w1 ⟨rfl, hb1⟩
  have b1 := hbel0.trans (hb1.mono hbel0.size)
  replace hX := hX.below hb1 hX.lt
  have x0 := hX.cell 0
  have x1 := hX.cell 1
  have x2 := hX.cell 2
  have HM := hideC (make_raw _ R C zs w1 (HIN.out.below b1))
  go_wp2_with fail
  with_reducible refine HM.out.mono ?_
  rintro e w2 ⟨A2, c2, rfl, hI, hb2⟩
  have b2 := b1.trans (hb2.mono b1.size)
  obtain ⟨M, hMd⟩ : ∃ M, M = rawM R C zs := ⟨_, rfl⟩
  have hML : M.length = R := by rw [hMd, mat_len]
  rw [← hMd] at hI
  subst hML
  obtain ⟨hR5, hC5⟩ := hbd
  have hnl : (nsOf C M).length = M.length := nsTo_len ..
  have hin := rowsIn_nsOf C M (by omega)
  clear hMd HM HIN hbel0 hb1 hb2 b1 x0 x1 x2 hX
  go_wp2_with fail
  refine absC1 fun w3 h3 hb3 hz => ?_
  clear hz
  have b3 := b2.trans (hb3.mono b2.size)
  have hI3 := hI.below hb3
  clear hb3 b2 hI
  refine (matrixl_any C A2 c2 M _ hI3 (by omega) (by omega)).mono ?_
  rintro e w4 ⟨q, rfl, hq, -, hb4⟩
  have b4 := b3.trans (hb4.mono b3.size)
  obtain ⟨Ns, hNs⟩ : ∃ N, N = nsOf C M := ⟨_, rfl⟩
  rw [← hNs] at hq hin hnl
  have hN5 : Ns.length ≤ 5 := by omega
  have hl : Ns.length ≤ 4096 := by omega
  clear hNs b3 hb4 hI3 h3 hnl hR5
  have hcl : (closL C Ns).length ≤ 32 := Nat.le_trans (closL_len C Ns) (Nat.pow_le_pow_right (by omega) hC5)
  have HNL := hideC (new_lat q C Ns 1000 w4 hq (hT.below b4) (by omega) (by omega))
  go_wp2_with fail
  with_reducible refine HNL.out.mono ?_
  rintro e w5 ⟨gl, rfl, hlat, hb5⟩
  have b5 := b4.trans (hb5.mono b4.size)
  have hq5 := hq.below hb5
  have HLL := hideC (lat_len gl _ q C Ns (closL C Ns) w5 hlat)
  have HMA := Lib.hid (fun W (hb : Below w5.heap.size w5 W) => minimal_all q C Ns n W (hq5.below hb) hin hN5 hC5 (hT.below (b5.trans (hb.mono b5.size))))
  obtain ⟨len, hlen⟩ : ∃ len, len = (closL C Ns).length := ⟨_, rfl⟩
  rw [← hlen] at HLL HMA
  obtain ⟨we, hwe⟩ : ∃ e, e = wantE n len := ⟨_, rfl⟩
  rw [← hwe] at HMA
  have HWE := Lib.hid hwe
  clear HNL hb5 b4 hq hlat hcl hlen hwe
  obtain ⟨t1, ht1⟩ : ∃ b, b = decide (n < (len : Int)) := ⟨_, rfl⟩
  have HT1 := Lib.hid ht1
  clear ht1
  go_upto_region 9 with fail
  go_cut [59] (fun s wx => s = .bool t1 ∧ wx = w5)
  case first =>
    go_wp2_with fail
    with_reducible refine HLL.out.mono ?_
    rintro e w' ⟨rfl, rfl⟩
    go_wp2_with fail
    go_meet
    exact ⟨by rw [HT1.out], rfl⟩
  case rest =>
  obtain ⟨hs, hwc⟩ := hcut
  subst hs
  rw [hwc]
  clear hwc HLL
  obtain ⟨x1, hx1⟩ : ∃ x : Int, x = if n < (len : Int) then 3 else 0 := ⟨_, rfl⟩
  have HX1 := Lib.hid hx1
  clear hx1
  go_upto_if 59 with fail
  go_cut [11] (fun s wx => s = .int .i64 x1 ∧ wx = w5)
  case first =>
    cases t1 with
    | true =>
      have hlt := of_decide_eq_true HT1.out.symm
      have he : x1 = 3 := by rw [HX1.out, if_pos hlt]
      have HE := Lib.hid he
      clear hlt he
      go_wp2_with fail
      go_meet
      exact ⟨by rw [HE.out], rfl⟩
    | false =>
      have hlt := of_decide_eq_false HT1.out.symm
      have he : x1 = 0 := by rw [HX1.out, if_neg hlt]
      have HE := Lib.hid he
      clear hlt he
      go_wp2_with fail
      go_meet
      exact ⟨by rw [HE.out], rfl⟩
  case rest =>
  obtain ⟨hs, hwc⟩ := hcut
  subst hs
  rw [hwc]
  clear hwc
  obtain ⟨t2, ht2⟩ : ∃ b, b = decide (n < 1) := ⟨_, rfl⟩
  have HT2 := Lib.hid ht2
  clear ht2
  go_upto_region 11 with fail
  go_cut [61] (fun s wx => s = .bool t2 ∧ wx = w5)
  case first =>
    go_wp2_with fail
    go_meet
    exact ⟨by rw [HT2.out], rfl⟩
  case rest =>
  obtain ⟨hs, hwc⟩ := hcut
  subst hs
  rw [hwc]
  clear hwc
  go_upto_if 61 with fail
  go_cut [11] (fun s wx => s = .int .i64 we ∧ wx = w5)
  case first =>
    cases t2 with
    | true =>
      have hlt := of_decide_eq_true HT2.out.symm
      have he : we = 1 := by rw [HWE.out]; unfold wantE; rw [if_pos hlt]
      have HE := Lib.hid he
      clear hlt he
      go_wp2_with fail
      go_meet
      exact ⟨by rw [HE.out], rfl⟩
    | false =>
      have hlt := of_decide_eq_false HT2.out.symm
      have he : we = x1 := by rw [HWE.out, HX1.out]; unfold wantE; rw [if_neg hlt]
      have HE := Lib.hid he
      clear hlt he
      go_wp2_with fail
      go_meet
      exact ⟨by rw [HE.out], rfl⟩
  case rest =>
  obtain ⟨hs, hwc⟩ := hcut
  subst hs
  rw [hwc]
  clear hwc
  as_aux_lemma =>
  go_upto_region 13 with fail
  refine wp_frame (fun g => #[g 0, .int .i64 n, .int .u8 (k : Int), g 3, g 4, g 5, .bool false, g 7, ptr q, g 9, g 10, .int .i64 we, g 12, g 13, g 14, g 15, g 16, g 17, g 18, g 19, g 20, g 21, g 22, g 23, g 24, g 25, g 26, g 27, g 28, g 29, g 30, g 31, g 32, g 33, g 34, g 35, g 36, g 37, g 38, g 39, g 40, g 41, g 42, g 43, g 44, g 45, g 46, g 47, g 48, g 49, g 50, g 51, g 52, g 53, g 54, g 55, g 56, g 57, g 58, g 59, g 60, g 61, g 62, g 63, g 64, g 65, g 66, g 67, g 68, g 69, g 70, g 71, g 72, g 73, g 74, g 75, g 76, g 77, g 78, g 79, g 80, g 81, g 82, g 83, g 84, g 85, g 86, g 87, g 88, g 89, g 90, g 91, g 92, g 93, g 94, g 95, g 96, g 97, g 98, g 99, g 100, g 101, g 102, g 103, g 104, g 105, g 106, g 107, g 108, g 109, g 110, g 111, g 112, g 113, g 114, g 115, g 116, g 117, g 118, g 119, g 120, g 121, g 122, g 123, g 124, g 125, g 126, g 127, g 128, g 129, g 130, g 131, g 132, g 133, g 134, g 135, g 136, g 137, g 138, g 139, g 140, g 141, g 142, g 143, g 144, g 145, g 146, g 147, g 148, g 149, g 150, g 151, g 152, g 153, g 154, g 155, g 156, g 157, g 158, g 159, g 160, g 161, g 162, g 163, g 164, g 165, g 166, g 167, g 168, g 169, g 170, g 171, g 172, g 173, g 174, g 175, g 176, g 177, g 178, g 179, g 180, g 181, g 182, g 183, g 184, g 185, g 186, g 187, g 188, g 189, g 190, g 191, g 192, g 193, g 194, g 195, g 196, g 197, g 198, g 199, g 200]) rfl fun g => ?_
  dsimp only
  have HM1 := hideC (HMA.out w5 (Below.refl _ _))
  go_wp2_with fail
  with_reducible refine HM1.out.mono ?_
  rintro e w6 ⟨a1, a2, z1, Av, nv, cv, rfl, hz1, hb6⟩
  have b6 := b5.trans (hb6.mono b5.size)
  have hq6 := hq5.below hb6
  have HZ1 := Lib.hid hz1
  clear HM1 HMA hb6 hq5 b5 hz1
  go_upto_region 14 with fail
  refine abs2 fun w7 h12 h13 hb7 hz => ?_
  clear hz
  obtain ⟨g12, hg12⟩ : ∃ x, x = w6.heap.size := ⟨_, rfl⟩
  rw [← hg12] at h12 h13 ⊢
  have b7 := b6.trans (hb7.mono b6.size)
  have hq7 := hq6.below hb7
  clear hg12 hb7 hq6 b6
  have HMN := hideC (minimal_arg none 5 w7 (.inl rfl))
  go_wp2_with fail
  with_reducible refine HMN.out.mono ?_
  rintro e w8 ⟨rfl, hb8⟩
  have b8 := b7.trans (hb8.mono b7.size)
  have hq8 := hq7.below hb8
  have h128 := h12.below hb8 h12.lt
  have h138 := h13.below hb8 h13.lt
  clear HMN hb8 hq7 b7 h12 h13
  go_upto_region 15 with fail
  refine abs2 fun w9 _ _ hb9 _ => ?_
  have b9 := b8.trans (hb9.mono b8.size)
  have hq9 := hq8.below hb9
  have h129 := h128.below hb9 h128.lt
  have h139 := h138.below hb9 h138.lt
  clear hb9 hq8 b8 h128 h138
  have HGN := hideC (greedy_nil w9)
  go_wp2_with fail
  with_reducible refine HGN.out.mono ?_
  rintro e wa ⟨rfl, hba⟩
  have ba := b9.trans (hba.mono b9.size)
  have hqa := hq9.below hba
  have h12a := h129.below hba h129.lt
  have h13a := h139.below hba h139.lt
  clear HGN hba hq9 b9 h129 h139
  go_upto_region 16 with fail
  refine abs1 fun wb _ hbb _ => ?_
  have bb := ba.trans (hbb.mono ba.size)
  have hqb := hqa.below hbb
  have h12b := h12a.below hbb h12a.lt
  have h13b := h13a.below hbb h13a.lt
  clear hbb hqa ba h12a h13a
  have y0 := h12b.cell 0
  have y1 := h12b.cell 1
  have HSN := hideC (simplify_nil a1 a2 wb)
  go_wp2_with fail
  with_reducible refine HSN.out.mono ?_
  rintro e wC ⟨rfl, hbc⟩
  have bc := bb.trans (hbc.mono bb.size)
  have hqc := hqb.below hbc
  have h12c := h12b.below hbc h12b.lt
  have h13c := h13b.below hbc h13b.lt
  clear HSN hbc hqb bb h12b h13b y0 y1
  go_upto_region 17 with fail
  refine abs1 fun wd _ hbd' _ => ?_
  have bd := bc.trans (hbd'.mono bc.size)
  have hqd := hqc.below hbd'
  have h12d := h12c.below hbd' h12c.lt
  have h13d := h13c.below hbd' h13c.lt
  clear hbd' hqc bc h12c h13c
  have HRW := hideC (rows_any q C Ns wd hqd)
  have hn1 := newE_any Ns.length 0 wd (by omega) (by omega)
  rw [show ((0 : Nat) : Int) = 0 from rfl] at hn1
  have HN1 := hideC hn1
  clear hn1
  go_wp2_with fail
  with_reducible refine HRW.out.mono ?_
  rintro e w' ⟨rfl, rfl⟩
  go_wp2_with fail
  with_reducible refine HN1.out.mono ?_
  rintro e we1 ⟨q1, rfl, hq1, hbe⟩
  have be := bd.trans (hbe.mono bd.size)
  have hqe := hqd.below hbe
  have h12e := h12d.below hbe h12d.lt
  have h13e := h13d.below hbe h13d.lt
  clear HRW HN1 hbe hqd bd h12d h13d
  have HCW := hideC (cols_any q C Ns we1 hqe)
  have hn2 := newE_any 0 C we1 (by omega) (by omega)
  rw [show ((0 : Nat) : Int) = 0 from rfl] at hn2
  have HN2 := hideC hn2
  clear hn2
  go_wp2_with fail
  with_reducible refine HCW.out.mono ?_
  rintro e w' ⟨rfl, rfl⟩
  go_wp2_with fail
  with_reducible refine HN2.out.mono ?_
  rintro e wf ⟨q2, rfl, hq2, hbf⟩
  have bf := be.trans (hbf.mono be.size)
  have hqf := hqe.below hbf
  have hq1f := hq1.below hbf
  have h12f := h12e.below hbf h12e.lt
  have h13f := h13e.below hbf h13e.lt
  clear HCW HN2 hbf hqe be h12e h13e hq1
  have hones := onesTo_cells Ns
  obtain ⟨cl, hcl⟩ : ∃ cl, cl = (cellsOf Ns).length := ⟨_, rfl⟩
  rw [← hcl] at hones
  obtain ⟨st, hst⟩ : ∃ st : Int, st = if 0 < cl then 7 else 0 := ⟨_, rfl⟩
  have HSF := hideC (simplify_zero q q1 q2 C Ns st cl wf hqf hq1f hq2 (hT.below bf) (by omega) (by omega) hcl hst)
  have HST := Lib.hid hst
  clear hst hcl
  go_wp2_with fail
  with_reducible refine HSF.out.mono ?_
  rintro e wg ⟨⟨s1, s2, rfl⟩, hbg⟩
  have bg := bf.trans (hbg.mono bf.size)
  have hqg := hqf.below hbg
  have hq1g := hq1f.below hbg
  have h12g := h12f.below hbg h12f.lt
  have h13g := h13f.below hbg h13f.lt
  clear HSF hbg hqf bf h12f h13f hq1f hq2
  go_upto_region 20 with fail
  refine abs1 fun wh _ hbh _ => ?_
  have bh := bg.trans (hbh.mono bg.size)
  have hqh := hqg.below hbh
  have hq1h := hq1g.below hbh
  have h12h := h12g.below hbh h12g.lt
  have h13h := h13g.below hbh h13g.lt
  clear hbh hqg bg h12g h13g hq1g
  have hon := onesm_any q C Ns wh hqh (hT.below bh)
  rw [hones] at hon
  have HON := hideC hon
  clear hon hones
  obtain ⟨t3, ht3⟩ : ∃ b, b = decide (0 < cl) := ⟨_, rfl⟩
  have HT3 := Lib.hid ht3
  clear ht3
  go_upto_region 21 with fail
  go_cut [105] (fun s wx => s = .bool t3 ∧ Below wh.heap.size wh wx)
  case first =>
    go_wp2_with fail
    with_reducible refine HON.out.mono ?_
    rintro e wi ⟨rfl, hbi⟩
    go_wp2_with fail
    go_meet
    exact ⟨by rw [HT3.out], hbi⟩
  case rest =>
  obtain ⟨hs, hbi⟩ := hcut
  subst hs
  obtain ⟨wi, hwi⟩ : ∃ x, x = wc := ⟨_, rfl⟩
  rw [← hwi] at hbi ⊢
  clear hwi
  have bi := bh.trans (hbi.mono bh.size)
  have hqi := hqh.below hbi
  have hq1i := hq1h.below hbi
  have h12i := h12h.below hbi h12h.lt
  have h13i := h13h.below hbi h13h.lt
  clear HON hbi hqh bh h12h h13h hq1h
  go_upto_if 105 with fail
  go_cut [28] (fun s wx => s = .int .i64 st ∧ wx = wi)
  case first =>
    cases t3 with
    | true =>
      have hlt := of_decide_eq_true HT3.out.symm
      have he : st = 7 := by rw [HST.out, if_pos hlt]
      have HE := Lib.hid he
      clear he
      go_wp2_with fail
      go_meet
      exact ⟨by rw [HE.out], rfl⟩
    | false =>
      have hlt := of_decide_eq_false HT3.out.symm
      have he : st = 0 := by rw [HST.out, if_neg hlt]
      have HE := Lib.hid he
      clear he
      go_wp2_with fail
      go_meet
      exact ⟨by rw [HE.out], rfl⟩
  case rest =>
  obtain ⟨hs, hwc⟩ := hcut
  subst hs
  rw [hwc]
  clear hwc
  as_aux_lemma =>
  go_upto_region 23 with fail
  refine wp_frame (fun g => #[g 0, g 1, .int .u8 (k : Int), g 3, g 4, g 5, .bool false, g 7, ptr q, g 9, g 10, .int .i64 we, ptr g12, ptr (g12 + 1), .int .i64 we, g 15, g 16, .int .i64 1, g 18, .int .i64 1, g 20, .int .i64 1, ptr q1, .int .i64 0, g 24, .int .i64 0, g 26, .int .i64 st, .int .i64 st, g 29, g 30, g 31, g 32, g 33, g 34, g 35, g 36, g 37, g 38, g 39, g 40, g 41, g 42, g 43, g 44, g 45, g 46, g 47, g 48, g 49, g 50, g 51, g 52, g 53, g 54, g 55, g 56, g 57, g 58, g 59, g 60, g 61, g 62, g 63, g 64, g 65, g 66, g 67, g 68, g 69, g 70, g 71, g 72, g 73, g 74, g 75, g 76, g 77, g 78, g 79, g 80, g 81, g 82, g 83, g 84, g 85, g 86, g 87, g 88, g 89, g 90, g 91, g 92, g 93, g 94, g 95, g 96, g 97, g 98, g 99, g 100, g 101, g 102, g 103, g 104, g 105, g 106, g 107, g 108, g 109, g 110, g 111, g 112, g 113, g 114, g 115, g 116, g 117, g 118, g 119, g 120, g 121, g 122, g 123, g 124, g 125, g 126, g 127, g 128, g 129, g 130, g 131, g 132, g 133, g 134, g 135, g 136, g 137, g 138, g 139, g 140, g 141, g 142, g 143, g 144, g 145, g 146, g 147, g 148, g 149, g 150, g 151, g 152, g 153, g 154, g 155, g 156, g 157, g 158, g 159, g 160, g 161, g 162, g 163, g 164, g 165, g 166, g 167, g 168, g 169, g 170, g 171, g 172, g 173, g 174, g 175, g 176, g 177, g 178, g 179, g 180, g 181, g 182, g 183, g 184, g 185, g 186, g 187, g 188, g 189, g 190, g 191, g 192, g 193, g 194, g 195, g 196, g 197, g 198, g 199, g 200]) rfl fun g => ?_
  dsimp only
  have HNA := hideC (normal_arg1 q1 wi)
  go_wp2_with fail
  with_reducible refine HNA.out.mono ?_
  rintro e wj ⟨rfl, hbj⟩
  have bj := bi.trans (hbj.mono bi.size)
  have hqj := hqi.below hbj
  have hq1j := hq1i.below hbj
  have h12j := h12i.below hbj h12i.lt
  have h13j := h13i.below hbj h13i.lt
  clear HNA hbj hqi bi h12i h13i hq1i
  go_upto_region 24 with fail
  refine abs1 fun wk _ hbk _ => ?_
  have bk := bj.trans (hbk.mono bj.size)
  have hqk := hqj.below hbk
  have hq1k := hq1j.below hbk
  have h12k := h12j.below hbk h12j.lt
  have h13k := h13j.below hbk h13j.lt
  clear hbk hqj bj h12j h13j hq1j
  obtain ⟨ft, hft⟩ : ∃ ft : Int, ft = if 0 = Ns.length then 0 else 1 := ⟨_, rfl⟩
  have HNF := hideC (normal_two q1 q C Ns ft wk hq1k hqk (by omega) (by omega) hft)
  have HFT := Lib.hid hft
  clear hft
  go_wp2_with fail
  with_reducible refine HNF.out.mono ?_
  rintro e wl ⟨⟨n1, n2, rfl⟩, hbl⟩
  have bl := bk.trans (hbl.mono bk.size)
  have hql := hqk.below hbl
  have h12l := h12k.below hbl h12k.lt
  have h13l := h13k.below hbl h13k.lt
  clear HNF hbl hqk bk h12k h13k hq1k
  go_upto_region 25 with fail
  refine abs1 fun wm _ hbm _ => ?_
  have bm := bl.trans (hbm.mono bl.size)
  have hqm := hql.below hbm
  have h12m := h12l.below hbm h12l.lt
  have h13m := h13l.below hbm h13l.lt
  clear hbm hql bl h12l h13l
  have HRM := hideC (rows_any q C Ns wm hqm)
  obtain ⟨t4, ht4⟩ : ∃ b, b = decide (0 < Ns.length) := ⟨_, rfl⟩
  have HT4 := Lib.hid ht4
  clear ht4
  go_upto_region 26 with fail
  go_cut [121] (fun s wx => s = .bool t4 ∧ wx = wm)
  case first =>
    go_wp2_with fail
    with_reducible refine HRM.out.mono ?_
    rintro e w' ⟨rfl, rfl⟩
    go_wp2_with fail
    go_meet
    exact ⟨by rw [HT4.out], rfl⟩
  case rest =>
  obtain ⟨hs, hwc⟩ := hcut
  subst hs
  rw [hwc]
  clear hwc HRM
  go_upto_if 121 with fail
  go_cut [33] (fun s wx => s = .int .i64 ft ∧ wx = wm)
  case first =>
    cases t4 with
    | true =>
      have hlt := of_decide_eq_true HT4.out.symm
      have he : ft = 1 := by rw [HFT.out, if_neg (by omega)]
      have HE := Lib.hid he
      clear he
      go_wp2_with fail
      go_meet
      exact ⟨by rw [HE.out], rfl⟩
    | false =>
      have hlt := of_decide_eq_false HT4.out.symm
      have he : ft = 0 := by rw [HFT.out, if_pos (by omega)]
      have HE := Lib.hid he
      clear he
      go_wp2_with fail
      go_meet
      exact ⟨by rw [HE.out], rfl⟩
  case rest =>
  obtain ⟨hs, hwc⟩ := hcut
  subst hs
  rw [hwc]
  clear hwc
  as_aux_lemma =>
  have HBE := hideC (below_any 13 wm)
  go_wp2_with fail
  with_reducible refine HBE.out.mono ?_
  rintro e wn ⟨v13, rfl, hv13, hbn⟩
  have bn := bm.trans (hbn.mono bm.size)
  have h12n := h12m.below hbn h12m.lt
  have h13n := h13m.below hbn h13m.lt
  have HK13 := Lib.hid (show (k : Int).tmod 13 = ((k % 13 : Nat) : Int) by rw [Int.tmod_eq_emod_of_nonneg (by omega)]; omega)
  obtain ⟨A13, c13, rfl, _⟩ := id hv13
  have E13 := Lib.hid (show (k : Int) % 13 = ((k % 13 : Nat) : Int) by omega)
  clear HBE hbn hqm bm h12m h13m
  go_wp2_with fail
  refine absC1 fun wo hB hbo _ => ?_
  first | rw [E13.out] at hB | rw [HK13.out] at hB | skip
  have bo := bn.trans (hbo.mono bn.size)
  have h12o := h12n.below hbo h12n.lt
  have h13o := h13n.below hbo h13n.lt
  have hv13o := hv13.below hbo
  have hof := of_any (some ⟨wn.heap.size, 0, none⟩) 1 [((k % 13 : Nat) : Int)] wo (Row.of_blk hB fun j u hu => by simpa using hu) (by simp)
  rw [show ([((k % 13 : Nat) : Int)]).length = 1 from rfl] at hof
  have HOF := hideC hof
  clear hof hB hbo bn h12n h13n hv13 E13 HK13
  with_reducible refine HOF.out.mono ?_
  rintro e wp ⟨vk, rfl, hvk, hbp⟩
  obtain ⟨Ak, ck, rfl, _⟩ := id hvk
  have bp := bo.trans (hbp.mono bo.size)
  have h12p := h12o.below hbp h12o.lt
  have h13p := h13o.below hbp h13o.lt
  have hv13p := hv13o.below hbp
  clear HOF hbp bo h12o h13o hv13o
  have hr13 := rows13 k
  obtain ⟨N1, hN1⟩ : ∃ n, n = lowN (clamp 13) := ⟨_, rfl⟩
  obtain ⟨N2, hN2⟩ : ∃ n, n = setOf [((k % 13 : Nat) : Int)] := ⟨_, rfl⟩
  rw [← hN1] at hv13p hr13 ⊢
  rw [← hN2] at hvk hr13 ⊢
  have HR13 := Lib.hid hr13
  clear hr13 hN1 hN2
  go_wp2_with fail
  refine absC1 fun wq hS hbq _ => ?_
  have bq := bp.trans (hbq.mono bp.size)
  have h12q := h12p.below hbq h12p.lt
  have h13q := h13p.below hbq h13p.lt
  have hofm := ofm_any (some ⟨wp.heap.size, 0, none⟩) 2 13 [.slice A13 (nw N1) c13, .slice Ak (nw N2) ck] [N1, N2] wq (Row.of_blk hS fun j u hu => by simpa using hu) (show Sets wq [.slice A13 (nw N1) c13, .slice Ak (nw N2) ck] [N1, N2] from ((Sets.nil _).snoc (hv13p.below hbq)).snoc (hvk.below hbq)) (by omega) (by simp)
  rw [show ([N1, N2] : List Nat).length = 2 from rfl, show ((13 : Nat) : Int) = 13 from rfl] at hofm
  have HOM := hideC hofm
  clear hofm hS hbq bp h12p h13p hv13p hvk
  with_reducible refine HOM.out.mono ?_
  rintro e wr (⟨rfl, hno, _⟩ | ⟨q3, rfl, -, hq3, -, hbr⟩)
  · exact absurd HR13.out hno
  have br := bq.trans (hbr.mono bq.size)
  have h12r := h12q.below hbr h12q.lt
  have h13r := h13q.below hbr h13q.lt
  have hml := minimal_lim q3 13 [N1, N2] 100 wr hq3 (hT.below br) (by omega) (.inl (by omega))
  rw [show ((100 : Nat) : Int) = 100 from rfl] at hml
  have HML := hideC hml
  clear hml HOM hbr bq h12q h13q hq3 HR13
  go_wp2_with fail
  with_reducible refine HML.out.mono ?_
  rintro e ws ⟨rfl, hbs⟩
  have bs := br.trans (hbs.mono br.size)
  have h12s := h12r.below hbs h12r.lt
  have h13s := h13r.below hbs h13r.lt
  clear HML hbs br h12r h13r
  go_upto_region 30 with fail
  refine abs2 fun wt _ _ hbt _ => ?_
  have bt := bs.trans (hbt.mono bs.size)
  have h12t := h12s.below hbt h12s.lt
  have h13t := h13s.below hbt h13s.lt
  have y0 := h12t.cell 0
  have y1 := h12t.cell 1
  have y2 := h13t.cell 0
  clear hbt bs h12s h13s
  by_cases hw0 : we = 0
  · subst hw0
    clear HZ1 HWE
    go_wp2_with fail
    go_ret
    exact ⟨rfl, bt⟩
  · have hz := HZ1.out.resolve_left hw0
    obtain ⟨rfl, rfl, rfl⟩ := hz
    have e1 : (we == 0) = false := by rw [beq_eq_false_iff_ne]; exact hw0
    have e2 : decide (we = 0) = false := decide_eq_false hw0
    clear HZ1 HWE
    go_wp2_with fail
    go_ret
    exact ⟨rfl, bt⟩
end Mix2
end Go.Proofs.YtlakjhhpdbgekaaGreatDoor
