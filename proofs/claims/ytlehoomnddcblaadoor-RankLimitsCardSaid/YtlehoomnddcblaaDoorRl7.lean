/-
  The law RankLimits.
-/
import Derived.Test.YtlehoomnddcblaaDoorRn7
import Derived.Test.YtlehoomnddcblaaDoorRk12
import Derived.Test.YtlehoomnddcblaaDoorMix2
import Derived.Test.YtlehoomnddcblaaDoorJoin
import Derived.Deep.DeepCutAuto
import Derived.Deep.CutBlock
namespace Go.Proofs.YtlehoomnddcblaaDoor
open Go.RowKit
theorem limP_nodes {j : Nat} {w : World} {g h : Nat} {t : TypeId} (B7 : Blk w g t #[.int .i64 1]) {t' : TypeId} (B8 : Blk w h t' #[.int .u8 1, .int .i64 0, .int .i64 (j : Int), .slice (some ⟨g, 0, none⟩) 1 1, .slice none 0 0, .int .u8 3, .int .i64 0, .int .i64 0, .slice none 0 0, .slice none 0 0]) : IsNodes w (some ⟨h, 0, none⟩) (limP j) := by
  refine nodes_lit (limP j) [[.int .u8 1, .int .i64 0, .int .i64 (j : Int), .slice (some ⟨g, 0, none⟩) 1 1, .slice none 0 0], [.int .u8 3, .int .i64 0, .int .i64 0, .slice none 0 0, .slice none 0 0]] B8 rfl rfl fun k x hx => ?_
  match k with
  | 0 =>
    cases hx
    exact ⟨_, rfl, some ⟨g, 0, none⟩, 1, none, 0, rfl, row_lit (l := [.int .i64 1]) B7, Row.empty _ _, Nat.le_refl _, Nat.zero_le _, by show 1 ≤ 1000000; omega, by show (0 : Int) ≤ 1; omega, by show (1 : Int) ≤ 255; omega⟩
  | 1 =>
    cases hx
    exact ⟨_, rfl, none, 0, none, 0, rfl, Row.empty _ _, Row.empty _ _, Nat.le_refl _, Nat.zero_le _, Nat.zero_le _, by show (0 : Int) ≤ 3; omega, by show (3 : Int) ≤ 255; omega⟩
  | k + 2 => simp [limP] at hx
theorem limQ_nodes {w : World} {h : Nat} {t' : TypeId} (B8 : Blk w h t' #[.int .u8 3, .int .i64 0, .int .i64 0, .slice none 0 0, .slice none 0 0]) : IsNodes w (some ⟨h, 0, none⟩) limQ := by
  refine nodes_lit limQ [[.int .u8 3, .int .i64 0, .int .i64 0, .slice none 0 0, .slice none 0 0]] B8 rfl rfl fun k x hx => ?_
  match k with
  | 0 =>
    cases hx
    exact ⟨_, rfl, none, 0, none, 0, rfl, Row.empty _ _, Row.empty _ _, Nat.le_refl _, Nat.zero_le _, Nat.zero_le _, by show (0 : Int) ≤ 3; omega, by show (3 : Int) ≤ 255; omega⟩
  | k + 1 => simp [limQ] at hx
namespace Mix2
set_option maxRecDepth 100000 in
set_option maxHeartbeats 8000000 in
theorem limits_walk (n a : Nat) (w : World) (hT : Tab w) (hn : n ≤ 255) (ha : a ≤ 255) :
    Calls Tryd.prog 5 #[.int .u8 n, .int .u8 a] w fun e w' => e = .returned (.bool true) ∧ Below w.heap.size w w' := by
  go_enter Tryd.func5, Tryd.ntmps5
  go_wp2_with fail
  refine (awake_any47 w hT).mono ?_
  rintro e w1 ⟨rfl, b2⟩
  replace hT := hT.below b2
  obtain ⟨k, hk, hk1, hk20⟩ : ∃ k : Nat, 1 + (n : Int) % 20 = (k : Int) ∧ 1 ≤ k ∧ k ≤ 20 := ⟨1 + n % 20, by omega, by omega, by omega⟩
  obtain ⟨j, hj, hjk⟩ : ∃ j : Nat, (a : Int) % (k : Int) = (j : Int) ∧ j < k := ⟨a % k, by omega, Nat.mod_lt _ (by omega)⟩
  have hcl : lowN (clamp (k : Int)) = lowN k := by congr 1; unfold clamp; omega
  have HCL := Lib.hid hcl
  have HJ := Lib.hid hj
  clear hcl hj
  go_upto_region 4 with fail
  clear hk
  go_wp2_with fail
  refine (res3 (HCL.out) (below_any (k : Int) _)).mono ?_
  rintro e u1 ⟨As1, ns1, cs1, rfl, s1, hb⟩
  replace hT := hT.below hb; replace b2 := b2.trans (hb.mono b2.size)
  clear hb
  go_wp2_with fail
  refine (res3 (HCL.out) (below_any (k : Int) _)).mono ?_
  rintro e u2 ⟨As2, ns2, cs2, rfl, s2, hb⟩
  replace hT := hT.below hb; replace b2 := b2.trans (hb.mono b2.size); replace s1 := s1.below hb
  clear hb
  go_wp2_with fail
  refine absC1 fun w4 hB hb hz => ?_
  clear hz
  replace hT := hT.below hb; replace b2 := b2.trans (hb.mono b2.size); replace s1 := s1.below hb; replace s2 := s2.below hb
  clear hb
  have hin := lim_rows k
  refine (ofm_lit _ [lowN k, lowN k] k hB (Sets.two s1 s2) (by omega) (by simp) hin).mono ?_
  rintro e u3 ⟨q, rfl, hm, hb⟩
  replace hT := hT.below hb; replace b2 := b2.trans (hb.mono b2.size); replace s1 := s1.below hb; replace s2 := s2.below hb; replace hB := hB.below hb hB.lt
  clear hb
  clear s1 s2 hB
  go_upto_region 8 with fail
  rw [HJ.out]
  have HCN := Lib.hid (fun W (hW : IsMat W q k [lowN k, lowN k]) (hTW : Tab W) => conc_any (some ⟨q, 0, none⟩) k [lowN k, lowN k] 0 (j : Int) W hW.mv hin hTW)
  have HBS := Lib.hid (fun W (hW : IsMat W q k [lowN k, lowN k]) (hTW : Tab W) => Mix2.best_any q k [lowN k, lowN k] W hW hTW)
  have HP := Lib.hid (lim_flaw hjk hk20)
  have HQ := Lib.hid (lim_count hk1 hk20)
  by_cases h12 : k ≤ 12
  · have hc := HCN.out; rw [lim_con (by omega) hjk] at hc
    have hb := HBS.out; rw [lim_best hk1 (by omega)] at hb
    have hp := HP.out; rw [if_neg (by omega)] at hp
    have hq := HQ.out; rw [if_neg (by omega)] at hq
    have HC := Lib.hid hc; have HB := Lib.hid hb; have HP2 := Lib.hid hp; have HQ2 := Lib.hid hq
    clear hc hb hp hq HCN HBS HP HQ
    go_wp2_with fail
    refine (HC.out _ hm hT).mono ?_
    rintro e u4 ⟨A5, n5, c5, vs5, rfl, hn5, -, -, hb⟩
    replace hT := hT.below hb; replace b2 := b2.trans (hb.mono b2.size); replace hm := hm.below hb
    clear hb
    obtain rfl : n5 = 1 := hn5
    go_wp2_with fail
    refine (HB.out _ hm hT).mono ?_
    rintro e u5 ⟨v6, rfl, hp6, hb⟩
    replace hT := hT.below hb; replace b2 := b2.trans (hb.mono b2.size); replace hm := hm.below hb
    clear hb
    have hp6p := hp6.pairs
    obtain ⟨A6, c6, rfl, -⟩ := id hp6
    obtain ⟨e1, e2, -, -⟩ := ipairs_of hp6p
    obtain ⟨g6, o6, rfl, -, d0, d1⟩ := row_pairs e2 (k := 0) (c := (0, 0)) rfl
    rw [Nat.zero_mul, Nat.add_zero] at d0 d1
    have hpr := fun W => pair_run (0, 0) (0, 0) W
    rw [decide_eq_true rfl] at hpr
    clear e1 e2 hp6p hp6
    have k1 : (k : Int) ≤ 12 := by omega
    have k2 : (k : Int) ≤ 15 := by omega
    have k3 : ¬ 12 < (k : Int) := by omega
    have k4 : ¬ 15 < (k : Int) := by omega
    go_upto_region 13 with fail
    clear hpr d0 d1
    go_wp2_with fail
    refine absC2 fun w7 hN1 hN2 hb hz => ?_
    clear hz
    replace hT := hT.below hb; replace b2 := b2.trans (hb.mono b2.size); replace hm := hm.below hb
    clear hb
    have hnd := limP_nodes (j := j) hN1 hN2
    refine (check_is HP2.out rfl hm hin hnd hT).mono ?_
    rintro e u6 ⟨rfl, hb⟩
    replace hT := hT.below hb; replace b2 := b2.trans (hb.mono b2.size); replace hm := hm.below hb; replace hN1 := hN1.below hb hN1.lt; replace hN2 := hN2.below hb hN2.lt
    clear hb
    clear hnd hN1 hN2
    go_wp2_with fail
    refine absC1 fun w9 hN3 hb hz => ?_
    clear hz
    replace hT := hT.below hb; replace b2 := b2.trans (hb.mono b2.size); replace hm := hm.below hb
    clear hb
    have hnd := limQ_nodes hN3
    refine (check_is HQ2.out rfl hm hin hnd hT).mono ?_
    rintro e u7 ⟨rfl, hb⟩
    replace hT := hT.below hb; replace b2 := b2.trans (hb.mono b2.size); replace hm := hm.below hb; replace hN3 := hN3.below hb hN3.lt
    clear hb
    go_wp2_with fail
    go_ret
    exact ⟨rfl, b2⟩
  · have h12b := h12
    by_cases h15 : k ≤ 15
    · have hc := HCN.out; rw [lim_con_no (by omega) hk20] at hc
      have hb := HBS.out; rw [lim_best hk1 (by omega)] at hb
      have hp := HP.out; rw [if_pos (by omega)] at hp
      have hq := HQ.out; rw [if_pos (by omega)] at hq
      have HC := Lib.hid hc; have HB := Lib.hid hb; have HP2 := Lib.hid hp; have HQ2 := Lib.hid hq
      clear hc hb hp hq HCN HBS HP HQ
      go_wp2_with fail
      refine (HC.out _ hm hT).mono ?_
      rintro e u4 ⟨A5, n5, c5, vs5, rfl, hn5, -, -, hb⟩
      replace hT := hT.below hb; replace b2 := b2.trans (hb.mono b2.size); replace hm := hm.below hb
      clear hb
      obtain rfl : n5 = 0 := hn5
      go_wp2_with fail
      refine (HB.out _ hm hT).mono ?_
      rintro e u5 ⟨v6, rfl, hp6, hb⟩
      replace hT := hT.below hb; replace b2 := b2.trans (hb.mono b2.size); replace hm := hm.below hb
      clear hb
      have hp6p := hp6.pairs
      obtain ⟨A6, c6, rfl, -⟩ := id hp6
      obtain ⟨e1, e2, -, -⟩ := ipairs_of hp6p
      obtain ⟨g6, o6, rfl, -, d0, d1⟩ := row_pairs e2 (k := 0) (c := (0, 0)) rfl
      rw [Nat.zero_mul, Nat.add_zero] at d0 d1
      have hpr := fun W => pair_run (0, 0) (0, 0) W
      rw [decide_eq_true rfl] at hpr
      clear e1 e2 hp6p hp6
      have k1 : ¬ (k : Int) ≤ 12 := by omega
      have k2 : (k : Int) ≤ 15 := by omega
      have k3 : 12 < (k : Int) := by omega
      have k4 : ¬ 15 < (k : Int) := by omega
      go_upto_region 13 with fail
      clear hpr d0 d1
      go_wp2_with fail
      refine absC2 fun w7 hN1 hN2 hb hz => ?_
      clear hz
      replace hT := hT.below hb; replace b2 := b2.trans (hb.mono b2.size); replace hm := hm.below hb
      clear hb
      have hnd := limP_nodes (j := j) hN1 hN2
      refine (check_is HP2.out rfl hm hin hnd hT).mono ?_
      rintro e u6 ⟨rfl, hb⟩
      replace hT := hT.below hb; replace b2 := b2.trans (hb.mono b2.size); replace hm := hm.below hb; replace hN1 := hN1.below hb hN1.lt; replace hN2 := hN2.below hb hN2.lt
      clear hb
      clear hnd hN1 hN2
      go_wp2_with fail
      refine absC1 fun w9 hN3 hb hz => ?_
      clear hz
      replace hT := hT.below hb; replace b2 := b2.trans (hb.mono b2.size); replace hm := hm.below hb
      clear hb
      have hnd := limQ_nodes hN3
      refine (check_is HQ2.out rfl hm hin hnd hT).mono ?_
      rintro e u7 ⟨rfl, hb⟩
      replace hT := hT.below hb; replace b2 := b2.trans (hb.mono b2.size); replace hm := hm.below hb; replace hN3 := hN3.below hb hN3.lt
      clear hb
      go_wp2_with fail
      go_ret
      exact ⟨rfl, b2⟩
    · have hc := HCN.out; rw [lim_con_no (by omega) hk20] at hc
      have hb := HBS.out; rw [lim_best_no (by omega) hk20] at hb
      have hp := HP.out; rw [if_pos (by omega)] at hp
      have hq := HQ.out; rw [if_pos (by omega)] at hq
      have HC := Lib.hid hc; have HB := Lib.hid hb; have HP2 := Lib.hid hp; have HQ2 := Lib.hid hq
      clear hc hb hp hq HCN HBS HP HQ
      go_wp2_with fail
      refine (HC.out _ hm hT).mono ?_
      rintro e u4 ⟨A5, n5, c5, vs5, rfl, hn5, -, -, hb⟩
      replace hT := hT.below hb; replace b2 := b2.trans (hb.mono b2.size); replace hm := hm.below hb
      clear hb
      obtain rfl : n5 = 0 := hn5
      go_wp2_with fail
      refine (HB.out _ hm hT).mono ?_
      rintro e u5 ⟨v6, rfl, hp6, hb⟩
      replace hT := hT.below hb; replace b2 := b2.trans (hb.mono b2.size); replace hm := hm.below hb
      clear hb
      have hp6p := hp6.pairs
      obtain ⟨A6, c6, rfl, -⟩ := id hp6
      clear hp6p hp6
      have k1 : ¬ (k : Int) ≤ 12 := by omega
      have k2 : ¬ (k : Int) ≤ 15 := by omega
      have k3 : 12 < (k : Int) := by omega
      have k4 : 15 < (k : Int) := by omega
      go_wp2_with fail
      refine absC2 fun w7 hN1 hN2 hb hz => ?_
      clear hz
      replace hT := hT.below hb; replace b2 := b2.trans (hb.mono b2.size); replace hm := hm.below hb
      clear hb
      have hnd := limP_nodes (j := j) hN1 hN2
      refine (check_is HP2.out rfl hm hin hnd hT).mono ?_
      rintro e u6 ⟨rfl, hb⟩
      replace hT := hT.below hb; replace b2 := b2.trans (hb.mono b2.size); replace hm := hm.below hb; replace hN1 := hN1.below hb hN1.lt; replace hN2 := hN2.below hb hN2.lt
      clear hb
      clear hnd hN1 hN2
      go_wp2_with fail
      refine absC1 fun w9 hN3 hb hz => ?_
      clear hz
      replace hT := hT.below hb; replace b2 := b2.trans (hb.mono b2.size); replace hm := hm.below hb
      clear hb
      have hnd := limQ_nodes hN3
      refine (check_is HQ2.out rfl hm hin hnd hT).mono ?_
      rintro e u7 ⟨rfl, hb⟩
      replace hT := hT.below hb; replace b2 := b2.trans (hb.mono b2.size); replace hm := hm.below hb; replace hN3 := hN3.below hb hN3.lt
      clear hb
      go_wp2_with fail
      go_ret
      exact ⟨rfl, b2⟩
end Mix2
end Go.Proofs.YtlehoomnddcblaaDoor

