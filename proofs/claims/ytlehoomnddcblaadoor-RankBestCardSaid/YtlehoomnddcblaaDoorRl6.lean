/-
  The law RankBest.
-/
import Derived.Test.YtlehoomnddcblaaDoorRn7
import Derived.Test.YtlehoomnddcblaaDoorRb4
import Derived.Test.YtlehoomnddcblaaDoorMix2
import Derived.Test.YtlehoomnddcblaaDoorJoin
import Derived.Deep.DeepCutAuto
import Derived.Deep.CutBlock
namespace Go.Proofs.YtlehoomnddcblaaDoor
open Go.RowKit
theorem cells_le {C : Nat} {Ns : List Nat} (hin : rowsIn C Ns) : (cellsOf Ns).length ≤ Ns.length * C := by
  rw [← sumO_all]
  unfold sumO
  rw [List.take_length, foldl_sum, Nat.zero_add]
  have h : ∀ N ∈ Ns, card N ≤ C := fun N hN => by
    obtain ⟨k, hk, e⟩ := List.getElem_of_mem hN
    have := hin k hk
    rw [getD_at hk, e] at this
    refine card_bits fun j hj => ?_
    rw [← this, Nat.testBit_and, testBit_lowN, Bool.and_eq_true, decide_eq_true_eq] at hj
    exact hj.2
  clear hin
  induction Ns with
  | nil => simp
  | cons a l ih =>
    have h1 := ih fun N hN => h N (List.mem_cons_of_mem _ hN)
    have h2 := h a List.mem_cons_self
    simp only [List.map_cons, List.sum_cons, List.length_cons]
    rw [Nat.succ_mul]
    omega
namespace Mix2
set_option maxRecDepth 100000 in
set_option maxHeartbeats 8000000 in
theorem best_walk (v : Value) (R C : Nat) (zs : List Int) (w : World) (hT : Tab w) (h : IsRaw w v R C zs) :
    Calls Tryd.prog 6 #[v] w fun e w' => e = .returned (.bool true) ∧ Below w.heap.size w w' := by
  have hbd := h.bd
  obtain ⟨r, c, A0, d0, hv, _⟩ := id h
  subst hv
  have HIN := hideC h; clear h
  go_enter Tryd.func6, Tryd.ntmps6
  go_wp2_with fail
  refine absC1 fun W0 hX hbel0 hz => ?_
  clear hz
  refine (awake_any47 W0 (hT.below hbel0)).mono ?_
  rintro e w1 ⟨rfl, hb1⟩
  have b1 := hbel0.trans (hb1.mono hbel0.size)
  replace hX := hX.below hb1 hX.lt
  have x0 := hX.cell 0
  have x1 := hX.cell 1
  have x2 := hX.cell 2
  have HM := hideC (make_raw _ R C zs w1 (HIN.out.below b1))
  go_wp2_with fail
  refine HM.out.mono ?_
  rintro e w2 ⟨A2, c2, rfl, hI, hb2⟩
  have b2 := b1.trans (hb2.mono b1.size)
  obtain ⟨M, hMd⟩ : ∃ M, M = rawM R C zs := ⟨_, rfl⟩
  have hML : M.length = R := by rw [hMd, mat_len]
  rw [← hMd] at hI
  subst hML
  obtain ⟨hR5, hC5⟩ := hbd
  have hl : (nsOf C M).length ≤ 4096 := by rw [nsTo_len]; omega
  have hin := rowsIn_nsOf C M (by omega)
  clear hMd HM HIN hbel0 hb1 hb2 b1 x0 x1 x2
  replace hT := hT.below b2
  clear hX
  have hcl := cells_le hin
  rw [nsTo_len] at hcl
  have hmul : M.length * C ≤ 5 * 5 := Nat.mul_le_mul hR5 hC5
  obtain ⟨hbs, hbf⟩ := best_same (C := C) (M := M) (by omega) (by omega)
  have hbl : (bestP C (nsOf C M)).length ≤ 30 := by
    rw [hbs]
    refine Nat.le_trans (bestR_size _ _) ?_
    rw [cz_len]; omega
  have hck := best_sound (C := C) (by omega) hbf (by omega)
  have HBP := Lib.hid (fun q W (hm : IsMat W q C (nsOf C M)) (ht : Tab W) => Mix2.best_any q C (nsOf C M) W hm ht)
  have HBR := Lib.hid (fun W (hm : IsRef W C A2 M) => (by rw [hbs]; exact Mix2.bestref_any C A2 c2 M W hm (by omega) (by omega) : Calls Tryd.prog 26 #[refV C A2 M.length c2] W fun e w' => ∃ v, e = .returned v ∧ PN w' v (bestP C (nsOf C M)) ∧ Below W.heap.size W w'))
  obtain ⟨B, hB⟩ : ∃ B, B = bestP C (nsOf C M) := ⟨_, rfl⟩
  rw [← hB] at HBP HBR hbl hck
  have HCK := Lib.hid hck
  clear hcl hmul hbs hbf hck hB
  go_wp2_with fail
  refine absC1 fun w3 hY hb hz => ?_
  clear hz
  replace hI := hI.below hb; replace hT := hT.below hb; replace b2 := b2.trans (hb.mono b2.size)
  clear hb
  refine (matrixl_any C A2 c2 M _ hI (by omega) (by omega)).mono ?_
  rintro e u1 ⟨q1, rfl, m1, _, hb⟩
  replace hI := hI.below hb; replace hT := hT.below hb; replace b2 := b2.trans (hb.mono b2.size); replace hY := hY.below hb hY.lt
  clear hb
  go_wp2_with fail
  refine (HBP.out q1 _ m1 hT).mono ?_
  rintro e u2 ⟨v4, rfl, hp4, hb⟩
  replace hI := hI.below hb; replace hT := hT.below hb; replace b2 := b2.trans (hb.mono b2.size); replace hY := hY.below hb hY.lt; replace m1 := m1.below hb
  clear hb
  obtain ⟨A4, c4, rfl, -⟩ := id hp4
  have y0 := hY.cell 0; have y1 := hY.cell 1
  go_wp2_with fail
  refine (HBR.out _ hI).mono ?_
  rintro e u3 ⟨v5, rfl, hp5, hb⟩
  replace hI := hI.below hb; replace hT := hT.below hb; replace b2 := b2.trans (hb.mono b2.size); replace hY := hY.below hb hY.lt; replace m1 := m1.below hb; replace hp4 := hp4.below hb
  clear hb
  obtain ⟨A5, c5, rfl, -⟩ := id hp5
  go_wp2_with fail
  refine (eqp_is (b := true) (decide_eq_true rfl) hp4.pairs hp5.pairs).mono ?_
  rintro e u4 ⟨rfl, hb⟩
  replace hI := hI.below hb; replace hT := hT.below hb; replace b2 := b2.trans (hb.mono b2.size); replace hY := hY.below hb hY.lt; replace m1 := m1.below hb; replace hp4 := hp4.below hb; replace hp5 := hp5.below hb
  clear hb
  go_wp2_with fail
  refine (best_nil _).mono ?_
  rintro e u5 ⟨rfl, hb⟩
  replace hI := hI.below hb; replace hT := hT.below hb; replace b2 := b2.trans (hb.mono b2.size); replace hY := hY.below hb hY.lt; replace m1 := m1.below hb; replace hp4 := hp4.below hb; replace hp5 := hp5.below hb
  clear hb
  clear hp5 m1 y0 y1
  have y0 := hY.cell 0; have y1 := hY.cell 1
  go_wp2_with fail
  refine (matrixl_any C A2 c2 M _ hI (by omega) (by omega)).mono ?_
  rintro e u6 ⟨q2, rfl, m2, _, hb⟩
  replace hI := hI.below hb; replace hT := hT.below hb; replace b2 := b2.trans (hb.mono b2.size); replace hY := hY.below hb hY.lt; replace hp4 := hp4.below hb
  clear hb
  go_wp2_with fail
  refine absC1 fun w9 hN hb hz => ?_
  clear hz
  replace hI := hI.below hb; replace hT := hT.below hb; replace b2 := b2.trans (hb.mono b2.size); replace hY := hY.below hb hY.lt; replace hp4 := hp4.below hb; replace m2 := m2.below hb
  clear hb
  have hnd : IsNodes w9 (some ⟨u6.heap.size, 0, none⟩) [⟨2, 0, 0, [], B⟩] := by
    refine nodes_lit [⟨2, 0, 0, [], B⟩] [[.int .u8 2, .int .i64 0, .int .i64 0, .slice none 0 0, .slice A4 B.length c4]] hN rfl rfl fun k x hx => ?_
    match k with
    | 0 =>
      cases hx
      obtain ⟨e1, e2, e3, e4⟩ := ipairs_of hp4.pairs
      exact ⟨_, rfl, none, 0, A4, c4, rfl, Row.empty _ _, e2, e3, e4, Nat.zero_le _, by show (0 : Int) ≤ 2; omega, by show (2 : Int) ≤ 255; omega⟩
    | k + 1 => simp at hx
  refine (check_is HCK.out rfl m2 hin hnd hT).mono ?_
  rintro e u7 ⟨rfl, hb⟩
  replace hI := hI.below hb; replace hT := hT.below hb; replace b2 := b2.trans (hb.mono b2.size); replace hY := hY.below hb hY.lt; replace hp4 := hp4.below hb; replace m2 := m2.below hb; replace hN := hN.below hb hN.lt
  clear hb
  go_wp2_with fail
  go_ret
  exact ⟨rfl, b2⟩
end Mix2
end Go.Proofs.YtlehoomnddcblaaDoor

