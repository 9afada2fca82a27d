import Derived.Test.YthkjigggfeejdaaDoorMig2
namespace Go.Proofs.YthkjigggfeejdaaDoor
open Go.RowKit

/-- Who has what. -/
def accM (C D : Nat) (M P : List (List Bool)) : List (List Bool) := mat M.length D (prodF M P C)
set_option maxRecDepth 100000 in
set_option maxHeartbeats 2000000 in
theorem bounds_any (u p u' p' C C' D : Nat) (M P M' P' : List (List Bool)) (w : World) (h : IsCfg w u p C D M P) (h' : IsCfg w u' p' C' D M' P') (hl : M.length = M'.length) (hT : Tab w) :
    Calls Tryd.prog 62 #[cfgV u p, cfgV u' p'] w fun e w' => ∃ hi lo, e = .returned (.tuple #[ptr hi, ptr lo, .int .i64 0]) ∧ PM w' hi D (mat M.length D (orF (accM C D M P) (accM C' D M' P'))) ∧ PM w' lo D (mat M.length D (andF (accM C D M P) (accM C' D M' P'))) ∧ Below w.heap.size w w' := by
  obtain ⟨X, hX⟩ : ∃ X, X = accM C D M P := ⟨_, rfl⟩
  obtain ⟨Y, hY⟩ : ∃ Y, Y = accM C' D M' P' := ⟨_, rfl⟩
  have HA1 : Hid (∀ W, IsCfg W u p C D M P → Tab W → Calls Tryd.prog 15 #[cfgV u p] W fun e w' => ∃ b, e = pair (ptr b) 0 ∧ PM w' b D X ∧ Below W.heap.size W w') := hideC fun W a b => by rw [hX]; exact maccess_any u p C D M P W a b
  have HA2 : Hid (∀ W, IsCfg W u' p' C' D M' P' → Tab W → Calls Tryd.prog 15 #[cfgV u' p'] W fun e w' => ∃ b, e = pair (ptr b) 0 ∧ PM w' b D Y ∧ Below W.heap.size W w') := hideC fun W a b => by rw [hY]; exact maccess_any u' p' C' D M' P' W a b
  have HLL := Lib.hid (show X.length = Y.length by rw [hX, hY, accM, accM, mat_len, mat_len]; exact hl)
  have HML := Lib.hid (show X.length = M.length by rw [hX, accM, mat_len])
  rw [← hX, ← hY]
  clear hl hX hY
  go_enter Tryd.func62, Tryd.ntmps62
  go_wp2_with fail
  refine absC2 fun W0 hX0 hY0 hbel0 hz => ?_
  have HZ := Lib.hid hz; clear hz
  (with_reducible refine (HA1.out W0 (h.below hbel0) (hT.below hbel0)).mono ?_); rintro e w1 ⟨q1, rfl, hm1, hb1⟩
  have b1 := hbel0.trans (hb1.mono hbel0.size)
  have hY1 := hY0.below hb1 hY0.lt
  have y0 := hY1.cell 0
  have y1 := hY1.cell 1
  have HA := hideC (HA2.out w1 (h'.below b1) (hT.below b1))
  clear h h'
  go_wp2_with fail; (with_reducible refine (HA.out).mono ?_); rintro e w2 ⟨q2, rfl, hm2, hb2⟩
  have b2 := b1.trans (hb2.mono b1.size)
  have hm12 := hm1.below hb2
  have HO := hideC (pm_or q1 q2 D _ _ w2 hm12 hm2 HLL.out)
  clear hm1 hY0 hX0 hb1 hb2 HA y0 y1 hY1
  go_wp2_with fail; (with_reducible refine (HO.out).mono ?_); rintro e w3 ⟨q3, rfl, hm3, hb3⟩
  have b3 := b2.trans (hb3.mono b2.size)
  have HN := hideC (pm_and q1 q2 D _ _ w3 (hm12.below hb3) (hm2.below hb3) HLL.out)
  clear HO
  go_wp2_with fail; (with_reducible refine (HN.out).mono ?_); rintro e w4 ⟨q4, rfl, hm4, hb4⟩
  go_wp2_with fail
  go_ret3
  rw [HML.out] at hm3 hm4
  exact ⟨q3, q4, rfl, hm3.below hb4, hm4, b3.trans (hb4.mono b3.size)⟩
end Go.Proofs.YthkjigggfeejdaaDoor
