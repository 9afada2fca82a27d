import Derived.Test.YtjlcnbfkblmoeaaDoorWire4
import Derived.Laws.IdiomStrings
namespace Go.Proofs.YtjlcnbfkblmoeaaDoor
open Go.RowKit

theorem conv_own {W : World} {base g c : Nat} (l : List UInt8) (h : W.ownsRow base 5 1 (.slice (some ⟨g, 0, none⟩) l.length c) l.length ((l.map fun b => (b.toNat : Int)).map enc8)) :
    (convert 22 9 (.slice (some ⟨g, 0, none⟩) l.length c)).run Tryd.prog W = .ok (.string ⟨l.toArray⟩) W :=
  run_convert_bytes_back W _ _ 5 ⟨g, 0, none⟩ c l Tryd.underlying22 Tryd.underlying5 Tryd.underlying9 fun j hj => by
    have e : (⟨g, 0, none⟩ : Addr).add j = ⟨g, j, none⟩ := by unfold Addr.add; split <;> simp_all
    rw [e, h.cellAt j (by omega), List.getElem?_map, List.getElem?_map, List.getElem?_eq_getElem hj]; rfl

theorem parse_at (s : ByteArray) (C : Nat) (Ns : List Nat) (hC : pC s.data.toList = C) (hN : pNs s.data.toList = Ns) (hok : pOK s.data.toList) (hs : s.size ≤ 4096) (w : World) :
    Calls Tryd.prog 26 #[.string s] w fun e w' => ∃ q, e = pair (ptr q) 0 ∧ IsMat w' q C Ns ∧ Below w.heap.size w w' := by
  refine (parse_any s w hs).mono ?_
  rintro e w' ⟨hb, ⟨_, h⟩ | ⟨q, rfl, _, hm⟩⟩
  · exact absurd hok h
  · subst hC; subst hN
    exact ⟨q, rfl, hm, hb⟩
theorem aw1 : pC [49, 48, 10, 48, 49, 10, 49, 49, 10] = 2 ∧ pNs [49, 48, 10, 48, 49, 10, 49, 49, 10] = [1, 2, 3] ∧ pOK [49, 48, 10, 48, 49, 10, 49, 49, 10] := by decide +kernel
theorem aw2 : pC [48, 49, 49, 10, 49, 48, 48, 10] = 3 ∧ pNs [48, 49, 49, 10, 49, 48, 48, 10] = [6, 1] ∧ pOK [48, 49, 49, 10, 49, 48, 48, 10] := by decide +kernel
theorem aw3 : pC [49, 48, 10, 48, 49, 10, 49, 48, 10] = 2 ∧ pNs [49, 48, 10, 48, 49, 10, 49, 48, 10] = [1, 2, 1] ∧ pOK [49, 48, 10, 48, 49, 10, 49, 48, 10] := by decide +kernel
theorem aw4 : mprod [1, 2, 3] [6, 1] 3 = [6, 1, 7] := by decide +kernel
theorem aw5 : mdist [1, 2, 1] 3 = ([1, 2], [0, 1, 0]) := by decide +kernel
theorem aw6 : mtext 3 [6, 1, 7] 3 = [48, 49, 49, 10, 49, 48, 48, 10, 49, 49, 49, 10] := by decide +kernel
theorem aw7 : mtext 2 [1, 2] 2 = [49, 48, 10, 48, 49, 10] := by decide +kernel
theorem aw8 : mbytes 2 [1, 2, 3] 3 = [3, 2, 1, 1, 1, 2, 1, 3] := by decide +kernel
theorem aw9 : rowsIn 2 [1, 2, 3] := by unfold rowsIn; decide +kernel

theorem below_drewN_ (W : World) (q : Nat) : Below W.heap.size W (W.drewN q) := ⟨rfl, rfl, rfl, Nat.le_refl _, fun _ _ => rfl⟩
theorem cell_new_l' (W : World) (cs : Array Value) (t : TypeId) (j : Nat) : (W.alloc (.cells cs t)).cell? ⟨W.heap.size, j, none⟩ = cs[j]? := (Blk.new W t cs).cell j
set_option maxRecDepth 100000 in
set_option maxHeartbeats 2000000 in
theorem awake_any (w : World) (hT : Tab w) :
    Calls Tryd.prog 13 #[] w fun e w' => e = .returned (.bool true) ∧ Below w.heap.size w w' := by
  have HP1 := hideC (parse_at ⟨#[49, 48, 10, 48, 49, 10, 49, 49, 10]⟩ 2 [1, 2, 3] aw1.1 aw1.2.1 aw1.2.2 (by decide) w)
  go_enter Tryd.func13, Tryd.ntmps13
  go_wp2_with fail
  refine HP1.out.mono ?_
  rintro e w1 ⟨p1, rfl, hm1, hb1⟩
  have HP2 := hideC (parse_at ⟨#[48, 49, 49, 10, 49, 48, 48, 10]⟩ 3 [6, 1] aw2.1 aw2.2.1 aw2.2.2 (by decide) w1)
  go_wp2_with fail
  refine HP2.out.mono ?_
  rintro e w2 ⟨p2, rfl, hm2, hb2⟩
  have b2 := hb1.trans (hb2.mono hb1.size)
  have HP3 := hideC (prod_any p1 p2 2 3 [1, 2, 3] [6, 1] w2 (hm1.below hb2) hm2 rfl aw9 (hT.below b2))
  go_wp2_with fail
  refine HP3.out.mono ?_
  rintro e w3 ⟨p3, rfl, hm3, hb3⟩
  have b3 := b2.trans (hb3.mono b2.size)
  rw [show ([1, 2, 3] : List Nat).length = 3 from rfl, aw4] at hm3
  have HP4 := hideC (parse_at ⟨#[49, 48, 10, 48, 49, 10, 49, 48, 10]⟩ 2 [1, 2, 1] aw3.1 aw3.2.1 aw3.2.2 (by decide) w3)
  go_wp2_with fail
  refine HP4.out.mono ?_
  rintro e w4 ⟨p4, rfl, hm4, hb4⟩
  have b4 := b3.trans (hb4.mono b3.size)
  have HP5 := hideC (dist_any p4 2 [1, 2, 1] w4 hm4)
  go_wp2_with fail
  refine HP5.out.mono ?_
  rintro e w5 ⟨p5, A, c, rfl, hm5, hc5, hr5, hb5⟩
  rw [show ([1, 2, 1] : List Nat).length = 3 from rfl, aw5] at hm5 hc5 hr5 ⊢
  have b5 := b4.trans (hb5.mono b4.size)
  have hm3' := hm3.below (hb4.trans (hb5.mono hb4.size))
  have hT3 := text_any p3 3 [6, 1, 7] w5 hm3'
  rw [show ([6, 1, 7] : List Nat).length = 3 from rfl, aw6] at hT3
  have HT3 := hideC hT3; clear hT3
  go_wp2_with fail
  refine HT3.out.mono ?_
  rintro e w6 ⟨rfl, hb6⟩
  have b6 := b5.trans (hb6.mono b5.size)
  have hT5 := text_any p5 2 [1, 2] w6 (hm5.below hb6)
  rw [show ([1, 2] : List Nat).length = 2 from rfl, aw7] at hT5
  have HT5 := hideC hT5; clear hT5
  go_wp2_with fail
  refine HT5.out.mono ?_
  rintro e w7 ⟨rfl, hb7⟩
  have b7 := b6.trans (hb7.mono b6.size)
  obtain ⟨g, off, rfl, hg, hcell⟩ := hr5 (by simp)
  go_wp2_with fail
  have hb8 := (Below.refl w7.heap.size w7).alloc (Nat.le_refl _) (.cells #[Value.int IntKind.i64 0, Value.int IntKind.i64 1, Value.int IntKind.i64 0] 3)
  have b8 := b7.trans (hb8.mono b7.size)
  have heq := Tryd.slices_Equal_int g off 3 c w7.heap.size 0 3 3 [0, 1, 0] [0, 1, 0] (w7.alloc (.cells #[Value.int IntKind.i64 0, Value.int IntKind.i64 1, Value.int IntKind.i64 0] 3)) (by decide) (by decide) (by decide) (by decide)
    (fun j hj => by
      have h7 := hb6.trans (hb7.mono hb6.size)
      have h8 := h7.trans (hb8.mono h7.size)
      have hc := hcell j (.int .i64 (([0, 1, 0] : List Int).getD j 0)) (by
        match j, hj with
        | 0, _ => rfl
        | 1, _ => rfl
        | 2, _ => rfl)
      exact onB h8 hc)
    (fun j hj => by
      rw [Nat.zero_add, cell_new_l' w7]
      match j, hj with
      | 0, _ => rfl
      | 1, _ => rfl
      | 2, _ => rfl)
  refine heq.mono ?_
  rintro e w9 ⟨rfl, q9, rfl⟩
  have b9 := b8.trans ((below_drewN_ _ q9).mono b8.size)
  have k3 := hb2.trans (hb3.mono hb2.size)
  have k4 := k3.trans (hb4.mono k3.size)
  have k5 := k4.trans (hb5.mono k4.size)
  have k6 := k5.trans (hb6.mono k5.size)
  have k7 := k6.trans (hb7.mono k6.size)
  have k8 := k7.trans (hb8.mono k7.size)
  have hm1' := hm1.below (k8.trans ((below_drewN_ _ q9).mono k8.size))
  have hBy := mbytes_any p1 2 [1, 2, 3] _ hm1'
  rw [show ([1, 2, 3] : List Nat).length = 3 from rfl, aw8] at hBy
  have HBY := hideC hBy; clear hBy
  go_wp2_with fail
  refine HBY.out.mono ?_
  rintro e w10 ⟨g', c', rfl, hown, _, _, hb10⟩
  have hcv : (convert 22 9 (.slice (some ⟨g', 0, none⟩) 8 c')).run Tryd.prog w10 = .ok (.string ⟨#[3, 2, 1, 1, 1, 2, 1, 3]⟩) w10 := conv_own (W := w10) [3, 2, 1, 1, 1, 2, 1, 3] hown
  go_wp2_with fail
  go_ret
  exact ⟨rfl, b9.trans (hb10.mono b9.size)⟩
end Go.Proofs.YtjlcnbfkblmoeaaDoor
