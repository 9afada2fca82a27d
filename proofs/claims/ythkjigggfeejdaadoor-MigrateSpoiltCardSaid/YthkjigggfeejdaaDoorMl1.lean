import Derived.Test.YthkjigggfeejdaaDoorMr8
import Derived.Test.YthkjigggfeejdaaDoorMigO
namespace Go.Proofs.YthkjigggfeejdaaDoor
open Go.RowKit

/-! The law's own functions. -/
set_option maxRecDepth 100000 in
set_option maxHeartbeats 4000000 in
theorem config_any (C c D d : Nat) (A B : Option Addr) (M P : List (List Bool)) (w : World) (hU : IsRef w C A M) (hP : IsRef w D B P) (h1 : C ≤ 256) (h2 : M.length ≤ 256) (h3 : D ≤ 256) (h4 : P.length ≤ 256) :
    Calls Tryd.prog 16 #[rcfV C A M.length c D B P.length d] w fun e w' => ∃ u p, e = .returned (cfgV u p) ∧ PM w' u C M ∧ PM w' p D P ∧ u ≠ p ∧ Below w.heap.size w w' := by
  have wU := hU.wide
  have wP := hP.wide
  have HU := hideC (fun W hW => matrixl_any C A c M W (hU.below (w' := W) hW) h1 h2)
  have HP := hideC (fun W hW => matrixl_any D B d P W (hP.below (w' := W) hW) h3 h4)
  have WU := hideC wU
  have WP := hideC wP
  clear wU wP
  go_enter Tryd.func16, Tryd.ntmps16
  go_wp2_with fail
  refine abs2 fun W0 hX hY hb0 hz => ?_
  clear hz
  have x0 := hX.cell 0
  have x1 := hX.cell 1
  have x2 := hX.cell 2
  have x3 := hX.cell 3
  refine wp_spine (fun W => Below W0.heap.size W0 W) [0, 1, 3, 4] [2, 5, 6, 7] (by kernel_rfl) (by kernel_rfl) ?_
  iterate 4 (refine wpE_op (v := ?_) rfl rfl (fun W hW => ?_) ?_; rotate_left; (have z0 := onB hW x0; have z1 := onB hW x1; have z2 := onB hW x2; have z3 := onB hW x3; go_simp; first | done | with_reducible rfl); simp only [Act.put, List.setIfInBounds_toArray, List.set_cons_zero, List.set_cons_succ])
  have hd : Below W0.heap.size W0 W0.drew := (Below.refl _ _).drew
  refine wpE_nil ⟨fun h => (by cases h), wpSp_op rfl hd ?_⟩
  go_wp2_with fail
  refine (HU.out W0.drew (hb0.trans (hd.mono hb0.size))).mono ?_
  rintro e w1 ⟨u, rfl, hu, hlu, hb1⟩
  have k1 := hd.trans (hb1.mono hd.size)
  go_wp2_with fail
  refine nxt_op rfl k1 ?_
  go_wp2_with fail
  refine (HP.out w1 (hb0.trans (k1.mono hb0.size))).mono ?_
  rintro e w2 ⟨p, rfl, hp, hlp, hb2⟩
  have k2 := k1.trans (hb2.mono k1.size)
  go_wp2_with fail
  refine nxt_op rfl k2 ?_
  go_wp2_with fail
  refine nxt_op rfl k2 ?_
  have hY2 := hY.below k2 hY.lt
  have hu2 : PM w2 u C M := ⟨hu.below hb2, WU.out⟩
  have hp2 : PM w2 p D P := ⟨hp, WP.out⟩
  have hup : u ≠ p := by have := hu.lt; omega
  have bw := hb0.trans (k2.mono hb0.size)
  have y0 := hY2.cell 0
  have y1 := hY2.cell 1
  have f0 := hY2.frozen 0
  have f1 := hY2.frozen 1
  clear x0 x1 x2 x3 hX hY hd k1 k2 hb1 hb2 hu hp
  go_wp2_with fail
  refine nxt_nil ?_
  go_wp2_with fail
  have rE := hY2.putc (ptr u) (ptr p)
  have uE := hu2.cfg2 (c := some ⟨u, 0, none⟩) (d := some ⟨p, 0, none⟩) hY2
  have pE := hp2.cfg2 (c := some ⟨u, 0, none⟩) (d := some ⟨p, 0, none⟩) hY2
  have bE := below_put2 bw (g := w.heap.size + 1) (by omega) (ptr u) (ptr p)
  have cX := rE.cell 0
  have cY := rE.cell 1
  unfold put2 at cX cY bE
  exact bodyPost_ret (v := .agg #[.pointer (some ⟨u, 0, none⟩), .pointer (some ⟨p, 0, none⟩)]) (by simp [results, Tryd.results16, go_sem, cX, cY]) rfl ⟨u, p, rfl, uE, pE, hup, bE⟩
theorem told_self {C : Nat} {M : List (List Bool)} (hC : C ≤ 4096) (h : Wide C M) : toldM C (nsOf C M) = M := by
  have e : toldM C (nsOf C M) = mat M.length C (mget M) := by
    unfold toldM
    rw [nsTo_len]
    refine mat_congr fun i hi j hj => ?_
    unfold toldF
    rw [mhas_nsOf _ _ hC, hasR_nat, decide_eq_true hi, decide_eq_true hj]; rfl
  rw [e, mat_self h]
theorem samel_yes (q C c : Nat) (A : Option Addr) (M : List (List Bool)) (w : World) (h : PM w q C M) (h' : IsRef w C A M) (hC : C ≤ 256) (hR : M.length ≤ 256) :
    Calls Tryd.prog 19 #[ptr q, refV C A M.length c] w fun e w' => e = .returned (.bool true) ∧ Below w.heap.size w w' := by
  have := samel_any q C C (nsOf C M) A c M w h.1 hC (by rw [nsTo_len]; exact hR) h'
  rwa [told_self (by omega) h.2, sameB_eq h.2 h.2 rfl, decide_eq_true rfl] at this
set_option maxRecDepth 100000 in
set_option maxHeartbeats 2000000 in
theorem same49_yes (u p C c D d : Nat) (A B : Option Addr) (M P : List (List Bool)) (w : World) (hu : PM w u C M) (hp : PM w p D P) (hU : IsRef w C A M) (hP : IsRef w D B P) (h1 : C ≤ 256) (h2 : M.length ≤ 256) (h3 : D ≤ 256) (h4 : P.length ≤ 256) :
    Calls Tryd.prog 25 #[cfgV u p, rcfV C A M.length c D B P.length d] w fun e w' => e = .returned (.bool true) ∧ Below w.heap.size w w' := by
  have HU := hideC (fun W hW => samel_yes u C c A M W (hu.below (w' := W) hW) (hU.below hW) h1 h2)
  have HP := hideC (fun W hW => samel_yes p D d B P W (hp.below (w' := W) hW) (hP.below hW) h3 h4)
  go_enter Tryd.func25, Tryd.ntmps25
  go_wp2_with fail
  refine absC2 fun W0 hX hY hb0 hz => ?_
  clear hz
  refine (HU.out W0 hb0).mono ?_
  rintro e w1 ⟨rfl, hb1⟩
  have b1 := hb0.trans (hb1.mono hb0.size)
  have hX1 := hX.below hb1 hX.lt
  have hY1 := hY.below hb1 hY.lt
  have x1 := hX1.cell 1
  have y2 := hY1.cell 2
  have y3 := hY1.cell 3
  go_wp2_with fail
  refine (HP.out w1 b1).mono ?_
  rintro e w2 ⟨rfl, hb2⟩
  go_wp2_with fail
  go_ret
  exact ⟨rfl, b1.trans (hb2.mono b1.size)⟩
set_option maxRecDepth 100000 in
set_option maxHeartbeats 2000000 in
theorem step_any (k : Nat) (x y : Int) (w : World) (hk : k ≤ 255) :
    Calls Tryd.prog 23 #[rstepV k x y] w fun e w' => e = .returned (stepV k x y) ∧ Below w.heap.size w w' := by
  have e1 : IntKind.u8.wrap (k : Int) = (k : Int) := by rw [IntKind.wrap_u8]; omega
  go_enter Tryd.func23, Tryd.ntmps23
  go_wp2_with fail
  exact bodyPost_ret (v := .agg #[.int .u8 k, .int .i64 x, .int .i64 y]) (by simp [results, Tryd.results23, go_sem]) rfl ⟨rfl, ((Below.refl _ _).alloc (Nat.le_refl _) _).alloc (by simp) _⟩
theorem cellsZ_app (l m : List (Nat × Int × Int)) : cellsZ (l ++ m) = cellsZ l ++ cellsZ m := by unfold cellsZ; rw [List.flatMap_append]
set_option maxRecDepth 100000 in
set_option maxHeartbeats 4000000 in
theorem steps_any (A : Option Addr) (c : Nat) (l : List (Nat × Int × Int)) (w : World) (hr : Row w A (cellsQ l)) (hk : ∀ s ∈ l, s.1 ≤ 255) (hL : l.length ≤ 100000000) :
    Calls Tryd.prog 32 #[.slice A l.length c] w fun e w' => ∃ v, e = .returned v ∧ w'.ownsRow w.heap.size 55 3 v l.length (cellsZ l) ∧ Below w.heap.size w w' := by
  obtain ⟨i0, hi0, hz0, hz1, hz2⟩ := info_parts info_step
  have HKK := Lib.hid hk
  clear hk
  go_enter Tryd.func32, Tryd.ntmps32
  go_wp2_with fail
  refine wp_loopF (β := Nat × Value) (fun b f => #[f 0, f 1, f 2, b.2, f 4, f 5, .slice A l.length c, .int .i64 (l.length : Int), .int .i64 (b.1 : Int), f 9, f 10, f 11, f 12, f 13, f 14, f 15, f 16, f 17, f 18])
    (fun b ds wr => b.1 ≤ l.length ∧ ds = [] ∧ wr.ownsRow w.heap.size 55 3 b.2 b.1 (cellsZ (l.take b.1)) ∧ Below w.heap.size w wr) (fun b => l.length - b.1) (0, .slice none 0 0) rfl ⟨Nat.zero_le _, rfl, World.ownsRow_nil _ _ _ _, Below.refl _ _⟩ ?_
  rintro ⟨k, o⟩ f ds wr ⟨hk, rfl, hown, hbel⟩
  dsimp only at hk hown ⊢
  by_cases hlt : k < l.length
  · obtain ⟨⟨kd, x, y⟩, hs⟩ : ∃ s, l[k]? = some s := ⟨l[k], List.getElem?_eq_getElem hlt⟩
    have hkd : kd ≤ 255 := HKK.out _ (List.mem_of_getElem? hs)
    have htk : l.take (k + 1) = l.take k ++ [(kd, x, y)] := by
      rw [List.take_succ_eq_append_getElem hlt]
      rw [List.getElem?_eq_getElem hlt] at hs
      rw [Option.some.inj hs]
    have HTK := Lib.hid htk
    obtain ⟨g, off, rfl, hg, hc⟩ := hr (by rw [cellsQ_len]; omega)
    obtain ⟨q0, q1, q2⟩ := cellsQ_get l k _ hs
    have t0 := onB hbel (hc _ _ q0)
    have t1 := onB hbel (hc _ _ q1)
    have t2 := onB hbel (hc _ _ q2)
    rw [← Nat.add_assoc] at t1 t2
    clear htk hs q0 q1 q2 hc
    go_wp2_with fail
    refine absC1 fun W1 hS1 hb1 hzz => ?_
    refine (step_any kd x y W1 hkd).mono ?_
    rintro e w2 ⟨rfl, hb2⟩
    have b2 := hb1.trans (hb2.mono hb1.size)
    have hbel2 := hbel.trans (b2.mono hbel.size)
    have hown2 := own_below hown b2
    have hown3 := hown2.alloc (.cells #[.int .u8 (kd : Int), .int .i64 x, .int .i64 y] 55)
    have sz2 := hbel2.size
    clear t0 t1 t2
    go_wp2_with (at_builtin; refine wpList_append_own _ rfl _ _ 67 rfl w.heap.size 55 i0 (.agg #[.int .u8 0, .int .i64 0, .int .i64 0]) 3 24 Tryd.underlying67 hi0 hz0 hz1 hz2 rfl (by decide) _ _ _ rfl hown3 ⟨w2.heap.size, 0, none⟩ 1 1 [.int .u8 (kd : Int), .int .i64 x, .int .i64 y] rfl rfl (cells_new3 _ _ _ _ _) (by intro u hu; simp at hu; rcases hu with rfl | rfl | rfl <;> rfl) (by unfold maxLen; omega) (by omega) (by simp; omega) ?_; intro v' w3 hown' hgrow _)
    refine ⟨(k + 1, v'), rfl, ⟨by omega, by first | rfl | trivial, ?_, (hbel2.alloc (by omega) (.cells #[.int .u8 (kd : Int), .int .i64 x, .int .i64 y] 55)).grown hgrow (by simp; omega) (fun q hq => by have := (hown2.lt q hq).1; omega)⟩, by simp; omega⟩
    rw [HTK.out, cellsZ_app]
    exact hown'
  · obtain rfl : k = l.length := by omega
    rw [List.take_length] at hown
    go_wp2_with fail
    go_ret
    exact ⟨o, rfl, hown, hbel⟩
end Go.Proofs.YthkjigggfeejdaaDoor
