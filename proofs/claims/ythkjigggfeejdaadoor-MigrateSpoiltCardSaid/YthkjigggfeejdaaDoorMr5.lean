import Derived.Test.YthkjigggfeejdaaDoorMr3
import Derived.Test.YthkjigggfeejdaaDoorMr4
namespace Go.Proofs.YthkjigggfeejdaaDoor
open Go.RowKit

theorem absC4 {P : Program} {w : World} {f : FuncId} {args : Array Value} {R : Ending → World → Prop} {c1 c2 c3 c4 : Array Value} {t1 t2 t3 t4 : TypeId} (h : ∀ W, Blk W w.heap.size t1 c1 → Blk W (w.heap.size + 1) t2 c2 → Blk W (w.heap.size + 2) t3 c3 → Blk W (w.heap.size + 3) t4 c4 → Below w.heap.size w W → W.heap.size = w.heap.size + 4 → Calls P f args W R) :
    Calls P f args ((((w.alloc (.cells c1 t1)).alloc (.cells c2 t2)).alloc (.cells c3 t3)).alloc (.cells c4 t4)) R :=
  h _ ((((Blk.new _ _ _).alloc _).alloc _).alloc _) (((Blk.new_ (by simp) _ _).alloc _).alloc _) ((Blk.new_ (by simp) _ _).alloc _) (Blk.new_ (by simp) _ _) (((((Below.refl _ _).alloc (Nat.le_refl _) _).alloc (by simp) _).alloc (by simp; omega) _).alloc (by simp; omega) _) (by simp)
/-! The reference counts the joint roles by the numbers. -/
def upTo (n : Nat) (l : List Nat) : Nat := l.foldl (fun a k => if a ≤ k then k + 1 else a) n
theorem upTo_snoc (n : Nat) (l : List Nat) (x : Nat) : upTo n (l ++ [x]) = if upTo n l ≤ x then x + 1 else upTo n l := by unfold upTo; rw [List.foldl_append]; rfl
theorem upTo_nums (P Q : List (List Bool)) : ∀ r, upTo P.length (nums P Q r).1 = (nums P Q r).2
  | 0 => rfl
  | r + 1 => by
    have ih := upTo_nums P Q r
    have hl := (nums_lt P Q r).1
    rw [nums, nStep]
    cases hf : fk (nums P Q r).1 P Q r P.length with
    | none => dsimp only; rw [upTo_snoc, ih, if_pos (Nat.le_refl _)]
    | some x =>
      have := fk_lt hf
      dsimp only; rw [upTo_snoc, ih, if_neg (by omega)]
theorem fk_free {l : List Nat} {P Q : List (List Bool)} {r m x : Nat} (h : fk l P Q r m = some x) : x ∉ l := by
  have := List.find?_some h
  unfold pk at this
  simp at this
  exact this.1
theorem nums_nodup (P Q : List (List Bool)) : ∀ r, (nums P Q r).1.Nodup
  | 0 => List.nodup_nil
  | r + 1 => by
    have ih := nums_nodup P Q r
    have hl := (nums_lt P Q r).2
    rw [nums, nStep]
    cases hf : fk (nums P Q r).1 P Q r P.length with
    | none =>
      dsimp only
      rw [List.nodup_append]
      exact ⟨ih, by simp, fun a ha b hb => by simp at hb; subst hb; have := hl a ha; omega⟩
    | some x =>
      have := fk_free hf
      dsimp only
      rw [List.nodup_append]
      exact ⟨ih, by simp, fun a ha b hb => by simp at hb; subst hb; rintro rfl; exact this ha⟩
theorem jl_nodup (P Q : List (List Bool)) : (jl P Q).Nodup := nums_nodup P Q Q.length
theorem upTo_jl (P Q : List (List Bool)) : upTo P.length (jl P Q) = jn P Q := upTo_nums P Q Q.length
theorem jn_le (P Q : List (List Bool)) : jn P Q ≤ P.length + Q.length := (nums_bd P Q Q.length).2
/-- What holds in the reference's Joint. -/
structure RJ (w W : World) (csA csB : Array Value) : Prop where
  old : Blk W w.heap.size 31 csA
  new : Blk W (w.heap.size + 1) 31 csB
  r1 : Blk W (w.heap.size + 2) 31 #[.int .i64 0, .slice none 0 0, .int .i64 0, .slice none 0 0]
  r2 : Blk W (w.heap.size + 3) 31 #[.int .i64 0, .slice none 0 0, .int .i64 0, .slice none 0 0]
  below : Below w.heap.size w W
theorem RJ.next {w W W' : World} {csA csB : Array Value} (h : RJ w W csA csB) (hb : Below W.heap.size W W') : RJ w W' csA csB :=
  ⟨h.old.below hb h.old.lt, h.new.below hb h.new.lt, h.r1.below hb h.r1.lt, h.r2.below hb h.r2.lt, h.below.trans (hb.mono h.below.size)⟩
theorem RC.far4 {W : World} {C c D d : Nat} {A B : Option Addr} {M P : List (List Bool)} (h : RC W C A c D B d M P) {b : Nat} {cs : Array Value} (hB : Blk W b 31 cs) (x y z v : Value) : RC (put4 W b x y z v) C A c D B d M P :=
  ⟨h.users.far4 hB (by decide) (by decide) x y z v, h.perms.far4 hB (by decide) (by decide) x y z v⟩
set_option maxRecDepth 100000 in
set_option maxHeartbeats 8000000 in
theorem rjoint_any (C c D d C' c' d' : Nat) (A B A' B' : Option Addr) (M P M' P' : List (List Bool)) (w : World) (hU : IsRef w C A M) (hP : IsRef w D B P) (hU' : IsRef w C' A' M') (hP' : IsRef w D B' P') (hC : C = P.length) (hC' : C' = P'.length) (hn : jn P P' ≤ 4096) :
    Calls Tryd.prog 39 #[rcfV C A M.length c D B P.length d, rcfV C' A' M'.length c' D B' P'.length d'] w fun e w' => ∃ A1 c1 B1 d1 A2 c2 B2 d2, e = .returned (.tuple #[rcfV (jn P P') A1 M.length c1 D B1 (jn P P') d1, rcfV (jn P P') A2 M'.length c2 D B2 (jn P P') d2]) ∧
      RC w' (jn P P') A1 c1 D B1 d1 (jU (jn P P') (List.range P.length) M) (jP (jn P P') D (List.range P.length) P) ∧ RC w' (jn P P') A2 c2 D B2 d2 (jU (jn P P') (jl P P') M') (jP (jn P P') D (jl P P') P') ∧ Below w.heap.size w w' := by
  obtain ⟨i0, hi0, hz0, hz1, hz2⟩ := info_parts info_int
  have hpl : P.length ≤ 4096 := hP.2.1
  have hql : P'.length ≤ 4096 := hP'.2.1
  have HJL := Lib.hid (jl_len P P')
  have HJT := Lib.hid (jl_lt P P')
  have HND := Lib.hid (jl_nodup P P')
  have HUP := Lib.hid (upTo_jl P P')
  have hjr := jn_ge P P'
  obtain ⟨n, hnn⟩ : ∃ n, n = jn P P' := ⟨_, rfl⟩
  obtain ⟨l, hll⟩ : ∃ l, l = jl P P' := ⟨_, rfl⟩
  have HNUM : ∀ W, Below w.heap.size w W → Calls Tryd.prog 41 #[rcfV C A M.length c D B P.length d, rcfV C' A' M'.length c' D B' P'.length d'] W fun e w' => ∃ A c, e = .returned (.slice A P'.length c) ∧ Row w' A ((jl P P').map i64) ∧ Below W.heap.size W w' := fun W hW => rnumbers_any C M.length c D d C' M'.length c' d' A B A' B' P P' W (hP.below hW) (hP'.below hW)
  rw [← hnn] at HJT HUP hjr hn ⊢
  rw [← hll] at HNUM HJL HJT HND HUP ⊢
  have HNUM := hideC HNUM
  have HC := Lib.hid hC
  have HC' := Lib.hid hC'
  clear hnn hll hC hC'
  go_enter Tryd.func39, Tryd.ntmps39
  go_wp2_with fail
  refine absC4 fun W0 hA hB hR1 hR2 hb0 hz => ?_
  have j0 : RJ w W0 #[.int .i64 (C : Int), .slice A M.length c, .int .i64 (D : Int), .slice B P.length d] #[.int .i64 (C' : Int), .slice A' M'.length c', .int .i64 (D : Int), .slice B' P'.length d'] := ⟨hA, hB, hR1, hR2, hb0⟩
  clear hz hA hB hR1 hR2
  refine (HNUM.out W0 hb0).mono ?_
  rintro e w1 ⟨AL, cL, rfl, hrow, hb1⟩
  have j1 := j0.next hb1
  clear j0 hb0 hb1
  have x3 := j1.old.cell 3
  go_wp2_with fail
  refine wp_loopF (β := Nat × Value) (fun b f => #[f 0, f 1, .pointer (some ⟨w.heap.size, 0, none⟩), .pointer (some ⟨w.heap.size + 1, 0, none⟩), .pointer (some ⟨w.heap.size + 2, 0, none⟩), .pointer (some ⟨w.heap.size + 3, 0, none⟩), .slice AL P'.length cL, .int .i64 (P.length : Int), b.2, .int .i64 (b.1 : Int), f 10, f 11, f 12, f 13, f 14, f 15, f 16, f 17, f 18, f 19, f 20, f 21, f 22, f 23, f 24, f 25, f 26, f 27, f 28, f 29, f 30, f 31, f 32, f 33, f 34, f 35, f 36, f 37, f 38, f 39, f 40, f 41, f 42, f 43, f 44, f 45, f 46, f 47])
    (fun b ds wr => b.1 ≤ P.length ∧ ds = [] ∧ wr.ownsRow w1.heap.size 3 1 b.2 b.1 ((List.range b.1).map i64) ∧ Below w1.heap.size w1 wr) (fun b => P.length - b.1) (0, .slice none 0 0) rfl ⟨Nat.zero_le _, rfl, World.ownsRow_nil _ _ _ _, Below.refl _ _⟩ ?_
  rintro ⟨k, o⟩ f ds wr ⟨hk, rfl, hown, hbel⟩
  dsimp only at hk hown ⊢
  by_cases hlt : k < P.length
  · have hsz := hbel.size
    have hown1 := hown.alloc (.cells #[.int .i64 (k : Int)] 3)
    go_wp2_with (at_builtin; refine wpList_append_own _ rfl _ _ 62 rfl (w1.heap.size) 3 i0 (.int .i64 0) 1 8 Tryd.underlying62 hi0 hz0 hz1 hz2 rfl (by decide) _ _ _ rfl (hown1) ⟨wr.heap.size, 0, none⟩ 1 1 [.int .i64 (k : Int)] rfl rfl (cell_one_new _ _ _) (by simp [Value.oneCell']) (by unfold maxLen; omega) (by omega) (by simp; omega) ?_; intro v' w3 hown' hgrow _)
    refine ⟨(k + 1, _), rfl, ⟨by omega, by first | rfl | trivial, ?_, (hbel.alloc (by omega) (.cells #[.int .i64 (k : Int)] 3)).grown hgrow (by simp; omega) (fun q hq => by have := (hown.lt q hq).1; omega)⟩, by simp; omega⟩
    rw [List.range_succ, List.map_append]
    exact hown'
  · obtain rfl : k = P.length := by omega
    obtain ⟨A0, c0, rfl, _, _, hrow0, _⟩ := row_of_own hown
    have j2 := j1.next hbel
    have hrow2 := hrow.below hbel
    clear x3 j1 hrow hown hbel
    go_wp2_with fail
    refine wp_loopF (β := Nat) (fun m f => #[f 0, f 1, .pointer (some ⟨w.heap.size, 0, none⟩), .pointer (some ⟨w.heap.size + 1, 0, none⟩), .pointer (some ⟨w.heap.size + 2, 0, none⟩), .pointer (some ⟨w.heap.size + 3, 0, none⟩), .slice AL P'.length cL, .int .i64 (upTo P.length (l.take m) : Int), .slice A0 P.length c0, f 9, f 10, f 11, f 12, f 13, f 14, f 15, f 16, f 17, f 18, f 19, f 20, f 21, f 22, f 23, f 24, f 25, f 26, f 27, .slice AL P'.length cL, .int .i64 (P'.length : Int), .int .i64 (m : Int), f 31, f 32, f 33, f 34, f 35, f 36, f 37, f 38, f 39, f 40, f 41, f 42, f 43, f 44, f 45, f 46, f 47])
      (fun m ds wq => m ≤ P'.length ∧ ds = [] ∧ wr = wq) (fun m => P'.length - m) 0 rfl ⟨Nat.zero_le _, rfl, rfl⟩ ?_
    rintro m f ds wq ⟨hm, rfl, rfl⟩
    dsimp only
    by_cases hlm : m < P'.length
    · obtain ⟨g, off, rfl, hg, hc⟩ := hrow2 (by rw [List.length_map, HJL.out]; omega)
      have hml : m < l.length := by rw [HJL.out]; exact hlm
      have cm := hc m (i64 (l[m])) (by rw [List.getElem?_map, List.getElem?_eq_getElem hml]; rfl)
      have hst : upTo P.length (l.take (m + 1)) = if upTo P.length (l.take m) ≤ l[m] then l[m] + 1 else upTo P.length (l.take m) := by
        rw [List.take_succ_eq_append_getElem hml, upTo_snoc]
      have hkn := HJT.out _ (List.getElem_mem hml)
      obtain ⟨x, hx⟩ : ∃ x, x = l[m] := ⟨_, rfl⟩
      obtain ⟨q, hq⟩ : ∃ q, q = upTo P.length (l.take m) := ⟨_, rfl⟩
      rw [← hx] at cm hst hkn
      rw [← hq] at hst ⊢
      have HST := Lib.hid hst
      clear hx hq hst hc
      by_cases hqx : q ≤ x
      · have hst := HST.out
        rw [if_pos hqx] at hst
        have HST2 := Lib.hid hst
        clear hst HST
        go_wp2_with fail
        refine ⟨m + 1, by (try dsimp only); rw [HST2.out]; rfl, ⟨by omega, by first | rfl | trivial, by first | rfl | trivial⟩, by omega⟩
      · have hst := HST.out
        rw [if_neg hqx] at hst
        have HST2 := Lib.hid hst
        clear hst HST
        go_wp2_with fail
        refine ⟨m + 1, by (try dsimp only); rw [HST2.out]; rfl, ⟨by omega, by first | rfl | trivial, by first | rfl | trivial⟩, by omega⟩
    · obtain rfl : m = P'.length := by omega
      have hup : upTo P.length (l.take P'.length) = n := by rw [List.take_of_length_le (by rw [HJL.out]; exact Nat.le_refl _)]; exact HUP.out
      rw [hup]
      have HS1 := hideC (fun W hW hr => rspread_any C c D d A B M P (List.range P.length) A0 c0 P.length n W (hU.below (w' := W) hW) (hP.below hW) hr (by simp) rfl HC.out List.nodup_range (fun k hk => by have := List.mem_range.1 hk; omega) hn)
      have HS2 := hideC (fun W hW hr => rspread_any C' c' D d' A' B' M' P' l AL cL P'.length n W (hU'.below (w' := W) hW) (hP'.below hW) hr HJL.out rfl HC'.out HND.out HJT.out hn)
      have o0 := j2.old.cell 0
      have o1 := j2.old.cell 1
      have o2 := j2.old.cell 2
      have o3 := j2.old.cell 3
      have n0 := j2.new.cell 0
      have n1 := j2.new.cell 1
      have n2 := j2.new.cell 2
      have n3 := j2.new.cell 3
      clear hup
      go_wp2_with fail
      have hbd : Below wr.heap.size wr wr.drew := (Below.refl _ _).drew
      have j3 := j2.next hbd
      have hr0 := hrow0.below hbd
      have hr2 := hrow2.below hbd
      refine wp_spine (fun V => Blk V w.heap.size 31 #[.int .i64 (C : Int), .slice A M.length c, .int .i64 (D : Int), .slice B P.length d] ∧ Blk V (w.heap.size + 1) 31 #[.int .i64 (C' : Int), .slice A' M'.length c', .int .i64 (D : Int), .slice B' P'.length d']) [0, 1, 2, 4, 5, 6] [3, 7, 8, 9] (by kernel_rfl) (by kernel_rfl) ?_
      iterate 6 (refine wpE_op (v := ?_) rfl rfl (fun W hW => ?_) ?_; rotate_left; (have z0 := hW.1.cell 0; have z1 := hW.1.cell 1; have z2 := hW.1.cell 2; have z3 := hW.1.cell 3; have y0 := hW.2.cell 0; have y1 := hW.2.cell 1; have y2 := hW.2.cell 2; have y3 := hW.2.cell 3; go_simp; first | done | with_reducible rfl); simp only [Act.put, List.setIfInBounds_toArray, List.set_cons_zero, List.set_cons_succ])
      obtain ⟨wz, hwz⟩ : ∃ V, V = wr.drew := ⟨_, rfl⟩
      rw [← hwz] at j3 hr0 hr2 ⊢
      clear hwz hbd o0 o1 o2 o3 n0 n1 n2 n3 j2 hrow0 hrow2
      refine wpE_nil ⟨fun h => (by cases h), wpSp_op rfl ⟨j3.old, j3.new⟩ ?_⟩
      go_wp2_with fail
      refine (HS1.out wz j3.below hr0).mono ?_
      rintro e w5 ⟨A1, c1, B1, d1, rfl, hc5, hb5⟩
      have j5 := j3.next hb5
      have hr5 := hr2.below hb5
      clear j3 hb5 hr0 hr2
      go_wp2_with fail
      refine nxt_op rfl ⟨j5.old, j5.new⟩ ?_
      go_wp2_with fail
      refine (HS2.out w5 j5.below hr5).mono ?_
      rintro e w6 ⟨A2, c2, B2, d2, rfl, hd6, hb6⟩
      have j6 := j5.next hb6
      have hc6 := hc5.below hb6
      clear j5 hb6 hr5 hc5
      go_wp2_with fail
      refine nxt_op rfl ⟨j6.old, j6.new⟩ ?_
      have r0 := j6.r1.cell 0
      have r1 := j6.r1.cell 1
      have r2 := j6.r1.cell 2
      have r3 := j6.r1.cell 3
      have f0 := j6.r1.frozen 0
      have f1 := j6.r1.frozen 1
      have f2 := j6.r1.frozen 2
      have f3 := j6.r1.frozen 3
      go_wp2_with fail
      have p1 := j6.r1.putd (.int .i64 (n : Int)) (.slice A1 M.length c1) (.int .i64 (D : Int)) (.slice B1 n d1)
      have p2 := j6.r2.far4 (g' := w.heap.size + 2) (by omega) (.int .i64 (n : Int)) (.slice A1 M.length c1) (.int .i64 (D : Int)) (.slice B1 n d1)
      have p3 := j6.old.far4 (g' := w.heap.size + 2) (by omega) (.int .i64 (n : Int)) (.slice A1 M.length c1) (.int .i64 (D : Int)) (.slice B1 n d1)
      have p4 := j6.new.far4 (g' := w.heap.size + 2) (by omega) (.int .i64 (n : Int)) (.slice A1 M.length c1) (.int .i64 (D : Int)) (.slice B1 n d1)
      have hc7 := hc6.far4 j6.r1 (.int .i64 (n : Int)) (.slice A1 M.length c1) (.int .i64 (D : Int)) (.slice B1 n d1)
      have hd7 := hd6.far4 j6.r1 (.int .i64 (n : Int)) (.slice A1 M.length c1) (.int .i64 (D : Int)) (.slice B1 n d1)
      have b7 := below_put4 j6.below (g := w.heap.size + 2) (by omega) (.int .i64 (n : Int)) (.slice A1 M.length c1) (.int .i64 (D : Int)) (.slice B1 n d1)
      refine nxt_op (W := put4 w6 (w.heap.size + 2) (.int .i64 (n : Int)) (.slice A1 M.length c1) (.int .i64 (D : Int)) (.slice B1 n d1)) rfl ⟨p3, p4⟩ ?_
      obtain ⟨w7, hw7⟩ : ∃ V, V = put4 w6 (w.heap.size + 2) (.int .i64 (n : Int)) (.slice A1 M.length c1) (.int .i64 (D : Int)) (.slice B1 n d1) := ⟨_, rfl⟩
      rw [← hw7] at p1 p2 hc7 hd7 b7 ⊢
      clear hw7 p3 p4 r0 r1 r2 r3 f0 f1 f2 f3 j6 hc6 hd6
      have r0 := p2.cell 0
      have r1 := p2.cell 1
      have r2 := p2.cell 2
      have r3 := p2.cell 3
      have f0 := p2.frozen 0
      have f1 := p2.frozen 1
      have f2 := p2.frozen 2
      have f3 := p2.frozen 3
      go_wp2_with fail
      refine nxt_nil ?_
      go_wp2_with fail
      have q1 := p1.far4 (g' := w.heap.size + 3) (by omega) (.int .i64 (n : Int)) (.slice A2 M'.length c2) (.int .i64 (D : Int)) (.slice B2 n d2)
      have q2 := p2.putd (.int .i64 (n : Int)) (.slice A2 M'.length c2) (.int .i64 (D : Int)) (.slice B2 n d2)
      have hc8 := hc7.far4 p2 (.int .i64 (n : Int)) (.slice A2 M'.length c2) (.int .i64 (D : Int)) (.slice B2 n d2)
      have hd8 := hd7.far4 p2 (.int .i64 (n : Int)) (.slice A2 M'.length c2) (.int .i64 (D : Int)) (.slice B2 n d2)
      have b8 := below_put4 b7 (g := w.heap.size + 3) (by omega) (.int .i64 (n : Int)) (.slice A2 M'.length c2) (.int .i64 (D : Int)) (.slice B2 n d2)
      have cX := q1.cell 0
      have cY := q1.cell 1
      have cZ := q1.cell 2
      have cW := q1.cell 3
      have dX := q2.cell 0
      have dY := q2.cell 1
      have dZ := q2.cell 2
      have dW := q2.cell 3
      unfold put4 at cX cY cZ cW dX dY dZ dW b8
      exact bodyPost_ret (v := .tuple #[rcfV n A1 M.length c1 D B1 n d1, rcfV n A2 M'.length c2 D B2 n d2]) (by simp [results, Tryd.results39, go_sem, cX, cY, cZ, cW, dX, dY, dZ, dW]) rfl ⟨A1, c1, B1, d1, A2, c2, B2, d2, rfl, hc8, hd8, b8⟩
end Go.Proofs.YthkjigggfeejdaaDoor
