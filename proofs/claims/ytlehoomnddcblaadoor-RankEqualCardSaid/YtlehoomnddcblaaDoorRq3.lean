/-
  A changed proof: arbaclaw47.Odd.apply.
-/
import Derived.Test.YtlehoomnddcblaaDoorRq2
namespace Go.Proofs.YtlehoomnddcblaaDoor
open Go.RowKit
theorem ON.at {w : World} {base g n r cap : Nat} {P : List Nd} {vss : List (List Value)} {vs : List Value} {u : Value} (h : ON w base (.slice (some ⟨g, 0, none⟩) P.length cap) P vss) (hn : n < P.length) (h1 : vss[n]? = some vs) (hr : r < 5) (hu : vs[r]? = some u) : w.cell? ⟨g, n * 5 + r, none⟩ = some u := by
  rcases id h.own.2 with ⟨hv, h0⟩ | ⟨g', cap', cur, hv, hg, hB, hnc, -, -, -⟩
  · omega
  · cases hv
    have hc := h.own.cellAt (n * 5 + r) (by omega)
    rw [flatten5 vss h.len5 n r _ h1 hr, hu] at hc
    exact hc
/-- A proof of the reference's whose rows' types are known. -/
def PRt (w : World) (v : Value) (size : Int) (P : List Nd) : Prop := ∃ A c, v = .agg #[.int .i64 size, .slice A P.length c] ∧ IsNT w A P ∧ P.length ≤ c ∧ (A = none → P.length = 0 ∧ c = 0)
theorem PRt.prf {w : World} {v : Value} {size : Int} {P : List Nd} (h : PRt w v size P) : PRf w v size P := by
  obtain ⟨A, c, h1, h2, h3⟩ := h; exact ⟨A, c, h1, h2.nr, h3⟩
theorem PRt.far {w : World} {v : Value} {size : Int} {P : List Nd} {p : Addr} {t : TypeId} {cs : Array Value} (h : PRt w v size P) (hB : Blk w p.block t cs) (n1 : t ≠ 39) (n2 : t ≠ 3) (n3 : t ≠ 40) (u : Value) : PRt (w.setCell p u) v size P := by
  obtain ⟨A, c, h1, h2, h3⟩ := h; exact ⟨A, c, h1, h2.far hB n1 n2 n3 u, h3⟩
theorem nt_PRf {V : World} {A : Option Addr} {P : List Nd} {p n c : Nat} {cs : Array Value} {u0 u1 : Value} {size : Int} (h : IsNT V A P) (hY : Blk V p 33 cs) (hn : P.length = n) (hc : n ≤ c) (hA : A = none → n = 0 ∧ c = 0) : PRt ((V.setCell ⟨p, 0, none⟩ u0).setCell ⟨p, 1, none⟩ u1) (.agg #[.int .i64 size, .slice A n c]) size P := by
  subst hn
  exact ⟨A, c, rfl, ((h.far (p := ⟨p, 0, none⟩) hY (by decide) (by decide) (by decide) u0).far (p := ⟨p, 1, none⟩) (hY.set_ 0 u0) (by decide) (by decide) (by decide) u1), hc, hA⟩
theorem nd_set {B n : Nat} {P : List Nd} {x : Nd} (h : ∀ y ∈ P, NdB B y) (hx : NdB (B + 1) x) : ∀ y ∈ P.set n x, NdB (B + 1) y := fun y hy => by
  rcases List.mem_or_eq_of_mem_set hy with h' | rfl
  · exact (h y h').mono (by omega)
  · exact hx
theorem RowT.tail {w : World} {e : TypeId} {A : Option Addr} {n c s : Nat} {xs : List Value} (h : RowT w e A n c xs) (hn : 0 < n) (hx : xs.length = n * s) (hs : 0 < s) :
    ∃ A', (∀ (inst : Decidable (c = 1)) (f : Addr → Addr), (∀ g off, f ⟨g, off, none⟩ = ⟨g, off + s, none⟩) → @ite _ (c = 1) inst A (Option.map f A) = A') ∧ RowT w e A' (n - 1) (c - 1) (xs.drop s) := by
  obtain ⟨⟨hr, hnc, hA⟩, ht⟩ := h
  have hpos : 0 < xs.length := by rw [hx]; exact Nat.mul_pos hn hs
  obtain ⟨g, off, rfl, hg, hc⟩ := hr hpos
  by_cases h1 : c = 1
  · refine ⟨some ⟨g, off, none⟩, fun _ f hf => by rw [if_pos h1], ⟨fun hl => ?_, by omega, fun e => by cases e⟩, ht⟩
    obtain rfl : n = 1 := by omega
    rw [List.length_drop, hx] at hl
    omega
  · refine ⟨some ⟨g, off + s, none⟩, fun _ f hf => by rw [if_neg h1, Option.map_some, hf], ⟨fun hl => ⟨g, off + s, rfl, hg, fun k u hu => ?_⟩, by omega, fun e => by cases e⟩, fun ad ha => ?_⟩
    · rw [List.getElem?_drop] at hu
      have := hc (s + k) u hu
      rwa [← Nat.add_assoc] at this
    · cases ha
      exact ht ⟨g, off, none⟩ rfl
theorem cellsP_tail (l : List (Int × Int)) : cellsP l.tail = (cellsP l).drop 2 := by
  cases l with
  | nil => rfl
  | cons c l => rfl
theorem kid_facts (n a : Nat) (hn : n ≤ 100000000) (ha : a ≤ 255) : ∃ cN : Nat, cN ≤ 255 ∧ wrap64 ((n : Int) + 2) = ((n + 2 : Nat) : Int) ∧ IntKind.i64.wrap ((n : Int) + 2) = ((n + 2 : Nat) : Int) ∧ Int.tmod (IntKind.i64.wrap (a : Int)) (((n + 2 : Nat) : Int)) = (cN : Int) ∧ Int.tmod (IntKind.i64.wrap (a : Int)) ((n : Int) + 2) = (cN : Int) ∧ ¬ (((n + 2 : Nat) : Int) = 0) ∧ ¬ ((n : Int) + 2 = 0) := by
  refine ⟨a % (n + 2), ?_, ?_, ?_, ?_, ?_, ?_, ?_⟩
  · exact Nat.le_trans (Nat.mod_le _ _) ha
  · rw [IntWalk.wrap64_in _ ⟨by omega, by omega⟩]; omega
  · rw [i64w ⟨by omega, by omega⟩]; omega
  · rw [i64w ⟨by omega, by omega⟩]; rfl
  · rw [i64w ⟨by omega, by omega⟩]; rfl
  · omega
  · omega
theorem nd_app {B : Nat} {P : List Nd} {x : Nd} (h : ∀ y ∈ P, NdB B y) (hx : NdB (B + 1) x) : ∀ y ∈ P ++ [x], NdB (B + 1) y := fun y hy => by
  rcases List.mem_append.1 hy with h' | h'
  · exact (h y h').mono (by omega)
  · obtain rfl : y = x := by simpa using h'
    exact hx
namespace Mix2
set_option maxRecDepth 100000 in
set_option maxHeartbeats 8000000 in
theorem apply_any (x : Odd4) (hx : OddOK x) (size : Int) (M : Int) (P : List Nd) (B : Nat) (v : Value) (w : World) (hP : PRf w v size P) (hPB : ∀ y ∈ P, NdB B y) (hB : B ≤ 100000) (hl : P.length ≤ 100000000) (hM : -M ≤ size ∧ size ≤ M) (hM2 : M ≤ 1000000) :
    Calls Tryd.prog 16 #[oddV x, v] w fun e w' => ∃ v' size' P', e = .returned v' ∧ PRt w' v' size' P' ∧ (∀ y ∈ P', NdB (B + 1) y) ∧ P'.length ≤ P.length + 1 ∧ -(M + 2) ≤ size' ∧ size' ≤ M + 2 ∧ Below w.heap.size w w' := by
  obtain ⟨i0, hi0, hz0, hz1, hz2⟩ := info_parts info_node
  obtain ⟨kd, nd, a, b⟩ := x
  obtain ⟨x1, x2, x3, x4⟩ := hx
  obtain ⟨A, c, rfl, hR, hc, hA⟩ := hP
  dsimp only at x1 x2 x3 x4
  unfold oddV
  dsimp only
  go_enter Tryd.func16, Tryd.ntmps16
  go_wp2_with fail
  refine abs4 fun w1 h0 h1 h2 h3 hb hz => ?_
  clear hz
  obtain ⟨g1, hg1⟩ : ∃ g, g = w.heap.size := ⟨_, rfl⟩
  have hlo : w.heap.size ≤ g1 := by omega
  rw [← hg1] at h0 h1 h2 h3 ⊢
  clear hg1
  have hw1 : w.heap.size ≤ w1.heap.size := hb.size
  have hg3 : g1 + 1 + 1 + 1 < w1.heap.size := h3.lt
  refine wp_loopF (β := Nat × Value) (fun x f => #[f 0, f 1, .pointer (some ⟨g1, 0, none⟩), .pointer (some ⟨g1 + 1, 0, none⟩), .pointer (some ⟨g1 + 1 + 1, 0, none⟩), .pointer (some ⟨g1 + 1 + 1 + 1, 0, none⟩), f 6, f 7, f 8, f 9, f 10, f 11, f 12, f 13, .slice A P.length c, .int .i64 (P.length : Int), .int .i64 (x.1 : Int), f 17, f 18, f 19, f 20, f 21, f 22, f 23, f 24, f 25, f 26, f 27, f 28, f 29, f 30, f 31, f 32, f 33, f 34, f 35, f 36, f 37, f 38, f 39, f 40, f 41, f 42, f 43, f 44, f 45, f 46, f 47, f 48, f 49, f 50, f 51, f 52, f 53, f 54, f 55, f 56, f 57, f 58, f 59, f 60, f 61, f 62, f 63, f 64, f 65, f 66, f 67, f 68, f 69, f 70, f 71, f 72, f 73, f 74, f 75, f 76, f 77, f 78, f 79, f 80, f 81, f 82, f 83, f 84, f 85, f 86, f 87, f 88, f 89, f 90, f 91, f 92, f 93, f 94, f 95, f 96, f 97, f 98, f 99, f 100, f 101, f 102, f 103, f 104, f 105, f 106, f 107, f 108, f 109, f 110, f 111, f 112, f 113, f 114, f 115, f 116, f 117, f 118, f 119, f 120, f 121, f 122, f 123, f 124, f 125, f 126, f 127, f 128, f 129, f 130, f 131, f 132, f 133, f 134, f 135, f 136, f 137, f 138, f 139, f 140, f 141, f 142, f 143, f 144, f 145, f 146, f 147, f 148, f 149, f 150, f 151, f 152, f 153, f 154, f 155, f 156, f 157, f 158, f 159, f 160, f 161, f 162, f 163, f 164, f 165, f 166, f 167, f 168, f 169, f 170, f 171, f 172, f 173, f 174, f 175, f 176, f 177, f 178, f 179, f 180, f 181, f 182, f 183, f 184, f 185, f 186, f 187, f 188])
    (fun x ds W => x.1 ≤ P.length ∧ ds = [] ∧ Below w.heap.size w W ∧ Blk W g1 35 #[.int .u8 kd, .int .u8 nd, .int .u8 a, .int .u8 b] ∧ Blk W (g1 + 1 + 1) 33 #[.int .i64 0, .slice none 0 0] ∧ Blk W (g1 + 1 + 1 + 1) 33 #[.int .i64 size, x.2] ∧ w1.heap.size ≤ W.heap.size ∧ ∃ vss, ON W w1.heap.size x.2 (P.take x.1) vss ∧ D4 vss) (fun x => P.length - x.1) (0, .slice none 0 0) rfl
    ⟨Nat.zero_le _, rfl, hb, h0, h2, h3, Nat.le_refl _, [], ⟨rfl, fun k x h => by simp at h, fun i j a b _ h => by simp at h, World.ownsRow_nil _ _ _ _⟩, fun i j a b _ h => by simp at h⟩ ?_
  clear h0 h1 h2 h3
  rintro ⟨k, v⟩ f ds W ⟨hk, rfl, hbW, hO, hY, hZ, hsw, vss, hK, hD⟩
  dsimp only at hk hZ hK ⊢
  by_cases hlt : k < P.length
  · obtain ⟨x, hx⟩ : ∃ x, P[k]? = some x := ⟨_, List.getElem?_eq_getElem hlt⟩
    obtain ⟨ok1, ok2, ok3, ok4⟩ := hPB x (List.mem_of_getElem? hx)
    obtain ⟨g, off, A1, c1, A2, c2, rfl, hg, n0, n1, n2, n3, n4, hr1, hr2⟩ := nr_at hR hx
    have m0 := onB hbW n0; have m1 := onB hbW n1; have m2 := onB hbW n2; have m3 := onB hbW n3; have m4 := onB hbW n4
    have htk : P.take (k + 1) = P.take k ++ [x] := by rw [List.take_add_one, hx]; rfl
    have hkl : (P.take k).length = k := by rw [List.length_take]; omega
    have HTK := Lib.hid htk; have HKL := Lib.hid hkl
    have hr1W := hr1.below hbW
    have hr2W := hr2.below hbW
    obtain ⟨Av, cv, rfl, hcv⟩ := own5 hK.own
    rw [hkl] at hZ hK hcv
    clear hx n0 n1 n2 n3 n4 hr1 hr2 htk hkl
    go_wp2_with fail
    refine abs1 fun W1 hN hb1 hz => ?_
    clear hz m0 m1 m2 m3 m4
    have hbW1 := hbW.trans (hb1.mono hbW.size)
    have hO1 := hO.below hb1 hO.lt
    have hY1 := hY.below hb1 hY.lt
    have hZ1 := hZ.below hb1 hZ.lt
    have hK1 := hK.below hb1
    have hr1a := hr1W.below hb1
    have hr2a := hr2W.below hb1
    have hsW := hbW.size
    have hs1 := hb1.size
    have hZlt := hZ.lt
    obtain ⟨gN, hgN⟩ : ∃ g, g = W.heap.size := ⟨_, rfl⟩
    have hgNl : w1.heap.size ≤ gN := by
      rw [hgN]; exact hsw
    have hvN : (Value.slice Av k cv).ownBlock ≠ some gN := fun e => by
      obtain ⟨cs, hB'⟩ := own_kind hK.own gN e
      have := hB'.lt
      omega
    rw [← hgN] at hN ⊢
    clear hgN
    have hd : Below W1.heap.size W1 W1.drew := (Below.refl _ _).drew
    have hbu := hbW1.trans (hd.mono hbW1.size)
    have hOu := hO1.below hd hO1.lt
    have hYu := hY1.below hd hY1.lt
    have hZu := hZ1.below hd hZ1.lt
    have hNu := hN.below hd hN.lt
    have hKu := hK1.below hd
    have hr1u := hr1a.below hd
    have hr2u := hr2a.below hd
    have hsu : w1.heap.size ≤ W1.drew.heap.size := by have := hd.size; omega
    refine wp_mix (fun V => Blk V gN 39 #[.int .i64 x.kind, .int .i64 x.row, .int .i64 x.col, .slice A1 x.ch.length c1, .slice A2 x.cells.length c2]) 10 (by kernel_rfl) (by kernel_rfl) hNu ?_
    obtain ⟨u, hu⟩ : ∃ V, V = W1.drew := ⟨_, rfl⟩
    rw [← hu] at hd hbu hOu hYu hZu hNu hKu hr1u hr2u hsu ⊢
    clear hu hN hO1 hY1 hZ1 hK1 hr1a hr2a hK hO hY hZ hr1W hr2W
    (refine m_q 0 (v := ?_) (by kernel_rfl) rfl rfl (fun W hW => ?_) ?_; rotate_left; (have z0 := hW.cell 3; go_simp; first | done | with_reducible rfl); simp only [Act.put, List.setIfInBounds_toArray, List.set_cons_zero, List.set_cons_succ]); (refine m_q 1 (v := ?_) (by kernel_rfl) rfl rfl (fun W hW => ?_) ?_; rotate_left; (have z0 := hW.cell 3; go_simp; first | done | with_reducible rfl); simp only [Act.put, List.setIfInBounds_toArray, List.set_cons_zero, List.set_cons_succ])
    (refine m_q 3 (v := ?_) (by kernel_rfl) rfl rfl (fun W hW => ?_) ?_; rotate_left; (have z0 := hW.cell 4; go_simp; first | done | with_reducible rfl); simp only [Act.put, List.setIfInBounds_toArray, List.set_cons_zero, List.set_cons_succ]); (refine m_q 4 (v := ?_) (by kernel_rfl) rfl rfl (fun W hW => ?_) ?_; rotate_left; (have z0 := hW.cell 4; go_simp; first | done | with_reducible rfl); simp only [Act.put, List.setIfInBounds_toArray, List.set_cons_zero, List.set_cons_succ])
    refine m_s1 2 (by kernel_rfl) rfl ?_
    go_wp2_with fail
    refine (cloneI_any A1 x.ch.length c1 _ u hr1u (by simp) (int_one _) (by omega)).mono ?_
    rintro e u1 ⟨v11, rfl, ho11, hb⟩
    obtain ⟨A11, c11, rfl, -⟩ := own5 ho11
    have hfr := hKu.rows_lt
    have hn11 : ∀ g, (Value.slice A11 x.ch.length c11).ownBlock = some g → u.heap.size ≤ g := fun g hg => (ho11.lt g hg).1
    replace hbu := hbu.trans (hb.mono hbu.size); replace hOu := hOu.below hb hOu.lt; replace hYu := hYu.below hb hYu.lt; replace hZu := hZu.below hb hZu.lt; replace hNu := hNu.below hb hNu.lt; replace hKu := hKu.below hb; replace hr2u := hr2u.below hb
    replace ho11 := own_low ho11 hsu
    replace hsu := Nat.le_trans hsu hb.size
    have hu01 := hb.size
    go_wp2_with fail
    refine m_keep hNu ?_
    (refine m_q 6 (v := ?_) (by kernel_rfl) rfl rfl (fun W hW => ?_) ?_; rotate_left; (go_simp; first | done | with_reducible rfl); simp only [Act.put, List.setIfInBounds_toArray, List.set_cons_zero, List.set_cons_succ])
    refine m_s1 5 (by kernel_rfl) rfl ?_
    go_wp2_with fail
    refine (cloneP_any A2 x.cells.length c2 _ u1 hr2u (by rw [cellsP_len]; omega) (pair_one _) (by omega)).mono ?_
    rintro e u2 ⟨v14, rfl, ho14, hb⟩
    obtain ⟨A14, c14, rfl, -⟩ := own5 ho14
    have hn14 : ∀ g, (Value.slice A14 x.cells.length c14).ownBlock = some g → u.heap.size ≤ g := fun g hg => Nat.le_trans hu01 (ho14.lt g hg).1
    replace hbu := hbu.trans (hb.mono hbu.size); replace hOu := hOu.below hb hOu.lt; replace hYu := hYu.below hb hYu.lt; replace hZu := hZu.below hb hZu.lt; replace hNu := hNu.below hb hNu.lt; replace hKu := hKu.below hb; replace ho11 := own_below ho11 hb
    replace ho14 := own_low ho14 hsu
    replace hsu := Nat.le_trans hsu hb.size
    go_wp2_with fail
    refine m_keep hNu ?_
    have z0 := hNu.cell 3
    have f0 := hNu.frozen 3
    have l0 := hNu.lt
    have hgNZ : gN ≠ g1 + 1 + 1 + 1 := by omega
    refine m_s1 7 (by kernel_rfl) rfl ?_
    go_wp2_with fail
    refine m_clear (by kernel_rfl) ?_
    clear z0 f0 l0
    obtain ⟨u3, hu3⟩ : ∃ V, V = u2.setCell ⟨gN, 3, none⟩ (.slice A11 x.ch.length c11) := ⟨_, rfl⟩
    have hK3 := hKu.var (p := ⟨gN, 3, none⟩) hNu hvN (.slice A11 x.ch.length c11)
    have hb3 := hbu.setCell (p := ⟨gN, 3, none⟩) (by show w.heap.size ≤ gN; omega) (.slice A11 x.ch.length c11)
    have hO3 := hOu.far (p := ⟨gN, 3, none⟩) (by show g1 ≠ gN; omega) (.slice A11 x.ch.length c11)
    have hY3 := hYu.far (p := ⟨gN, 3, none⟩) (by show g1 + 1 + 1 ≠ gN; omega) (.slice A11 x.ch.length c11)
    have hZ3 := hZu.far (p := ⟨gN, 3, none⟩) (by show g1 + 1 + 1 + 1 ≠ gN; omega) (.slice A11 x.ch.length c11)
    have ho11' := ownsRow_setCell_other ho11 (a := ⟨gN, 3, none⟩) (fun e => own_ne ho11 hNu (by decide) e.symm) (.slice A11 x.ch.length c11)
    have ho14' := ownsRow_setCell_other ho14 (a := ⟨gN, 3, none⟩) (fun e => own_ne ho14 hNu (by decide) e.symm) (.slice A11 x.ch.length c11)
    have hN3 := hNu.set_ 3 (.slice A11 x.ch.length c11)
    have hs3 : w1.heap.size ≤ (u2.setCell ⟨gN, 3, none⟩ (.slice A11 x.ch.length c11)).heap.size := by simpa using hsu
    rw [← hu3] at hK3 hb3 hO3 hY3 hZ3 ho11' ho14' hN3 hs3 ⊢
    clear hu3 hKu hbu hOu hYu hZu ho11 ho14 hNu hsu hr2u hr1u
    (refine m_q 8 (v := ?_) (by kernel_rfl) rfl rfl (fun W hW => ?_) ?_; rotate_left; (go_simp; first | done | with_reducible rfl); simp only [Act.put, List.setIfInBounds_toArray, List.set_cons_zero, List.set_cons_succ])
    have z0 := hN3.cell 4
    have f0 := hN3.frozen 4
    have l0 := hN3.lt
    refine m_s1 9 (by kernel_rfl) rfl ?_
    go_wp2_with fail
    refine m_clear (by kernel_rfl) ?_
    refine m_end (by kernel_rfl) ?_
    clear z0 f0 l0
    obtain ⟨u4, hu4⟩ : ∃ V, V = u3.setCell ⟨gN, 4, none⟩ (.slice A14 x.cells.length c14) := ⟨_, rfl⟩
    have hK4 := hK3.var (p := ⟨gN, 4, none⟩) hN3 hvN (.slice A14 x.cells.length c14)
    have hb4 := hb3.setCell (p := ⟨gN, 4, none⟩) (by show w.heap.size ≤ gN; omega) (.slice A14 x.cells.length c14)
    have hO4 := hO3.far (p := ⟨gN, 4, none⟩) (by show g1 ≠ gN; omega) (.slice A14 x.cells.length c14)
    have hY4 := hY3.far (p := ⟨gN, 4, none⟩) (by show g1 + 1 + 1 ≠ gN; omega) (.slice A14 x.cells.length c14)
    have hZ4 := hZ3.far (p := ⟨gN, 4, none⟩) (by show g1 + 1 + 1 + 1 ≠ gN; omega) (.slice A14 x.cells.length c14)
    have ho11 := ownsRow_setCell_other ho11' (a := ⟨gN, 4, none⟩) (fun e => own_ne ho11' hN3 (by decide) e.symm) (.slice A14 x.cells.length c14)
    have ho14 := ownsRow_setCell_other ho14' (a := ⟨gN, 4, none⟩) (fun e => own_ne ho14' hN3 (by decide) e.symm) (.slice A14 x.cells.length c14)
    have hN4 := hN3.set_ 4 (.slice A14 x.cells.length c14)
    have hs4 : w1.heap.size ≤ (u3.setCell ⟨gN, 4, none⟩ (.slice A14 x.cells.length c14)).heap.size := by simpa using hs3
    rw [← hu4] at hK4 hb4 hO4 hY4 hZ4 ho11 ho14 hN4 hs4 ⊢
    clear hu4 hK3 hb3 hO3 hY3 hZ3 ho11' ho14' hN3 hs3
    have hne4 : ∀ g, chB [.int .i64 x.kind, .int .i64 x.row, .int .i64 x.col, .slice A11 x.ch.length c11, .slice A14 x.cells.length c14] = some g → ∀ (k : Nat) a, vss[k]? = some a → chB a ≠ some g := fun g hg k a ha e => by
      have := (hfr k a ha g).1 e
      have := hn11 g hg
      omega
    have hne5 : ∀ g, ceB [.int .i64 x.kind, .int .i64 x.row, .int .i64 x.col, .slice A11 x.ch.length c11, .slice A14 x.cells.length c14] = some g → ∀ (k : Nat) a, vss[k]? = some a → ceB a ≠ some g := fun g hg k a ha e => by
      have := (hfr k a ha g).2 e
      have := hn14 g hg
      omega
    have HC4 := Lib.hid hne4; have HC5 := Lib.hid (dist_app hD hne5)
    clear hne4 hne5 hfr hn11 hn14 hD
    have m0 := hN4.cell 0; have m1 := hN4.cell 1; have m2 := hN4.cell 2; have m3 := hN4.cell 3; have m4 := hN4.cell 4
    have z1 := hZ4.cell 1
    have f1 := hZ4.frozen 1
    have l1 := hZ4.lt
    clear hN4
    have hal : Below u4.heap.size u4 (u4.alloc (.cells #[.int .i64 x.kind, .int .i64 x.row, .int .i64 x.col, .slice A11 x.ch.length c11, .slice A14 x.cells.length c14] 39)) := (Below.refl _ _).alloc (Nat.le_refl _) _
    have hown := own_below hK4.own hal
    have HNW := hideC (World.news_of_block (Blk.new u4 39 #[.int .i64 x.kind, .int .i64 x.row, .int .i64 x.col, .slice A11 x.ch.length c11, .slice A14 x.cells.length c14]))
    have hK5 := hK4.below hal
    have ho11a := own_below ho11 hal
    have ho14a := own_below ho14 hal
    have hOa := hO4.below hal hO4.lt
    have hYa := hY4.below hal hY4.lt
    have hZa := hZ4.below hal hZ4.lt
    have hba := hb4.trans (hal.mono hb4.size)
    have hsa := Nat.le_trans hs4 hal.size
    rw [HKL.out] at hown
    go_wp2_with (at_builtin; refine wpList_append_own _ rfl _ _ 31 rfl w1.heap.size 39 i0 (.agg #[.int .i64 0, .int .i64 0, .int .i64 0, .slice none 0 0, .slice none 0 0]) 5 72 Tryd.underlying31 hi0 hz0 hz1 hz2 rfl (by decide) _ _ _ rfl hown ⟨u4.heap.size, 0, none⟩ 1 1 [.int .i64 x.kind, .int .i64 x.row, .int .i64 x.col, .slice A11 x.ch.length c11, .slice A14 x.cells.length c14] rfl rfl HNW.out (by simp [Value.oneCell']) (by unfold maxLen; omega) (by omega) (by first | omega | (simp; omega)) ?_)
    intro v17 u6 hown' hgrow _
    have hK6 : ON u6 w1.heap.size v17 (P.take k ++ [x]) (vss ++ [[.int .i64 x.kind, .int .i64 x.row, .int .i64 x.col, .slice A11 x.ch.length c11, .slice A14 x.cells.length c14]]) := hK5.app2 ⟨_, _, rfl, ho11a, ho14a⟩ HC4.out hgrow (by rw [HKL.out]; exact hown')
    have hb6 := hba.grown hgrow hba.size (fun p hp => Nat.le_trans hw1 (hown.lt p hp).1)
    have hO6 : Blk u6 g1 35 #[.int .u8 kd, .int .u8 nd, .int .u8 a, .int .u8 b] := (hgrow.block _ hOa.lt (own_ne hown hOa (by decide))).trans hOa
    have hY6 : Blk u6 (g1 + 1 + 1) 33 #[.int .i64 0, .slice none 0 0] := (hgrow.block _ hYa.lt (own_ne hown hYa (by decide))).trans hYa
    have hZ6 : Blk u6 (g1 + 1 + 1 + 1) 33 #[.int .i64 size, .slice Av k cv] := (hgrow.block _ hZa.lt (own_ne hown hZa (by decide))).trans hZa
    have hs6 : w1.heap.size ≤ u6.heap.size := Nat.le_trans hsa hgrow.size
    obtain ⟨A17, c17, rfl, -⟩ := own5 hK6.own
    clear hK4 hK5 hown hown' hgrow hOa hYa hZa hO4 hY4 hZ4 ho11 ho14 ho11a ho14a HNW HC4 m0 m1 m2 m3 m4 z1 f1 l1 hal hba hsa hb4
    have z1 := hZ6.cell 1
    have f1 := hZ6.frozen 1
    have l1 := hZ6.lt
    go_wp2_with fail
    clear z1 f1 l1
    have hK7 := hK6.far (p := ⟨g1 + 1 + 1 + 1, 1, none⟩) hZ6 (by decide) (by decide) (by decide) (.slice A17 (P.take k ++ [x]).length c17)
    have hZ7 := hZ6.set_ 1 (.slice A17 (P.take k ++ [x]).length c17)
    have hY7 := hY6.far (p := ⟨g1 + 1 + 1 + 1, 1, none⟩) (by show g1 + 1 + 1 ≠ g1 + 1 + 1 + 1; omega) (.slice A17 (P.take k ++ [x]).length c17)
    have hO7 := hO6.far (p := ⟨g1 + 1 + 1 + 1, 1, none⟩) (by show g1 ≠ g1 + 1 + 1 + 1; omega) (.slice A17 (P.take k ++ [x]).length c17)
    have hb7 := hb6.setCell (p := ⟨g1 + 1 + 1 + 1, 1, none⟩) (by show w.heap.size ≤ g1 + 1 + 1 + 1; omega) (.slice A17 (P.take k ++ [x]).length c17)
    rw [← HTK.out] at hK7 hZ7 hY7 hO7 hb7 ⊢
    have hkl1 : (P.take (k + 1)).length = k + 1 := by rw [List.length_take]; omega
    rw [hkl1] at hK7 hZ7 hY7 hO7 hb7 ⊢
    exact ⟨(k + 1, .slice A17 (k + 1) c17), by first | rfl | trivial, ⟨by show k + 1 ≤ P.length; omega, by first | rfl | trivial, hb7, hO7, hY7, hZ7, by simpa using hs6, _, hK7, HC5.out⟩, by show P.length - (k + 1) < P.length - k; omega⟩
  · obtain rfl : k = P.length := by omega
    rw [List.take_length] at hK
    clear hlt hk hR hc hA
    by_cases h0 : P.length = 0
    · obtain rfl : P = [] := List.eq_nil_of_length_eq_zero h0
      obtain ⟨Av, cv, rfl, hcv, hnv, hNT⟩ := hK.nt
      clear h0
      have z0 := hZ.cell 0
      have z1 := hZ.cell 1
      have y0 := hY.cell 0
      have y1 := hY.cell 1
      have f0 := hY.frozen 0
      have f1 := hY.frozen 1
      have lY := hY.lt
      go_wp2_with fail
      have hYs := (hY.set_ 0 (.int .i64 size)).set_ 1 (.slice Av 0 cv)
      have c0 := hYs.cell 0
      have c1 := hYs.cell 1
      exact bodyPost_ret (v := .agg #[.int .i64 size, .slice Av 0 cv]) (by simp [results, Tryd.results16, go_sem, c0, c1]) rfl ⟨_, size, [], rfl, nt_PRf hNT hY rfl hcv hnv, fun y h => by simp at h, Nat.zero_le _, by omega, by omega, (hbW.setCell (p := ⟨g1 + 1 + 1, 0, none⟩) (by show w.heap.size ≤ g1 + 1 + 1; omega) _).setCell (p := ⟨g1 + 1 + 1, 1, none⟩) (by show w.heap.size ≤ g1 + 1 + 1; omega) _⟩
    · obtain ⟨n, hn⟩ : ∃ n, n = nd % P.length := ⟨_, rfl⟩
      have hnl : n < P.length := by rw [hn]; exact Nat.mod_lt _ (by omega)
      have en : Int.tmod (IntKind.i64.wrap (nd : Int)) (P.length : Int) = (n : Int) := by rw [i64w ⟨by omega, by omega⟩, hn]; rfl
      have en0 : (0 : Int) ≤ (n : Int) := Int.natCast_nonneg _
      have en1 : (n : Int) < (P.length : Int) := by exact_mod_cast hnl
      obtain ⟨x, hx⟩ : ∃ x, P[n]? = some x := ⟨_, List.getElem?_eq_getElem hnl⟩
      obtain ⟨gP, cap, v3, v4, hv, h1, h3, h4, hcell, ⟨csP, hBP⟩, hbg, hcap⟩ := hK.cells hx
      subst hv
      have z1 := hZ.cell 1
      have hpos : 0 < P.length := by omega
      clear hn
      go_upto_region 11 with fail
      clear z1
      have hd : Below W.heap.size W W.drew := (Below.refl _ _).drew
      have hbu := hbW.trans (hd.mono hbW.size)
      have hOu := hO.below hd hO.lt
      have hYu := hY.below hd hY.lt
      have hZu := hZ.below hd hZ.lt
      have hKu := hK.below hd
      have h3u := own_below h3 hd
      have h4u := own_below h4 hd
      have hBu := hBP.below hd hBP.lt
      have hsu : w1.heap.size ≤ W.drew.heap.size := Nat.le_trans hsw hd.size
      refine wp_mix (fun V => Blk V (g1 + 1 + 1 + 1) 33 #[.int .i64 size, .slice (some ⟨gP, 0, none⟩) P.length cap] ∧ Blk V g1 35 #[.int .u8 kd, .int .u8 nd, .int .u8 a, .int .u8 b]) 9 (by kernel_rfl) (by kernel_rfl) ⟨hZu, hOu⟩ ?_
      obtain ⟨u, hu⟩ : ∃ V, V = W.drew := ⟨_, rfl⟩
      rw [← hu] at hd hbu hOu hYu hZu hKu h3u h4u hBu hsu ⊢
      clear hu hK hO hY hZ h3 h4 hcell hBP
      (refine m_q 0 (v := ?_) (by kernel_rfl) rfl rfl (fun W hW => ?_) ?_; rotate_left; (have z0 := hW.1.cell 1; go_simp; first | done | with_reducible rfl); simp only [Act.put, List.setIfInBounds_toArray, List.set_cons_zero, List.set_cons_succ]); (refine m_q 1 (v := ?_) (by kernel_rfl) rfl rfl (fun W hW => ?_) ?_; rotate_left; (have z0 := hW.1.cell 1; go_simp; first | done | with_reducible rfl); simp only [Act.put, List.setIfInBounds_toArray, List.set_cons_zero, List.set_cons_succ])
      (refine m_q 2 (v := ?_) (by kernel_rfl) rfl rfl (fun W hW => ?_) ?_; rotate_left; (have z0 := hW.2.cell 1; go_simp; first | done | with_reducible rfl); simp only [Act.put, List.setIfInBounds_toArray, List.set_cons_zero, List.set_cons_succ]); (refine m_q 3 (v := ?_) (by kernel_rfl) rfl rfl (fun W hW => ?_) ?_; rotate_left; (have z0 := hW.2.cell 1; go_simp; first | done | with_reducible rfl); simp only [Act.put, List.setIfInBounds_toArray, List.set_cons_zero, List.set_cons_succ])
      (refine m_q 4 (v := ?_) (by kernel_rfl) rfl rfl (fun W hW => ?_) ?_; rotate_left; (go_simp; first | done | with_reducible rfl); simp only [Act.put, List.setIfInBounds_toArray, List.set_cons_zero, List.set_cons_succ])
      (refine m_q 5 (v := ?_) (by kernel_rfl) rfl rfl (fun W hW => ?_) ?_; rotate_left; (go_simp; first | done | with_reducible rfl); simp only [Act.put, List.setIfInBounds_toArray, List.set_cons_zero, List.set_cons_succ]); (refine m_q 6 (v := ?_) (by kernel_rfl) rfl rfl (fun W hW => ?_) ?_; rotate_left; (go_simp; first | done | with_reducible rfl); simp only [Act.put, List.setIfInBounds_toArray, List.set_cons_zero, List.set_cons_succ])
      (refine m_q 7 (v := ?_) (by kernel_rfl) rfl rfl (fun W hW => ?_) ?_; rotate_left; (go_simp; first | done | with_reducible rfl); simp only [Act.put, List.setIfInBounds_toArray, List.set_cons_zero, List.set_cons_succ])
      (refine m_q 8 (v := ?_) (by kernel_rfl) rfl rfl (fun W hW => ?_) ?_; rotate_left; (go_simp; first | done | with_reducible rfl); simp only [Act.put, List.setIfInBounds_toArray, List.set_cons_zero, List.set_cons_succ])
      refine m_end (by kernel_rfl) ?_
      go_upto_region 12 with fail
      refine wp_frame (fun g => #[g 0, g 1, .pointer (some ⟨g1, 0, none⟩), g 3, .pointer (some ⟨g1 + 1 + 1, 0, none⟩), .pointer (some ⟨g1 + 1 + 1 + 1, 0, none⟩), g 6, g 7, .int .i64 (P.length : Int), .pointer (some ⟨gP, n * 5, none⟩), g 10, g 11, g 12, g 13, g 14, g 15, g 16, g 17, g 18, g 19, g 20, g 21, g 22, g 23, g 24, g 25, g 26, g 27, g 28, g 29, g 30, g 31, g 32, g 33, g 34, g 35, g 36, g 37, g 38, g 39, g 40, g 41, g 42, g 43, g 44, g 45, g 46, g 47, g 48, g 49, g 50, g 51, g 52, g 53, g 54, g 55, g 56, g 57, g 58, g 59, g 60, g 61, g 62, g 63, g 64, g 65, g 66, g 67, g 68, g 69, g 70, g 71, g 72, g 73, g 74, g 75, g 76, g 77, g 78, g 79, g 80, g 81, g 82, g 83, g 84, g 85, g 86, g 87, g 88, g 89, g 90, g 91, g 92, g 93, g 94, g 95, g 96, g 97, g 98, g 99, g 100, g 101, g 102, g 103, g 104, g 105, g 106, g 107, g 108, g 109, g 110, g 111, g 112, g 113, g 114, g 115, g 116, g 117, g 118, g 119, g 120, g 121, g 122, g 123, g 124, g 125, g 126, g 127, g 128, g 129, g 130, g 131, g 132, g 133, g 134, g 135, g 136, g 137, g 138, g 139, g 140, g 141, g 142, g 143, g 144, g 145, g 146, g 147, g 148, g 149, g 150, g 151, g 152, g 153, g 154, g 155, g 156, g 157, g 158, g 159, g 160, g 161, g 162, g 163, g 164, g 165, g 166, g 167, g 168, g 169, g 170, g 171, g 172, g 173, g 174, g 175, g 176, g 177, g 178, g 179, g 180, g 181, g 182, g 183, g 184, g 185, g 186, g 187, g 188]) rfl fun g => ?_
      dsimp only
      clear f en en0 en1 hd
      have z0 := hOu.cell 0
      have z2 := hOu.cell 2
      have z3 := hOu.cell 3
      have hlP := hBu.lt
      have hxk := (hPB x (List.mem_of_getElem? hx))
      obtain ⟨m, hm10, hm⟩ : ∃ m : Nat, m < 10 ∧ Int.tmod (kd : Int) 10 = (m : Int) := ⟨kd % 10, Nat.mod_lt _ (by omega), rfl⟩
      by_cases e1 : m = 1
      · subst e1
        have q0 := hKu.at (r := 0) hnl h1 (by omega) rfl
        have q1 := hBu.frozen (n * 5)
        rw [Nat.add_zero] at q0
        go_upto_region 33 with fail
        have hK2 := hKu.num (r := 0) (u := .int .i64 ((a : Int) % 5)) (x' := { x with kind := (a : Int) % 5 }) hx h1 (by omega) rfl rfl rfl
        rw [Nat.add_zero] at hK2
        obtain ⟨_, _, e9, _, _, hNT⟩ := hK2.nt
        rw [List.length_set] at e9
        cases e9
        clear q0 q1
        have hNT := hNT
        have hZe := hZu.far (p := ⟨gP, n * 5, none⟩) (by show g1 + 1 + 1 + 1 ≠ gP; omega) (.int .i64 ((a : Int) % 5))
        have hYe := hYu.far (p := ⟨gP, n * 5, none⟩) (by show g1 + 1 + 1 ≠ gP; omega) (.int .i64 ((a : Int) % 5))
        have hbe := hbu.setCell (p := ⟨gP, n * 5, none⟩) (by show w.heap.size ≤ gP; omega) (.int .i64 ((a : Int) % 5))
        have z0e := hZe.cell 0
        have z1e := hZe.cell 1
        have y0e := hYe.cell 0
        have y1e := hYe.cell 1
        have f0e := hYe.frozen 0
        have f1e := hYe.frozen 1
        have lYe := hYe.lt
        go_wp2_with fail
        have hYs := (hYe.set_ 0 (.int .i64 (size))).set_ 1 (.slice (some ⟨gP, 0, none⟩) (P.length) cap)
        have c0e := hYs.cell 0
        have c1e := hYs.cell 1
        refine bodyPost_ret (v := .agg #[.int .i64 (size), .slice (some ⟨gP, 0, none⟩) (P.length) cap]) (by simp [results, Tryd.results16, go_sem, c0e, c1e]) rfl ?_
        have hfin := nt_PRf (u0 := .int .i64 (size)) (u1 := .slice (some ⟨gP, 0, none⟩) (P.length) cap) (size := size) (n := P.length) (c := cap) hNT hYe (by rw [List.length_set]) hcap (fun e => by cases e)
        have hbf := (hbe.setCell (p := ⟨g1 + 1 + 1, 0, none⟩) (by show w.heap.size ≤ g1 + 1 + 1; omega) (.int .i64 (size))).setCell (p := ⟨g1 + 1 + 1, 1, none⟩) (by show w.heap.size ≤ g1 + 1 + 1; omega) (.slice (some ⟨gP, 0, none⟩) (P.length) cap)
        have hnd : ∀ y ∈ P.set n ({ x with kind := (a : Int) % 5 }), NdB (B + 1) y := nd_set hPB (by obtain ⟨k1, k2, k3, k4⟩ := hxk; exact ⟨by show x.ch.length ≤ B + 1; omega, by show x.cells.length ≤ B + 1; omega, by show 0 ≤ (a : Int) % 5; omega, by show (a : Int) % 5 ≤ 255; omega⟩)
        have hln : (P.set n ({ x with kind := (a : Int) % 5 })).length ≤ P.length + 1 := by rw [List.length_set]; omega
        first | exact ⟨_, rfl, size, P.set n ({ x with kind := (a : Int) % 5 }), hfin, hnd, hln, by omega, by omega, hbf⟩ | exact ⟨_, size, P.set n ({ x with kind := (a : Int) % 5 }), rfl, hfin, hnd, hln, by omega, by omega, hbf⟩
      by_cases e1 : m = 7
      · subst e1
        have q0 := hZu.cell 0
        have q1 := hZu.frozen 0
        have q2 := hZu.lt
        have es : wrap64 ((a : Int) % 5 - 2) = (a : Int) % 5 - 2 := IntWalk.wrap64_in _ ⟨by omega, by omega⟩
        have es2 : wrap64 (size + ((a : Int) % 5 - 2)) = size + ((a : Int) % 5 - 2) := IntWalk.wrap64_in _ ⟨by omega, by omega⟩
        go_upto_region 33 with fail
        clear q0 q1 q2
        obtain ⟨_, _, e9, _, _, hNT0⟩ := hKu.nt
        cases e9
        have hNT := hNT0.far (p := ⟨g1 + 1 + 1 + 1, 0, none⟩) hZu (by decide) (by decide) (by decide) (.int .i64 (size + ((a : Int) % 5 - 2)))
        have hZe := hZu.set_ 0 (.int .i64 (size + ((a : Int) % 5 - 2)))
        have hYe := hYu.far (p := ⟨g1 + 1 + 1 + 1, 0, none⟩) (by show g1 + 1 + 1 ≠ g1 + 1 + 1 + 1; omega) (.int .i64 (size + ((a : Int) % 5 - 2)))
        have hbe := hbu.setCell (p := ⟨g1 + 1 + 1 + 1, 0, none⟩) (by show w.heap.size ≤ g1 + 1 + 1 + 1; omega) (.int .i64 (size + ((a : Int) % 5 - 2)))
        have z0e := hZe.cell 0
        have z1e := hZe.cell 1
        have y0e := hYe.cell 0
        have y1e := hYe.cell 1
        have f0e := hYe.frozen 0
        have f1e := hYe.frozen 1
        have lYe := hYe.lt
        go_wp2_with fail
        have hYs := (hYe.set_ 0 (.int .i64 (size + ((a : Int) % 5 - 2)))).set_ 1 (.slice (some ⟨gP, 0, none⟩) (P.length) cap)
        have c0e := hYs.cell 0
        have c1e := hYs.cell 1
        refine bodyPost_ret (v := .agg #[.int .i64 (size + ((a : Int) % 5 - 2)), .slice (some ⟨gP, 0, none⟩) (P.length) cap]) (by simp [results, Tryd.results16, go_sem, c0e, c1e]) rfl ?_
        have hfin := nt_PRf (u0 := .int .i64 (size + ((a : Int) % 5 - 2))) (u1 := .slice (some ⟨gP, 0, none⟩) (P.length) cap) (size := size + ((a : Int) % 5 - 2)) (n := P.length) (c := cap) hNT hYe rfl hcap (fun e => by cases e)
        have hbf := (hbe.setCell (p := ⟨g1 + 1 + 1, 0, none⟩) (by show w.heap.size ≤ g1 + 1 + 1; omega) (.int .i64 (size + ((a : Int) % 5 - 2)))).setCell (p := ⟨g1 + 1 + 1, 1, none⟩) (by show w.heap.size ≤ g1 + 1 + 1; omega) (.slice (some ⟨gP, 0, none⟩) (P.length) cap)
        have hnd : ∀ y ∈ P, NdB (B + 1) y := fun y hy => (hPB y hy).mono (by omega)
        have hln : (P).length ≤ P.length + 1 := by omega
        first | exact ⟨_, rfl, size + ((a : Int) % 5 - 2), P, hfin, hnd, hln, by omega, by omega, hbf⟩ | exact ⟨_, size + ((a : Int) % 5 - 2), P, rfl, hfin, hnd, hln, by omega, by omega, hbf⟩
      by_cases e1 : m = 9
      · subst e1
        have q0 := hZu.cell 1
        have q1 := hZu.frozen 1
        have q2 := hZu.lt
        have es : wrap64 ((P.length : Int) - 1) = ((P.length - 1 : Nat) : Int) := by rw [IntWalk.wrap64_in _ ⟨by omega, by omega⟩]; omega
        go_upto_region 33 with fail
        clear q0 q1 q2
        obtain ⟨_, _, e9, _, _, hNT0⟩ := hKu.nt
        cases e9
        have hNT := (hNT0.take (P.length - 1)).far (p := ⟨g1 + 1 + 1 + 1, 1, none⟩) hZu (by decide) (by decide) (by decide) (.slice (some ⟨gP, 0, none⟩) (P.length - 1) cap)
        have hZe := hZu.set_ 1 (.slice (some ⟨gP, 0, none⟩) (P.length - 1) cap)
        have hYe := hYu.far (p := ⟨g1 + 1 + 1 + 1, 1, none⟩) (by show g1 + 1 + 1 ≠ g1 + 1 + 1 + 1; omega) (.slice (some ⟨gP, 0, none⟩) (P.length - 1) cap)
        have hbe := hbu.setCell (p := ⟨g1 + 1 + 1 + 1, 1, none⟩) (by show w.heap.size ≤ g1 + 1 + 1 + 1; omega) (.slice (some ⟨gP, 0, none⟩) (P.length - 1) cap)
        have z0e := hZe.cell 0
        have z1e := hZe.cell 1
        have y0e := hYe.cell 0
        have y1e := hYe.cell 1
        have f0e := hYe.frozen 0
        have f1e := hYe.frozen 1
        have lYe := hYe.lt
        go_wp2_with fail
        have hYs := (hYe.set_ 0 (.int .i64 (size))).set_ 1 (.slice (some ⟨gP, 0, none⟩) (P.length - 1) cap)
        have c0e := hYs.cell 0
        have c1e := hYs.cell 1
        refine bodyPost_ret (v := .agg #[.int .i64 (size), .slice (some ⟨gP, 0, none⟩) (P.length - 1) cap]) (by simp [results, Tryd.results16, go_sem, c0e, c1e]) rfl ?_
        have hfin := nt_PRf (u0 := .int .i64 (size)) (u1 := .slice (some ⟨gP, 0, none⟩) (P.length - 1) cap) (size := size) (n := P.length - 1) (c := cap) hNT hYe (by rw [List.length_take]; omega) (by omega) (fun e => by cases e)
        have hbf := (hbe.setCell (p := ⟨g1 + 1 + 1, 0, none⟩) (by show w.heap.size ≤ g1 + 1 + 1; omega) (.int .i64 (size))).setCell (p := ⟨g1 + 1 + 1, 1, none⟩) (by show w.heap.size ≤ g1 + 1 + 1; omega) (.slice (some ⟨gP, 0, none⟩) (P.length - 1) cap)
        have hnd : ∀ y ∈ P.take (P.length - 1), NdB (B + 1) y := fun y hy => (hPB y (List.mem_of_mem_take hy)).mono (by omega)
        have hln : (P.take (P.length - 1)).length ≤ P.length + 1 := by rw [List.length_take]; omega
        first | exact ⟨_, rfl, size, P.take (P.length - 1), hfin, hnd, hln, by omega, by omega, hbf⟩ | exact ⟨_, size, P.take (P.length - 1), rfl, hfin, hnd, hln, by omega, by omega, hbf⟩
      by_cases e1 : m = 8
      · subst e1
        have hWB := below_two u (.cells #[.int .i64 ((b : Int) % 3), .int .i64 ((a : Int) % 3)] 40) (.cells #[.int .i64 ((a : Int) % 4), .int .i64 0, .int .i64 0, .slice none 0 0, .slice (some ⟨u.heap.size, 0, none⟩) 1 1] 39)
        have hbn := blk_two u (.cells #[.int .i64 ((b : Int) % 3), .int .i64 ((a : Int) % 3)] 40) #[.int .i64 ((a : Int) % 4), .int .i64 0, .int .i64 0, .slice none 0 0, .slice (some ⟨u.heap.size, 0, none⟩) 1 1] 39
        have hbp : Blk ((u.alloc (.cells #[.int .i64 ((b : Int) % 3), .int .i64 ((a : Int) % 3)] 40)).alloc (.cells #[.int .i64 ((a : Int) % 4), .int .i64 0, .int .i64 0, .slice none 0 0, .slice (some ⟨u.heap.size, 0, none⟩) 1 1] 39)) u.heap.size 40 #[.int .i64 ((b : Int) % 3), .int .i64 ((a : Int) % 3)] :=
          (Blk.new u _ _).below ((Below.refl _ _).alloc (Nat.le_refl _) _) (Blk.new u _ _).lt
        have hown := own_below hKu.own hWB
        have HNW := hideC (World.news_of_block hbn)
        have HBN := Lib.hid hbp
        clear hbn hbp
        have zz := hZu.cell 1
        go_wp2_with (at_builtin; refine wpList_append_own _ rfl _ _ 31 rfl w1.heap.size 39 i0 (.agg #[.int .i64 0, .int .i64 0, .int .i64 0, .slice none 0 0, .slice none 0 0]) 5 72 Tryd.underlying31 hi0 hz0 hz1 hz2 rfl (by decide) _ _ _ rfl hown ⟨u.heap.size + 1, 0, none⟩ 1 1 [.int .i64 ((a : Int) % 4), .int .i64 0, .int .i64 0, .slice none 0 0, .slice (some ⟨u.heap.size, 0, none⟩) 1 1] rfl rfl HNW.out (by simp [Value.oneCell']) (by unfold maxLen; omega) (by omega) (by first | omega | (simp; omega)) ?_)
        intro v17 u6 hown' hgrow _
        have hK6 := (hKu.below hWB).app (x := ⟨(a : Int) % 4, 0, 0, [], [((b : Int) % 3, (a : Int) % 3)]⟩) ⟨_, _, rfl, World.ownsRow_nil _ _ _ _, own_pair HBN.out (by omega)⟩ rfl hgrow hown'
        have hZa := hZu.below hWB hZu.lt
        have hYa := hYu.below hWB hYu.lt
        have hb6 := (hbu.trans (hWB.mono hbu.size)).grown hgrow (hbu.trans (hWB.mono hbu.size)).size (fun p hp => Nat.le_trans hw1 (hown.lt p hp).1)
        have hY6 : Blk u6 (g1 + 1 + 1) 33 #[.int .i64 0, .slice none 0 0] := (hgrow.block _ hYa.lt (own_ne hown hYa (by decide))).trans hYa
        have hZ6 : Blk u6 (g1 + 1 + 1 + 1) 33 #[.int .i64 size, .slice (some ⟨gP, 0, none⟩) P.length cap] := (hgrow.block _ hZa.lt (own_ne hown hZa (by decide))).trans hZa
        obtain ⟨A17, c17, rfl, hc17, hn17, hNT0⟩ := hK6.nt
        have hPl1 : (P ++ [(⟨(a : Int) % 4, 0, 0, [], [((b : Int) % 3, (a : Int) % 3)]⟩ : Nd)]).length = P.length + 1 := by simp
        rw [hPl1] at hc17 hn17 ⊢
        have HPL := Lib.hid hPl1
        clear hPl1 zz hK6 hown hown' hgrow hZa hYa HNW HBN hWB
        have q0 := hZ6.cell 1
        have q1 := hZ6.frozen 1
        have q2 := hZ6.lt
        go_upto_region 33 with fail
        clear q0 q1 q2
        have hNT := hNT0.far (p := ⟨g1 + 1 + 1 + 1, 1, none⟩) hZ6 (by decide) (by decide) (by decide) (.slice A17 (P.length + 1) c17)
        have hZe := hZ6.set_ 1 (.slice A17 (P.length + 1) c17)
        have hYe := hY6.far (p := ⟨g1 + 1 + 1 + 1, 1, none⟩) (by show g1 + 1 + 1 ≠ g1 + 1 + 1 + 1; omega) (.slice A17 (P.length + 1) c17)
        have hbe := hb6.setCell (p := ⟨g1 + 1 + 1 + 1, 1, none⟩) (by show w.heap.size ≤ g1 + 1 + 1 + 1; omega) (.slice A17 (P.length + 1) c17)
        have z0e := hZe.cell 0
        have z1e := hZe.cell 1
        have y0e := hYe.cell 0
        have y1e := hYe.cell 1
        have f0e := hYe.frozen 0
        have f1e := hYe.frozen 1
        have lYe := hYe.lt
        go_wp2_with fail
        have hYs := (hYe.set_ 0 (.int .i64 (size))).set_ 1 (.slice (A17) (P.length + 1) c17)
        have c0e := hYs.cell 0
        have c1e := hYs.cell 1
        refine bodyPost_ret (v := .agg #[.int .i64 (size), .slice (A17) (P.length + 1) c17]) (by simp [results, Tryd.results16, go_sem, c0e, c1e]) rfl ?_
        have hfin := nt_PRf (u0 := .int .i64 (size)) (u1 := .slice (A17) (P.length + 1) c17) (size := size) (n := P.length + 1) (c := c17) hNT hYe HPL.out hc17 hn17
        have hbf := (hbe.setCell (p := ⟨g1 + 1 + 1, 0, none⟩) (by show w.heap.size ≤ g1 + 1 + 1; omega) (.int .i64 (size))).setCell (p := ⟨g1 + 1 + 1, 1, none⟩) (by show w.heap.size ≤ g1 + 1 + 1; omega) (.slice (A17) (P.length + 1) c17)
        have hnd : ∀ y ∈ (P ++ [(⟨(a : Int) % 4, 0, 0, [], [((b : Int) % 3, (a : Int) % 3)]⟩ : Nd)]), NdB (B + 1) y := nd_app hPB (by exact ⟨Nat.zero_le _, by show 1 ≤ B + 1; omega, by show 0 ≤ (a : Int) % 4; omega, by show (a : Int) % 4 ≤ 255; omega⟩)
        have hln : ((P ++ [(⟨(a : Int) % 4, 0, 0, [], [((b : Int) % 3, (a : Int) % 3)]⟩ : Nd)])).length ≤ P.length + 1 := by rw [HPL.out]; omega
        first | exact ⟨_, rfl, size, (P ++ [(⟨(a : Int) % 4, 0, 0, [], [((b : Int) % 3, (a : Int) % 3)]⟩ : Nd)]), hfin, hnd, hln, by omega, by omega, hbf⟩ | exact ⟨_, size, (P ++ [(⟨(a : Int) % 4, 0, 0, [], [((b : Int) % 3, (a : Int) % 3)]⟩ : Nd)]), rfl, hfin, hnd, hln, by omega, by omega, hbf⟩
      by_cases e1 : m = 4
      · subst e1
        have q0 := hKu.at (r := 3) hnl h1 (by omega) rfl
        have q1 := hBu.frozen (n * 5 + 3)
        obtain ⟨A3, c3, rfl, hR3⟩ := RowT.of_own h3u
        obtain ⟨A4, c4, rfl, hR4⟩ := RowT.of_own h4u
        by_cases hl0 : x.ch.length = 0
        · have hl1 : ¬ ((x.ch.length : Int) > 0) := by omega
          go_upto_region 33 with fail
          clear q0 q1
          obtain ⟨_, _, e9, _, _, hNT⟩ := hKu.nt
          cases e9
          have hZe := hZu
          have hYe := hYu
          have hbe := hbu
          have z0e := hZe.cell 0
          have z1e := hZe.cell 1
          have y0e := hYe.cell 0
          have y1e := hYe.cell 1
          have f0e := hYe.frozen 0
          have f1e := hYe.frozen 1
          have lYe := hYe.lt
          go_wp2_with fail
          have hYs := (hYe.set_ 0 (.int .i64 (size))).set_ 1 (.slice (some ⟨gP, 0, none⟩) (P.length) cap)
          have c0e := hYs.cell 0
          have c1e := hYs.cell 1
          refine bodyPost_ret (v := .agg #[.int .i64 (size), .slice (some ⟨gP, 0, none⟩) (P.length) cap]) (by simp [results, Tryd.results16, go_sem, c0e, c1e]) rfl ?_
          have hfin := nt_PRf (u0 := .int .i64 (size)) (u1 := .slice (some ⟨gP, 0, none⟩) (P.length) cap) (size := size) (n := P.length) (c := cap) hNT hYe rfl hcap (fun e => by cases e)
          have hbf := (hbe.setCell (p := ⟨g1 + 1 + 1, 0, none⟩) (by show w.heap.size ≤ g1 + 1 + 1; omega) (.int .i64 (size))).setCell (p := ⟨g1 + 1 + 1, 1, none⟩) (by show w.heap.size ≤ g1 + 1 + 1; omega) (.slice (some ⟨gP, 0, none⟩) (P.length) cap)
          have hnd : ∀ y ∈ P, NdB (B + 1) y := fun y hy => (hPB y hy).mono (by omega)
          have hln : (P).length ≤ P.length + 1 := by omega
          first | exact ⟨_, rfl, size, P, hfin, hnd, hln, by omega, by omega, hbf⟩ | exact ⟨_, size, P, rfl, hfin, hnd, hln, by omega, by omega, hbf⟩
        · have hl1 : (x.ch.length : Int) > 0 := by omega
          obtain ⟨AX, hAX, hRX⟩ := hR3.tail (s := 1) (by omega) (by first | (rw [List.length_map]; omega) | (rw [cellsP_len]; omega)) (by omega)
          go_upto_region 33 with fail
          clear q0 q1 hAX
          have hNT : IsNT (u.setCell ⟨gP, n * 5 + 3, none⟩ (.slice AX (x.ch.length - 1) (c3 - 1))) (some ⟨gP, 0, none⟩) (P.set n { x with ch := x.ch.tail }) := by
            refine hKu.put (r := 3) (u := .slice AX (x.ch.length - 1) (c3 - 1)) (x' := { x with ch := x.ch.tail }) hnl h1 (by omega) (cells := [.int .i64 x.kind, .int .i64 x.row, .int .i64 x.col, .slice AX (x.ch.length - 1) (c3 - 1), .slice A4 x.cells.length c4]) ?_ rfl
            exact ⟨_, _, _, _, by rw [List.length_tail], by rw [List.length_tail, List.map_tail, ← List.drop_one]; exact hRX.far hBu (by decide) _, hR4.far hBu (by decide) _⟩
          have hNT := hNT
          have hZe := hZu.far (p := ⟨gP, n * 5 + 3, none⟩) (by show g1 + 1 + 1 + 1 ≠ gP; omega) (.slice AX (x.ch.length - 1) (c3 - 1))
          have hYe := hYu.far (p := ⟨gP, n * 5 + 3, none⟩) (by show g1 + 1 + 1 ≠ gP; omega) (.slice AX (x.ch.length - 1) (c3 - 1))
          have hbe := hbu.setCell (p := ⟨gP, n * 5 + 3, none⟩) (by show w.heap.size ≤ gP; omega) (.slice AX (x.ch.length - 1) (c3 - 1))
          have z0e := hZe.cell 0
          have z1e := hZe.cell 1
          have y0e := hYe.cell 0
          have y1e := hYe.cell 1
          have f0e := hYe.frozen 0
          have f1e := hYe.frozen 1
          have lYe := hYe.lt
          go_wp2_with fail
          have hYs := (hYe.set_ 0 (.int .i64 (size))).set_ 1 (.slice (some ⟨gP, 0, none⟩) (P.length) cap)
          have c0e := hYs.cell 0
          have c1e := hYs.cell 1
          refine bodyPost_ret (v := .agg #[.int .i64 (size), .slice (some ⟨gP, 0, none⟩) (P.length) cap]) (by simp [results, Tryd.results16, go_sem, c0e, c1e]) rfl ?_
          have hfin := nt_PRf (u0 := .int .i64 (size)) (u1 := .slice (some ⟨gP, 0, none⟩) (P.length) cap) (size := size) (n := P.length) (c := cap) hNT hYe (by rw [List.length_set]) hcap (fun e => by cases e)
          have hbf := (hbe.setCell (p := ⟨g1 + 1 + 1, 0, none⟩) (by show w.heap.size ≤ g1 + 1 + 1; omega) (.int .i64 (size))).setCell (p := ⟨g1 + 1 + 1, 1, none⟩) (by show w.heap.size ≤ g1 + 1 + 1; omega) (.slice (some ⟨gP, 0, none⟩) (P.length) cap)
          have hnd : ∀ y ∈ P.set n ({ x with ch := x.ch.tail }), NdB (B + 1) y := nd_set hPB (by obtain ⟨k1, k2, k3, k4⟩ := hxk; exact ⟨by show (x.ch.tail).length ≤ B + 1; rw [List.length_tail]; omega, by show (x.cells).length ≤ B + 1; omega, by show 0 ≤ x.kind; omega, by show x.kind ≤ 255; omega⟩)
          have hln : (P.set n ({ x with ch := x.ch.tail })).length ≤ P.length + 1 := by rw [List.length_set]; omega
          first | exact ⟨_, rfl, size, P.set n ({ x with ch := x.ch.tail }), hfin, hnd, hln, by omega, by omega, hbf⟩ | exact ⟨_, size, P.set n ({ x with ch := x.ch.tail }), rfl, hfin, hnd, hln, by omega, by omega, hbf⟩
      by_cases e1 : m = 6
      · subst e1
        have q0 := hKu.at (r := 4) hnl h1 (by omega) rfl
        have q1 := hBu.frozen (n * 5 + 4)
        obtain ⟨A3, c3, rfl, hR3⟩ := RowT.of_own h3u
        obtain ⟨A4, c4, rfl, hR4⟩ := RowT.of_own h4u
        by_cases hl0 : x.cells.length = 0
        · have hl1 : ¬ ((x.cells.length : Int) > 0) := by omega
          go_upto_region 33 with fail
          clear q0 q1
          obtain ⟨_, _, e9, _, _, hNT⟩ := hKu.nt
          cases e9
          have hZe := hZu
          have hYe := hYu
          have hbe := hbu
          have z0e := hZe.cell 0
          have z1e := hZe.cell 1
          have y0e := hYe.cell 0
          have y1e := hYe.cell 1
          have f0e := hYe.frozen 0
          have f1e := hYe.frozen 1
          have lYe := hYe.lt
          go_wp2_with fail
          have hYs := (hYe.set_ 0 (.int .i64 (size))).set_ 1 (.slice (some ⟨gP, 0, none⟩) (P.length) cap)
          have c0e := hYs.cell 0
          have c1e := hYs.cell 1
          refine bodyPost_ret (v := .agg #[.int .i64 (size), .slice (some ⟨gP, 0, none⟩) (P.length) cap]) (by simp [results, Tryd.results16, go_sem, c0e, c1e]) rfl ?_
          have hfin := nt_PRf (u0 := .int .i64 (size)) (u1 := .slice (some ⟨gP, 0, none⟩) (P.length) cap) (size := size) (n := P.length) (c := cap) hNT hYe rfl hcap (fun e => by cases e)
          have hbf := (hbe.setCell (p := ⟨g1 + 1 + 1, 0, none⟩) (by show w.heap.size ≤ g1 + 1 + 1; omega) (.int .i64 (size))).setCell (p := ⟨g1 + 1 + 1, 1, none⟩) (by show w.heap.size ≤ g1 + 1 + 1; omega) (.slice (some ⟨gP, 0, none⟩) (P.length) cap)
          have hnd : ∀ y ∈ P, NdB (B + 1) y := fun y hy => (hPB y hy).mono (by omega)
          have hln : (P).length ≤ P.length + 1 := by omega
          first | exact ⟨_, rfl, size, P, hfin, hnd, hln, by omega, by omega, hbf⟩ | exact ⟨_, size, P, rfl, hfin, hnd, hln, by omega, by omega, hbf⟩
        · have hl1 : (x.cells.length : Int) > 0 := by omega
          obtain ⟨AX, hAX, hRX⟩ := hR4.tail (s := 2) (by omega) (by first | (rw [List.length_map]; omega) | (rw [cellsP_len]; omega)) (by omega)
          go_upto_region 33 with fail
          clear q0 q1 hAX
          have hNT : IsNT (u.setCell ⟨gP, n * 5 + 4, none⟩ (.slice AX (x.cells.length - 1) (c4 - 1))) (some ⟨gP, 0, none⟩) (P.set n { x with cells := x.cells.tail }) := by
            refine hKu.put (r := 4) (u := .slice AX (x.cells.length - 1) (c4 - 1)) (x' := { x with cells := x.cells.tail }) hnl h1 (by omega) (cells := [.int .i64 x.kind, .int .i64 x.row, .int .i64 x.col, .slice A3 x.ch.length c3, .slice AX (x.cells.length - 1) (c4 - 1)]) ?_ rfl
            exact ⟨_, _, _, _, by rw [List.length_tail], hR3.far hBu (by decide) _, by rw [List.length_tail, cellsP_tail]; exact hRX.far hBu (by decide) _⟩
          have hNT := hNT
          have hZe := hZu.far (p := ⟨gP, n * 5 + 4, none⟩) (by show g1 + 1 + 1 + 1 ≠ gP; omega) (.slice AX (x.cells.length - 1) (c4 - 1))
          have hYe := hYu.far (p := ⟨gP, n * 5 + 4, none⟩) (by show g1 + 1 + 1 ≠ gP; omega) (.slice AX (x.cells.length - 1) (c4 - 1))
          have hbe := hbu.setCell (p := ⟨gP, n * 5 + 4, none⟩) (by show w.heap.size ≤ gP; omega) (.slice AX (x.cells.length - 1) (c4 - 1))
          have z0e := hZe.cell 0
          have z1e := hZe.cell 1
          have y0e := hYe.cell 0
          have y1e := hYe.cell 1
          have f0e := hYe.frozen 0
          have f1e := hYe.frozen 1
          have lYe := hYe.lt
          go_wp2_with fail
          have hYs := (hYe.set_ 0 (.int .i64 (size))).set_ 1 (.slice (some ⟨gP, 0, none⟩) (P.length) cap)
          have c0e := hYs.cell 0
          have c1e := hYs.cell 1
          refine bodyPost_ret (v := .agg #[.int .i64 (size), .slice (some ⟨gP, 0, none⟩) (P.length) cap]) (by simp [results, Tryd.results16, go_sem, c0e, c1e]) rfl ?_
          have hfin := nt_PRf (u0 := .int .i64 (size)) (u1 := .slice (some ⟨gP, 0, none⟩) (P.length) cap) (size := size) (n := P.length) (c := cap) hNT hYe (by rw [List.length_set]) hcap (fun e => by cases e)
          have hbf := (hbe.setCell (p := ⟨g1 + 1 + 1, 0, none⟩) (by show w.heap.size ≤ g1 + 1 + 1; omega) (.int .i64 (size))).setCell (p := ⟨g1 + 1 + 1, 1, none⟩) (by show w.heap.size ≤ g1 + 1 + 1; omega) (.slice (some ⟨gP, 0, none⟩) (P.length) cap)
          have hnd : ∀ y ∈ P.set n ({ x with cells := x.cells.tail }), NdB (B + 1) y := nd_set hPB (by obtain ⟨k1, k2, k3, k4⟩ := hxk; exact ⟨by show (x.ch).length ≤ B + 1; omega, by show (x.cells.tail).length ≤ B + 1; rw [List.length_tail]; omega, by show 0 ≤ x.kind; omega, by show x.kind ≤ 255; omega⟩)
          have hln : (P.set n ({ x with cells := x.cells.tail })).length ≤ P.length + 1 := by rw [List.length_set]; omega
          first | exact ⟨_, rfl, size, P.set n ({ x with cells := x.cells.tail }), hfin, hnd, hln, by omega, by omega, hbf⟩ | exact ⟨_, size, P.set n ({ x with cells := x.cells.tail }), rfl, hfin, hnd, hln, by omega, by omega, hbf⟩
      by_cases e1 : m = 2
      · subst e1
        go_upto_region 16 with fail
        have hd : Below u.heap.size u u.drew := (Below.refl _ _).drew
        replace hbu := hbu.trans (hd.mono hbu.size)
        replace hOu := hOu.below hd hOu.lt
        replace hYu := hYu.below hd hYu.lt
        replace hZu := hZu.below hd hZu.lt
        replace hKu := hKu.below hd
        replace h3u := own_below h3u hd
        replace h4u := own_below h4u hd
        replace hBu := hBu.below hd hBu.lt
        replace hsu : w1.heap.size ≤ u.drew.heap.size := Nat.le_trans hsu hd.size
        clear z0 z2 z3 hlP
        have hlP := hBu.lt
        refine wp_mix (fun V => Blk V g1 35 #[.int .u8 kd, .int .u8 nd, .int .u8 a, .int .u8 b]) 16 (by kernel_rfl) (by kernel_rfl) hOu ?_
        obtain ⟨u0, hu0⟩ : ∃ V, V = u.drew := ⟨_, rfl⟩
        rw [← hu0] at hbu hOu hYu hZu hKu h3u h4u hBu hsu hlP ⊢
        clear hu0 hd
        clear u
        obtain ⟨u, hu⟩ : ∃ V, V = u0 := ⟨_, rfl⟩
        subst hu
        (refine m_q 0 (v := ?_) (by kernel_rfl) rfl rfl (fun W hW => ?_) ?_; rotate_left; (go_simp; first | done | with_reducible rfl); simp only [Act.put, List.setIfInBounds_toArray, List.set_cons_zero, List.set_cons_succ])
        (refine m_q 1 (v := ?_) (by kernel_rfl) rfl rfl (fun W hW => ?_) ?_; rotate_left; (go_simp; first | done | with_reducible rfl); simp only [Act.put, List.setIfInBounds_toArray, List.set_cons_zero, List.set_cons_succ])
        (refine m_q 2 (v := ?_) (by kernel_rfl) rfl rfl (fun W hW => ?_) ?_; rotate_left; (have z0 := hW.cell 2; go_simp; first | done | with_reducible rfl); simp only [Act.put, List.setIfInBounds_toArray, List.set_cons_zero, List.set_cons_succ]); (refine m_q 3 (v := ?_) (by kernel_rfl) rfl rfl (fun W hW => ?_) ?_; rotate_left; (have z0 := hW.cell 2; go_simp; first | done | with_reducible rfl); simp only [Act.put, List.setIfInBounds_toArray, List.set_cons_zero, List.set_cons_succ])
        (refine m_q 4 (v := ?_) (by kernel_rfl) rfl rfl (fun W hW => ?_) ?_; rotate_left; (go_simp; first | done | with_reducible rfl); simp only [Act.put, List.setIfInBounds_toArray, List.set_cons_zero, List.set_cons_succ])
        (refine m_q 5 (v := ?_) (by kernel_rfl) rfl rfl (fun W hW => ?_) ?_; rotate_left; (go_simp; first | done | with_reducible rfl); simp only [Act.put, List.setIfInBounds_toArray, List.set_cons_zero, List.set_cons_succ])
        (refine m_q 6 (v := ?_) (by kernel_rfl) rfl rfl (fun W hW => ?_) ?_; rotate_left; (have z0 := hW.cell 3; go_simp; first | done | with_reducible rfl); simp only [Act.put, List.setIfInBounds_toArray, List.set_cons_zero, List.set_cons_succ]); (refine m_q 7 (v := ?_) (by kernel_rfl) rfl rfl (fun W hW => ?_) ?_; rotate_left; (have z0 := hW.cell 3; go_simp; first | done | with_reducible rfl); simp only [Act.put, List.setIfInBounds_toArray, List.set_cons_zero, List.set_cons_succ])
        (refine m_q 8 (v := ?_) (by kernel_rfl) rfl rfl (fun W hW => ?_) ?_; rotate_left; (go_simp; first | done | with_reducible rfl); simp only [Act.put, List.setIfInBounds_toArray, List.set_cons_zero, List.set_cons_succ])
        (refine m_q 9 (v := ?_) (by kernel_rfl) rfl rfl (fun W hW => ?_) ?_; rotate_left; (go_simp; first | done | with_reducible rfl); simp only [Act.put, List.setIfInBounds_toArray, List.set_cons_zero, List.set_cons_succ])
        (refine m_q 10 (v := ?_) (by kernel_rfl) rfl rfl (fun W hW => ?_) ?_; rotate_left; (go_simp; first | done | with_reducible rfl); simp only [Act.put, List.setIfInBounds_toArray, List.set_cons_zero, List.set_cons_succ])
        (refine m_q 11 (v := ?_) (by kernel_rfl) rfl rfl (fun W hW => ?_) ?_; rotate_left; (go_simp; first | done | with_reducible rfl); simp only [Act.put, List.setIfInBounds_toArray, List.set_cons_zero, List.set_cons_succ])
        have q0 := hKu.at (r := 1) hnl h1 (by omega) rfl
        have q1 := hBu.frozen (n * 5 + 1)
        refine m_s1 12 (by kernel_rfl) rfl ?_
        go_wp2_with fail
        have hBv := hBu.set_ (n * 5 + 1) (.int .i64 ((a : Int) % 6))
        have hOv := hOu.far (p := ⟨gP, n * 5 + 1, none⟩) (by show g1 ≠ gP; omega) (.int .i64 ((a : Int) % 6))
        have hK2 := hKu.num (r := 1) (u := .int .i64 ((a : Int) % 6)) (x' := { x with row := (a : Int) % 6 }) hx h1 (by omega) rfl rfl rfl
        have hx2 : (P.set n { x with row := (a : Int) % 6 })[n]? = some { x with row := (a : Int) % 6 } := List.getElem?_set_self hnl
        have h12 : (vss.set n [.int .i64 x.kind, .int .i64 ((a : Int) % 6), .int .i64 x.col, v3, v4])[n]? = some [.int .i64 x.kind, .int .i64 ((a : Int) % 6), .int .i64 x.col, v3, v4] := List.getElem?_set_self (by rw [hKu.len]; exact hnl)
        have hl2 : (P.set n { x with row := (a : Int) % 6 }).length = P.length := List.length_set
        rw [← hl2] at hK2
        have hK3 := hK2.num (r := 2) (u := .int .i64 ((b : Int) % 6)) (x' := { x with row := (a : Int) % 6, col := (b : Int) % 6 }) hx2 h12 (by omega) rfl rfl rfl
        have q2 := hK2.at (r := 2) (by rw [hl2]; exact hnl) h12 (by omega) rfl
        have q3 := hBv.frozen (n * 5 + 2)
        have hlv := hBv.lt
        simp only [List.set_set, hl2] at hK3
        clear q0 q1 hK2 hx2 h12 hl2
        refine m_keep hOv ?_
        (refine m_q 13 (v := ?_) (by kernel_rfl) rfl rfl (fun W hW => ?_) ?_; rotate_left; (go_simp; first | done | with_reducible rfl); simp only [Act.put, List.setIfInBounds_toArray, List.set_cons_zero, List.set_cons_succ])
        (refine m_q 14 (v := ?_) (by kernel_rfl) rfl rfl (fun W hW => ?_) ?_; rotate_left; (go_simp; first | done | with_reducible rfl); simp only [Act.put, List.setIfInBounds_toArray, List.set_cons_zero, List.set_cons_succ])
        refine m_s1 15 (by kernel_rfl) rfl ?_
        go_wp2_with fail
        have hOz := hOv.far (p := ⟨gP, n * 5 + 2, none⟩) (by show g1 ≠ gP; omega) (.int .i64 ((b : Int) % 6))
        refine m_keep hOz ?_
        refine m_end (by kernel_rfl) ?_
        clear q2 q3
        go_upto_region 33 with fail
        obtain ⟨_, _, e9, _, _, hNT⟩ := hK3.nt
        rw [List.length_set] at e9
        cases e9
        have hZe := (hZu.far (p := ⟨gP, n * 5 + 1, none⟩) (by show g1 + 1 + 1 + 1 ≠ gP; omega) (.int .i64 ((a : Int) % 6))).far (p := ⟨gP, n * 5 + 2, none⟩) (by show g1 + 1 + 1 + 1 ≠ gP; omega) (.int .i64 ((b : Int) % 6))
        have hYe := (hYu.far (p := ⟨gP, n * 5 + 1, none⟩) (by show g1 + 1 + 1 ≠ gP; omega) (.int .i64 ((a : Int) % 6))).far (p := ⟨gP, n * 5 + 2, none⟩) (by show g1 + 1 + 1 ≠ gP; omega) (.int .i64 ((b : Int) % 6))
        have hbe := (hbu.setCell (p := ⟨gP, n * 5 + 1, none⟩) (by show w.heap.size ≤ gP; omega) (.int .i64 ((a : Int) % 6))).setCell (p := ⟨gP, n * 5 + 2, none⟩) (by show w.heap.size ≤ gP; omega) (.int .i64 ((b : Int) % 6))
        have z0e := hZe.cell 0
        have z1e := hZe.cell 1
        have y0e := hYe.cell 0
        have y1e := hYe.cell 1
        have f0e := hYe.frozen 0
        have f1e := hYe.frozen 1
        have lYe := hYe.lt
        go_wp2_with fail
        have hYs := (hYe.set_ 0 (.int .i64 (size))).set_ 1 (.slice (some ⟨gP, 0, none⟩) (P.length) cap)
        have c0e := hYs.cell 0
        have c1e := hYs.cell 1
        refine bodyPost_ret (v := .agg #[.int .i64 (size), .slice (some ⟨gP, 0, none⟩) (P.length) cap]) (by simp [results, Tryd.results16, go_sem, c0e, c1e]) rfl ?_
        have hfin := nt_PRf (u0 := .int .i64 (size)) (u1 := .slice (some ⟨gP, 0, none⟩) (P.length) cap) (size := size) (n := P.length) (c := cap) hNT hYe (by rw [List.length_set]) hcap (fun e => by cases e)
        have hbf := (hbe.setCell (p := ⟨g1 + 1 + 1, 0, none⟩) (by show w.heap.size ≤ g1 + 1 + 1; omega) (.int .i64 (size))).setCell (p := ⟨g1 + 1 + 1, 1, none⟩) (by show w.heap.size ≤ g1 + 1 + 1; omega) (.slice (some ⟨gP, 0, none⟩) (P.length) cap)
        have hnd : ∀ y ∈ P.set n ({ x with row := (a : Int) % 6, col := (b : Int) % 6 }), NdB (B + 1) y := nd_set hPB (by obtain ⟨k1, k2, k3, k4⟩ := hxk; exact ⟨by show x.ch.length ≤ B + 1; omega, by show x.cells.length ≤ B + 1; omega, by show 0 ≤ x.kind; omega, by show x.kind ≤ 255; omega⟩)
        have hln : (P.set n ({ x with row := (a : Int) % 6, col := (b : Int) % 6 })).length ≤ P.length + 1 := by rw [List.length_set]; omega
        first | exact ⟨_, rfl, size, P.set n ({ x with row := (a : Int) % 6, col := (b : Int) % 6 }), hfin, hnd, hln, by omega, by omega, hbf⟩ | exact ⟨_, size, P.set n ({ x with row := (a : Int) % 6, col := (b : Int) % 6 }), rfl, hfin, hnd, hln, by omega, by omega, hbf⟩
      by_cases e1 : m = 3
      · subst e1
        obtain ⟨i1, hi1, hy0, hy1, hy2⟩ := info_parts info_int
        obtain ⟨cN, hcN, es, es2, ec, ec2, ec0, ec1⟩ := kid_facts P.length a hl x3
        go_upto_region 18 with fail
        have hd : Below u.heap.size u u.drew := (Below.refl _ _).drew
        replace hbu := hbu.trans (hd.mono hbu.size)
        replace hOu := hOu.below hd hOu.lt
        replace hYu := hYu.below hd hYu.lt
        replace hZu := hZu.below hd hZu.lt
        replace hKu := hKu.below hd
        replace h3u := own_below h3u hd
        replace h4u := own_below h4u hd
        replace hBu := hBu.below hd hBu.lt
        replace hsu : w1.heap.size ≤ u.drew.heap.size := Nat.le_trans hsu hd.size
        clear z0 z2 z3 hlP
        have hlP := hBu.lt
        refine wp_mix (fun V => (Blk V gP 39 csP ∧ Blk V g1 35 #[.int .u8 kd, .int .u8 nd, .int .u8 a, .int .u8 b])) 16 (by kernel_rfl) (by kernel_rfl) ⟨hBu, hOu⟩ ?_
        obtain ⟨u0, hu0⟩ : ∃ V, V = u.drew := ⟨_, rfl⟩
        rw [← hu0] at hbu hOu hYu hZu hKu h3u h4u hBu hsu hlP ⊢
        clear hu0 hd
        clear u
        obtain ⟨u, hu⟩ : ∃ V, V = u0 := ⟨_, rfl⟩
        subst hu
        have q0 := hKu.at (r := 3) hnl h1 (by omega) rfl
        have qc := (hBu.cell (n * 5 + 3)).symm.trans q0
        obtain ⟨A3, c3, rfl, hc3⟩ := own5 h3u
        (refine m_q 0 (v := ?_) (by kernel_rfl) rfl rfl (fun W hW => ?_) ?_; rotate_left; (go_simp; first | done | with_reducible rfl); simp only [Act.put, List.setIfInBounds_toArray, List.set_cons_zero, List.set_cons_succ])
        (refine m_q 1 (v := ?_) (by kernel_rfl) rfl rfl (fun W hW => ?_) ?_; rotate_left; (go_simp; first | done | with_reducible rfl); simp only [Act.put, List.setIfInBounds_toArray, List.set_cons_zero, List.set_cons_succ])
        (refine m_q 2 (v := ?_) (by kernel_rfl) rfl rfl (fun W hW => ?_) ?_; rotate_left; (go_simp; first | done | with_reducible rfl); simp only [Act.put, List.setIfInBounds_toArray, List.set_cons_zero, List.set_cons_succ])
        (refine m_q 3 (v := ?_) (by kernel_rfl) rfl rfl (fun W hW => ?_) ?_; rotate_left; (go_simp; first | done | with_reducible rfl); simp only [Act.put, List.setIfInBounds_toArray, List.set_cons_zero, List.set_cons_succ])
        (refine m_q 4 (v := ?_) (by kernel_rfl) rfl rfl (fun W hW => ?_) ?_; rotate_left; (have z0 := (hW.1.cell (n * 5 + 3)).trans qc; go_simp; first | done | with_reducible rfl); simp only [Act.put, List.setIfInBounds_toArray, List.set_cons_zero, List.set_cons_succ])
        (refine m_q 5 (v := ?_) (by kernel_rfl) rfl rfl (fun W hW => ?_) ?_; rotate_left; (have z0 := hW.2.cell 2; go_simp; first | done | with_reducible rfl); simp only [Act.put, List.setIfInBounds_toArray, List.set_cons_zero, List.set_cons_succ]); (refine m_q 6 (v := ?_) (by kernel_rfl) rfl rfl (fun W hW => ?_) ?_; rotate_left; (have z0 := hW.2.cell 2; go_simp; first | done | with_reducible rfl); simp only [Act.put, List.setIfInBounds_toArray, List.set_cons_zero, List.set_cons_succ])
        (refine m_q 7 (v := ?_) (by kernel_rfl) rfl rfl (fun W hW => ?_) ?_; rotate_left; (go_simp; first | done | with_reducible rfl); simp only [Act.put, List.setIfInBounds_toArray, List.set_cons_zero, List.set_cons_succ])
        (refine m_q 8 (v := ?_) (by kernel_rfl) rfl rfl (fun W hW => ?_) ?_; rotate_left; (go_simp; first | done | with_reducible rfl); simp only [Act.put, List.setIfInBounds_toArray, List.set_cons_zero, List.set_cons_succ])
        (refine m_q 9 (v := ?_) (by kernel_rfl) rfl rfl (fun W hW => ?_) ?_; rotate_left; (go_simp; first | done | with_reducible rfl); simp only [Act.put, List.setIfInBounds_toArray, List.set_cons_zero, List.set_cons_succ])
        (refine m_q 10 (v := ?_) (by kernel_rfl) rfl rfl (fun W hW => ?_) ?_; rotate_left; (go_simp; first | done | with_reducible rfl); simp only [Act.put, List.setIfInBounds_toArray, List.set_cons_zero, List.set_cons_succ])
        obtain ⟨k1, k2, k3, k4⟩ := id hxk
        clear es es2 ec ec2 ec0 ec1
        refine m_s1 11 (by kernel_rfl) rfl ?_
        go_wp2_with fail
        refine absN fun uA hB hb hz => ?_
        clear hz
        replace hbu := hbu.trans (hb.mono hbu.size); replace hOu := hOu.below hb hOu.lt; replace hYu := hYu.below hb hYu.lt; replace hZu := hZu.below hb hZu.lt; replace hKu := hKu.below hb; replace h3u := own_below h3u hb; replace h4u := own_below h4u hb; replace hBu := hBu.below hb hBu.lt
        replace hsu := Nat.le_trans hsu hb.size
        obtain ⟨gB, hgB⟩ : ∃ g, g = u.heap.size := ⟨_, rfl⟩
        rw [← hgB] at hB ⊢
        clear hgB q0 hlP hb
        refine m_keep ⟨hBu, hOu⟩ ?_
        have HNW := hideC (World.news_of_block hB)
        refine m_s1 12 (by kernel_rfl) rfl ?_
        go_wp2_with (at_builtin; refine wpList_append_lies _ rfl _ _ 36 rfl w1.heap.size 3 i1 (.int .i64 0) 1 8 Tryd.underlying36 hi1 hy0 hy1 hy2 rfl (by decide) _ _ _ rfl h3u ⟨gB, 0, none⟩ 1 1 [.int .i64 (cN : Int)] rfl rfl HNW.out (by simp [Value.oneCell']) (by omega) (by unfold maxLen; omega) (by omega) (by first | omega | (simp; omega)) _ rfl ?_)
        intro gk capk w5 hown5 hgrow5 hlies hlt5
        have hB5 : Blk w5 gP 39 csP := (hgrow5.block gP hBu.lt (own_ne h3u hBu (by decide))).trans hBu
        have hO5 : Blk w5 g1 35 #[.int .u8 kd, .int .u8 nd, .int .u8 a, .int .u8 b] := (hgrow5.block _ hOu.lt (own_ne h3u hOu (by decide))).trans hOu
        have hY5 : Blk w5 (g1 + 1 + 1) 33 #[.int .i64 0, .slice none 0 0] := (hgrow5.block _ hYu.lt (own_ne h3u hYu (by decide))).trans hYu
        have hZ5 : Blk w5 (g1 + 1 + 1 + 1) 33 #[.int .i64 size, .slice (some ⟨gP, 0, none⟩) P.length cap] := (hgrow5.block _ hZu.lt (own_ne h3u hZu (by decide))).trans hZu
        have hb5 := hbu.grown hgrow5 hbu.size (fun p hp => Nat.le_trans hw1 (h3u.lt p hp).1)
        have hK6 := hKu.kid hx h1 h3u h4u hown5 hgrow5 (hlies.imp id fun e => by first | exact e | (rw [e]; simp))
        have q5 := (hB5.cell (n * 5 + 3)).trans qc
        have f5 := hB5.frozen (n * 5 + 3)
        have l5 := hB5.lt
        refine m_keep ⟨hB5, hO5⟩ ?_
        (refine m_q 13 (v := ?_) (by kernel_rfl) rfl rfl (fun W hW => ?_) ?_; rotate_left; (go_simp; first | done | with_reducible rfl); simp only [Act.put, List.setIfInBounds_toArray, List.set_cons_zero, List.set_cons_succ])
        (refine m_q 14 (v := ?_) (by kernel_rfl) rfl rfl (fun W hW => ?_) ?_; rotate_left; (go_simp; first | done | with_reducible rfl); simp only [Act.put, List.setIfInBounds_toArray, List.set_cons_zero, List.set_cons_succ])
        refine m_s1 15 (by kernel_rfl) rfl ?_
        go_wp2_with fail
        refine m_clear (by kernel_rfl) ?_
        refine m_end (by kernel_rfl) ?_
        clear q5 f5 l5 hown5 hgrow5 hlies
        go_upto_region 33 with fail
        obtain ⟨_, _, e9, _, _, hNT⟩ := hK6.nt
        rw [List.length_set] at e9
        cases e9
        have hZe := hZ5.far (p := ⟨gP, n * 5 + 3, none⟩) (by show g1 + 1 + 1 + 1 ≠ gP; omega) (.slice (some ⟨gk, 0, none⟩) (x.ch.length + 1) capk)
        have hYe := hY5.far (p := ⟨gP, n * 5 + 3, none⟩) (by show g1 + 1 + 1 ≠ gP; omega) (.slice (some ⟨gk, 0, none⟩) (x.ch.length + 1) capk)
        have hbe := hb5.setCell (p := ⟨gP, n * 5 + 3, none⟩) (by show w.heap.size ≤ gP; omega) (.slice (some ⟨gk, 0, none⟩) (x.ch.length + 1) capk)
        have z0e := hZe.cell 0
        have z1e := hZe.cell 1
        have y0e := hYe.cell 0
        have y1e := hYe.cell 1
        have f0e := hYe.frozen 0
        have f1e := hYe.frozen 1
        have lYe := hYe.lt
        go_wp2_with fail
        have hYs := (hYe.set_ 0 (.int .i64 (size))).set_ 1 (.slice (some ⟨gP, 0, none⟩) (P.length) cap)
        have c0e := hYs.cell 0
        have c1e := hYs.cell 1
        refine bodyPost_ret (v := .agg #[.int .i64 (size), .slice (some ⟨gP, 0, none⟩) (P.length) cap]) (by simp [results, Tryd.results16, go_sem, c0e, c1e]) rfl ?_
        have hfin := nt_PRf (u0 := .int .i64 (size)) (u1 := .slice (some ⟨gP, 0, none⟩) (P.length) cap) (size := size) (n := P.length) (c := cap) hNT hYe (by rw [List.length_set]) hcap (fun e => by cases e)
        have hbf := (hbe.setCell (p := ⟨g1 + 1 + 1, 0, none⟩) (by show w.heap.size ≤ g1 + 1 + 1; omega) (.int .i64 (size))).setCell (p := ⟨g1 + 1 + 1, 1, none⟩) (by show w.heap.size ≤ g1 + 1 + 1; omega) (.slice (some ⟨gP, 0, none⟩) (P.length) cap)
        have hnd : ∀ y ∈ P.set n ({ x with ch := x.ch ++ [(cN : Int)] }), NdB (B + 1) y := nd_set hPB (by obtain ⟨k1, k2, k3, k4⟩ := hxk; exact ⟨by show (x.ch ++ [(cN : Int)]).length ≤ B + 1; rw [List.length_append]; exact Nat.add_le_add_right k1 1, by show x.cells.length ≤ B + 1; omega, by show 0 ≤ x.kind; omega, by show x.kind ≤ 255; omega⟩)
        have hln : (P.set n ({ x with ch := x.ch ++ [(cN : Int)] })).length ≤ P.length + 1 := by rw [List.length_set]; omega
        first | exact ⟨_, rfl, size, P.set n ({ x with ch := x.ch ++ [(cN : Int)] }), hfin, hnd, hln, by omega, by omega, hbf⟩ | exact ⟨_, size, P.set n ({ x with ch := x.ch ++ [(cN : Int)] }), rfl, hfin, hnd, hln, by omega, by omega, hbf⟩
      by_cases e1 : m = 5
      · subst e1
        obtain ⟨i1, hi1, hy0, hy1, hy2⟩ := info_parts info_pair
        have es : wrap64 ((a : Int) % 6 - 1) = (a : Int) % 6 - 1 := IntWalk.wrap64_in _ ⟨by omega, by omega⟩
        go_upto_region 23 with fail
        have hd : Below u.heap.size u u.drew := (Below.refl _ _).drew
        replace hbu := hbu.trans (hd.mono hbu.size)
        replace hOu := hOu.below hd hOu.lt
        replace hYu := hYu.below hd hYu.lt
        replace hZu := hZu.below hd hZu.lt
        replace hKu := hKu.below hd
        replace h3u := own_below h3u hd
        replace h4u := own_below h4u hd
        replace hBu := hBu.below hd hBu.lt
        replace hsu : w1.heap.size ≤ u.drew.heap.size := Nat.le_trans hsu hd.size
        clear z0 z2 z3 hlP
        have hlP := hBu.lt
        refine wp_mix (fun V => (Blk V gP 39 csP ∧ Blk V g1 35 #[.int .u8 kd, .int .u8 nd, .int .u8 a, .int .u8 b])) 20 (by kernel_rfl) (by kernel_rfl) ⟨hBu, hOu⟩ ?_
        obtain ⟨u0, hu0⟩ : ∃ V, V = u.drew := ⟨_, rfl⟩
        rw [← hu0] at hbu hOu hYu hZu hKu h3u h4u hBu hsu hlP ⊢
        clear hu0 hd
        clear u
        obtain ⟨u, hu⟩ : ∃ V, V = u0 := ⟨_, rfl⟩
        subst hu
        have q0 := hKu.at (r := 4) hnl h1 (by omega) rfl
        have qc := (hBu.cell (n * 5 + 4)).symm.trans q0
        obtain ⟨A4, c4, rfl, hc4⟩ := own5 h4u
        (refine m_q 0 (v := ?_) (by kernel_rfl) rfl rfl (fun W hW => ?_) ?_; rotate_left; (go_simp; first | done | with_reducible rfl); simp only [Act.put, List.setIfInBounds_toArray, List.set_cons_zero, List.set_cons_succ])
        (refine m_q 1 (v := ?_) (by kernel_rfl) rfl rfl (fun W hW => ?_) ?_; rotate_left; (go_simp; first | done | with_reducible rfl); simp only [Act.put, List.setIfInBounds_toArray, List.set_cons_zero, List.set_cons_succ])
        (refine m_q 2 (v := ?_) (by kernel_rfl) rfl rfl (fun W hW => ?_) ?_; rotate_left; (go_simp; first | done | with_reducible rfl); simp only [Act.put, List.setIfInBounds_toArray, List.set_cons_zero, List.set_cons_succ])
        (refine m_q 3 (v := ?_) (by kernel_rfl) rfl rfl (fun W hW => ?_) ?_; rotate_left; (go_simp; first | done | with_reducible rfl); simp only [Act.put, List.setIfInBounds_toArray, List.set_cons_zero, List.set_cons_succ])
        (refine m_q 4 (v := ?_) (by kernel_rfl) rfl rfl (fun W hW => ?_) ?_; rotate_left; (have z0 := (hW.1.cell (n * 5 + 4)).trans qc; go_simp; first | done | with_reducible rfl); simp only [Act.put, List.setIfInBounds_toArray, List.set_cons_zero, List.set_cons_succ])
        (refine m_q 5 (v := ?_) (by kernel_rfl) rfl rfl (fun W hW => ?_) ?_; rotate_left; (have z0 := hW.2.cell 2; go_simp; first | done | with_reducible rfl); simp only [Act.put, List.setIfInBounds_toArray, List.set_cons_zero, List.set_cons_succ]); (refine m_q 6 (v := ?_) (by kernel_rfl) rfl rfl (fun W hW => ?_) ?_; rotate_left; (have z0 := hW.2.cell 2; go_simp; first | done | with_reducible rfl); simp only [Act.put, List.setIfInBounds_toArray, List.set_cons_zero, List.set_cons_succ])
        (refine m_q 7 (v := ?_) (by kernel_rfl) rfl rfl (fun W hW => ?_) ?_; rotate_left; (go_simp; first | done | with_reducible rfl); simp only [Act.put, List.setIfInBounds_toArray, List.set_cons_zero, List.set_cons_succ])
        (refine m_q 8 (v := ?_) (by kernel_rfl) rfl rfl (fun W hW => ?_) ?_; rotate_left; (go_simp; first | done | with_reducible rfl); simp only [Act.put, List.setIfInBounds_toArray, List.set_cons_zero, List.set_cons_succ])
        (refine m_q 9 (v := ?_) (by kernel_rfl) rfl rfl (fun W hW => ?_) ?_; rotate_left; (go_simp; first | done | with_reducible rfl); simp only [Act.put, List.setIfInBounds_toArray, List.set_cons_zero, List.set_cons_succ])
        (refine m_q 10 (v := ?_) (by kernel_rfl) rfl rfl (fun W hW => ?_) ?_; rotate_left; (have z0 := hW.2.cell 3; go_simp; first | done | with_reducible rfl); simp only [Act.put, List.setIfInBounds_toArray, List.set_cons_zero, List.set_cons_succ]); (refine m_q 11 (v := ?_) (by kernel_rfl) rfl rfl (fun W hW => ?_) ?_; rotate_left; (have z0 := hW.2.cell 3; go_simp; first | done | with_reducible rfl); simp only [Act.put, List.setIfInBounds_toArray, List.set_cons_zero, List.set_cons_succ])
        (refine m_q 12 (v := ?_) (by kernel_rfl) rfl rfl (fun W hW => ?_) ?_; rotate_left; (go_simp; first | done | with_reducible rfl); simp only [Act.put, List.setIfInBounds_toArray, List.set_cons_zero, List.set_cons_succ])
        (refine m_q 13 (v := ?_) (by kernel_rfl) rfl rfl (fun W hW => ?_) ?_; rotate_left; (go_simp; first | done | with_reducible rfl); simp only [Act.put, List.setIfInBounds_toArray, List.set_cons_zero, List.set_cons_succ])
        (refine m_q 14 (v := ?_) (by kernel_rfl) rfl rfl (fun W hW => ?_) ?_; rotate_left; (go_simp; first | done | with_reducible rfl); simp only [Act.put, List.setIfInBounds_toArray, List.set_cons_zero, List.set_cons_succ])
        obtain ⟨k1, k2, k3, k4⟩ := id hxk
        clear es
        refine m_s1 15 (by kernel_rfl) rfl ?_
        go_wp2_with fail
        refine absN fun uA hB hb hz => ?_
        clear hz
        replace hbu := hbu.trans (hb.mono hbu.size); replace hOu := hOu.below hb hOu.lt; replace hYu := hYu.below hb hYu.lt; replace hZu := hZu.below hb hZu.lt; replace hKu := hKu.below hb; replace h3u := own_below h3u hb; replace h4u := own_below h4u hb; replace hBu := hBu.below hb hBu.lt
        replace hsu := Nat.le_trans hsu hb.size
        obtain ⟨gB, hgB⟩ : ∃ g, g = u.heap.size := ⟨_, rfl⟩
        rw [← hgB] at hB ⊢
        clear hgB q0 hlP hb
        refine m_keep ⟨hBu, hOu⟩ ?_
        have HNW := hideC (World.news_of_block hB)
        refine m_s1 16 (by kernel_rfl) rfl ?_
        go_wp2_with (at_builtin; refine wpList_append_lies _ rfl _ _ 37 rfl w1.heap.size 40 i1 (.agg #[.int .i64 0, .int .i64 0]) 2 16 Tryd.underlying37 hi1 hy0 hy1 hy2 rfl (by decide) _ _ _ rfl h4u ⟨gB, 0, none⟩ 1 1 [.int .i64 ((a : Int) % 6 - 1), .int .i64 ((b : Int) % 6)] rfl rfl HNW.out (by simp [Value.oneCell']) (by omega) (by unfold maxLen; omega) (by omega) (by first | omega | (simp; omega)) _ rfl ?_)
        intro gk capk w5 hown5 hgrow5 hlies hlt5
        have hB5 : Blk w5 gP 39 csP := (hgrow5.block gP hBu.lt (own_ne h4u hBu (by decide))).trans hBu
        have hO5 : Blk w5 g1 35 #[.int .u8 kd, .int .u8 nd, .int .u8 a, .int .u8 b] := (hgrow5.block _ hOu.lt (own_ne h4u hOu (by decide))).trans hOu
        have hY5 : Blk w5 (g1 + 1 + 1) 33 #[.int .i64 0, .slice none 0 0] := (hgrow5.block _ hYu.lt (own_ne h4u hYu (by decide))).trans hYu
        have hZ5 : Blk w5 (g1 + 1 + 1 + 1) 33 #[.int .i64 size, .slice (some ⟨gP, 0, none⟩) P.length cap] := (hgrow5.block _ hZu.lt (own_ne h4u hZu (by decide))).trans hZu
        have hb5 := hbu.grown hgrow5 hbu.size (fun p hp => Nat.le_trans hw1 (h4u.lt p hp).1)
        have hNT := hKu.cell_more (c := ((a : Int) % 6 - 1, (b : Int) % 6)) hD hx h1 h3u h4u hown5 hgrow5
        have q5 := (hB5.cell (n * 5 + 4)).trans qc
        have f5 := hB5.frozen (n * 5 + 4)
        have l5 := hB5.lt
        refine m_keep ⟨hB5, hO5⟩ ?_
        (refine m_q 17 (v := ?_) (by kernel_rfl) rfl rfl (fun W hW => ?_) ?_; rotate_left; (go_simp; first | done | with_reducible rfl); simp only [Act.put, List.setIfInBounds_toArray, List.set_cons_zero, List.set_cons_succ])
        (refine m_q 18 (v := ?_) (by kernel_rfl) rfl rfl (fun W hW => ?_) ?_; rotate_left; (go_simp; first | done | with_reducible rfl); simp only [Act.put, List.setIfInBounds_toArray, List.set_cons_zero, List.set_cons_succ])
        refine m_s1 19 (by kernel_rfl) rfl ?_
        go_wp2_with fail
        refine m_clear (by kernel_rfl) ?_
        refine m_end (by kernel_rfl) ?_
        clear q5 f5 l5 hown5 hgrow5 hlies
        go_upto_region 33 with fail
        have hZe := hZ5.far (p := ⟨gP, n * 5 + 4, none⟩) (by show g1 + 1 + 1 + 1 ≠ gP; omega) (.slice (some ⟨gk, 0, none⟩) (x.cells.length + 1) capk)
        have hYe := hY5.far (p := ⟨gP, n * 5 + 4, none⟩) (by show g1 + 1 + 1 ≠ gP; omega) (.slice (some ⟨gk, 0, none⟩) (x.cells.length + 1) capk)
        have hbe := hb5.setCell (p := ⟨gP, n * 5 + 4, none⟩) (by show w.heap.size ≤ gP; omega) (.slice (some ⟨gk, 0, none⟩) (x.cells.length + 1) capk)
        have z0e := hZe.cell 0
        have z1e := hZe.cell 1
        have y0e := hYe.cell 0
        have y1e := hYe.cell 1
        have f0e := hYe.frozen 0
        have f1e := hYe.frozen 1
        have lYe := hYe.lt
        go_wp2_with fail
        have hYs := (hYe.set_ 0 (.int .i64 (size))).set_ 1 (.slice (some ⟨gP, 0, none⟩) (P.length) cap)
        have c0e := hYs.cell 0
        have c1e := hYs.cell 1
        refine bodyPost_ret (v := .agg #[.int .i64 (size), .slice (some ⟨gP, 0, none⟩) (P.length) cap]) (by simp [results, Tryd.results16, go_sem, c0e, c1e]) rfl ?_
        have hfin := nt_PRf (u0 := .int .i64 (size)) (u1 := .slice (some ⟨gP, 0, none⟩) (P.length) cap) (size := size) (n := P.length) (c := cap) hNT hYe (by rw [List.length_set]) hcap (fun e => by cases e)
        have hbf := (hbe.setCell (p := ⟨g1 + 1 + 1, 0, none⟩) (by show w.heap.size ≤ g1 + 1 + 1; omega) (.int .i64 (size))).setCell (p := ⟨g1 + 1 + 1, 1, none⟩) (by show w.heap.size ≤ g1 + 1 + 1; omega) (.slice (some ⟨gP, 0, none⟩) (P.length) cap)
        have hnd : ∀ y ∈ P.set n ({ x with cells := x.cells ++ [((a : Int) % 6 - 1, (b : Int) % 6)] }), NdB (B + 1) y := nd_set hPB (by obtain ⟨k1, k2, k3, k4⟩ := hxk; exact ⟨by show x.ch.length ≤ B + 1; omega, by show (x.cells ++ [((a : Int) % 6 - 1, (b : Int) % 6)]).length ≤ B + 1; rw [List.length_append]; exact Nat.add_le_add_right k2 1, by show 0 ≤ x.kind; omega, by show x.kind ≤ 255; omega⟩)
        have hln : (P.set n ({ x with cells := x.cells ++ [((a : Int) % 6 - 1, (b : Int) % 6)] })).length ≤ P.length + 1 := by rw [List.length_set]; omega
        first | exact ⟨_, rfl, size, P.set n ({ x with cells := x.cells ++ [((a : Int) % 6 - 1, (b : Int) % 6)] }), hfin, hnd, hln, by omega, by omega, hbf⟩ | exact ⟨_, size, P.set n ({ x with cells := x.cells ++ [((a : Int) % 6 - 1, (b : Int) % 6)] }), rfl, hfin, hnd, hln, by omega, by omega, hbf⟩
      · have n1 : (m : Int) ≠ 1 := by omega
        have n2 : (m : Int) ≠ 2 := by omega
        have n3 : (m : Int) ≠ 3 := by omega
        have n4 : (m : Int) ≠ 4 := by omega
        have n5 : (m : Int) ≠ 5 := by omega
        have n6 : (m : Int) ≠ 6 := by omega
        have n7 : (m : Int) ≠ 7 := by omega
        have n8 : (m : Int) ≠ 8 := by omega
        have n9 : (m : Int) ≠ 9 := by omega
        go_upto_region 33 with fail
        obtain ⟨_, _, e9, _, _, hNT⟩ := hKu.nt
        cases e9
        have hZe := hZu
        have hYe := hYu
        have hbe := hbu
        have z0e := hZe.cell 0
        have z1e := hZe.cell 1
        have y0e := hYe.cell 0
        have y1e := hYe.cell 1
        have f0e := hYe.frozen 0
        have f1e := hYe.frozen 1
        have lYe := hYe.lt
        go_wp2_with fail
        have hYs := (hYe.set_ 0 (.int .i64 (size))).set_ 1 (.slice (some ⟨gP, 0, none⟩) (P.length) cap)
        have c0e := hYs.cell 0
        have c1e := hYs.cell 1
        refine bodyPost_ret (v := .agg #[.int .i64 (size), .slice (some ⟨gP, 0, none⟩) (P.length) cap]) (by simp [results, Tryd.results16, go_sem, c0e, c1e]) rfl ?_
        have hfin := nt_PRf (u0 := .int .i64 (size)) (u1 := .slice (some ⟨gP, 0, none⟩) (P.length) cap) (size := size) (n := P.length) (c := cap) hNT hYe rfl hcap (fun e => by cases e)
        have hbf := (hbe.setCell (p := ⟨g1 + 1 + 1, 0, none⟩) (by show w.heap.size ≤ g1 + 1 + 1; omega) (.int .i64 (size))).setCell (p := ⟨g1 + 1 + 1, 1, none⟩) (by show w.heap.size ≤ g1 + 1 + 1; omega) (.slice (some ⟨gP, 0, none⟩) (P.length) cap)
        have hnd : ∀ y ∈ P, NdB (B + 1) y := fun y hy => (hPB y hy).mono (by omega)
        have hln : (P).length ≤ P.length + 1 := by omega
        first | exact ⟨_, rfl, size, P, hfin, hnd, hln, by omega, by omega, hbf⟩ | exact ⟨_, size, P, rfl, hfin, hnd, hln, by omega, by omega, hbf⟩
end Mix2
end Go.Proofs.YtlehoomnddcblaaDoor
