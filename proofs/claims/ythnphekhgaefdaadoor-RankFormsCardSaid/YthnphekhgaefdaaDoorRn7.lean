/-
  awake of chapter 47: the examples hold.
-/
import Derived.Test.YthnphekhgaefdaaDoorRn6
import Derived.Test.YthnphekhgaefdaaDoorLaw3
namespace Go.Proofs.YthnphekhgaefdaaDoor
open Go.RowKit

/-- bits.Of over a literal row. -/
theorem of_lit {w : World} {g : Nat} (xs : List Int) (N : Nat) (hN : setOf xs = N) (hl : xs.length ≤ 1000000) (hB : Blk w g 3 (xs.map (Value.int .i64)).toArray) :
    Calls Tryd.prog 20 #[.slice (some ⟨g, 0, none⟩) xs.length xs.length] w fun e w' => ∃ A n c, e = .returned (.agg #[.slice A n c]) ∧ IsSet w' (.slice A n c) N ∧ Below w.heap.size w w' := by
  refine (of_any _ _ xs w (Row.of_blk hB fun k u hu => by rw [List.getElem?_toArray]; exact hu) hl).mono ?_
  rintro e w' ⟨r, rfl, hr, hb⟩
  obtain ⟨A, c, rfl, _⟩ := id hr
  rw [← hN]
  exact ⟨_, _, _, rfl, hr, hb⟩
theorem eq_same {w : World} {v u : Value} {N : Nat} (hs : IsSet w v N) (ho : IsSet w u N) :
    Calls Tryd.prog 22 #[.agg #[v], .agg #[u]] w fun e w' => e = .returned (.bool true) ∧ Below w.heap.size w w' := by
  have := equal_any v u N N w hs ho
  rwa [decide_eq_true rfl] at this
/-- matrix.Of over sets within the columns. -/
theorem ofm_lit {w : World} {g : Nat} (vs : List Value) (Ns : List Nat) (C : Nat) (hB : Blk w g 69 vs.toArray) (hs : Sets w vs Ns) (hC : C ≤ 256) (hn : Ns.length ≤ 256) (hin : rowsIn C Ns) :
    Calls Tryd.prog 19 #[.int .i64 C, .slice (some ⟨g, 0, none⟩) Ns.length Ns.length] w fun e w' => ∃ q, e = pair (ptr q) 0 ∧ IsMat w' q C Ns ∧ Below w.heap.size w w' := by
  refine (ofm_any (some ⟨g, 0, none⟩) Ns.length C vs Ns w (Row.of_blk hB fun k u hu => by rw [List.getElem?_toArray]; exact hu) hs hC hn).mono ?_
  rintro e w' (⟨_, h, _⟩ | ⟨q, rfl, _, hm, _, hb⟩)
  · exact absurd hin h
  · exact ⟨q, rfl, hm, hb⟩
theorem Sets.two {w : World} {v1 v2 : Value} {N1 N2 : Nat} (h1 : IsSet w v1 N1) (h2 : IsSet w v2 N2) : Sets w [v1, v2] [N1, N2] := ((Sets.nil w).snoc h1).snoc h2
theorem Sets.three {w : World} {v1 v2 v3 : Value} {N1 N2 N3 : Nat} (h1 : IsSet w v1 N1) (h2 : IsSet w v2 N2) (h3 : IsSet w v3 N3) : Sets w [v1, v2, v3] [N1, N2, N3] := (((Sets.nil w).snoc h1).snoc h2).snoc h3
theorem Sets.one {w : World} {v1 : Value} {N1 : Nat} (h1 : IsSet w v1 N1) : Sets w [v1] [N1] := (Sets.nil w).snoc h1
/-- A literal list of nodes. -/
theorem nodes_lit {w : World} {g : Nat} {t : TypeId} {cs : Array Value} (P : List Nd) (vss : List (List Value)) (hB : Blk w g t cs) (hc : cs = vss.flatten.toArray) (hl : vss.length = P.length) (hn : ∀ (k : Nat) x, P[k]? = some x → ∃ vs, vss[k]? = some vs ∧ NodeAt w vs x) : IsNodes w (some ⟨g, 0, none⟩) P :=
  ⟨vss, hl, hn, Row.of_blk hB fun k u hu => by rw [hc, List.getElem?_toArray]; exact hu⟩
theorem row_lit {w : World} {g : Nat} {t : TypeId} {l : List Value} (hB : Blk w g t l.toArray) : Row w (some ⟨g, 0, none⟩) l := Row.of_blk hB fun k u hu => by rw [List.getElem?_toArray]; exact hu
def aw47P : List Nd := [⟨2, 0, 0, [], [(0, 0), (1, 1), (2, 2)]⟩]
def aw47Q : List Nd := [⟨1, 0, 0, [1], []⟩, ⟨2, 0, 0, [], []⟩]
theorem aw47_1 : checkP 3 [3, 6, 5] 3 aw47P = (1, 0) := by decide +kernel
theorem aw47_2 : checkP 3 [3, 6, 5] 4 aw47P = (5, 0) := by decide +kernel
theorem aw47_3 : checkP 2 [3] 2 aw47Q = (5, 1) := by decide +kernel
theorem aw47_4 : conP 2 [3] 0 0 = [3] := by decide +kernel
theorem aw47_5 : rowsIn 3 [3, 6, 5] ∧ rowsIn 2 [3] := by
  constructor <;> intro k hk <;> simp at hk
  · have : k = 0 ∨ k = 1 ∨ k = 2 := by omega
    rcases this with rfl | rfl | rfl <;> decide +kernel
  · subst hk; decide +kernel
theorem aw47P_nodes {w : World} {g h : Nat} {t : TypeId} (B7 : Blk w g t #[.int .i64 0, .int .i64 0, .int .i64 1, .int .i64 1, .int .i64 2, .int .i64 2]) {t' : TypeId} (B8 : Blk w h t' #[.int .u8 2, .int .i64 0, .int .i64 0, .slice none 0 0, .slice (some ⟨g, 0, none⟩) 3 3]) : IsNodes w (some ⟨h, 0, none⟩) aw47P := by
  refine nodes_lit aw47P [[.int .u8 2, .int .i64 0, .int .i64 0, .slice none 0 0, .slice (some ⟨g, 0, none⟩) 3 3]] B8 rfl rfl fun k x hx => ?_
  match k with
  | 0 =>
    cases hx
    exact ⟨_, rfl, none, 0, some ⟨g, 0, none⟩, 3, rfl, Row.empty _ _, row_lit (l := cellsP [(0, 0), (1, 1), (2, 2)]) B7, by decide, by decide, by decide, by decide, by decide⟩
  | k + 1 => simp [aw47P] at hx
theorem aw47Q_nodes {w : World} {g h : Nat} {t : TypeId} (B7 : Blk w g t #[.int .i64 1]) {t' : TypeId} (B8 : Blk w h t' #[.int .u8 1, .int .i64 0, .int .i64 0, .slice (some ⟨g, 0, none⟩) 1 1, .slice none 0 0, .int .u8 2, .int .i64 0, .int .i64 0, .slice none 0 0, .slice none 0 0]) : IsNodes w (some ⟨h, 0, none⟩) aw47Q := by
  refine nodes_lit aw47Q [[.int .u8 1, .int .i64 0, .int .i64 0, .slice (some ⟨g, 0, none⟩) 1 1, .slice none 0 0], [.int .u8 2, .int .i64 0, .int .i64 0, .slice none 0 0, .slice none 0 0]] B8 rfl rfl fun k x hx => ?_
  match k with
  | 0 =>
    cases hx
    exact ⟨_, rfl, some ⟨g, 0, none⟩, 1, none, 0, rfl, row_lit (l := [.int .i64 1]) B7, Row.empty _ _, by decide, by decide, by decide, by decide, by decide⟩
  | 1 =>
    cases hx
    exact ⟨_, rfl, none, 0, none, 0, rfl, Row.empty _ _, Row.empty _ _, by decide, by decide, by decide, by decide, by decide⟩
  | k + 2 => simp [aw47Q] at hx
theorem check_is {q C : Nat} {Ns : List Nat} {size : Int} {A : Option Addr} {n c0 : Nat} {P : List Nd} {w : World} {fl at' : Int} (hc : checkP C Ns size P = (fl, at')) (hl : P.length = n) (h : IsMat w q C Ns) (hin : rowsIn C Ns) (hnd : IsNodes w A P) (hT : Tab w) :
    Calls Tryd.prog 8 #[ptr q, .agg #[.int .i64 size, .slice A n c0]] w fun e w' => e = .returned (.tuple #[.int .u8 fl, .int .i64 at']) ∧ Below w.heap.size w w' := by
  have := Mix2.check_any q C Ns size A c0 P w h hin hnd hT
  rw [hc, hl] at this
  exact this
namespace Mix2
set_option maxRecDepth 100000 in
set_option maxHeartbeats 40000000 in
theorem awake_any47 (w : World) (hT : Tab w) :
    Calls Tryd.prog 6 #[] w fun e w' => e = .returned (.bool true) ∧ Below w.heap.size w w' := by
  go_enter Tryd.func6, Tryd.ntmps6
  have b := Below.refl w.heap.size w
  go_wp2_with fail
  refine absC1 fun v1 B1 hb hz => ?_
  clear hz
  replace hT := hT.below hb; replace b := b.trans (hb.mono b.size)
  clear hb
  refine (of_lit [0, 1] 3 (by decide +kernel) (by decide) B1).mono ?_
  rintro e u1 ⟨A1, n1, c1, rfl, s1, hb⟩
  replace hT := hT.below hb; replace b := b.trans (hb.mono b.size); replace B1 := B1.below hb B1.lt
  clear hb
  go_wp2_with fail
  refine absC1 fun v2 B2 hb hz => ?_
  clear hz
  replace hT := hT.below hb; replace b := b.trans (hb.mono b.size); replace s1 := s1.below hb
  clear hb
  refine (of_lit [1, 2] 6 (by decide +kernel) (by decide) B2).mono ?_
  rintro e u2 ⟨A2, n2, c2, rfl, s2, hb⟩
  replace hT := hT.below hb; replace b := b.trans (hb.mono b.size); replace s1 := s1.below hb; replace B2 := B2.below hb B2.lt
  clear hb
  go_wp2_with fail
  refine absC1 fun v3 B3 hb hz => ?_
  clear hz
  replace hT := hT.below hb; replace b := b.trans (hb.mono b.size); replace s1 := s1.below hb; replace s2 := s2.below hb
  clear hb
  refine (of_lit [0, 2] 5 (by decide +kernel) (by decide) B3).mono ?_
  rintro e u3 ⟨A3, n3, c3, rfl, s3, hb⟩
  replace hT := hT.below hb; replace b := b.trans (hb.mono b.size); replace s1 := s1.below hb; replace s2 := s2.below hb; replace B3 := B3.below hb B3.lt
  clear hb
  go_wp2_with fail
  refine absC1 fun v4 B4 hb hz => ?_
  clear hz
  replace hT := hT.below hb; replace b := b.trans (hb.mono b.size); replace s1 := s1.below hb; replace s2 := s2.below hb; replace s3 := s3.below hb
  clear hb
  refine (ofm_lit _ [3, 6, 5] 3 B4 (Sets.three s1 s2 s3) (by decide) (by decide) aw47_5.1).mono ?_
  rintro e u4 ⟨q1, rfl, m1, hb⟩
  replace hT := hT.below hb; replace b := b.trans (hb.mono b.size); replace s1 := s1.below hb; replace s2 := s2.below hb; replace s3 := s3.below hb; replace B4 := B4.below hb B4.lt
  clear hb
  go_wp2_with fail
  refine absC1 fun v5 B5 hb hz => ?_
  clear hz
  replace hT := hT.below hb; replace b := b.trans (hb.mono b.size); replace m1 := m1.below hb
  clear hb
  refine (of_lit [0, 1] 3 (by decide +kernel) (by decide) B5).mono ?_
  rintro e u5 ⟨A5, n5, c5, rfl, s5, hb⟩
  replace hT := hT.below hb; replace b := b.trans (hb.mono b.size); replace m1 := m1.below hb; replace B5 := B5.below hb B5.lt
  clear hb
  go_wp2_with fail
  refine absC1 fun v6 B6 hb hz => ?_
  clear hz
  replace hT := hT.below hb; replace b := b.trans (hb.mono b.size); replace m1 := m1.below hb; replace s5 := s5.below hb
  clear hb
  refine (ofm_lit _ [3] 2 B6 (Sets.one s5) (by decide) (by decide) aw47_5.2).mono ?_
  rintro e u6 ⟨q2, rfl, m2, hb⟩
  replace hT := hT.below hb; replace b := b.trans (hb.mono b.size); replace m1 := m1.below hb; replace s5 := s5.below hb; replace B6 := B6.below hb B6.lt
  clear hb
  have z := Below.refl u6.heap.size u6
  have b6 := b
  go_wp2_with fail
  refine absC3 fun v7 B7 B8 B9 hb hz => ?_
  clear hz
  replace z := z.trans (hb.mono z.size); replace b := b.trans (hb.mono b.size)
  clear hb
  obtain ⟨g7, hg7⟩ : ∃ g, g = u6.heap.size := ⟨_, rfl⟩
  rw [← hg7] at B7 B8 B9 ⊢
  have hg6 : u6.heap.size ≤ g7 + 1 + 1 := by omega
  clear hg7
  refine (check_is aw47_1 rfl (m1.below z) aw47_5.1 (aw47P_nodes B7 B8) (hT.below z)).mono ?_
  rintro e u7 ⟨rfl, hb⟩
  replace z := z.trans (hb.mono z.size); replace b := b.trans (hb.mono b.size); replace B7 := B7.below hb B7.lt; replace B8 := B8.below hb B8.lt; replace B9 := B9.below hb B9.lt
  clear hb
  have c9 := B9.cell 0; have c91 := B9.cell 1; have f9 := B9.frozen 0; have l9 := B9.lt
  go_wp2_with fail
  replace B7 := B7.far (p := ⟨g7 + 1 + 1, 0, none⟩) (by show g7 ≠ g7 + 1 + 1; omega) (.int .i64 4)
  replace B8 := B8.far (p := ⟨g7 + 1 + 1, 0, none⟩) (by show g7 + 1 ≠ g7 + 1 + 1; omega) (.int .i64 4)
  replace z := z.setCell (p := ⟨g7 + 1 + 1, 0, none⟩) hg6 (.int .i64 4)
  replace b := b.setCell (p := ⟨g7 + 1 + 1, 0, none⟩) (Nat.le_trans b6.size hg6) (.int .i64 4)
  obtain ⟨V, hV⟩ : ∃ W, W = u7.setCell ⟨g7 + 1 + 1, 0, none⟩ (.int .i64 4) := ⟨_, rfl⟩
  rw [← hV] at B7 B8 z b ⊢
  clear hV c9 c91 f9 l9 B9
  refine (check_is aw47_2 rfl (m1.below z) aw47_5.1 (aw47P_nodes B7 B8) (hT.below z)).mono ?_
  rintro e u8 ⟨rfl, hb⟩
  replace z := z.trans (hb.mono z.size); replace b := b.trans (hb.mono b.size); replace B7 := B7.below hb B7.lt; replace B8 := B8.below hb B8.lt
  clear hb
  clear B7 B8
  go_wp2_with fail
  refine absC2 fun v8 B7 B8 hb hz => ?_
  clear hz
  replace z := z.trans (hb.mono z.size); replace b := b.trans (hb.mono b.size)
  clear hb
  obtain ⟨g8, hg8⟩ : ∃ g, g = u8.heap.size := ⟨_, rfl⟩
  rw [← hg8] at B7 B8 ⊢
  clear hg8
  refine (check_is aw47_3 rfl (m2.below z) aw47_5.2 (aw47Q_nodes B7 B8) (hT.below z)).mono ?_
  rintro e u9 ⟨rfl, hb⟩
  replace z := z.trans (hb.mono z.size); replace b := b.trans (hb.mono b.size); replace B7 := B7.below hb B7.lt; replace B8 := B8.below hb B8.lt
  clear hb
  clear B7 B8
  go_wp2_with fail
  have hcc := conc_any (some ⟨q2, 0, none⟩) 2 [3] (0 : Int) (0 : Int) u9 (m2.below z).mv aw47_5.2 (hT.below z)
  rw [aw47_4] at hcc
  refine hcc.mono ?_
  rintro e u10 ⟨A9, n9, c9, vs9, rfl, rfl, hr9, hs9, hb⟩
  replace z := z.trans (hb.mono z.size); replace b := b.trans (hb.mono b.size)
  clear hb hcc
  obtain ⟨y9, hy9⟩ : ∃ y, vs9 = [y] := List.length_eq_one_iff.1 hs9.1
  subst hy9
  have sy9 := hs9.2 0 y9 3 rfl rfl
  obtain ⟨A8, c8, rfl, _⟩ := id sy9
  obtain ⟨g9, o9, rfl, hg9, hc9⟩ := hr9 (by simp)
  have d9 := hc9 0 _ rfl
  rw [Nat.add_zero] at d9
  clear hr9 hs9 hc9
  have r := Below.refl u10.heap.size u10
  go_wp2_with fail
  refine wp_mix (fun V => Below u10.heap.size u10 V) 38 (by kernel_rfl) (by kernel_rfl) (Below.refl _ _).drew ?_
  have hr : Below u10.heap.size u10 u10.drew := (Below.refl _ _).drew
  obtain ⟨u11, hw⟩ : ∃ V, V = u10.drew := ⟨_, rfl⟩
  rw [← hw] at hr ⊢; clear hw
  have hb := hr
  replace z := z.trans (hb.mono z.size); replace b := b.trans (hb.mono b.size); replace sy9 := sy9.below hb
  clear hb
  (refine m_q 0 (v := ?_) (by kernel_rfl) rfl rfl (fun W hW => ?_) ?_; rotate_left; (go_simp; first | done | with_reducible rfl); simp only [Act.put, List.setIfInBounds_toArray, List.set_cons_zero, List.set_cons_succ]); (refine m_q 1 (v := ?_) (by kernel_rfl) rfl rfl (fun W hW => ?_) ?_; rotate_left; (go_simp; first | done | with_reducible rfl); simp only [Act.put, List.setIfInBounds_toArray, List.set_cons_zero, List.set_cons_succ]); (refine m_q 2 (v := ?_) (by kernel_rfl) rfl rfl (fun W hW => ?_) ?_; rotate_left; (go_simp; first | done | with_reducible rfl); simp only [Act.put, List.setIfInBounds_toArray, List.set_cons_zero, List.set_cons_succ]); (refine m_q 3 (v := ?_) (by kernel_rfl) rfl rfl (fun W hW => ?_) ?_; rotate_left; (go_simp; first | done | with_reducible rfl); simp only [Act.put, List.setIfInBounds_toArray, List.set_cons_zero, List.set_cons_succ]); (refine m_q 4 (v := ?_) (by kernel_rfl) rfl rfl (fun W hW => ?_) ?_; rotate_left; (go_simp; first | done | with_reducible rfl); simp only [Act.put, List.setIfInBounds_toArray, List.set_cons_zero, List.set_cons_succ]); (refine m_yes 5 (v := ?_) (by kernel_rfl) rfl (by rfl) (fun W hW => ?_) ?_; rotate_left; (go_simp; first | done | with_reducible rfl); simp only [Act.put, List.setIfInBounds_toArray, List.set_cons_zero, List.set_cons_succ]); (refine m_yes 6 (v := ?_) (by kernel_rfl) rfl (by rfl) (fun W hW => ?_) ?_; rotate_left; (go_simp; first | done | with_reducible rfl); simp only [Act.put, List.setIfInBounds_toArray, List.set_cons_zero, List.set_cons_succ]); (refine m_q 7 (v := ?_) (by kernel_rfl) rfl rfl (fun W hW => ?_) ?_; rotate_left; (go_simp; first | done | with_reducible rfl); simp only [Act.put, List.setIfInBounds_toArray, List.set_cons_zero, List.set_cons_succ]); (refine m_q 8 (v := ?_) (by kernel_rfl) rfl rfl (fun W hW => ?_) ?_; rotate_left; (go_simp; first | done | with_reducible rfl); simp only [Act.put, List.setIfInBounds_toArray, List.set_cons_zero, List.set_cons_succ]); (refine m_yes 9 (v := ?_) (by kernel_rfl) rfl (by rfl) (fun W hW => ?_) ?_; rotate_left; (go_simp; first | done | with_reducible rfl); simp only [Act.put, List.setIfInBounds_toArray, List.set_cons_zero, List.set_cons_succ]); (refine m_yes 10 (v := ?_) (by kernel_rfl) rfl (by rfl) (fun W hW => ?_) ?_; rotate_left; (go_simp; first | done | with_reducible rfl); simp only [Act.put, List.setIfInBounds_toArray, List.set_cons_zero, List.set_cons_succ]); (refine m_q 11 (v := ?_) (by kernel_rfl) rfl rfl (fun W hW => ?_) ?_; rotate_left; (go_simp; first | done | with_reducible rfl); simp only [Act.put, List.setIfInBounds_toArray, List.set_cons_zero, List.set_cons_succ]); (refine m_q 12 (v := ?_) (by kernel_rfl) rfl rfl (fun W hW => ?_) ?_; rotate_left; (go_simp; first | done | with_reducible rfl); simp only [Act.put, List.setIfInBounds_toArray, List.set_cons_zero, List.set_cons_succ]); (refine m_yes 13 (v := ?_) (by kernel_rfl) rfl (by rfl) (fun W hW => ?_) ?_; rotate_left; (go_simp; first | done | with_reducible rfl); simp only [Act.put, List.setIfInBounds_toArray, List.set_cons_zero, List.set_cons_succ]); (refine m_yes 14 (v := ?_) (by kernel_rfl) rfl (by rfl) (fun W hW => ?_) ?_; rotate_left; (go_simp; first | done | with_reducible rfl); simp only [Act.put, List.setIfInBounds_toArray, List.set_cons_zero, List.set_cons_succ]); (refine m_q 15 (v := ?_) (by kernel_rfl) rfl rfl (fun W hW => ?_) ?_; rotate_left; (go_simp; first | done | with_reducible rfl); simp only [Act.put, List.setIfInBounds_toArray, List.set_cons_zero, List.set_cons_succ]); (refine m_q 16 (v := ?_) (by kernel_rfl) rfl rfl (fun W hW => ?_) ?_; rotate_left; (go_simp; first | done | with_reducible rfl); simp only [Act.put, List.setIfInBounds_toArray, List.set_cons_zero, List.set_cons_succ]); (refine m_yes 17 (v := ?_) (by kernel_rfl) rfl (by rfl) (fun W hW => ?_) ?_; rotate_left; (go_simp; first | done | with_reducible rfl); simp only [Act.put, List.setIfInBounds_toArray, List.set_cons_zero, List.set_cons_succ]); (refine m_yes 18 (v := ?_) (by kernel_rfl) rfl (by rfl) (fun W hW => ?_) ?_; rotate_left; (go_simp; first | done | with_reducible rfl); simp only [Act.put, List.setIfInBounds_toArray, List.set_cons_zero, List.set_cons_succ]); (refine m_q 19 (v := ?_) (by kernel_rfl) rfl rfl (fun W hW => ?_) ?_; rotate_left; (go_simp; first | done | with_reducible rfl); simp only [Act.put, List.setIfInBounds_toArray, List.set_cons_zero, List.set_cons_succ]); (refine m_q 20 (v := ?_) (by kernel_rfl) rfl rfl (fun W hW => ?_) ?_; rotate_left; (go_simp; first | done | with_reducible rfl); simp only [Act.put, List.setIfInBounds_toArray, List.set_cons_zero, List.set_cons_succ]); (refine m_yes 21 (v := ?_) (by kernel_rfl) rfl (by rfl) (fun W hW => ?_) ?_; rotate_left; (go_simp; first | done | with_reducible rfl); simp only [Act.put, List.setIfInBounds_toArray, List.set_cons_zero, List.set_cons_succ]); (refine m_yes 22 (v := ?_) (by kernel_rfl) rfl (by rfl) (fun W hW => ?_) ?_; rotate_left; (go_simp; first | done | with_reducible rfl); simp only [Act.put, List.setIfInBounds_toArray, List.set_cons_zero, List.set_cons_succ]); (refine m_q 23 (v := ?_) (by kernel_rfl) rfl rfl (fun W hW => ?_) ?_; rotate_left; (go_simp; first | done | with_reducible rfl); simp only [Act.put, List.setIfInBounds_toArray, List.set_cons_zero, List.set_cons_succ]); (refine m_q 24 (v := ?_) (by kernel_rfl) rfl rfl (fun W hW => ?_) ?_; rotate_left; (go_simp; first | done | with_reducible rfl); simp only [Act.put, List.setIfInBounds_toArray, List.set_cons_zero, List.set_cons_succ]); (refine m_yes 25 (v := ?_) (by kernel_rfl) rfl (by rfl) (fun W hW => ?_) ?_; rotate_left; (go_simp; first | done | with_reducible rfl); simp only [Act.put, List.setIfInBounds_toArray, List.set_cons_zero, List.set_cons_succ]); (refine m_yes 26 (v := ?_) (by kernel_rfl) rfl (by rfl) (fun W hW => ?_) ?_; rotate_left; (go_simp; first | done | with_reducible rfl); simp only [Act.put, List.setIfInBounds_toArray, List.set_cons_zero, List.set_cons_succ]); (refine m_yes 27 (v := ?_) (by kernel_rfl) rfl (by rfl) (fun W hW => ?_) ?_; rotate_left; (go_simp; first | done | with_reducible rfl); simp only [Act.put, List.setIfInBounds_toArray, List.set_cons_zero, List.set_cons_succ]); (refine m_q 28 (v := ?_) (by kernel_rfl) rfl rfl (fun W hW => ?_) ?_; rotate_left; (go_simp; first | done | with_reducible rfl); simp only [Act.put, List.setIfInBounds_toArray, List.set_cons_zero, List.set_cons_succ]); (refine m_q 29 (v := ?_) (by kernel_rfl) rfl rfl (fun W hW => ?_) ?_; rotate_left; (go_simp; first | done | with_reducible rfl); simp only [Act.put, List.setIfInBounds_toArray, List.set_cons_zero, List.set_cons_succ]); (refine m_yes 30 (v := ?_) (by kernel_rfl) rfl (by rfl) (fun W hW => ?_) ?_; rotate_left; (go_simp; first | done | with_reducible rfl); simp only [Act.put, List.setIfInBounds_toArray, List.set_cons_zero, List.set_cons_succ]); (refine m_yes 31 (v := ?_) (by kernel_rfl) rfl (by rfl) (fun W hW => ?_) ?_; rotate_left; (go_simp; first | done | with_reducible rfl); simp only [Act.put, List.setIfInBounds_toArray, List.set_cons_zero, List.set_cons_succ]); (refine m_yes 32 (v := ?_) (by kernel_rfl) rfl (by rfl) (fun W hW => ?_) ?_; rotate_left; (have z0 := onB hW d9; go_simp; first | done | with_reducible rfl); simp only [Act.put, List.setIfInBounds_toArray, List.set_cons_zero, List.set_cons_succ])
  refine m_s1 33 (by kernel_rfl) rfl ?_
  go_wp2_with fail
  refine absN fun u12 B10 hb hz => ?_
  clear hz
  replace z := z.trans (hb.mono z.size); replace b := b.trans (hb.mono b.size); replace sy9 := sy9.below hb; replace hr := hr.trans (hb.mono hr.size)
  clear hb
  refine m_keep hr ?_
  refine m_s1 34 (by kernel_rfl) rfl ?_
  go_wp2_with fail
  refine (of_lit [0, 1] 3 (by decide +kernel) (by decide) B10).mono ?_
  rintro e u13 ⟨A10, n10, c10, rfl, s10, hb⟩
  replace z := z.trans (hb.mono z.size); replace b := b.trans (hb.mono b.size); replace sy9 := sy9.below hb; replace hr := hr.trans (hb.mono hr.size); replace B10 := B10.below hb B10.lt
  clear hb
  go_wp2_with fail
  refine m_keep hr ?_
  refine m_s1 35 (by kernel_rfl) rfl ?_
  go_wp2_with fail
  refine (eq_same sy9 s10).mono ?_
  rintro e u14 ⟨rfl, hb⟩
  replace z := z.trans (hb.mono z.size); replace b := b.trans (hb.mono b.size); replace sy9 := sy9.below hb; replace hr := hr.trans (hb.mono hr.size); replace B10 := B10.below hb B10.lt; replace s10 := s10.below hb
  clear hb
  go_wp2_with fail
  refine m_keep hr ?_
  (refine m_q 36 (v := ?_) (by kernel_rfl) rfl rfl (fun W hW => ?_) ?_; rotate_left; (go_simp; first | done | with_reducible rfl); simp only [Act.put, List.setIfInBounds_toArray, List.set_cons_zero, List.set_cons_succ])
  (refine m_q 37 (v := ?_) (by kernel_rfl) rfl rfl (fun W hW => ?_) ?_; rotate_left; (go_simp; first | done | with_reducible rfl); simp only [Act.put, List.setIfInBounds_toArray, List.set_cons_zero])
  refine m_end (by kernel_rfl) ?_
  go_wp2_with fail
  go_ret
  exact ⟨rfl, b⟩
end Mix2
end Go.Proofs.YthnphekhgaefdaaDoor
