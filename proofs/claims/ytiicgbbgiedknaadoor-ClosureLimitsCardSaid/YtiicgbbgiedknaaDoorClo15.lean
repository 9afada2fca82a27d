/-
  awake of chapter 45: the examples hold.
-/
import Derived.Test.YtiicgbbgiedknaaDoorClo12
import Derived.Test.YtiicgbbgiedknaaDoorLaw3
namespace Go.Proofs.YtiicgbbgiedknaaDoor
open Go.RowKit

/-- bits.Of over a literal row. -/
theorem of_lit {w : World} {g : Nat} (xs : List Int) (N : Nat) (hN : setOf xs = N) (hl : xs.length ≤ 1000000) (hB : Blk w g 3 (xs.map (Value.int .i64)).toArray) :
    Calls Tryd.prog 37 #[.slice (some ⟨g, 0, none⟩) xs.length xs.length] w fun e w' => ∃ A n c, e = .returned (.agg #[.slice A n c]) ∧ IsSet w' (.slice A n c) N ∧ Below w.heap.size w w' := by
  refine (of_any _ _ xs w (Row.of_blk hB fun k u hu => by rw [List.getElem?_toArray]; exact hu) hl).mono ?_
  rintro e w' ⟨r, rfl, hr, hb⟩
  obtain ⟨A, c, rfl, _⟩ := id hr
  rw [← hN]
  exact ⟨_, _, _, rfl, hr, hb⟩
theorem of_none {w : World} : Calls Tryd.prog 37 #[.slice none 0 0] w fun e w' => ∃ A n c, e = .returned (.agg #[.slice A n c]) ∧ IsSet w' (.slice A n c) 0 ∧ Below w.heap.size w w' := by
  refine (of_any none 0 [] w (Row.empty _ _) (by decide)).mono ?_
  rintro e w' ⟨r, rfl, hr, hb⟩
  obtain ⟨A, c, rfl, _⟩ := id hr
  exact ⟨_, _, _, rfl, hr, hb⟩
theorem hav_lit {w : World} {p C : Nat} {Ns : List Nat} {v : Value} {S : Nat} (R : Nat) (hR : havN C Ns S = R) (h : IsMat w p C Ns) (hT : Tab w) (hs : IsSet w v S) :
    Calls Tryd.prog 19 #[ptr p, .agg #[v]] w fun e w' => ∃ A n c, e = .returned (.agg #[.slice A n c]) ∧ IsSet w' (.slice A n c) R ∧ Below w.heap.size w w' := by
  refine (having_any _ C Ns v S w (.inr ⟨p, rfl, h⟩) hs hT).mono ?_
  rintro e w' ⟨r, rfl, hr, hb⟩
  obtain ⟨A, c, rfl, _⟩ := id hr
  rw [← hR]
  exact ⟨_, _, _, rfl, hr, hb⟩
theorem clo_lit {w : World} {p C : Nat} {Ns : List Nat} {v : Value} {S : Nat} (R : Nat) (hR : cloN C Ns S = R) (h : IsMat w p C Ns) (hT : Tab w) (hs : IsSet w v S) :
    Calls Tryd.prog 20 #[ptr p, .agg #[v]] w fun e w' => ∃ A n c, e = .returned (.agg #[.slice A n c]) ∧ IsSet w' (.slice A n c) R ∧ Below w.heap.size w w' := by
  refine (close_any _ C Ns v S w (.inr ⟨p, rfl, h⟩) hs hT).mono ?_
  rintro e w' ⟨r, rfl, hr, hb⟩
  obtain ⟨A, c, rfl, _⟩ := id hr
  rw [← hR]
  exact ⟨_, _, _, rfl, hr, hb⟩
theorem eq_same {w : World} {v u : Value} {N : Nat} (hs : IsSet w v N) (ho : IsSet w u N) :
    Calls Tryd.prog 26 #[.agg #[v], .agg #[u]] w fun e w' => e = .returned (.bool true) ∧ Below w.heap.size w w' := by
  have := equal_any v u N N w hs ho
  rwa [decide_eq_true rfl] at this
theorem aw45_1 : pOK (⟨#[49, 49, 48, 10, 49, 49, 49, 10, 48, 49, 49, 10]⟩ : ByteArray).data.toList ∧ pC (⟨#[49, 49, 48, 10, 49, 49, 49, 10, 48, 49, 49, 10]⟩ : ByteArray).data.toList = 3 ∧ pNs (⟨#[49, 49, 48, 10, 49, 49, 49, 10, 48, 49, 49, 10]⟩ : ByteArray).data.toList = [3, 7, 6] := by decide +kernel
theorem aw45_2 : cloN 3 [3, 7, 6] 7 = 7 ∧ minL 3 [3, 7, 6] 7 = [5] ∧ havN 3 [3, 7, 6] 1 = 3 ∧ cloN 3 [3, 7, 6] 1 = 3 ∧ cloN 3 [3, 7, 6] 0 = 2 ∧ havN 3 [3, 7, 6] 5 = 2 ∧ card 7 ≤ 12 := by decide +kernel
namespace Mix2
set_option maxRecDepth 100000 in
set_option maxHeartbeats 40000000 in
theorem awake_any45 (w : World) (hT : Tab w) :
    Calls Tryd.prog 13 #[] w fun e w' => e = .returned (.bool true) ∧ Below w.heap.size w w' := by
  have HP1 := hideC (parse_at ⟨#[49, 49, 48, 10, 49, 49, 49, 10, 48, 49, 49, 10]⟩ 3 [3, 7, 6] aw45_1.2.1 aw45_1.2.2 aw45_1.1 (by decide) w)
  go_enter Tryd.func13, Tryd.ntmps13
  go_wp2_with fail
  refine HP1.out.mono ?_
  rintro e w1 ⟨p1, rfl, hm1, hb1⟩
  clear HP1
  go_wp2_with fail
  refine absC1 fun w2 B2 hb2 hz2 => ?_
  have b2 := hb1.trans (hb2.mono hb1.size)
  refine (of_lit [0, 1, 2] 7 (by decide +kernel) (by decide) B2).mono ?_
  rintro e w3 ⟨A3, n3, c3, rfl, s3, hb3⟩
  have b3 := b2.trans (hb3.mono b2.size)
  have hm3 := (hm1.below hb2).below hb3
  have HMI := hideC (minimal_any p1 3 [3, 7, 6] _ 7 w3 hm3 s3 (hT.below b3) (by rw [aw45_2.1]; exact aw45_2.2.2.2.2.2.2))
  clear B2 hz2
  go_wp2_with fail
  refine HMI.out.mono ?_
  rintro e wq0 ⟨A, n, c, vs, Ls, rfl, hn, hperm, hpw, hrow0, hsets0, hb4⟩
  rw [aw45_2.1, aw45_2.2.1] at hperm
  obtain rfl := List.perm_singleton.1 hperm
  clear hperm hpw
  obtain rfl : n = 1 := hn
  have b4 := b3.trans (hb4.mono b3.size)
  have hm4 := hm3.below hb4
  have hvs : ∃ v0, vs = [v0] := List.length_eq_one_iff.1 hsets0.1
  obtain ⟨v0, rfl⟩ := hvs
  have hs0 := hsets0.2 0 v0 5 rfl rfl
  obtain ⟨i9, o9, rfl, hi9, hc9⟩ := hrow0 (by simp)
  have c9 := hc9 0 v0 rfl
  obtain ⟨A0, d0, rfl, _⟩ := id hs0
  rw [Nat.add_zero] at c9
  have hT4 := hT.below b4
  clear hsets0 hrow0 hc9 hT hm1 hm3 hb1 hb2 hb3 hb4 b2 b3 s3 HMI
  go_wp2_with fail
  have hd : Below wq0.heap.size wq0 wq0.drew := (Below.refl _ _).drew
  refine wp_mix (fun V => Below wq0.drew.heap.size wq0.drew V) 51 (by kernel_rfl) (by kernel_rfl) (Below.refl _ _) ?_
  obtain ⟨wq, hwq⟩ : ∃ V, V = wq0.drew := ⟨_, rfl⟩
  rw [← hwq] at hd ⊢
  clear hwq
  have bq := b4.trans (hd.mono b4.size)
  have hm := hm4.below hd
  have hT := hT4.below hd
  have s9 := hs0.below hd
  have c0 := onB hd c9
  have j := Below.refl wq.heap.size wq
  clear hm4 hT4 hs0 c9 hd b4
  (refine m_q 0 (v := ?_) (by kernel_rfl) rfl rfl (fun W hW => ?_) ?_; rotate_left; (go_simp; first | done | with_reducible rfl); simp only [Act.put, List.setIfInBounds_toArray, List.set_cons_zero, List.set_cons_succ])
  refine m_join (β := Unit) #[true, true, true, true, true, true, true, true, false, false, false, false, false, false, false, false, false, false, false, false, false, false, false, false, false, false, false, false, false, false, false, false, false, false, false, false, false, false, false, false, false, false, false, false, false, false, false, false, false, false, false] 43 (fun _ f => #[f 0, ptr p1, f 2, .slice (some ⟨i9, o9, none⟩) 1 c, .int .i64 0, f 5, f 6, f 7, f 8, f 9, f 10, f 11, f 12, f 13, f 14, f 15, f 16, f 17, f 18, f 19, f 20, f 21, f 22, f 23, f 24, .bool true, f 26, f 27, f 28, f 29, f 30, f 31, f 32, f 33, f 34, f 35, f 36, f 37, f 38, f 39, f 40, f 41, f 42, f 43, f 44, f 45, f 46, f 47, f 48, f 49, f 50, f 51, f 52, f 53, f 54, f 55, f 56, f 57, f 58, f 59, f 60, f 61, f 62, f 63, f 64, f 65, f 66, f 67]) (fun _ ds V => ds = [] ∧ Below wq.heap.size wq V) ?lf1 ?tr1
  case tr1 =>
    intro HL
    refine m_s2 1 4 (by kernel_rfl) rfl rfl ?_ ?_
    · go_wp2_with fail
      refine absN fun wk1 B1 hb hzq => ?_
      clear hzq
      replace j := j.trans (hb.mono j.size)
      refine m_keep j ?_
      clear hb
      refine m_s2 2 4 (by kernel_rfl) rfl rfl ?_ ?_
      · go_wp2_with fail
        refine (of_lit [0] 1 (by decide +kernel) (by decide) B1).mono ?_
        rintro e wk2 ⟨A2, n2, c2, rfl, s2, hb⟩
        replace B1 := B1.below hb B1.lt
        replace j := j.trans (hb.mono j.size)
        go_wp2_with fail
        refine m_keep j ?_
        clear hb
        refine m_s2 3 4 (by kernel_rfl) rfl rfl ?_ ?_
        · go_wp2_with fail
          refine (hav_lit 3 aw45_2.2.2.1 (hm.below j) (hT.below j) s2).mono ?_
          rintro e wk3 ⟨A3, n3, c3, rfl, s3, hb⟩
          replace B1 := B1.below hb B1.lt
          replace s2 := s2.below hb
          replace j := j.trans (hb.mono j.size)
          go_wp2_with fail
          refine m_keep j ?_
          clear hb
          refine m_s1 4 (by kernel_rfl) rfl ?_
          go_wp2_with fail
          refine absN fun wk4 B4 hb hzq => ?_
          clear hzq
          replace B1 := B1.below hb B1.lt
          replace s2 := s2.below hb
          replace s3 := s3.below hb
          replace j := j.trans (hb.mono j.size)
          refine m_keep j ?_
          generalize wk3.heap.size = g4 at B4 ⊢
          clear hb
          refine m_s1 5 (by kernel_rfl) rfl ?_
          go_wp2_with fail
          refine (of_lit [0, 1] 3 (by decide +kernel) (by decide) B4).mono ?_
          rintro e wk5 ⟨A5, n5, c5, rfl, s5, hb⟩
          replace B1 := B1.below hb B1.lt
          replace s2 := s2.below hb
          replace s3 := s3.below hb
          replace B4 := B4.below hb B4.lt
          replace j := j.trans (hb.mono j.size)
          go_wp2_with fail
          refine m_keep j ?_
          clear hb
          refine m_s1 6 (by kernel_rfl) rfl ?_
          go_wp2_with fail
          refine (eq_same s3 s5).mono ?_
          rintro e wk6 ⟨rfl, hb⟩
          replace B1 := B1.below hb B1.lt
          replace s2 := s2.below hb
          replace s3 := s3.below hb
          replace B4 := B4.below hb B4.lt
          replace s5 := s5.below hb
          replace j := j.trans (hb.mono j.size)
          go_wp2_with fail
          refine m_keep j ?_
          clear hb
          (refine m_q 7 (v := ?_) (by kernel_rfl) rfl rfl (fun W hW => ?_) ?_; rotate_left; (go_simp; first | done | with_reducible rfl); simp only [Act.put, List.setIfInBounds_toArray, List.set_cons_zero, List.set_cons_succ])
          exact HL () _ _ _ (by kernel_rfl) rfl ⟨by first | rfl | trivial, j⟩
        · go_wp2_with fail
          refine absN fun wk7 B4 hb hzq => ?_
          clear hzq
          replace B1 := B1.below hb B1.lt
          replace s2 := s2.below hb
          replace j := j.trans (hb.mono j.size)
          refine m_keep j ?_
          generalize wk2.heap.size = g4 at B4 ⊢
          clear hb
          refine m_s1 3 (by kernel_rfl) rfl ?_
          go_wp2_with fail
          refine (hav_lit 3 aw45_2.2.2.1 (hm.below j) (hT.below j) s2).mono ?_
          rintro e wk8 ⟨A3, n3, c3, rfl, s3, hb⟩
          replace B1 := B1.below hb B1.lt
          replace s2 := s2.below hb
          replace B4 := B4.below hb B4.lt
          replace j := j.trans (hb.mono j.size)
          go_wp2_with fail
          refine m_keep j ?_
          clear hb
          refine m_s1 5 (by kernel_rfl) rfl ?_
          go_wp2_with fail
          refine (of_lit [0, 1] 3 (by decide +kernel) (by decide) B4).mono ?_
          rintro e wk9 ⟨A5, n5, c5, rfl, s5, hb⟩
          replace B1 := B1.below hb B1.lt
          replace s2 := s2.below hb
          replace B4 := B4.below hb B4.lt
          replace s3 := s3.below hb
          replace j := j.trans (hb.mono j.size)
          go_wp2_with fail
          refine m_keep j ?_
          clear hb
          refine m_s1 6 (by kernel_rfl) rfl ?_
          go_wp2_with fail
          refine (eq_same s3 s5).mono ?_
          rintro e wk10 ⟨rfl, hb⟩
          replace B1 := B1.below hb B1.lt
          replace s2 := s2.below hb
          replace B4 := B4.below hb B4.lt
          replace s3 := s3.below hb
          replace s5 := s5.below hb
          replace j := j.trans (hb.mono j.size)
          go_wp2_with fail
          refine m_keep j ?_
          clear hb
          (refine m_q 7 (v := ?_) (by kernel_rfl) rfl rfl (fun W hW => ?_) ?_; rotate_left; (go_simp; first | done | with_reducible rfl); simp only [Act.put, List.setIfInBounds_toArray, List.set_cons_zero, List.set_cons_succ])
          exact HL () _ _ _ (by kernel_rfl) rfl ⟨by first | rfl | trivial, j⟩
      · go_wp2_with fail
        refine absN fun wk11 B4 hb hzq => ?_
        clear hzq
        replace B1 := B1.below hb B1.lt
        replace j := j.trans (hb.mono j.size)
        refine m_keep j ?_
        generalize wk1.heap.size = g4 at B4 ⊢
        clear hb
        refine m_s1 2 (by kernel_rfl) rfl ?_
        go_wp2_with fail
        refine (of_lit [0] 1 (by decide +kernel) (by decide) B1).mono ?_
        rintro e wk12 ⟨A2, n2, c2, rfl, s2, hb⟩
        replace B1 := B1.below hb B1.lt
        replace B4 := B4.below hb B4.lt
        replace j := j.trans (hb.mono j.size)
        go_wp2_with fail
        refine m_keep j ?_
        clear hb
        refine m_s1 3 (by kernel_rfl) rfl ?_
        go_wp2_with fail
        refine (hav_lit 3 aw45_2.2.2.1 (hm.below j) (hT.below j) s2).mono ?_
        rintro e wk13 ⟨A3, n3, c3, rfl, s3, hb⟩
        replace B1 := B1.below hb B1.lt
        replace B4 := B4.below hb B4.lt
        replace s2 := s2.below hb
        replace j := j.trans (hb.mono j.size)
        go_wp2_with fail
        refine m_keep j ?_
        clear hb
        refine m_s1 5 (by kernel_rfl) rfl ?_
        go_wp2_with fail
        refine (of_lit [0, 1] 3 (by decide +kernel) (by decide) B4).mono ?_
        rintro e wk14 ⟨A5, n5, c5, rfl, s5, hb⟩
        replace B1 := B1.below hb B1.lt
        replace B4 := B4.below hb B4.lt
        replace s2 := s2.below hb
        replace s3 := s3.below hb
        replace j := j.trans (hb.mono j.size)
        go_wp2_with fail
        refine m_keep j ?_
        clear hb
        refine m_s1 6 (by kernel_rfl) rfl ?_
        go_wp2_with fail
        refine (eq_same s3 s5).mono ?_
        rintro e wk15 ⟨rfl, hb⟩
        replace B1 := B1.below hb B1.lt
        replace B4 := B4.below hb B4.lt
        replace s2 := s2.below hb
        replace s3 := s3.below hb
        replace s5 := s5.below hb
        replace j := j.trans (hb.mono j.size)
        go_wp2_with fail
        refine m_keep j ?_
        clear hb
        (refine m_q 7 (v := ?_) (by kernel_rfl) rfl rfl (fun W hW => ?_) ?_; rotate_left; (go_simp; first | done | with_reducible rfl); simp only [Act.put, List.setIfInBounds_toArray, List.set_cons_zero, List.set_cons_succ])
        exact HL () _ _ _ (by kernel_rfl) rfl ⟨by first | rfl | trivial, j⟩
    · go_wp2_with fail
      refine absN fun wk16 B4 hb hzq => ?_
      clear hzq
      replace j := j.trans (hb.mono j.size)
      refine m_keep j ?_
      clear hb
      refine m_s1 1 (by kernel_rfl) rfl ?_
      go_wp2_with fail
      refine absN fun wk17 B1 hb hzq => ?_
      clear hzq
      replace B4 := B4.below hb B4.lt
      replace j := j.trans (hb.mono j.size)
      refine m_keep j ?_
      generalize wk16.heap.size = g1 at B1 ⊢
      clear hb
      refine m_s1 2 (by kernel_rfl) rfl ?_
      go_wp2_with fail
      refine (of_lit [0] 1 (by decide +kernel) (by decide) B1).mono ?_
      rintro e wk18 ⟨A2, n2, c2, rfl, s2, hb⟩
      replace B4 := B4.below hb B4.lt
      replace B1 := B1.below hb B1.lt
      replace j := j.trans (hb.mono j.size)
      go_wp2_with fail
      refine m_keep j ?_
      clear hb
      refine m_s1 3 (by kernel_rfl) rfl ?_
      go_wp2_with fail
      refine (hav_lit 3 aw45_2.2.2.1 (hm.below j) (hT.below j) s2).mono ?_
      rintro e wk19 ⟨A3, n3, c3, rfl, s3, hb⟩
      replace B4 := B4.below hb B4.lt
      replace B1 := B1.below hb B1.lt
      replace s2 := s2.below hb
      replace j := j.trans (hb.mono j.size)
      go_wp2_with fail
      refine m_keep j ?_
      clear hb
      refine m_s1 5 (by kernel_rfl) rfl ?_
      go_wp2_with fail
      refine (of_lit [0, 1] 3 (by decide +kernel) (by decide) B4).mono ?_
      rintro e wk20 ⟨A5, n5, c5, rfl, s5, hb⟩
      replace B4 := B4.below hb B4.lt
      replace B1 := B1.below hb B1.lt
      replace s2 := s2.below hb
      replace s3 := s3.below hb
      replace j := j.trans (hb.mono j.size)
      go_wp2_with fail
      refine m_keep j ?_
      clear hb
      refine m_s1 6 (by kernel_rfl) rfl ?_
      go_wp2_with fail
      refine (eq_same s3 s5).mono ?_
      rintro e wk21 ⟨rfl, hb⟩
      replace B4 := B4.below hb B4.lt
      replace B1 := B1.below hb B1.lt
      replace s2 := s2.below hb
      replace s3 := s3.below hb
      replace s5 := s5.below hb
      replace j := j.trans (hb.mono j.size)
      go_wp2_with fail
      refine m_keep j ?_
      clear hb
      (refine m_q 7 (v := ?_) (by kernel_rfl) rfl rfl (fun W hW => ?_) ?_; rotate_left; (go_simp; first | done | with_reducible rfl); simp only [Act.put, List.setIfInBounds_toArray, List.set_cons_zero, List.set_cons_succ])
      exact HL () _ _ _ (by kernel_rfl) rfl ⟨by first | rfl | trivial, j⟩
  clear j
  rintro _ f ds v1 ⟨rfl, j⟩
  dsimp only
  (refine m_yes 8 (v := ?_) (by kernel_rfl) rfl (by rfl) (fun W hW => ?_) ?_; rotate_left; (go_simp; first | done | with_reducible rfl); simp only [Act.put, List.setIfInBounds_toArray, List.set_cons_zero, List.set_cons_succ])
  refine m_join (β := Unit) #[true, true, true, true, true, true, true, true, true, true, true, true, true, true, true, true, true, false, false, false, false, false, false, false, false, false, false, false, false, false, false, false, false, false, false, false, false, false, false, false, false, false, false, false, false, false, false, false, false, false, false] 34 (fun _ f => #[f 0, ptr p1, f 2, .slice (some ⟨i9, o9, none⟩) 1 c, .int .i64 0, f 5, f 6, f 7, f 8, f 9, f 10, f 11, f 12, f 13, f 14, f 15, f 16, f 17, f 18, f 19, f 20, f 21, f 22, f 23, f 24, f 25, f 26, f 27, f 28, f 29, f 30, f 31, f 32, f 33, .bool true, f 35, f 36, f 37, f 38, f 39, f 40, f 41, f 42, f 43, f 44, f 45, f 46, f 47, f 48, f 49, f 50, f 51, f 52, f 53, f 54, f 55, f 56, f 57, f 58, f 59, f 60, f 61, f 62, f 63, f 64, f 65, f 66, f 67]) (fun _ ds V => ds = [] ∧ Below wq.heap.size wq V) ?lf2 ?tr2
  case tr2 =>
    intro HL
    refine m_s2 9 12 (by kernel_rfl) rfl rfl ?_ ?_
    · go_wp2_with fail
      refine absN fun wk22 B9 hb hzq => ?_
      clear hzq
      replace j := j.trans (hb.mono j.size)
      refine m_keep j ?_
      generalize v1.heap.size = g9 at B9 ⊢
      clear hb
      refine m_s2 10 12 (by kernel_rfl) rfl rfl ?_ ?_
      · go_wp2_with fail
        refine (of_lit [0] 1 (by decide +kernel) (by decide) B9).mono ?_
        rintro e wk23 ⟨A10, n10, c10, rfl, s10, hb⟩
        replace B9 := B9.below hb B9.lt
        replace j := j.trans (hb.mono j.size)
        go_wp2_with fail
        refine m_keep j ?_
        clear hb
        refine m_s2 11 12 (by kernel_rfl) rfl rfl ?_ ?_
        · go_wp2_with fail
          refine (clo_lit 3 aw45_2.2.2.2.1 (hm.below j) (hT.below j) s10).mono ?_
          rintro e wk24 ⟨A11, n11, c11, rfl, s11, hb⟩
          replace B9 := B9.below hb B9.lt
          replace s10 := s10.below hb
          replace j := j.trans (hb.mono j.size)
          go_wp2_with fail
          refine m_keep j ?_
          clear hb
          refine m_s1 12 (by kernel_rfl) rfl ?_
          go_wp2_with fail
          refine absN fun wk25 B12 hb hzq => ?_
          clear hzq
          replace B9 := B9.below hb B9.lt
          replace s10 := s10.below hb
          replace s11 := s11.below hb
          replace j := j.trans (hb.mono j.size)
          refine m_keep j ?_
          generalize wk24.heap.size = g12 at B12 ⊢
          clear hb
          refine m_s1 13 (by kernel_rfl) rfl ?_
          go_wp2_with fail
          refine (of_lit [0, 1] 3 (by decide +kernel) (by decide) B12).mono ?_
          rintro e wk26 ⟨A13, n13, c13, rfl, s13, hb⟩
          replace B9 := B9.below hb B9.lt
          replace s10 := s10.below hb
          replace s11 := s11.below hb
          replace B12 := B12.below hb B12.lt
          replace j := j.trans (hb.mono j.size)
          go_wp2_with fail
          refine m_keep j ?_
          clear hb
          refine m_s1 14 (by kernel_rfl) rfl ?_
          go_wp2_with fail
          refine (eq_same s11 s13).mono ?_
          rintro e wk27 ⟨rfl, hb⟩
          replace B9 := B9.below hb B9.lt
          replace s10 := s10.below hb
          replace s11 := s11.below hb
          replace B12 := B12.below hb B12.lt
          replace s13 := s13.below hb
          replace j := j.trans (hb.mono j.size)
          go_wp2_with fail
          refine m_keep j ?_
          clear hb
          (refine m_q 15 (v := ?_) (by kernel_rfl) rfl rfl (fun W hW => ?_) ?_; rotate_left; (go_simp; first | done | with_reducible rfl); simp only [Act.put, List.setIfInBounds_toArray, List.set_cons_zero, List.set_cons_succ]); (refine m_q 16 (v := ?_) (by kernel_rfl) rfl rfl (fun W hW => ?_) ?_; rotate_left; (go_simp; first | done | with_reducible rfl); simp only [Act.put, List.setIfInBounds_toArray, List.set_cons_zero, List.set_cons_succ])
          exact HL () _ _ _ (by kernel_rfl) rfl ⟨by first | rfl | trivial, j⟩
        · go_wp2_with fail
          refine absN fun wk28 B12 hb hzq => ?_
          clear hzq
          replace B9 := B9.below hb B9.lt
          replace s10 := s10.below hb
          replace j := j.trans (hb.mono j.size)
          refine m_keep j ?_
          generalize wk23.heap.size = g12 at B12 ⊢
          clear hb
          refine m_s1 11 (by kernel_rfl) rfl ?_
          go_wp2_with fail
          refine (clo_lit 3 aw45_2.2.2.2.1 (hm.below j) (hT.below j) s10).mono ?_
          rintro e wk29 ⟨A11, n11, c11, rfl, s11, hb⟩
          replace B9 := B9.below hb B9.lt
          replace s10 := s10.below hb
          replace B12 := B12.below hb B12.lt
          replace j := j.trans (hb.mono j.size)
          go_wp2_with fail
          refine m_keep j ?_
          clear hb
          refine m_s1 13 (by kernel_rfl) rfl ?_
          go_wp2_with fail
          refine (of_lit [0, 1] 3 (by decide +kernel) (by decide) B12).mono ?_
          rintro e wk30 ⟨A13, n13, c13, rfl, s13, hb⟩
          replace B9 := B9.below hb B9.lt
          replace s10 := s10.below hb
          replace B12 := B12.below hb B12.lt
          replace s11 := s11.below hb
          replace j := j.trans (hb.mono j.size)
          go_wp2_with fail
          refine m_keep j ?_
          clear hb
          refine m_s1 14 (by kernel_rfl) rfl ?_
          go_wp2_with fail
          refine (eq_same s11 s13).mono ?_
          rintro e wk31 ⟨rfl, hb⟩
          replace B9 := B9.below hb B9.lt
          replace s10 := s10.below hb
          replace B12 := B12.below hb B12.lt
          replace s11 := s11.below hb
          replace s13 := s13.below hb
          replace j := j.trans (hb.mono j.size)
          go_wp2_with fail
          refine m_keep j ?_
          clear hb
          (refine m_q 15 (v := ?_) (by kernel_rfl) rfl rfl (fun W hW => ?_) ?_; rotate_left; (go_simp; first | done | with_reducible rfl); simp only [Act.put, List.setIfInBounds_toArray, List.set_cons_zero, List.set_cons_succ]); (refine m_q 16 (v := ?_) (by kernel_rfl) rfl rfl (fun W hW => ?_) ?_; rotate_left; (go_simp; first | done | with_reducible rfl); simp only [Act.put, List.setIfInBounds_toArray, List.set_cons_zero, List.set_cons_succ])
          exact HL () _ _ _ (by kernel_rfl) rfl ⟨by first | rfl | trivial, j⟩
      · go_wp2_with fail
        refine absN fun wk32 B12 hb hzq => ?_
        clear hzq
        replace B9 := B9.below hb B9.lt
        replace j := j.trans (hb.mono j.size)
        refine m_keep j ?_
        generalize wk22.heap.size = g12 at B12 ⊢
        clear hb
        refine m_s1 10 (by kernel_rfl) rfl ?_
        go_wp2_with fail
        refine (of_lit [0] 1 (by decide +kernel) (by decide) B9).mono ?_
        rintro e wk33 ⟨A10, n10, c10, rfl, s10, hb⟩
        replace B9 := B9.below hb B9.lt
        replace B12 := B12.below hb B12.lt
        replace j := j.trans (hb.mono j.size)
        go_wp2_with fail
        refine m_keep j ?_
        clear hb
        refine m_s1 11 (by kernel_rfl) rfl ?_
        go_wp2_with fail
        refine (clo_lit 3 aw45_2.2.2.2.1 (hm.below j) (hT.below j) s10).mono ?_
        rintro e wk34 ⟨A11, n11, c11, rfl, s11, hb⟩
        replace B9 := B9.below hb B9.lt
        replace B12 := B12.below hb B12.lt
        replace s10 := s10.below hb
        replace j := j.trans (hb.mono j.size)
        go_wp2_with fail
        refine m_keep j ?_
        clear hb
        refine m_s1 13 (by kernel_rfl) rfl ?_
        go_wp2_with fail
        refine (of_lit [0, 1] 3 (by decide +kernel) (by decide) B12).mono ?_
        rintro e wk35 ⟨A13, n13, c13, rfl, s13, hb⟩
        replace B9 := B9.below hb B9.lt
        replace B12 := B12.below hb B12.lt
        replace s10 := s10.below hb
        replace s11 := s11.below hb
        replace j := j.trans (hb.mono j.size)
        go_wp2_with fail
        refine m_keep j ?_
        clear hb
        refine m_s1 14 (by kernel_rfl) rfl ?_
        go_wp2_with fail
        refine (eq_same s11 s13).mono ?_
        rintro e wk36 ⟨rfl, hb⟩
        replace B9 := B9.below hb B9.lt
        replace B12 := B12.below hb B12.lt
        replace s10 := s10.below hb
        replace s11 := s11.below hb
        replace s13 := s13.below hb
        replace j := j.trans (hb.mono j.size)
        go_wp2_with fail
        refine m_keep j ?_
        clear hb
        (refine m_q 15 (v := ?_) (by kernel_rfl) rfl rfl (fun W hW => ?_) ?_; rotate_left; (go_simp; first | done | with_reducible rfl); simp only [Act.put, List.setIfInBounds_toArray, List.set_cons_zero, List.set_cons_succ]); (refine m_q 16 (v := ?_) (by kernel_rfl) rfl rfl (fun W hW => ?_) ?_; rotate_left; (go_simp; first | done | with_reducible rfl); simp only [Act.put, List.setIfInBounds_toArray, List.set_cons_zero, List.set_cons_succ])
        exact HL () _ _ _ (by kernel_rfl) rfl ⟨by first | rfl | trivial, j⟩
    · go_wp2_with fail
      refine absN fun wk37 B12 hb hzq => ?_
      clear hzq
      replace j := j.trans (hb.mono j.size)
      refine m_keep j ?_
      generalize v1.heap.size = g12 at B12 ⊢
      clear hb
      refine m_s1 9 (by kernel_rfl) rfl ?_
      go_wp2_with fail
      refine absN fun wk38 B9 hb hzq => ?_
      clear hzq
      replace B12 := B12.below hb B12.lt
      replace j := j.trans (hb.mono j.size)
      refine m_keep j ?_
      generalize wk37.heap.size = g9 at B9 ⊢
      clear hb
      refine m_s1 10 (by kernel_rfl) rfl ?_
      go_wp2_with fail
      refine (of_lit [0] 1 (by decide +kernel) (by decide) B9).mono ?_
      rintro e wk39 ⟨A10, n10, c10, rfl, s10, hb⟩
      replace B12 := B12.below hb B12.lt
      replace B9 := B9.below hb B9.lt
      replace j := j.trans (hb.mono j.size)
      go_wp2_with fail
      refine m_keep j ?_
      clear hb
      refine m_s1 11 (by kernel_rfl) rfl ?_
      go_wp2_with fail
      refine (clo_lit 3 aw45_2.2.2.2.1 (hm.below j) (hT.below j) s10).mono ?_
      rintro e wk40 ⟨A11, n11, c11, rfl, s11, hb⟩
      replace B12 := B12.below hb B12.lt
      replace B9 := B9.below hb B9.lt
      replace s10 := s10.below hb
      replace j := j.trans (hb.mono j.size)
      go_wp2_with fail
      refine m_keep j ?_
      clear hb
      refine m_s1 13 (by kernel_rfl) rfl ?_
      go_wp2_with fail
      refine (of_lit [0, 1] 3 (by decide +kernel) (by decide) B12).mono ?_
      rintro e wk41 ⟨A13, n13, c13, rfl, s13, hb⟩
      replace B12 := B12.below hb B12.lt
      replace B9 := B9.below hb B9.lt
      replace s10 := s10.below hb
      replace s11 := s11.below hb
      replace j := j.trans (hb.mono j.size)
      go_wp2_with fail
      refine m_keep j ?_
      clear hb
      refine m_s1 14 (by kernel_rfl) rfl ?_
      go_wp2_with fail
      refine (eq_same s11 s13).mono ?_
      rintro e wk42 ⟨rfl, hb⟩
      replace B12 := B12.below hb B12.lt
      replace B9 := B9.below hb B9.lt
      replace s10 := s10.below hb
      replace s11 := s11.below hb
      replace s13 := s13.below hb
      replace j := j.trans (hb.mono j.size)
      go_wp2_with fail
      refine m_keep j ?_
      clear hb
      (refine m_q 15 (v := ?_) (by kernel_rfl) rfl rfl (fun W hW => ?_) ?_; rotate_left; (go_simp; first | done | with_reducible rfl); simp only [Act.put, List.setIfInBounds_toArray, List.set_cons_zero, List.set_cons_succ]); (refine m_q 16 (v := ?_) (by kernel_rfl) rfl rfl (fun W hW => ?_) ?_; rotate_left; (go_simp; first | done | with_reducible rfl); simp only [Act.put, List.setIfInBounds_toArray, List.set_cons_zero, List.set_cons_succ])
      exact HL () _ _ _ (by kernel_rfl) rfl ⟨by first | rfl | trivial, j⟩
  clear j
  rintro _ f ds v2 ⟨rfl, j⟩
  dsimp only
  (refine m_yes 17 (v := ?_) (by kernel_rfl) rfl (by rfl) (fun W hW => ?_) ?_; rotate_left; (go_simp; first | done | with_reducible rfl); simp only [Act.put, List.setIfInBounds_toArray, List.set_cons_zero, List.set_cons_succ])
  refine m_join (β := Unit) #[true, true, true, true, true, true, true, true, true, true, true, true, true, true, true, true, true, true, true, true, true, true, true, true, true, false, false, false, false, false, false, false, false, false, false, false, false, false, false, false, false, false, false, false, false, false, false, false, false, false, false] 26 (fun _ f => #[f 0, ptr p1, f 2, .slice (some ⟨i9, o9, none⟩) 1 c, .int .i64 0, f 5, f 6, f 7, f 8, f 9, f 10, f 11, f 12, f 13, f 14, f 15, f 16, f 17, f 18, f 19, f 20, f 21, f 22, f 23, f 24, f 25, f 26, f 27, f 28, f 29, f 30, f 31, f 32, f 33, f 34, f 35, f 36, f 37, f 38, f 39, f 40, f 41, .bool true, f 43, f 44, f 45, f 46, f 47, f 48, f 49, f 50, f 51, f 52, f 53, f 54, f 55, f 56, f 57, f 58, f 59, f 60, f 61, f 62, f 63, f 64, f 65, f 66, f 67]) (fun _ ds V => ds = [] ∧ Below wq.heap.size wq V) ?lf3 ?tr3
  case tr3 =>
    intro HL
    refine m_s2 18 20 (by kernel_rfl) rfl rfl ?_ ?_
    · go_wp2_with fail
      refine (of_none).mono ?_
      rintro e wk43 ⟨A18, n18, c18, rfl, s18, hb⟩
      replace j := j.trans (hb.mono j.size)
      go_wp2_with fail
      refine m_keep j ?_
      clear hb
      refine m_s2 19 20 (by kernel_rfl) rfl rfl ?_ ?_
      · go_wp2_with fail
        refine (clo_lit 2 aw45_2.2.2.2.2.1 (hm.below j) (hT.below j) s18).mono ?_
        rintro e wk44 ⟨A19, n19, c19, rfl, s19, hb⟩
        replace s18 := s18.below hb
        replace j := j.trans (hb.mono j.size)
        go_wp2_with fail
        refine m_keep j ?_
        clear hb
        refine m_s1 20 (by kernel_rfl) rfl ?_
        go_wp2_with fail
        refine absN fun wk45 B20 hb hzq => ?_
        clear hzq
        replace s18 := s18.below hb
        replace s19 := s19.below hb
        replace j := j.trans (hb.mono j.size)
        refine m_keep j ?_
        generalize wk44.heap.size = g20 at B20 ⊢
        clear hb
        refine m_s1 21 (by kernel_rfl) rfl ?_
        go_wp2_with fail
        refine (of_lit [1] 2 (by decide +kernel) (by decide) B20).mono ?_
        rintro e wk46 ⟨A21, n21, c21, rfl, s21, hb⟩
        replace s18 := s18.below hb
        replace s19 := s19.below hb
        replace B20 := B20.below hb B20.lt
        replace j := j.trans (hb.mono j.size)
        go_wp2_with fail
        refine m_keep j ?_
        clear hb
        refine m_s1 22 (by kernel_rfl) rfl ?_
        go_wp2_with fail
        refine (eq_same s19 s21).mono ?_
        rintro e wk47 ⟨rfl, hb⟩
        replace s18 := s18.below hb
        replace s19 := s19.below hb
        replace B20 := B20.below hb B20.lt
        replace s21 := s21.below hb
        replace j := j.trans (hb.mono j.size)
        go_wp2_with fail
        refine m_keep j ?_
        clear hb
        (refine m_q 23 (v := ?_) (by kernel_rfl) rfl rfl (fun W hW => ?_) ?_; rotate_left; (go_simp; first | done | with_reducible rfl); simp only [Act.put, List.setIfInBounds_toArray, List.set_cons_zero, List.set_cons_succ]); (refine m_q 24 (v := ?_) (by kernel_rfl) rfl rfl (fun W hW => ?_) ?_; rotate_left; (go_simp; first | done | with_reducible rfl); simp only [Act.put, List.setIfInBounds_toArray, List.set_cons_zero, List.set_cons_succ])
        exact HL () _ _ _ (by kernel_rfl) rfl ⟨by first | rfl | trivial, j⟩
      · go_wp2_with fail
        refine absN fun wk48 B20 hb hzq => ?_
        clear hzq
        replace s18 := s18.below hb
        replace j := j.trans (hb.mono j.size)
        refine m_keep j ?_
        generalize wk43.heap.size = g20 at B20 ⊢
        clear hb
        refine m_s1 19 (by kernel_rfl) rfl ?_
        go_wp2_with fail
        refine (clo_lit 2 aw45_2.2.2.2.2.1 (hm.below j) (hT.below j) s18).mono ?_
        rintro e wk49 ⟨A19, n19, c19, rfl, s19, hb⟩
        replace s18 := s18.below hb
        replace B20 := B20.below hb B20.lt
        replace j := j.trans (hb.mono j.size)
        go_wp2_with fail
        refine m_keep j ?_
        clear hb
        refine m_s1 21 (by kernel_rfl) rfl ?_
        go_wp2_with fail
        refine (of_lit [1] 2 (by decide +kernel) (by decide) B20).mono ?_
        rintro e wk50 ⟨A21, n21, c21, rfl, s21, hb⟩
        replace s18 := s18.below hb
        replace B20 := B20.below hb B20.lt
        replace s19 := s19.below hb
        replace j := j.trans (hb.mono j.size)
        go_wp2_with fail
        refine m_keep j ?_
        clear hb
        refine m_s1 22 (by kernel_rfl) rfl ?_
        go_wp2_with fail
        refine (eq_same s19 s21).mono ?_
        rintro e wk51 ⟨rfl, hb⟩
        replace s18 := s18.below hb
        replace B20 := B20.below hb B20.lt
        replace s19 := s19.below hb
        replace s21 := s21.below hb
        replace j := j.trans (hb.mono j.size)
        go_wp2_with fail
        refine m_keep j ?_
        clear hb
        (refine m_q 23 (v := ?_) (by kernel_rfl) rfl rfl (fun W hW => ?_) ?_; rotate_left; (go_simp; first | done | with_reducible rfl); simp only [Act.put, List.setIfInBounds_toArray, List.set_cons_zero, List.set_cons_succ]); (refine m_q 24 (v := ?_) (by kernel_rfl) rfl rfl (fun W hW => ?_) ?_; rotate_left; (go_simp; first | done | with_reducible rfl); simp only [Act.put, List.setIfInBounds_toArray, List.set_cons_zero, List.set_cons_succ])
        exact HL () _ _ _ (by kernel_rfl) rfl ⟨by first | rfl | trivial, j⟩
    · go_wp2_with fail
      refine absN fun wk52 B20 hb hzq => ?_
      clear hzq
      replace j := j.trans (hb.mono j.size)
      refine m_keep j ?_
      generalize v2.heap.size = g20 at B20 ⊢
      clear hb
      refine m_s1 18 (by kernel_rfl) rfl ?_
      go_wp2_with fail
      refine (of_none).mono ?_
      rintro e wk53 ⟨A18, n18, c18, rfl, s18, hb⟩
      replace B20 := B20.below hb B20.lt
      replace j := j.trans (hb.mono j.size)
      go_wp2_with fail
      refine m_keep j ?_
      clear hb
      refine m_s1 19 (by kernel_rfl) rfl ?_
      go_wp2_with fail
      refine (clo_lit 2 aw45_2.2.2.2.2.1 (hm.below j) (hT.below j) s18).mono ?_
      rintro e wk54 ⟨A19, n19, c19, rfl, s19, hb⟩
      replace B20 := B20.below hb B20.lt
      replace s18 := s18.below hb
      replace j := j.trans (hb.mono j.size)
      go_wp2_with fail
      refine m_keep j ?_
      clear hb
      refine m_s1 21 (by kernel_rfl) rfl ?_
      go_wp2_with fail
      refine (of_lit [1] 2 (by decide +kernel) (by decide) B20).mono ?_
      rintro e wk55 ⟨A21, n21, c21, rfl, s21, hb⟩
      replace B20 := B20.below hb B20.lt
      replace s18 := s18.below hb
      replace s19 := s19.below hb
      replace j := j.trans (hb.mono j.size)
      go_wp2_with fail
      refine m_keep j ?_
      clear hb
      refine m_s1 22 (by kernel_rfl) rfl ?_
      go_wp2_with fail
      refine (eq_same s19 s21).mono ?_
      rintro e wk56 ⟨rfl, hb⟩
      replace B20 := B20.below hb B20.lt
      replace s18 := s18.below hb
      replace s19 := s19.below hb
      replace s21 := s21.below hb
      replace j := j.trans (hb.mono j.size)
      go_wp2_with fail
      refine m_keep j ?_
      clear hb
      (refine m_q 23 (v := ?_) (by kernel_rfl) rfl rfl (fun W hW => ?_) ?_; rotate_left; (go_simp; first | done | with_reducible rfl); simp only [Act.put, List.setIfInBounds_toArray, List.set_cons_zero, List.set_cons_succ]); (refine m_q 24 (v := ?_) (by kernel_rfl) rfl rfl (fun W hW => ?_) ?_; rotate_left; (go_simp; first | done | with_reducible rfl); simp only [Act.put, List.setIfInBounds_toArray, List.set_cons_zero, List.set_cons_succ])
      exact HL () _ _ _ (by kernel_rfl) rfl ⟨by first | rfl | trivial, j⟩
  clear j
  rintro _ f ds v3 ⟨rfl, j⟩
  dsimp only
  (refine m_yes 25 (v := ?_) (by kernel_rfl) rfl (by rfl) (fun W hW => ?_) ?_; rotate_left; (go_simp; first | done | with_reducible rfl); simp only [Act.put, List.setIfInBounds_toArray, List.set_cons_zero, List.set_cons_succ])
  refine m_join (β := Unit) #[true, true, true, true, true, true, true, true, true, true, true, true, true, true, true, true, true, true, true, true, true, true, true, true, true, true, true, true, true, true, true, true, true, true, false, false, false, false, false, false, false, false, false, false, false, false, false, false, false, false, false] 17 (fun _ f => #[f 0, ptr p1, f 2, .slice (some ⟨i9, o9, none⟩) 1 c, .int .i64 0, f 5, f 6, f 7, f 8, f 9, f 10, f 11, f 12, f 13, f 14, f 15, f 16, f 17, f 18, f 19, f 20, f 21, f 22, f 23, f 24, f 25, f 26, f 27, f 28, f 29, f 30, f 31, f 32, f 33, f 34, f 35, f 36, f 37, f 38, f 39, f 40, f 41, f 42, f 43, f 44, f 45, f 46, f 47, f 48, f 49, f 50, .bool true, f 52, f 53, f 54, f 55, f 56, f 57, f 58, f 59, f 60, f 61, f 62, f 63, f 64, f 65, f 66, f 67]) (fun _ ds V => ds = [] ∧ Below wq.heap.size wq V) ?lf4 ?tr4
  case tr4 =>
    intro HL
    refine m_s2 26 29 (by kernel_rfl) rfl rfl ?_ ?_
    · go_wp2_with fail
      refine absN fun wk57 B26 hb hzq => ?_
      clear hzq
      replace j := j.trans (hb.mono j.size)
      refine m_keep j ?_
      generalize v3.heap.size = g26 at B26 ⊢
      clear hb
      refine m_s2 27 29 (by kernel_rfl) rfl rfl ?_ ?_
      · go_wp2_with fail
        refine (of_lit [0, 2] 5 (by decide +kernel) (by decide) B26).mono ?_
        rintro e wk58 ⟨A27, n27, c27, rfl, s27, hb⟩
        replace B26 := B26.below hb B26.lt
        replace j := j.trans (hb.mono j.size)
        go_wp2_with fail
        refine m_keep j ?_
        clear hb
        refine m_s2 28 29 (by kernel_rfl) rfl rfl ?_ ?_
        · go_wp2_with fail
          refine (hav_lit 2 aw45_2.2.2.2.2.2.1 (hm.below j) (hT.below j) s27).mono ?_
          rintro e wk59 ⟨A28, n28, c28, rfl, s28, hb⟩
          replace B26 := B26.below hb B26.lt
          replace s27 := s27.below hb
          replace j := j.trans (hb.mono j.size)
          go_wp2_with fail
          refine m_keep j ?_
          clear hb
          refine m_s1 29 (by kernel_rfl) rfl ?_
          go_wp2_with fail
          refine absN fun wk60 B29 hb hzq => ?_
          clear hzq
          replace B26 := B26.below hb B26.lt
          replace s27 := s27.below hb
          replace s28 := s28.below hb
          replace j := j.trans (hb.mono j.size)
          refine m_keep j ?_
          generalize wk59.heap.size = g29 at B29 ⊢
          clear hb
          refine m_s1 30 (by kernel_rfl) rfl ?_
          go_wp2_with fail
          refine (of_lit [1] 2 (by decide +kernel) (by decide) B29).mono ?_
          rintro e wk61 ⟨A30, n30, c30, rfl, s30, hb⟩
          replace B26 := B26.below hb B26.lt
          replace s27 := s27.below hb
          replace s28 := s28.below hb
          replace B29 := B29.below hb B29.lt
          replace j := j.trans (hb.mono j.size)
          go_wp2_with fail
          refine m_keep j ?_
          clear hb
          refine m_s1 31 (by kernel_rfl) rfl ?_
          go_wp2_with fail
          refine (eq_same s28 s30).mono ?_
          rintro e wk62 ⟨rfl, hb⟩
          replace B26 := B26.below hb B26.lt
          replace s27 := s27.below hb
          replace s28 := s28.below hb
          replace B29 := B29.below hb B29.lt
          replace s30 := s30.below hb
          replace j := j.trans (hb.mono j.size)
          go_wp2_with fail
          refine m_keep j ?_
          clear hb
          (refine m_q 32 (v := ?_) (by kernel_rfl) rfl rfl (fun W hW => ?_) ?_; rotate_left; (go_simp; first | done | with_reducible rfl); simp only [Act.put, List.setIfInBounds_toArray, List.set_cons_zero, List.set_cons_succ]); (refine m_q 33 (v := ?_) (by kernel_rfl) rfl rfl (fun W hW => ?_) ?_; rotate_left; (go_simp; first | done | with_reducible rfl); simp only [Act.put, List.setIfInBounds_toArray, List.set_cons_zero, List.set_cons_succ])
          exact HL () _ _ _ (by kernel_rfl) rfl ⟨by first | rfl | trivial, j⟩
        · go_wp2_with fail
          refine absN fun wk63 B29 hb hzq => ?_
          clear hzq
          replace B26 := B26.below hb B26.lt
          replace s27 := s27.below hb
          replace j := j.trans (hb.mono j.size)
          refine m_keep j ?_
          generalize wk58.heap.size = g29 at B29 ⊢
          clear hb
          refine m_s1 28 (by kernel_rfl) rfl ?_
          go_wp2_with fail
          refine (hav_lit 2 aw45_2.2.2.2.2.2.1 (hm.below j) (hT.below j) s27).mono ?_
          rintro e wk64 ⟨A28, n28, c28, rfl, s28, hb⟩
          replace B26 := B26.below hb B26.lt
          replace s27 := s27.below hb
          replace B29 := B29.below hb B29.lt
          replace j := j.trans (hb.mono j.size)
          go_wp2_with fail
          refine m_keep j ?_
          clear hb
          refine m_s1 30 (by kernel_rfl) rfl ?_
          go_wp2_with fail
          refine (of_lit [1] 2 (by decide +kernel) (by decide) B29).mono ?_
          rintro e wk65 ⟨A30, n30, c30, rfl, s30, hb⟩
          replace B26 := B26.below hb B26.lt
          replace s27 := s27.below hb
          replace B29 := B29.below hb B29.lt
          replace s28 := s28.below hb
          replace j := j.trans (hb.mono j.size)
          go_wp2_with fail
          refine m_keep j ?_
          clear hb
          refine m_s1 31 (by kernel_rfl) rfl ?_
          go_wp2_with fail
          refine (eq_same s28 s30).mono ?_
          rintro e wk66 ⟨rfl, hb⟩
          replace B26 := B26.below hb B26.lt
          replace s27 := s27.below hb
          replace B29 := B29.below hb B29.lt
          replace s28 := s28.below hb
          replace s30 := s30.below hb
          replace j := j.trans (hb.mono j.size)
          go_wp2_with fail
          refine m_keep j ?_
          clear hb
          (refine m_q 32 (v := ?_) (by kernel_rfl) rfl rfl (fun W hW => ?_) ?_; rotate_left; (go_simp; first | done | with_reducible rfl); simp only [Act.put, List.setIfInBounds_toArray, List.set_cons_zero, List.set_cons_succ]); (refine m_q 33 (v := ?_) (by kernel_rfl) rfl rfl (fun W hW => ?_) ?_; rotate_left; (go_simp; first | done | with_reducible rfl); simp only [Act.put, List.setIfInBounds_toArray, List.set_cons_zero, List.set_cons_succ])
          exact HL () _ _ _ (by kernel_rfl) rfl ⟨by first | rfl | trivial, j⟩
      · go_wp2_with fail
        refine absN fun wk67 B29 hb hzq => ?_
        clear hzq
        replace B26 := B26.below hb B26.lt
        replace j := j.trans (hb.mono j.size)
        refine m_keep j ?_
        generalize wk57.heap.size = g29 at B29 ⊢
        clear hb
        refine m_s1 27 (by kernel_rfl) rfl ?_
        go_wp2_with fail
        refine (of_lit [0, 2] 5 (by decide +kernel) (by decide) B26).mono ?_
        rintro e wk68 ⟨A27, n27, c27, rfl, s27, hb⟩
        replace B26 := B26.below hb B26.lt
        replace B29 := B29.below hb B29.lt
        replace j := j.trans (hb.mono j.size)
        go_wp2_with fail
        refine m_keep j ?_
        clear hb
        refine m_s1 28 (by kernel_rfl) rfl ?_
        go_wp2_with fail
        refine (hav_lit 2 aw45_2.2.2.2.2.2.1 (hm.below j) (hT.below j) s27).mono ?_
        rintro e wk69 ⟨A28, n28, c28, rfl, s28, hb⟩
        replace B26 := B26.below hb B26.lt
        replace B29 := B29.below hb B29.lt
        replace s27 := s27.below hb
        replace j := j.trans (hb.mono j.size)
        go_wp2_with fail
        refine m_keep j ?_
        clear hb
        refine m_s1 30 (by kernel_rfl) rfl ?_
        go_wp2_with fail
        refine (of_lit [1] 2 (by decide +kernel) (by decide) B29).mono ?_
        rintro e wk70 ⟨A30, n30, c30, rfl, s30, hb⟩
        replace B26 := B26.below hb B26.lt
        replace B29 := B29.below hb B29.lt
        replace s27 := s27.below hb
        replace s28 := s28.below hb
        replace j := j.trans (hb.mono j.size)
        go_wp2_with fail
        refine m_keep j ?_
        clear hb
        refine m_s1 31 (by kernel_rfl) rfl ?_
        go_wp2_with fail
        refine (eq_same s28 s30).mono ?_
        rintro e wk71 ⟨rfl, hb⟩
        replace B26 := B26.below hb B26.lt
        replace B29 := B29.below hb B29.lt
        replace s27 := s27.below hb
        replace s28 := s28.below hb
        replace s30 := s30.below hb
        replace j := j.trans (hb.mono j.size)
        go_wp2_with fail
        refine m_keep j ?_
        clear hb
        (refine m_q 32 (v := ?_) (by kernel_rfl) rfl rfl (fun W hW => ?_) ?_; rotate_left; (go_simp; first | done | with_reducible rfl); simp only [Act.put, List.setIfInBounds_toArray, List.set_cons_zero, List.set_cons_succ]); (refine m_q 33 (v := ?_) (by kernel_rfl) rfl rfl (fun W hW => ?_) ?_; rotate_left; (go_simp; first | done | with_reducible rfl); simp only [Act.put, List.setIfInBounds_toArray, List.set_cons_zero, List.set_cons_succ])
        exact HL () _ _ _ (by kernel_rfl) rfl ⟨by first | rfl | trivial, j⟩
    · go_wp2_with fail
      refine absN fun wk72 B29 hb hzq => ?_
      clear hzq
      replace j := j.trans (hb.mono j.size)
      refine m_keep j ?_
      generalize v3.heap.size = g29 at B29 ⊢
      clear hb
      refine m_s1 26 (by kernel_rfl) rfl ?_
      go_wp2_with fail
      refine absN fun wk73 B26 hb hzq => ?_
      clear hzq
      replace B29 := B29.below hb B29.lt
      replace j := j.trans (hb.mono j.size)
      refine m_keep j ?_
      generalize wk72.heap.size = g26 at B26 ⊢
      clear hb
      refine m_s1 27 (by kernel_rfl) rfl ?_
      go_wp2_with fail
      refine (of_lit [0, 2] 5 (by decide +kernel) (by decide) B26).mono ?_
      rintro e wk74 ⟨A27, n27, c27, rfl, s27, hb⟩
      replace B29 := B29.below hb B29.lt
      replace B26 := B26.below hb B26.lt
      replace j := j.trans (hb.mono j.size)
      go_wp2_with fail
      refine m_keep j ?_
      clear hb
      refine m_s1 28 (by kernel_rfl) rfl ?_
      go_wp2_with fail
      refine (hav_lit 2 aw45_2.2.2.2.2.2.1 (hm.below j) (hT.below j) s27).mono ?_
      rintro e wk75 ⟨A28, n28, c28, rfl, s28, hb⟩
      replace B29 := B29.below hb B29.lt
      replace B26 := B26.below hb B26.lt
      replace s27 := s27.below hb
      replace j := j.trans (hb.mono j.size)
      go_wp2_with fail
      refine m_keep j ?_
      clear hb
      refine m_s1 30 (by kernel_rfl) rfl ?_
      go_wp2_with fail
      refine (of_lit [1] 2 (by decide +kernel) (by decide) B29).mono ?_
      rintro e wk76 ⟨A30, n30, c30, rfl, s30, hb⟩
      replace B29 := B29.below hb B29.lt
      replace B26 := B26.below hb B26.lt
      replace s27 := s27.below hb
      replace s28 := s28.below hb
      replace j := j.trans (hb.mono j.size)
      go_wp2_with fail
      refine m_keep j ?_
      clear hb
      refine m_s1 31 (by kernel_rfl) rfl ?_
      go_wp2_with fail
      refine (eq_same s28 s30).mono ?_
      rintro e wk77 ⟨rfl, hb⟩
      replace B29 := B29.below hb B29.lt
      replace B26 := B26.below hb B26.lt
      replace s27 := s27.below hb
      replace s28 := s28.below hb
      replace s30 := s30.below hb
      replace j := j.trans (hb.mono j.size)
      go_wp2_with fail
      refine m_keep j ?_
      clear hb
      (refine m_q 32 (v := ?_) (by kernel_rfl) rfl rfl (fun W hW => ?_) ?_; rotate_left; (go_simp; first | done | with_reducible rfl); simp only [Act.put, List.setIfInBounds_toArray, List.set_cons_zero, List.set_cons_succ]); (refine m_q 33 (v := ?_) (by kernel_rfl) rfl rfl (fun W hW => ?_) ?_; rotate_left; (go_simp; first | done | with_reducible rfl); simp only [Act.put, List.setIfInBounds_toArray, List.set_cons_zero, List.set_cons_succ])
      exact HL () _ _ _ (by kernel_rfl) rfl ⟨by first | rfl | trivial, j⟩
  clear j
  rintro _ f ds v4 ⟨rfl, j⟩
  dsimp only
  (refine m_yes 34 (v := ?_) (by kernel_rfl) rfl (by rfl) (fun W hW => ?_) ?_; rotate_left; (go_simp; first | done | with_reducible rfl); simp only [Act.put, List.setIfInBounds_toArray, List.set_cons_zero, List.set_cons_succ]); (refine m_yes 35 (v := ?_) (by kernel_rfl) rfl (by rfl) (fun W hW => ?_) ?_; rotate_left; (go_simp; first | done | with_reducible rfl); simp only [Act.put, List.setIfInBounds_toArray, List.set_cons_zero, List.set_cons_succ]); (refine m_q 36 (v := ?_) (by kernel_rfl) rfl rfl (fun W hW => ?_) ?_; rotate_left; (go_simp; first | done | with_reducible rfl); simp only [Act.put, List.setIfInBounds_toArray, List.set_cons_zero, List.set_cons_succ]); (refine m_q 37 (v := ?_) (by kernel_rfl) rfl rfl (fun W hW => ?_) ?_; rotate_left; (go_simp; first | done | with_reducible rfl); simp only [Act.put, List.setIfInBounds_toArray, List.set_cons_zero, List.set_cons_succ]); (refine m_yes 38 (v := ?_) (by kernel_rfl) rfl (by rfl) (fun W hW => ?_) ?_; rotate_left; (go_simp; first | done | with_reducible rfl); simp only [Act.put, List.setIfInBounds_toArray, List.set_cons_zero, List.set_cons_succ]); (refine m_yes 39 (v := ?_) (by kernel_rfl) rfl (by rfl) (fun W hW => ?_) ?_; rotate_left; (go_simp; first | done | with_reducible rfl); simp only [Act.put, List.setIfInBounds_toArray, List.set_cons_zero, List.set_cons_succ]); (refine m_yes 40 (v := ?_) (by kernel_rfl) rfl (by rfl) (fun W hW => ?_) ?_; rotate_left; (go_simp; first | done | with_reducible rfl); simp only [Act.put, List.setIfInBounds_toArray, List.set_cons_zero, List.set_cons_succ]); (refine m_q 41 (v := ?_) (by kernel_rfl) rfl rfl (fun W hW => ?_) ?_; rotate_left; (go_simp; first | done | with_reducible rfl); simp only [Act.put, List.setIfInBounds_toArray, List.set_cons_zero, List.set_cons_succ]); (refine m_q 42 (v := ?_) (by kernel_rfl) rfl rfl (fun W hW => ?_) ?_; rotate_left; (go_simp; first | done | with_reducible rfl); simp only [Act.put, List.setIfInBounds_toArray, List.set_cons_zero, List.set_cons_succ]); (refine m_yes 43 (v := ?_) (by kernel_rfl) rfl (by rfl) (fun W hW => ?_) ?_; rotate_left; (go_simp; first | done | with_reducible rfl); simp only [Act.put, List.setIfInBounds_toArray, List.set_cons_zero, List.set_cons_succ]); (refine m_yes 44 (v := ?_) (by kernel_rfl) rfl (by rfl) (fun W hW => ?_) ?_; rotate_left; (have z0 := onB hW c0; go_simp; first | done | with_reducible rfl); simp only [Act.put, List.setIfInBounds_toArray, List.set_cons_zero, List.set_cons_succ]); (refine m_yes 45 (v := ?_) (by kernel_rfl) rfl (by rfl) (fun W hW => ?_) ?_; rotate_left; (have z0 := onB hW c0; go_simp; first | done | with_reducible rfl); simp only [Act.put, List.setIfInBounds_toArray, List.set_cons_zero, List.set_cons_succ])
  refine m_s1 46 (by kernel_rfl) rfl ?_
  go_wp2_with fail
  refine absN fun wk78 B46 hb hzq => ?_
  clear hzq
  replace j := j.trans (hb.mono j.size)
  refine m_keep j ?_
  generalize v4.heap.size = g46 at B46 ⊢
  clear hb
  refine m_s1 47 (by kernel_rfl) rfl ?_
  go_wp2_with fail
  refine (of_lit [0, 2] 5 (by decide +kernel) (by decide) B46).mono ?_
  rintro e wk79 ⟨A47, n47, c47, rfl, s47, hb⟩
  replace B46 := B46.below hb B46.lt
  replace j := j.trans (hb.mono j.size)
  go_wp2_with fail
  refine m_keep j ?_
  clear hb
  refine m_s1 48 (by kernel_rfl) rfl ?_
  go_wp2_with fail
  refine (eq_same (s9.below j) s47).mono ?_
  rintro e wk80 ⟨rfl, hb⟩
  replace B46 := B46.below hb B46.lt
  replace s47 := s47.below hb
  replace j := j.trans (hb.mono j.size)
  go_wp2_with fail
  refine m_keep j ?_
  clear hb
  (refine m_q 49 (v := ?_) (by kernel_rfl) rfl rfl (fun W hW => ?_) ?_; rotate_left; (go_simp; first | done | with_reducible rfl); simp only [Act.put, List.setIfInBounds_toArray, List.set_cons_zero, List.set_cons_succ]); (refine m_q 50 (v := ?_) (by kernel_rfl) rfl rfl (fun W hW => ?_) ?_; rotate_left; (go_simp; first | done | with_reducible rfl); simp only [Act.put, List.setIfInBounds_toArray, List.set_cons_zero, List.set_cons_succ])
  refine m_end (by kernel_rfl) ?_
  go_wp2_with fail
  go_ret
  exact ⟨rfl, bq.trans (j.mono bq.size)⟩
end Mix2
end Go.Proofs.YtiicgbbgiedknaaDoor
