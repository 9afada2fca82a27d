/-
  The laws of chapter 45.
-/
import Derived.Test.YtiicgbbgiedknaaDoorClo15
import Derived.Test.YtiicgbbgiedknaaDoorClo14
namespace Go.Proofs.YtiicgbbgiedknaaDoor
open Go.RowKit

theorem res3 {P : Program} {f : FuncId} {args : Array Value} {w : World} {N N' : Nat} (hN : N = N') (h : Calls P f args w fun e w' => ∃ r, e = .returned (.agg #[r]) ∧ IsSet w' r N ∧ Below w.heap.size w w') :
    Calls P f args w fun e w' => ∃ A n c, e = .returned (.agg #[.slice A n c]) ∧ IsSet w' (.slice A n c) N' ∧ Below w.heap.size w w' := by
  refine h.mono ?_
  rintro e w' ⟨r, rfl, hr, hb⟩
  obtain ⟨A, c, rfl, _⟩ := id hr
  rw [← hN]
  exact ⟨_, _, _, rfl, hr, hb⟩
theorem withB_low {N : Nat} {i : Int} (hi : 60 ≤ i) (j : Nat) (hj : j < 60) : (withB N i).testBit j = N.testBit j := by
  unfold withB
  split
  · rw [Nat.testBit_or, Nat.testBit_two_pow, decide_eq_false (by omega), Bool.or_false]
  · rfl
theorem rows_M {q C : Nat} {M : List (List Bool)} {w : World} (h : IsMat w q C (nsOf C M)) : Calls Tryd.prog 31 #[ptr q] w fun e w' => e = .returned (.int .i64 M.length) ∧ w = w' := by
  have := rows_any q C (nsOf C M) w h
  rwa [nsTo_len] at this
theorem below_N {n : Nat} (hn : n ≤ 4096) {w : World} : Calls Tryd.prog 30 #[.int .i64 n] w fun e w' => ∃ r, e = .returned (.agg #[r]) ∧ IsSet w' r (lowN n) ∧ Below w.heap.size w w' := by
  have := below_any n w
  rwa [clamp_nat hn] at this
theorem within_is {w : World} {v u : Value} {N M : Nat} {x : Bool} (hx : decide (N &&& M = N) = x) (hs : IsSet w v N) (ho : IsSet w u M) :
    Calls Tryd.prog 33 #[.agg #[v], .agg #[u]] w fun e w' => e = .returned (.bool x) ∧ Below w.heap.size w w' := by
  have := within_any v u N M w hs ho
  rwa [hx] at this
theorem galois {C : Nat} {Ns : List Nat} (hl : Ns.length ≤ 4096) {r c : Nat} (hr : ∀ i, r.testBit i = true → i < Ns.length) (hc : ∀ j, c.testBit j = true → j < C) : (c &&& comN C Ns r = c) ↔ (r &&& havN C Ns c = r) := by
  rw [and_sub, and_sub]
  constructor
  · intro h i hi
    rw [testBit_havN C Ns hl]
    exact ⟨hr i hi, fun j hj _ => ((testBit_comN C Ns r j).1 (h j hj)).2 i hi (hr i hi)⟩
  · intro h j hj
    rw [testBit_comN]
    exact ⟨hc j hj, fun i hi _ => ((testBit_havN C Ns hl c i).1 (h i hi)).2 j hj (hc j hj)⟩
theorem low_lt {a n i : Nat} (h : (a &&& lowN n).testBit i = true) : i < n := by
  rw [Nat.testBit_and, testBit_lowN, Bool.and_eq_true, decide_eq_true_eq] at h
  exact h.2
theorem of_is {w : World} {m : Option Addr} {C : Nat} {Ns : List Nat} {v : Value} {S X Y : Nat} (hX : havN C Ns S = X) (hY : cloN C Ns S = Y) (h : IsMV w m C Ns) (hs : IsSet w v S) (hT : Tab w) :
    Calls Tryd.prog 15 #[.pointer m, .agg #[v]] w fun e w' => ∃ A n c B k d, e = .returned (.agg #[.slice A n c, .slice B k d]) ∧ IsSet w' (.slice A n c) X ∧ IsSet w' (.slice B k d) Y ∧ Below w.heap.size w w' := by
  refine (of_concept m C Ns v S w h hs hT).mono ?_
  rintro e w' ⟨r, q, rfl, hr, hq, hb⟩
  obtain ⟨A, c, rfl, _⟩ := id hr
  obtain ⟨B, d, rfl, _⟩ := id hq
  rw [← hX, ← hY]
  exact ⟨_, _, _, _, _, _, rfl, hr, hq, hb⟩
theorem empty_is {w : World} {v : Value} (hs : IsSet w v 0) : Calls Tryd.prog 18 #[.agg #[v]] w fun e w' => e = .returned (.bool true) ∧ Below w.heap.size w w' := empty_any v 0 w hs
theorem com_nil (Ns : List Nat) (S : Nat) : comN 0 Ns S = 0 := nat_ext fun i => by rw [testBit_comN]; simp
theorem hav_nil (C S : Nat) : havN C [] S = 0 := nat_ext fun i => by rw [testBit_havN C [] (by simp)]; simp
section
variable {C : Nat} {Ns : List Nat}
theorem trans_bit (hl : Ns.length ≤ 4096) {i j : Nat} (hi : i < Ns.length) (hj : j < C) : ((mtrans C Ns C).getD j 0).testBit i = (Ns.getD i 0).testBit j := by
  unfold mtrans
  rw [getD_map_range hj, testBit_mcol _ _ _ _ hl, mhas_at hi hj]
/-- With rows and columns exchanged, Common is Having. -/
theorem com_trans (hl : Ns.length ≤ 4096) (S : Nat) : comN Ns.length (mtrans C Ns C) S = havN C Ns S := nat_ext fun i => by
  rw [testBit_comN, testBit_havN C Ns hl, mtrans_len]
  refine and_congr_right fun hi => ⟨fun h j hj hc => ?_, fun h j hj hc => ?_⟩
  · rw [← trans_bit hl hi hc]; exact h j hj hc
  · rw [trans_bit hl hi hc]; exact h j hj hc
theorem hav_trans (hl : Ns.length ≤ 4096) (hC : C ≤ 4096) (S : Nat) : havN Ns.length (mtrans C Ns C) S = comN C Ns S := nat_ext fun j => by
  rw [testBit_comN, testBit_havN _ _ (by rw [mtrans_len]; exact hC), mtrans_len]
  refine and_congr_right fun hj => ⟨fun h i hi hc => ?_, fun h i hi hc => ?_⟩
  · rw [← trans_bit hl hc hj]; exact h i hi hc
  · rw [trans_bit hl hc hj]; exact h i hi hc
theorem clo_trans (hl : Ns.length ≤ 4096) (hC : C ≤ 4096) (S : Nat) : cloN Ns.length (mtrans C Ns C) (havN C Ns S) = havN C Ns S := by
  unfold cloN
  rw [com_trans hl, hav_trans hl hC]
  exact hav_clo hl S
end
theorem clo_low {C : Nat} {Ns : List Nat} (S : Nat) : cloN C Ns S &&& lowN C = cloN C Ns S := and_sub.2 fun j hj => by rw [testBit_lowN, decide_eq_true_eq]; exact comN_lt hj
theorem closed_is {w : World} {p C : Nat} {Ns : List Nat} {v : Value} {S : Nat} {x : Bool} (hx : decide (cloN C Ns S = S &&& lowN C) = x) (h : IsMat w p C Ns) (hs : IsSet w v S) (hT : Tab w) :
    Calls Tryd.prog 21 #[ptr p, .agg #[v]] w fun e w' => e = .returned (.bool x) ∧ Below w.heap.size w w' := by
  have := closed_any p C Ns v S w h hs hT
  rwa [hx] at this
theorem mask_and (a C : Nat) (ha : a < 2 ^ 64) (hC : C < 60) : bits .and .u64 (a : Int) (IntKind.u64.wrap (IntKind.u64.wrap ((2 : Int) ^ C) - 1)) = ((a &&& lowN C : Nat) : Int) := by
  rw [pow_form C (by omega)]
  exact u64_and_nat a (lowN C) ha (lowN_lt (by omega))
def impTo (Ns : List Nat) (S T k : Nat) : Bool := decide (∀ i, i < k → S &&& mrow Ns (i : Nat) = S → T &&& mrow Ns (i : Nat) = T)
theorem impTo_zero (Ns : List Nat) (S T : Nat) : impTo Ns S T 0 = true := by simp [impTo]
theorem impTo_no {Ns : List Nat} {S T k : Nat} (h : impTo Ns S T k = false) : impTo Ns S T (k + 1) = false := by
  unfold impTo at *
  rw [decide_eq_false_iff_not] at *
  exact fun hh => h fun i hi => hh i (by omega)
theorem impTo_yes {Ns : List Nat} {S T k : Nat} (h : impTo Ns S T k = true) : impTo Ns S T (k + 1) = (!decide (S &&& mrow Ns (k : Nat) = S) || decide (T &&& mrow Ns (k : Nat) = T)) := by
  unfold impTo at *
  rw [decide_eq_true_eq] at h
  rw [Bool.eq_iff_iff, decide_eq_true_eq, Bool.or_eq_true, Bool.not_eq_true', decide_eq_false_iff_not, decide_eq_true_eq]
  constructor
  · intro hh
    by_cases hs : S &&& mrow Ns (k : Nat) = S
    · exact Or.inr (hh k (by omega) hs)
    · exact Or.inl hs
  · intro hh i hi hs
    by_cases e : i = k
    · subst e
      rcases hh with hh | hh
      · exact absurd hs hh
      · exact hh
    · exact h i (by omega) hs
theorem impTo_all {C : Nat} {Ns : List Nat} (hl : Ns.length ≤ 4096) {S T : Nat} (hS : ∀ j, S.testBit j = true → j < C) (hT : ∀ j, T.testBit j = true → j < C) : decide (T &&& cloN C Ns S = T) = impTo Ns S T Ns.length := by
  unfold impTo
  rw [decide_eq_decide, and_sub]
  have hr : ∀ i X, X &&& mrow Ns (i : Nat) = X ↔ ∀ j, X.testBit j = true → (Ns.getD i 0).testBit j = true := fun i X => by
    rw [and_sub, mrow, if_pos (by omega), Int.toNat_natCast]
  constructor
  · intro h i hi hs
    rw [hr] at hs ⊢
    intro j hj
    have := h j hj
    rw [cloN, testBit_comN] at this
    exact this.2 i ((testBit_havN C Ns hl S i).2 ⟨hi, fun j hj _ => hs j hj⟩) hi
  · intro h j hj
    rw [cloN, testBit_comN]
    refine ⟨hT j hj, fun i hi hil => ?_⟩
    have h1 := (testBit_havN C Ns hl S i).1 hi
    have := h i hil ((hr i S).2 fun j' hj' => h1.2 j' hj' (hS j' hj'))
    exact (hr i T).1 this j hj
theorem implies_is {w : World} {p C : Nat} {Ns : List Nat} {v u : Value} {S T S' T' : Nat} {x : Bool} (hx : decide (T &&& cloN C Ns S = T) = x) (hl : Ns.length ≤ 4096) (hs' : ∀ j, j < C → S'.testBit j = S.testBit j) (ht' : ∀ j, j < C → T'.testBit j = T.testBit j) (htc : ∀ j, T.testBit j = true → j < C) (h : IsMat w p C Ns) (hs : IsSet w v S') (ht : IsSet w u T') (hT : Tab w) :
    Calls Tryd.prog 22 #[ptr p, .agg #[v], .agg #[u]] w fun e w' => e = .returned (.bool x) ∧ Below w.heap.size w w' := by
  have := implies_any p C Ns v u S' T' w h hs ht hT
  have e1 : T' &&& lowN C = T := nat_ext fun j => by
    rw [Nat.testBit_and, testBit_lowN, Bool.and_eq_true, decide_eq_true_eq]
    constructor
    · rintro ⟨h1, h2⟩; rw [← ht' j h2]; exact h1
    · intro h1; exact ⟨by rw [ht' j (htc j h1)]; exact h1, htc j h1⟩
  have e2 : cloN C Ns S' = cloN C Ns S := by unfold cloN; rw [havN_in hl (T := S) hs']
  rwa [e1, e2, hx] at this
theorem filter_up {p : Nat → Bool} {C : Nat} (h : ∀ j, p j = true → j < C) : ∀ n, ((List.range n).filter p).length ≤ C
  | 0 => by simp
  | n + 1 => by
    by_cases hn : n < C
    · exact Nat.le_trans (List.length_filter_le _ _) (by simp; omega)
    · rw [List.range_succ, List.filter_append, List.length_append]
      have : p n = false := by
        cases hp : p n with
        | false => rfl
        | true => exact absurd (h n hp) hn
      have ih := filter_up h n
      simp [this]; exact ih
theorem card_bits {N C : Nat} (h : ∀ j, N.testBit j = true → j < C) : card N ≤ C := by
  rw [← mems_len]
  unfold mems
  rw [mTo_map]
  exact filter_up h _
theorem minL_le {C : Nat} {Ns : List Nat} {K : Nat} (h : card K ≤ 12) : (minL C Ns K).length ≤ 4096 := by
  unfold minL
  refine Nat.le_trans (List.length_filter_le _ _) ?_
  rw [List.length_map, List.length_range, mems_len]
  exact Nat.le_trans (Nat.pow_le_pow_right (by omega) h) (by decide)
theorem sorted_of {Ls K : List Nat} (hp : Ls.Perm K) (hK : K.Nodup) (h : Ls.Pairwise (fun a b => ltR b a = false)) : Ls.Pairwise (fun a b => ltR a b = true) := by
  have hn : Ls.Pairwise (· ≠ ·) := hp.nodup_iff.2 hK
  exact (hn.and h).imp fun {a b} hab => ltR_total b a (Ne.symm hab.1) hab.2
theorem IsMat.mv {w : World} {p C : Nat} {Ns : List Nat} (h : IsMat w p C Ns) : IsMV w (some ⟨p, 0, none⟩) C Ns := .inr ⟨p, rfl, h⟩
namespace Mix2
set_option maxRecDepth 100000 in
set_option maxHeartbeats 8000000 in
theorem common_walk (v : Value) (R C : Nat) (zs : List Int) (a o : Nat) (w : World) (hT : Tab w) (h : IsRaw w v R C zs) (ha : a ≤ 255) (ho : o ≤ 65535) :
    Calls Tryd.prog 4 #[v, .int .u8 a, .int .u16 o] w fun e w' => e = .returned (.bool true) ∧ Below w.heap.size w w' := by
  have hbd := h.bd
  obtain ⟨r, c, A0, d0, hv, _⟩ := id h
  subst hv
  have HIN := hideC h; clear h
  go_enter Tryd.func4, Tryd.ntmps4
  go_wp2_with fail
  refine absC1 fun W0 hX hbel0 hz => ?_
  clear hz
  refine (Mix2.awake_any45 W0 (hT.below hbel0)).mono ?_
  rintro e w1 ⟨rfl, hb1⟩
  have b1 := hbel0.trans (hb1.mono hbel0.size)
  have hX1 := hX.below hb1 hX.lt
  have x0 := hX1.cell 0
  have x1 := hX1.cell 1
  have x2 := hX1.cell 2
  have HM := hideC (make_raw _ R C zs w1 (HIN.out.below b1))
  go_wp2_with fail
  refine HM.out.mono ?_
  rintro e w2 ⟨A2, c2, rfl, hI, hb2⟩
  have b2 := b1.trans (hb2.mono b1.size)
  obtain ⟨M, hMd⟩ : ∃ M, M = rawM R C zs := ⟨_, rfl⟩
  have hML : M.length = R := by rw [hMd, mat_len]
  rw [← hMd] at hI
  subst hML
  obtain ⟨hR5, hC5⟩ := hbd
  have hl : (nsOf C M).length ≤ 4096 := by rw [nsTo_len]; omega
  clear hMd HM HIN hX hX1 hbel0 hb1 hb2 b1 x0 x1 x2
  replace hT := hT.below b2
  go_wp2_with fail
  refine absC1 fun w3 hY hb hz => ?_
  clear hz
  replace hI := hI.below hb; replace hT := hT.below hb; replace b2 := b2.trans (hb.mono b2.size)
  clear hb
  refine (matrixl_any C A2 c2 M w3 hI (by omega) (by omega)).mono ?_
  rintro e u1 ⟨q, rfl, hm, _, hb⟩
  replace hI := hI.below hb; replace hT := hT.below hb; replace b2 := b2.trans (hb.mono b2.size); replace hY := hY.below hb hY.lt
  clear hb
  go_wp2_with fail
  refine (res3 (rfl) (set_any45 a (by omega) _)).mono ?_
  rintro e u2 ⟨As1, ns1, cs1, rfl, s1, hb⟩
  replace hI := hI.below hb; replace hT := hT.below hb; replace b2 := b2.trans (hb.mono b2.size); replace hY := hY.below hb hY.lt; replace hm := hm.below hb
  clear hb
  go_wp2_with fail
  refine (res3 (rfl) (with_any _ a _ _ s1)).mono ?_
  rintro e u3 ⟨As2, ns2, cs2, rfl, s2, hb⟩
  replace hI := hI.below hb; replace hT := hT.below hb; replace b2 := b2.trans (hb.mono b2.size); replace hY := hY.below hb hY.lt; replace hm := hm.below hb; replace s1 := s1.below hb
  clear hb
  generalize hF : withB _ _ = F at s2
  have hlow : ∀ j, j < 60 → F.testBit j = a.testBit j := fun j hj => by rw [← hF]; exact withB_low (by omega) j hj
  have ec : comN C (nsOf C M) F = comN C (nsOf C M) a := comN_in fun i hi => hlow i (by rw [nsTo_len] at hi; omega)
  have eh : havN C (nsOf C M) F = havN C (nsOf C M) a := havN_in hl fun j hj => hlow j (by omega)
  have EC := Lib.hid ec; have EH := Lib.hid eh
  clear hF hlow ec eh
  go_wp2_with fail
  refine abs1 fun w9 h9 hb hz => ?_
  clear hz
  replace hI := hI.below hb; replace hT := hT.below hb; replace b2 := b2.trans (hb.mono b2.size); replace hY := hY.below hb hY.lt; replace hm := hm.below hb; replace s1 := s1.below hb; replace s2 := s2.below hb
  clear hb
  go_wp2_with fail
  refine wp_mix (fun V => Below w9.heap.size w9 V) 21 (by kernel_rfl) (by kernel_rfl) (Below.refl _ _).drew ?_
  have hr : Below w9.heap.size w9 w9.drew := (Below.refl _ _).drew
  obtain ⟨u4, hw⟩ : ∃ V, V = w9.drew := ⟨_, rfl⟩
  rw [← hw] at hr ⊢; clear hw
  have hb := hr
  have z9 := h9.cell 0
  have y0 := hY.cell 0
  have y1 := hY.cell 1
  replace hI := hI.below hb; replace hT := hT.below hb; replace b2 := b2.trans (hb.mono b2.size); replace hY := hY.below hb hY.lt; replace hm := hm.below hb; replace s1 := s1.below hb; replace s2 := s2.below hb; replace h9 := h9.below hb h9.lt
  clear hb
  (refine m_q 0 (v := ?_) (by kernel_rfl) rfl rfl (fun W hW => ?_) ?_; rotate_left; (have zz9 := onB hW z9; have zy0 := onB hW y0; have zy1 := onB hW y1; go_simp; first | done | with_reducible rfl); simp only [Act.put, List.setIfInBounds_toArray, List.set_cons_zero, List.set_cons_succ]); (refine m_q 1 (v := ?_) (by kernel_rfl) rfl rfl (fun W hW => ?_) ?_; rotate_left; (have zz9 := onB hW z9; have zy0 := onB hW y0; have zy1 := onB hW y1; go_simp; first | done | with_reducible rfl); simp only [Act.put, List.setIfInBounds_toArray, List.set_cons_zero, List.set_cons_succ]); (refine m_q 3 (v := ?_) (by kernel_rfl) rfl rfl (fun W hW => ?_) ?_; rotate_left; (have zz9 := onB hW z9; have zy0 := onB hW y0; have zy1 := onB hW y1; go_simp; first | done | with_reducible rfl); simp only [Act.put, List.setIfInBounds_toArray, List.set_cons_zero, List.set_cons_succ]); (refine m_q 4 (v := ?_) (by kernel_rfl) rfl rfl (fun W hW => ?_) ?_; rotate_left; (have zz9 := onB hW z9; have zy0 := onB hW y0; have zy1 := onB hW y1; go_simp; first | done | with_reducible rfl); simp only [Act.put, List.setIfInBounds_toArray, List.set_cons_zero, List.set_cons_succ]); (refine m_q 5 (v := ?_) (by kernel_rfl) rfl rfl (fun W hW => ?_) ?_; rotate_left; (have zz9 := onB hW z9; have zy0 := onB hW y0; have zy1 := onB hW y1; go_simp; first | done | with_reducible rfl); simp only [Act.put, List.setIfInBounds_toArray, List.set_cons_zero, List.set_cons_succ])
  refine m_s1 2 (by kernel_rfl) rfl ?_
  go_wp2_with fail
  refine (res3 (EC.out) (common_any _ C (nsOf C M) _ F _ hm.mv s2 hT)).mono ?_
  rintro e u5 ⟨At2, nt2, ct2, rfl, t2, hb⟩
  replace hI := hI.below hb; replace hT := hT.below hb; replace b2 := b2.trans (hb.mono b2.size); replace hY := hY.below hb hY.lt; replace hm := hm.below hb; replace s1 := s1.below hb; replace s2 := s2.below hb; replace h9 := h9.below hb h9.lt; replace hr := hr.trans (hb.mono hr.size)
  clear hb
  go_wp2_with fail
  refine m_keep hr ?_
  refine m_s1 6 (by kernel_rfl) rfl ?_
  go_wp2_with fail
  refine (comr_any C A2 c2 M a _ hI (by omega) (by omega)).mono ?_
  rintro e u6 ⟨rfl, hb⟩
  replace hI := hI.below hb; replace hT := hT.below hb; replace b2 := b2.trans (hb.mono b2.size); replace hY := hY.below hb hY.lt; replace hm := hm.below hb; replace s1 := s1.below hb; replace s2 := s2.below hb; replace h9 := h9.below hb h9.lt; replace hr := hr.trans (hb.mono hr.size); replace t2 := t2.below hb
  clear hb
  go_wp2_with fail
  refine m_keep hr ?_
  refine m_s1 7 (by kernel_rfl) rfl ?_
  go_wp2_with fail
  refine (res3 (rfl) (set_any45 _ (comN_64 (by omega) _) _)).mono ?_
  rintro e u7 ⟨At7, nt7, ct7, rfl, t7, hb⟩
  replace hI := hI.below hb; replace hT := hT.below hb; replace b2 := b2.trans (hb.mono b2.size); replace hY := hY.below hb hY.lt; replace hm := hm.below hb; replace s1 := s1.below hb; replace s2 := s2.below hb; replace h9 := h9.below hb h9.lt; replace hr := hr.trans (hb.mono hr.size); replace t2 := t2.below hb
  clear hb
  go_wp2_with fail
  refine m_keep hr ?_
  refine m_s1 8 (by kernel_rfl) rfl ?_
  go_wp2_with fail
  refine (eq_same t2 t7).mono ?_
  rintro e u8 ⟨rfl, hb⟩
  replace hI := hI.below hb; replace hT := hT.below hb; replace b2 := b2.trans (hb.mono b2.size); replace hY := hY.below hb hY.lt; replace hm := hm.below hb; replace s1 := s1.below hb; replace s2 := s2.below hb; replace h9 := h9.below hb h9.lt; replace hr := hr.trans (hb.mono hr.size); replace t2 := t2.below hb; replace t7 := t7.below hb
  clear hb
  go_wp2_with fail
  refine m_keep hr ?_
  (refine m_q 9 (v := ?_) (by kernel_rfl) rfl rfl (fun W hW => ?_) ?_; rotate_left; (go_simp; first | done | with_reducible rfl); simp only [Act.put, List.setIfInBounds_toArray, List.set_cons_zero, List.set_cons_succ])
  (refine m_yes 10 (v := ?_) (by kernel_rfl) rfl (by rfl) (fun W hW => ?_) ?_; rotate_left; (have zz9 := onB hW z9; have zy0 := onB hW y0; have zy1 := onB hW y1; go_simp; first | done | with_reducible rfl); simp only [Act.put, List.setIfInBounds_toArray, List.set_cons_zero, List.set_cons_succ]); (refine m_yes 11 (v := ?_) (by kernel_rfl) rfl (by rfl) (fun W hW => ?_) ?_; rotate_left; (have zz9 := onB hW z9; have zy0 := onB hW y0; have zy1 := onB hW y1; go_simp; first | done | with_reducible rfl); simp only [Act.put, List.setIfInBounds_toArray, List.set_cons_zero, List.set_cons_succ]); (refine m_yes 13 (v := ?_) (by kernel_rfl) rfl (by rfl) (fun W hW => ?_) ?_; rotate_left; (have zz9 := onB hW z9; have zy0 := onB hW y0; have zy1 := onB hW y1; go_simp; first | done | with_reducible rfl); simp only [Act.put, List.setIfInBounds_toArray, List.set_cons_zero, List.set_cons_succ]); (refine m_yes 14 (v := ?_) (by kernel_rfl) rfl (by rfl) (fun W hW => ?_) ?_; rotate_left; (have zz9 := onB hW z9; have zy0 := onB hW y0; have zy1 := onB hW y1; go_simp; first | done | with_reducible rfl); simp only [Act.put, List.setIfInBounds_toArray, List.set_cons_zero, List.set_cons_succ]); (refine m_yes 15 (v := ?_) (by kernel_rfl) rfl (by rfl) (fun W hW => ?_) ?_; rotate_left; (have zz9 := onB hW z9; have zy0 := onB hW y0; have zy1 := onB hW y1; go_simp; first | done | with_reducible rfl); simp only [Act.put, List.setIfInBounds_toArray, List.set_cons_zero, List.set_cons_succ])
  refine m_s1 12 (by kernel_rfl) rfl ?_
  go_wp2_with fail
  refine (res3 (EH.out) (having_any _ C (nsOf C M) _ F _ hm.mv s2 hT)).mono ?_
  rintro e u9 ⟨At12, nt12, ct12, rfl, t12, hb⟩
  replace hI := hI.below hb; replace hT := hT.below hb; replace b2 := b2.trans (hb.mono b2.size); replace hY := hY.below hb hY.lt; replace hm := hm.below hb; replace s1 := s1.below hb; replace s2 := s2.below hb; replace h9 := h9.below hb h9.lt; replace hr := hr.trans (hb.mono hr.size); replace t2 := t2.below hb; replace t7 := t7.below hb
  clear hb
  go_wp2_with fail
  refine m_keep hr ?_
  refine m_s1 16 (by kernel_rfl) rfl ?_
  go_wp2_with fail
  refine (havr_any C A2 c2 M a _ hI (by omega) (by omega)).mono ?_
  rintro e u10 ⟨rfl, hb⟩
  replace hI := hI.below hb; replace hT := hT.below hb; replace b2 := b2.trans (hb.mono b2.size); replace hY := hY.below hb hY.lt; replace hm := hm.below hb; replace s1 := s1.below hb; replace s2 := s2.below hb; replace h9 := h9.below hb h9.lt; replace hr := hr.trans (hb.mono hr.size); replace t2 := t2.below hb; replace t7 := t7.below hb; replace t12 := t12.below hb
  clear hb
  go_wp2_with fail
  refine m_keep hr ?_
  refine m_s1 17 (by kernel_rfl) rfl ?_
  go_wp2_with fail
  refine (res3 (rfl) (set_any45 _ (havN_64 (by rw [nsTo_len]; omega) _) _)).mono ?_
  rintro e u11 ⟨At17, nt17, ct17, rfl, t17, hb⟩
  replace hI := hI.below hb; replace hT := hT.below hb; replace b2 := b2.trans (hb.mono b2.size); replace hY := hY.below hb hY.lt; replace hm := hm.below hb; replace s1 := s1.below hb; replace s2 := s2.below hb; replace h9 := h9.below hb h9.lt; replace hr := hr.trans (hb.mono hr.size); replace t2 := t2.below hb; replace t7 := t7.below hb; replace t12 := t12.below hb
  clear hb
  go_wp2_with fail
  refine m_keep hr ?_
  refine m_s1 18 (by kernel_rfl) rfl ?_
  go_wp2_with fail
  refine (eq_same t12 t17).mono ?_
  rintro e u12 ⟨rfl, hb⟩
  replace hI := hI.below hb; replace hT := hT.below hb; replace b2 := b2.trans (hb.mono b2.size); replace hY := hY.below hb hY.lt; replace hm := hm.below hb; replace s1 := s1.below hb; replace s2 := s2.below hb; replace h9 := h9.below hb h9.lt; replace hr := hr.trans (hb.mono hr.size); replace t2 := t2.below hb; replace t7 := t7.below hb; replace t12 := t12.below hb; replace t17 := t17.below hb
  clear hb
  go_wp2_with fail
  refine m_keep hr ?_
  (refine m_q 19 (v := ?_) (by kernel_rfl) rfl rfl (fun W hW => ?_) ?_; rotate_left; (go_simp; first | done | with_reducible rfl); simp only [Act.put, List.setIfInBounds_toArray, List.set_cons_zero, List.set_cons_succ]); (refine m_q 20 (v := ?_) (by kernel_rfl) rfl rfl (fun W hW => ?_) ?_; rotate_left; (go_simp; first | done | with_reducible rfl); simp only [Act.put, List.setIfInBounds_toArray, List.set_cons_zero, List.set_cons_succ])
  refine m_end (by kernel_rfl) ?_
  clear z9 y0 y1
  go_wp2_with fail
  go_ret
  exact ⟨rfl, b2⟩
set_option maxRecDepth 100000 in
set_option maxHeartbeats 8000000 in
theorem galois_walk (v : Value) (R C : Nat) (zs : List Int) (a b : Nat) (w : World) (hT : Tab w) (h : IsRaw w v R C zs) (ha : a ≤ 255) (hb : b ≤ 255) :
    Calls Tryd.prog 5 #[v, .int .u8 a, .int .u8 b] w fun e w' => e = .returned (.bool true) ∧ Below w.heap.size w w' := by
  have hbd := h.bd
  obtain ⟨r, c, A0, d0, hv, _⟩ := id h
  subst hv
  have HIN := hideC h; clear h
  go_enter Tryd.func5, Tryd.ntmps5
  go_wp2_with fail
  refine absC1 fun W0 hX hbel0 hz => ?_
  clear hz
  refine (Mix2.awake_any45 W0 (hT.below hbel0)).mono ?_
  rintro e w1 ⟨rfl, hb1⟩
  have b1 := hbel0.trans (hb1.mono hbel0.size)
  have hX1 := hX.below hb1 hX.lt
  have x0 := hX1.cell 0
  have x1 := hX1.cell 1
  have x2 := hX1.cell 2
  have HM := hideC (make_raw _ R C zs w1 (HIN.out.below b1))
  go_wp2_with fail
  refine HM.out.mono ?_
  rintro e w2 ⟨A2, c2, rfl, hI, hb2⟩
  have b2 := b1.trans (hb2.mono b1.size)
  obtain ⟨M, hMd⟩ : ∃ M, M = rawM R C zs := ⟨_, rfl⟩
  have hML : M.length = R := by rw [hMd, mat_len]
  rw [← hMd] at hI
  subst hML
  obtain ⟨hR5, hC5⟩ := hbd
  have hl : (nsOf C M).length ≤ 4096 := by rw [nsTo_len]; omega
  clear hMd HM HIN hX hX1 hbel0 hb1 hb2 b1 x0 x1 x2
  replace hT := hT.below b2
  go_wp2_with fail
  refine (matrixl_any C A2 c2 M w2 hI (by omega) (by omega)).mono ?_
  rintro e u1 ⟨q, rfl, hm, _, hb⟩
  replace hT := hT.below hb; replace b2 := b2.trans (hb.mono b2.size)
  clear hb
  go_wp2_with fail
  refine (res3 (rfl) (set_any45 a (by omega) _)).mono ?_
  rintro e u2 ⟨As1, ns1, cs1, rfl, s1, hb⟩
  replace hT := hT.below hb; replace b2 := b2.trans (hb.mono b2.size); replace hm := hm.below hb
  clear hb
  go_wp2_with fail
  refine (rows_M hm).mono ?_
  rintro e w' ⟨rfl, rfl⟩
  go_wp2_with fail
  refine (res3 (rfl) (below_N (by omega))).mono ?_
  rintro e u3 ⟨Alr, nlr, clr, rfl, lr, hb⟩
  replace hT := hT.below hb; replace b2 := b2.trans (hb.mono b2.size); replace hm := hm.below hb; replace s1 := s1.below hb
  clear hb
  go_wp2_with fail
  refine (res3 (rfl) (and_any _ _ _ _ _ s1 lr)).mono ?_
  rintro e u4 ⟨Ar, nr, cr, rfl, r, hb⟩
  replace hT := hT.below hb; replace b2 := b2.trans (hb.mono b2.size); replace hm := hm.below hb; replace s1 := s1.below hb; replace lr := lr.below hb
  clear hb
  go_wp2_with fail
  refine (res3 (rfl) (set_any45 b (by omega) _)).mono ?_
  rintro e u5 ⟨As2, ns2, cs2, rfl, s2, hb⟩
  replace hT := hT.below hb; replace b2 := b2.trans (hb.mono b2.size); replace hm := hm.below hb; replace s1 := s1.below hb; replace lr := lr.below hb; replace r := r.below hb
  clear hb
  go_wp2_with fail
  refine (cols_any q C (nsOf C M) _ hm).mono ?_
  rintro e w' ⟨rfl, rfl⟩
  go_wp2_with fail
  refine (res3 (rfl) (below_N (by omega))).mono ?_
  rintro e u6 ⟨Alk, nlk, clk, rfl, lk, hb⟩
  replace hT := hT.below hb; replace b2 := b2.trans (hb.mono b2.size); replace hm := hm.below hb; replace s1 := s1.below hb; replace lr := lr.below hb; replace r := r.below hb; replace s2 := s2.below hb
  clear hb
  go_wp2_with fail
  refine (res3 (rfl) (and_any _ _ _ _ _ s2 lk)).mono ?_
  rintro e u7 ⟨Ak, nk, ck, rfl, k, hb⟩
  replace hT := hT.below hb; replace b2 := b2.trans (hb.mono b2.size); replace hm := hm.below hb; replace s1 := s1.below hb; replace lr := lr.below hb; replace r := r.below hb; replace s2 := s2.below hb; replace lk := lk.below hb
  clear hb
  have hg : decide ((b &&& lowN C) &&& comN C (nsOf C M) (a &&& lowN M.length) = (b &&& lowN C)) = decide ((a &&& lowN M.length) &&& havN C (nsOf C M) (b &&& lowN C) = (a &&& lowN M.length)) := decide_eq_decide.2 (galois hl (fun i hi => by rw [nsTo_len]; exact low_lt hi) (fun j hj => low_lt hj))
  generalize a &&& lowN M.length = R0 at r hg
  generalize b &&& lowN C = C0 at k hg
  have HG := Lib.hid hg
  clear hg
  go_wp2_with fail
  refine abs2 fun w9 h8 h9 hb hz => ?_
  clear hz
  replace hT := hT.below hb; replace b2 := b2.trans (hb.mono b2.size); replace hm := hm.below hb; replace s1 := s1.below hb; replace lr := lr.below hb; replace r := r.below hb; replace s2 := s2.below hb; replace lk := lk.below hb; replace k := k.below hb
  clear hb
  go_wp2_with fail
  refine wp_mix (fun V => Below w9.heap.size w9 V) 12 (by kernel_rfl) (by kernel_rfl) (Below.refl _ _).drew ?_
  have hr : Below w9.heap.size w9 w9.drew := (Below.refl _ _).drew
  obtain ⟨u8, hw⟩ : ∃ V, V = w9.drew := ⟨_, rfl⟩
  rw [← hw] at hr ⊢; clear hw
  have hb := hr
  have z8 := h8.cell 0
  have z9 := h9.cell 0
  replace hT := hT.below hb; replace b2 := b2.trans (hb.mono b2.size); replace hm := hm.below hb; replace s1 := s1.below hb; replace lr := lr.below hb; replace r := r.below hb; replace s2 := s2.below hb; replace lk := lk.below hb; replace k := k.below hb; replace h8 := h8.below hb h8.lt; replace h9 := h9.below hb h9.lt
  clear hb
  (refine m_q 0 (v := ?_) (by kernel_rfl) rfl rfl (fun W hW => ?_) ?_; rotate_left; (have zz8 := onB hW z8; have zz9 := onB hW z9; go_simp; first | done | with_reducible rfl); simp only [Act.put, List.setIfInBounds_toArray, List.set_cons_zero, List.set_cons_succ]); (refine m_q 1 (v := ?_) (by kernel_rfl) rfl rfl (fun W hW => ?_) ?_; rotate_left; (have zz8 := onB hW z8; have zz9 := onB hW z9; go_simp; first | done | with_reducible rfl); simp only [Act.put, List.setIfInBounds_toArray, List.set_cons_zero, List.set_cons_succ]); (refine m_q 2 (v := ?_) (by kernel_rfl) rfl rfl (fun W hW => ?_) ?_; rotate_left; (have zz8 := onB hW z8; have zz9 := onB hW z9; go_simp; first | done | with_reducible rfl); simp only [Act.put, List.setIfInBounds_toArray, List.set_cons_zero, List.set_cons_succ]); (refine m_q 5 (v := ?_) (by kernel_rfl) rfl rfl (fun W hW => ?_) ?_; rotate_left; (have zz8 := onB hW z8; have zz9 := onB hW z9; go_simp; first | done | with_reducible rfl); simp only [Act.put, List.setIfInBounds_toArray, List.set_cons_zero, List.set_cons_succ]); (refine m_q 6 (v := ?_) (by kernel_rfl) rfl rfl (fun W hW => ?_) ?_; rotate_left; (have zz8 := onB hW z8; have zz9 := onB hW z9; go_simp; first | done | with_reducible rfl); simp only [Act.put, List.setIfInBounds_toArray, List.set_cons_zero, List.set_cons_succ]); (refine m_q 7 (v := ?_) (by kernel_rfl) rfl rfl (fun W hW => ?_) ?_; rotate_left; (have zz8 := onB hW z8; have zz9 := onB hW z9; go_simp; first | done | with_reducible rfl); simp only [Act.put, List.setIfInBounds_toArray, List.set_cons_zero, List.set_cons_succ])
  refine m_s1 3 (by kernel_rfl) rfl ?_
  go_wp2_with fail
  refine (res3 (rfl) (common_any _ C (nsOf C M) _ _ _ hm.mv r hT)).mono ?_
  rintro e u9 ⟨At3, nt3, ct3, rfl, t3, hb⟩
  replace hT := hT.below hb; replace b2 := b2.trans (hb.mono b2.size); replace hm := hm.below hb; replace s1 := s1.below hb; replace lr := lr.below hb; replace r := r.below hb; replace s2 := s2.below hb; replace lk := lk.below hb; replace k := k.below hb; replace h8 := h8.below hb h8.lt; replace h9 := h9.below hb h9.lt; replace hr := hr.trans (hb.mono hr.size)
  clear hb
  go_wp2_with fail
  refine m_keep hr ?_
  refine m_s1 4 (by kernel_rfl) rfl ?_
  go_wp2_with fail
  refine (within_is HG.out k t3).mono ?_
  rintro e u10 ⟨rfl, hb⟩
  replace hT := hT.below hb; replace b2 := b2.trans (hb.mono b2.size); replace hm := hm.below hb; replace s1 := s1.below hb; replace lr := lr.below hb; replace r := r.below hb; replace s2 := s2.below hb; replace lk := lk.below hb; replace k := k.below hb; replace h8 := h8.below hb h8.lt; replace h9 := h9.below hb h9.lt; replace hr := hr.trans (hb.mono hr.size); replace t3 := t3.below hb
  clear hb
  go_wp2_with fail
  refine m_keep hr ?_
  refine m_s1 8 (by kernel_rfl) rfl ?_
  go_wp2_with fail
  refine (res3 (rfl) (having_any _ C (nsOf C M) _ _ _ hm.mv k hT)).mono ?_
  rintro e u11 ⟨At8, nt8, ct8, rfl, t8, hb⟩
  replace hT := hT.below hb; replace b2 := b2.trans (hb.mono b2.size); replace hm := hm.below hb; replace s1 := s1.below hb; replace lr := lr.below hb; replace r := r.below hb; replace s2 := s2.below hb; replace lk := lk.below hb; replace k := k.below hb; replace h8 := h8.below hb h8.lt; replace h9 := h9.below hb h9.lt; replace hr := hr.trans (hb.mono hr.size); replace t3 := t3.below hb
  clear hb
  go_wp2_with fail
  refine m_keep hr ?_
  refine m_s1 9 (by kernel_rfl) rfl ?_
  go_wp2_with fail
  refine (within_is rfl r t8).mono ?_
  rintro e u12 ⟨rfl, hb⟩
  replace hT := hT.below hb; replace b2 := b2.trans (hb.mono b2.size); replace hm := hm.below hb; replace s1 := s1.below hb; replace lr := lr.below hb; replace r := r.below hb; replace s2 := s2.below hb; replace lk := lk.below hb; replace k := k.below hb; replace h8 := h8.below hb h8.lt; replace h9 := h9.below hb h9.lt; replace hr := hr.trans (hb.mono hr.size); replace t3 := t3.below hb; replace t8 := t8.below hb
  clear hb
  go_wp2_with fail
  refine m_keep hr ?_
  (refine m_q 10 (v := ?_) (by kernel_rfl) rfl rfl (fun W hW => ?_) ?_; rotate_left; (go_simp; first | done | with_reducible rfl); simp only [Act.put, List.setIfInBounds_toArray, List.set_cons_zero, List.set_cons_succ]); (refine m_q 11 (v := ?_) (by kernel_rfl) rfl rfl (fun W hW => ?_) ?_; rotate_left; (go_simp; first | done | with_reducible rfl); simp only [Act.put, List.setIfInBounds_toArray, List.set_cons_zero, List.set_cons_succ])
  refine m_end (by kernel_rfl) ?_
  clear z8 z9
  go_wp2_with fail
  go_ret
  exact ⟨rfl, b2⟩
set_option maxRecDepth 100000 in
set_option maxHeartbeats 8000000 in
theorem nil45_walk (a : Nat) (w : World) (hT : Tab w) (ha : a ≤ 255) :
    Calls Tryd.prog 3 #[.int .u8 a] w fun e w' => e = .returned (.bool true) ∧ Below w.heap.size w w' := by
  go_enter Tryd.func3, Tryd.ntmps3
  go_wp2_with fail
  refine (Mix2.awake_any45 w hT).mono ?_
  rintro e w1 ⟨rfl, b2⟩
  replace hT := hT.below b2
  have hN : ∀ W, IsMV W none 0 [] := fun W => .inl ⟨rfl, rfl, rfl⟩
  go_wp2_with fail
  refine (res3 (rfl) (set_any45 a (by omega) _)).mono ?_
  rintro e u1 ⟨As1, ns1, cs1, rfl, s1, hb⟩
  replace hT := hT.below hb; replace b2 := b2.trans (hb.mono b2.size)
  clear hb
  go_wp2_with fail
  refine absC1 fun w3 h3 hb hz => ?_
  clear hz
  replace hT := hT.below hb; replace b2 := b2.trans (hb.mono b2.size); replace s1 := s1.below hb
  clear hb
  refine (of_is (hav_nil 0 _) (com_nil _ _) (hN _) s1 hT).mono ?_
  rintro e u2 ⟨Ax, nx, cx, Bx, kx, dx, rfl, xr, xc, hb⟩
  replace hT := hT.below hb; replace b2 := b2.trans (hb.mono b2.size); replace s1 := s1.below hb; replace h3 := h3.below hb h3.lt
  clear hb
  have y0 := h3.cell 0; have l3 := h3.lt
  go_wp2_with fail
  refine absC1 fun w4 h4 hb hz => ?_
  clear hz
  replace hT := hT.below hb; replace b2 := b2.trans (hb.mono b2.size); replace s1 := s1.below hb; replace h3 := h3.below hb h3.lt; replace xr := xr.below hb; replace xc := xc.below hb; replace y0 := onB hb y0
  clear hb
  refine (minimal_nil _ _).mono ?_
  rintro e u3 ⟨rfl, hb⟩
  replace hT := hT.below hb; replace b2 := b2.trans (hb.mono b2.size); replace s1 := s1.below hb; replace h3 := h3.below hb h3.lt; replace xr := xr.below hb; replace xc := xc.below hb; replace y0 := onB hb y0; replace h4 := h4.below hb h4.lt
  clear hb
  have x0 := h4.cell 0; have x1 := h4.cell 1
  go_wp2_with fail
  refine (res3 (com_nil _ _) (common_any _ _ _ _ a _ (hN _) s1 hT)).mono ?_
  rintro e u4 ⟨At1, nt1, ct1, rfl, t1, hb⟩
  replace hT := hT.below hb; replace b2 := b2.trans (hb.mono b2.size); replace s1 := s1.below hb; replace h3 := h3.below hb h3.lt; replace xr := xr.below hb; replace xc := xc.below hb; replace y0 := onB hb y0; replace h4 := h4.below hb h4.lt; replace x0 := onB hb x0; replace x1 := onB hb x1
  clear hb
  go_wp2_with fail
  refine (empty_is t1).mono ?_
  rintro e u5 ⟨rfl, hb⟩
  replace hT := hT.below hb; replace b2 := b2.trans (hb.mono b2.size); replace s1 := s1.below hb; replace h3 := h3.below hb h3.lt; replace xr := xr.below hb; replace xc := xc.below hb; replace y0 := onB hb y0; replace h4 := h4.below hb h4.lt; replace x0 := onB hb x0; replace x1 := onB hb x1; replace t1 := t1.below hb
  clear hb
  go_wp2_with fail
  refine (res3 (hav_nil 0 _) (having_any _ _ _ _ a _ (hN _) s1 hT)).mono ?_
  rintro e u6 ⟨At2, nt2, ct2, rfl, t2, hb⟩
  replace hT := hT.below hb; replace b2 := b2.trans (hb.mono b2.size); replace s1 := s1.below hb; replace h3 := h3.below hb h3.lt; replace xr := xr.below hb; replace xc := xc.below hb; replace y0 := onB hb y0; replace h4 := h4.below hb h4.lt; replace x0 := onB hb x0; replace x1 := onB hb x1; replace t1 := t1.below hb
  clear hb
  go_wp2_with fail
  refine (empty_is t2).mono ?_
  rintro e u7 ⟨rfl, hb⟩
  replace hT := hT.below hb; replace b2 := b2.trans (hb.mono b2.size); replace s1 := s1.below hb; replace h3 := h3.below hb h3.lt; replace xr := xr.below hb; replace xc := xc.below hb; replace y0 := onB hb y0; replace h4 := h4.below hb h4.lt; replace x0 := onB hb x0; replace x1 := onB hb x1; replace t1 := t1.below hb; replace t2 := t2.below hb
  clear hb
  go_wp2_with fail
  refine (res3 (com_nil _ _) (close_any _ _ _ _ a _ (hN _) s1 hT)).mono ?_
  rintro e u8 ⟨At3, nt3, ct3, rfl, t3, hb⟩
  replace hT := hT.below hb; replace b2 := b2.trans (hb.mono b2.size); replace s1 := s1.below hb; replace h3 := h3.below hb h3.lt; replace xr := xr.below hb; replace xc := xc.below hb; replace y0 := onB hb y0; replace h4 := h4.below hb h4.lt; replace x0 := onB hb x0; replace x1 := onB hb x1; replace t1 := t1.below hb; replace t2 := t2.below hb
  clear hb
  go_wp2_with fail
  refine (empty_is t3).mono ?_
  rintro e u9 ⟨rfl, hb⟩
  replace hT := hT.below hb; replace b2 := b2.trans (hb.mono b2.size); replace s1 := s1.below hb; replace h3 := h3.below hb h3.lt; replace xr := xr.below hb; replace xc := xc.below hb; replace y0 := onB hb y0; replace h4 := h4.below hb h4.lt; replace x0 := onB hb x0; replace x1 := onB hb x1; replace t1 := t1.below hb; replace t2 := t2.below hb; replace t3 := t3.below hb
  clear hb
  go_wp2_with fail
  refine (closed_nil _ _).mono ?_
  rintro e u10 ⟨rfl, hb⟩
  replace hT := hT.below hb; replace b2 := b2.trans (hb.mono b2.size); replace s1 := s1.below hb; replace h3 := h3.below hb h3.lt; replace xr := xr.below hb; replace xc := xc.below hb; replace y0 := onB hb y0; replace h4 := h4.below hb h4.lt; replace x0 := onB hb x0; replace x1 := onB hb x1; replace t1 := t1.below hb; replace t2 := t2.below hb; replace t3 := t3.below hb
  clear hb
  go_wp2_with fail
  refine (implies_nil _ _ _).mono ?_
  rintro e u11 ⟨rfl, hb⟩
  replace hT := hT.below hb; replace b2 := b2.trans (hb.mono b2.size); replace s1 := s1.below hb; replace h3 := h3.below hb h3.lt; replace xr := xr.below hb; replace xc := xc.below hb; replace y0 := onB hb y0; replace h4 := h4.below hb h4.lt; replace x0 := onB hb x0; replace x1 := onB hb x1; replace t1 := t1.below hb; replace t2 := t2.below hb; replace t3 := t3.below hb
  clear hb
  go_wp2_with fail
  refine (empty_is xr).mono ?_
  rintro e u12 ⟨rfl, hb⟩
  replace hT := hT.below hb; replace b2 := b2.trans (hb.mono b2.size); replace s1 := s1.below hb; replace h3 := h3.below hb h3.lt; replace xr := xr.below hb; replace xc := xc.below hb; replace y0 := onB hb y0; replace h4 := h4.below hb h4.lt; replace x0 := onB hb x0; replace x1 := onB hb x1; replace t1 := t1.below hb; replace t2 := t2.below hb; replace t3 := t3.below hb
  clear hb
  go_wp2_with fail
  refine (empty_is xc).mono ?_
  rintro e u13 ⟨rfl, hb⟩
  replace hT := hT.below hb; replace b2 := b2.trans (hb.mono b2.size); replace s1 := s1.below hb; replace h3 := h3.below hb h3.lt; replace xr := xr.below hb; replace xc := xc.below hb; replace y0 := onB hb y0; replace h4 := h4.below hb h4.lt; replace x0 := onB hb x0; replace x1 := onB hb x1; replace t1 := t1.below hb; replace t2 := t2.below hb; replace t3 := t3.below hb
  clear hb
  go_wp2_with fail
  go_ret
  exact ⟨rfl, b2⟩
set_option maxRecDepth 100000 in
set_option maxHeartbeats 8000000 in
theorem turns_walk (v : Value) (R C : Nat) (zs : List Int) (a : Nat) (w : World) (hT : Tab w) (h : IsRaw w v R C zs) (ha : a ≤ 255) :
    Calls Tryd.prog 12 #[v, .int .u8 a] w fun e w' => e = .returned (.bool true) ∧ Below w.heap.size w w' := by
  have hbd := h.bd
  obtain ⟨r, c, A0, d0, hv, _⟩ := id h
  subst hv
  have HIN := hideC h; clear h
  go_enter Tryd.func12, Tryd.ntmps12
  go_wp2_with fail
  refine absC1 fun W0 hX hbel0 hz => ?_
  clear hz
  refine (Mix2.awake_any45 W0 (hT.below hbel0)).mono ?_
  rintro e w1 ⟨rfl, hb1⟩
  have b1 := hbel0.trans (hb1.mono hbel0.size)
  have hX1 := hX.below hb1 hX.lt
  have x0 := hX1.cell 0
  have x1 := hX1.cell 1
  have x2 := hX1.cell 2
  have HM := hideC (make_raw _ R C zs w1 (HIN.out.below b1))
  go_wp2_with fail
  refine HM.out.mono ?_
  rintro e w2 ⟨A2, c2, rfl, hI, hb2⟩
  have b2 := b1.trans (hb2.mono b1.size)
  obtain ⟨M, hMd⟩ : ∃ M, M = rawM R C zs := ⟨_, rfl⟩
  have hML : M.length = R := by rw [hMd, mat_len]
  rw [← hMd] at hI
  subst hML
  obtain ⟨hR5, hC5⟩ := hbd
  have hl : (nsOf C M).length ≤ 4096 := by rw [nsTo_len]; omega
  clear hMd HM HIN hX hX1 hbel0 hb1 hb2 b1 x0 x1 x2
  replace hT := hT.below b2
  go_wp2_with fail
  refine (matrixl_any C A2 c2 M w2 hI (by omega) (by omega)).mono ?_
  rintro e u1 ⟨q, rfl, hm, _, hb⟩
  replace hT := hT.below hb; replace b2 := b2.trans (hb.mono b2.size)
  clear hb
  go_wp2_with fail
  refine (trans_any q C (nsOf C M) _ hm).mono ?_
  rintro e u2 ⟨q2, rfl, hm2, hb⟩
  replace hT := hT.below hb; replace b2 := b2.trans (hb.mono b2.size); replace hm := hm.below hb
  clear hb
  go_wp2_with fail
  refine (res3 (rfl) (set_any45 a (by omega) _)).mono ?_
  rintro e u3 ⟨As1, ns1, cs1, rfl, s1, hb⟩
  replace hT := hT.below hb; replace b2 := b2.trans (hb.mono b2.size); replace hm := hm.below hb; replace hm2 := hm2.below hb
  clear hb
  go_wp2_with fail
  refine absC1 fun w7 h7 hb hz => ?_
  clear hz
  replace hT := hT.below hb; replace b2 := b2.trans (hb.mono b2.size); replace hm := hm.below hb; replace hm2 := hm2.below hb; replace s1 := s1.below hb
  clear hb
  refine (of_is rfl rfl hm.mv s1 hT).mono ?_
  rintro e u4 ⟨Ax, nx, cx, Bx, kx, dx, rfl, xr, xc, hb⟩
  replace hT := hT.below hb; replace b2 := b2.trans (hb.mono b2.size); replace hm := hm.below hb; replace hm2 := hm2.below hb; replace s1 := s1.below hb; replace h7 := h7.below hb h7.lt
  clear hb
  go_wp2_with fail
  refine absC1 fun w8 h8 hb hz => ?_
  clear hz
  replace hT := hT.below hb; replace b2 := b2.trans (hb.mono b2.size); replace hm := hm.below hb; replace hm2 := hm2.below hb; replace s1 := s1.below hb; replace h7 := h7.below hb h7.lt; replace xr := xr.below hb; replace xc := xc.below hb
  clear hb
  refine (of_is (hav_trans hl (by omega) _) (clo_trans hl (by omega) _) hm2.mv xr hT).mono ?_
  rintro e u5 ⟨Ay, ny, cy, By, ky, dy, rfl, yr, yc, hb⟩
  replace hT := hT.below hb; replace b2 := b2.trans (hb.mono b2.size); replace hm := hm.below hb; replace hm2 := hm2.below hb; replace s1 := s1.below hb; replace h7 := h7.below hb h7.lt; replace xr := xr.below hb; replace xc := xc.below hb; replace h8 := h8.below hb h8.lt
  clear hb
  go_wp2_with fail
  refine abs1 fun w9 h9 hb hz => ?_
  clear hz
  replace hT := hT.below hb; replace b2 := b2.trans (hb.mono b2.size); replace hm := hm.below hb; replace hm2 := hm2.below hb; replace s1 := s1.below hb; replace h7 := h7.below hb h7.lt; replace xr := xr.below hb; replace xc := xc.below hb; replace h8 := h8.below hb h8.lt; replace yr := yr.below hb; replace yc := yc.below hb
  clear hb
  go_wp2_with fail
  refine wp_mix (fun V => Below w9.heap.size w9 V) 31 (by kernel_rfl) (by kernel_rfl) (Below.refl _ _).drew ?_
  have hr : Below w9.heap.size w9 w9.drew := (Below.refl _ _).drew
  obtain ⟨u6, hw⟩ : ∃ V, V = w9.drew := ⟨_, rfl⟩
  rw [← hw] at hr ⊢; clear hw
  have hb := hr
  have z7 := h7.cell 0
  have z80 := h8.cell 0
  have z81 := h8.cell 1
  have z90 := h9.cell 0
  have z91 := h9.cell 1
  replace hT := hT.below hb; replace b2 := b2.trans (hb.mono b2.size); replace hm := hm.below hb; replace hm2 := hm2.below hb; replace s1 := s1.below hb; replace h7 := h7.below hb h7.lt; replace xr := xr.below hb; replace xc := xc.below hb; replace h8 := h8.below hb h8.lt; replace yr := yr.below hb; replace yc := yc.below hb; replace h9 := h9.below hb h9.lt
  clear hb
  (refine m_q 0 (v := ?_) (by kernel_rfl) rfl rfl (fun W hW => ?_) ?_; rotate_left; (have zz7 := onB hW z7; have zz80 := onB hW z80; have zz81 := onB hW z81; have zz90 := onB hW z90; have zz91 := onB hW z91; go_simp; first | done | with_reducible rfl); simp only [Act.put, List.setIfInBounds_toArray, List.set_cons_zero, List.set_cons_succ]); (refine m_q 1 (v := ?_) (by kernel_rfl) rfl rfl (fun W hW => ?_) ?_; rotate_left; (have zz7 := onB hW z7; have zz80 := onB hW z80; have zz81 := onB hW z81; have zz90 := onB hW z90; have zz91 := onB hW z91; go_simp; first | done | with_reducible rfl); simp only [Act.put, List.setIfInBounds_toArray, List.set_cons_zero, List.set_cons_succ]); (refine m_q 3 (v := ?_) (by kernel_rfl) rfl rfl (fun W hW => ?_) ?_; rotate_left; (have zz7 := onB hW z7; have zz80 := onB hW z80; have zz81 := onB hW z81; have zz90 := onB hW z90; have zz91 := onB hW z91; go_simp; first | done | with_reducible rfl); simp only [Act.put, List.setIfInBounds_toArray, List.set_cons_zero, List.set_cons_succ]); (refine m_q 4 (v := ?_) (by kernel_rfl) rfl rfl (fun W hW => ?_) ?_; rotate_left; (have zz7 := onB hW z7; have zz80 := onB hW z80; have zz81 := onB hW z81; have zz90 := onB hW z90; have zz91 := onB hW z91; go_simp; first | done | with_reducible rfl); simp only [Act.put, List.setIfInBounds_toArray, List.set_cons_zero, List.set_cons_succ])
  refine m_s1 2 (by kernel_rfl) rfl ?_
  go_wp2_with fail
  refine (res3 (com_trans hl _) (common_any _ _ _ _ a _ hm2.mv s1 hT)).mono ?_
  rintro e u7 ⟨At2, nt2, ct2, rfl, t2, hb⟩
  replace hT := hT.below hb; replace b2 := b2.trans (hb.mono b2.size); replace hm := hm.below hb; replace hm2 := hm2.below hb; replace s1 := s1.below hb; replace h7 := h7.below hb h7.lt; replace xr := xr.below hb; replace xc := xc.below hb; replace h8 := h8.below hb h8.lt; replace yr := yr.below hb; replace yc := yc.below hb; replace h9 := h9.below hb h9.lt; replace hr := hr.trans (hb.mono hr.size)
  clear hb
  go_wp2_with fail
  refine m_keep hr ?_
  refine m_s1 5 (by kernel_rfl) rfl ?_
  go_wp2_with fail
  refine (res3 (rfl) (having_any _ _ _ _ a _ hm.mv s1 hT)).mono ?_
  rintro e u8 ⟨At5, nt5, ct5, rfl, t5, hb⟩
  replace hT := hT.below hb; replace b2 := b2.trans (hb.mono b2.size); replace hm := hm.below hb; replace hm2 := hm2.below hb; replace s1 := s1.below hb; replace h7 := h7.below hb h7.lt; replace xr := xr.below hb; replace xc := xc.below hb; replace h8 := h8.below hb h8.lt; replace yr := yr.below hb; replace yc := yc.below hb; replace h9 := h9.below hb h9.lt; replace hr := hr.trans (hb.mono hr.size); replace t2 := t2.below hb
  clear hb
  go_wp2_with fail
  refine m_keep hr ?_
  refine m_s1 6 (by kernel_rfl) rfl ?_
  go_wp2_with fail
  refine (eq_same t2 t5).mono ?_
  rintro e u9 ⟨rfl, hb⟩
  replace hT := hT.below hb; replace b2 := b2.trans (hb.mono b2.size); replace hm := hm.below hb; replace hm2 := hm2.below hb; replace s1 := s1.below hb; replace h7 := h7.below hb h7.lt; replace xr := xr.below hb; replace xc := xc.below hb; replace h8 := h8.below hb h8.lt; replace yr := yr.below hb; replace yc := yc.below hb; replace h9 := h9.below hb h9.lt; replace hr := hr.trans (hb.mono hr.size); replace t2 := t2.below hb; replace t5 := t5.below hb
  clear hb
  go_wp2_with fail
  refine m_keep hr ?_
  (refine m_q 7 (v := ?_) (by kernel_rfl) rfl rfl (fun W hW => ?_) ?_; rotate_left; (go_simp; first | done | with_reducible rfl); simp only [Act.put, List.setIfInBounds_toArray, List.set_cons_zero, List.set_cons_succ])
  (refine m_yes 8 (v := ?_) (by kernel_rfl) rfl (by rfl) (fun W hW => ?_) ?_; rotate_left; (have zz7 := onB hW z7; have zz80 := onB hW z80; have zz81 := onB hW z81; have zz90 := onB hW z90; have zz91 := onB hW z91; go_simp; first | done | with_reducible rfl); simp only [Act.put, List.setIfInBounds_toArray, List.set_cons_zero, List.set_cons_succ]); (refine m_yes 9 (v := ?_) (by kernel_rfl) rfl (by rfl) (fun W hW => ?_) ?_; rotate_left; (have zz7 := onB hW z7; have zz80 := onB hW z80; have zz81 := onB hW z81; have zz90 := onB hW z90; have zz91 := onB hW z91; go_simp; first | done | with_reducible rfl); simp only [Act.put, List.setIfInBounds_toArray, List.set_cons_zero, List.set_cons_succ]); (refine m_yes 11 (v := ?_) (by kernel_rfl) rfl (by rfl) (fun W hW => ?_) ?_; rotate_left; (have zz7 := onB hW z7; have zz80 := onB hW z80; have zz81 := onB hW z81; have zz90 := onB hW z90; have zz91 := onB hW z91; go_simp; first | done | with_reducible rfl); simp only [Act.put, List.setIfInBounds_toArray, List.set_cons_zero, List.set_cons_succ]); (refine m_yes 12 (v := ?_) (by kernel_rfl) rfl (by rfl) (fun W hW => ?_) ?_; rotate_left; (have zz7 := onB hW z7; have zz80 := onB hW z80; have zz81 := onB hW z81; have zz90 := onB hW z90; have zz91 := onB hW z91; go_simp; first | done | with_reducible rfl); simp only [Act.put, List.setIfInBounds_toArray, List.set_cons_zero, List.set_cons_succ])
  refine m_s1 10 (by kernel_rfl) rfl ?_
  go_wp2_with fail
  refine (res3 (hav_trans hl (by omega) _) (having_any _ _ _ _ a _ hm2.mv s1 hT)).mono ?_
  rintro e u10 ⟨At10, nt10, ct10, rfl, t10, hb⟩
  replace hT := hT.below hb; replace b2 := b2.trans (hb.mono b2.size); replace hm := hm.below hb; replace hm2 := hm2.below hb; replace s1 := s1.below hb; replace h7 := h7.below hb h7.lt; replace xr := xr.below hb; replace xc := xc.below hb; replace h8 := h8.below hb h8.lt; replace yr := yr.below hb; replace yc := yc.below hb; replace h9 := h9.below hb h9.lt; replace hr := hr.trans (hb.mono hr.size); replace t2 := t2.below hb; replace t5 := t5.below hb
  clear hb
  go_wp2_with fail
  refine m_keep hr ?_
  refine m_s1 13 (by kernel_rfl) rfl ?_
  go_wp2_with fail
  refine (res3 (rfl) (common_any _ _ _ _ a _ hm.mv s1 hT)).mono ?_
  rintro e u11 ⟨At13, nt13, ct13, rfl, t13, hb⟩
  replace hT := hT.below hb; replace b2 := b2.trans (hb.mono b2.size); replace hm := hm.below hb; replace hm2 := hm2.below hb; replace s1 := s1.below hb; replace h7 := h7.below hb h7.lt; replace xr := xr.below hb; replace xc := xc.below hb; replace h8 := h8.below hb h8.lt; replace yr := yr.below hb; replace yc := yc.below hb; replace h9 := h9.below hb h9.lt; replace hr := hr.trans (hb.mono hr.size); replace t2 := t2.below hb; replace t5 := t5.below hb; replace t10 := t10.below hb
  clear hb
  go_wp2_with fail
  refine m_keep hr ?_
  refine m_s1 14 (by kernel_rfl) rfl ?_
  go_wp2_with fail
  refine (eq_same t10 t13).mono ?_
  rintro e u12 ⟨rfl, hb⟩
  replace hT := hT.below hb; replace b2 := b2.trans (hb.mono b2.size); replace hm := hm.below hb; replace hm2 := hm2.below hb; replace s1 := s1.below hb; replace h7 := h7.below hb h7.lt; replace xr := xr.below hb; replace xc := xc.below hb; replace h8 := h8.below hb h8.lt; replace yr := yr.below hb; replace yc := yc.below hb; replace h9 := h9.below hb h9.lt; replace hr := hr.trans (hb.mono hr.size); replace t2 := t2.below hb; replace t5 := t5.below hb; replace t10 := t10.below hb; replace t13 := t13.below hb
  clear hb
  go_wp2_with fail
  refine m_keep hr ?_
  (refine m_q 15 (v := ?_) (by kernel_rfl) rfl rfl (fun W hW => ?_) ?_; rotate_left; (go_simp; first | done | with_reducible rfl); simp only [Act.put, List.setIfInBounds_toArray, List.set_cons_zero, List.set_cons_succ]); (refine m_q 16 (v := ?_) (by kernel_rfl) rfl rfl (fun W hW => ?_) ?_; rotate_left; (go_simp; first | done | with_reducible rfl); simp only [Act.put, List.setIfInBounds_toArray, List.set_cons_zero, List.set_cons_succ])
  (refine m_yes 17 (v := ?_) (by kernel_rfl) rfl (by rfl) (fun W hW => ?_) ?_; rotate_left; (have zz7 := onB hW z7; have zz80 := onB hW z80; have zz81 := onB hW z81; have zz90 := onB hW z90; have zz91 := onB hW z91; go_simp; first | done | with_reducible rfl); simp only [Act.put, List.setIfInBounds_toArray, List.set_cons_zero, List.set_cons_succ]); (refine m_yes 18 (v := ?_) (by kernel_rfl) rfl (by rfl) (fun W hW => ?_) ?_; rotate_left; (have zz7 := onB hW z7; have zz80 := onB hW z80; have zz81 := onB hW z81; have zz90 := onB hW z90; have zz91 := onB hW z91; go_simp; first | done | with_reducible rfl); simp only [Act.put, List.setIfInBounds_toArray, List.set_cons_zero, List.set_cons_succ]); (refine m_yes 19 (v := ?_) (by kernel_rfl) rfl (by rfl) (fun W hW => ?_) ?_; rotate_left; (have zz7 := onB hW z7; have zz80 := onB hW z80; have zz81 := onB hW z81; have zz90 := onB hW z90; have zz91 := onB hW z91; go_simp; first | done | with_reducible rfl); simp only [Act.put, List.setIfInBounds_toArray, List.set_cons_zero, List.set_cons_succ]); (refine m_yes 20 (v := ?_) (by kernel_rfl) rfl (by rfl) (fun W hW => ?_) ?_; rotate_left; (have zz7 := onB hW z7; have zz80 := onB hW z80; have zz81 := onB hW z81; have zz90 := onB hW z90; have zz91 := onB hW z91; go_simp; first | done | with_reducible rfl); simp only [Act.put, List.setIfInBounds_toArray, List.set_cons_zero, List.set_cons_succ])
  refine m_s1 21 (by kernel_rfl) rfl ?_
  go_wp2_with fail
  refine (eq_same yr xc).mono ?_
  rintro e u13 ⟨rfl, hb⟩
  replace hT := hT.below hb; replace b2 := b2.trans (hb.mono b2.size); replace hm := hm.below hb; replace hm2 := hm2.below hb; replace s1 := s1.below hb; replace h7 := h7.below hb h7.lt; replace xr := xr.below hb; replace xc := xc.below hb; replace h8 := h8.below hb h8.lt; replace yr := yr.below hb; replace yc := yc.below hb; replace h9 := h9.below hb h9.lt; replace hr := hr.trans (hb.mono hr.size); replace t2 := t2.below hb; replace t5 := t5.below hb; replace t10 := t10.below hb; replace t13 := t13.below hb
  clear hb
  go_wp2_with fail
  refine m_keep hr ?_
  (refine m_q 22 (v := ?_) (by kernel_rfl) rfl rfl (fun W hW => ?_) ?_; rotate_left; (go_simp; first | done | with_reducible rfl); simp only [Act.put, List.setIfInBounds_toArray, List.set_cons_zero, List.set_cons_succ]); (refine m_q 23 (v := ?_) (by kernel_rfl) rfl rfl (fun W hW => ?_) ?_; rotate_left; (go_simp; first | done | with_reducible rfl); simp only [Act.put, List.setIfInBounds_toArray, List.set_cons_zero, List.set_cons_succ])
  (refine m_yes 24 (v := ?_) (by kernel_rfl) rfl (by rfl) (fun W hW => ?_) ?_; rotate_left; (have zz7 := onB hW z7; have zz80 := onB hW z80; have zz81 := onB hW z81; have zz90 := onB hW z90; have zz91 := onB hW z91; go_simp; first | done | with_reducible rfl); simp only [Act.put, List.setIfInBounds_toArray, List.set_cons_zero, List.set_cons_succ]); (refine m_yes 25 (v := ?_) (by kernel_rfl) rfl (by rfl) (fun W hW => ?_) ?_; rotate_left; (have zz7 := onB hW z7; have zz80 := onB hW z80; have zz81 := onB hW z81; have zz90 := onB hW z90; have zz91 := onB hW z91; go_simp; first | done | with_reducible rfl); simp only [Act.put, List.setIfInBounds_toArray, List.set_cons_zero, List.set_cons_succ]); (refine m_yes 26 (v := ?_) (by kernel_rfl) rfl (by rfl) (fun W hW => ?_) ?_; rotate_left; (have zz7 := onB hW z7; have zz80 := onB hW z80; have zz81 := onB hW z81; have zz90 := onB hW z90; have zz91 := onB hW z91; go_simp; first | done | with_reducible rfl); simp only [Act.put, List.setIfInBounds_toArray, List.set_cons_zero, List.set_cons_succ]); (refine m_yes 27 (v := ?_) (by kernel_rfl) rfl (by rfl) (fun W hW => ?_) ?_; rotate_left; (have zz7 := onB hW z7; have zz80 := onB hW z80; have zz81 := onB hW z81; have zz90 := onB hW z90; have zz91 := onB hW z91; go_simp; first | done | with_reducible rfl); simp only [Act.put, List.setIfInBounds_toArray, List.set_cons_zero, List.set_cons_succ])
  refine m_s1 28 (by kernel_rfl) rfl ?_
  go_wp2_with fail
  refine (eq_same yc xr).mono ?_
  rintro e u14 ⟨rfl, hb⟩
  replace hT := hT.below hb; replace b2 := b2.trans (hb.mono b2.size); replace hm := hm.below hb; replace hm2 := hm2.below hb; replace s1 := s1.below hb; replace h7 := h7.below hb h7.lt; replace xr := xr.below hb; replace xc := xc.below hb; replace h8 := h8.below hb h8.lt; replace yr := yr.below hb; replace yc := yc.below hb; replace h9 := h9.below hb h9.lt; replace hr := hr.trans (hb.mono hr.size); replace t2 := t2.below hb; replace t5 := t5.below hb; replace t10 := t10.below hb; replace t13 := t13.below hb
  clear hb
  go_wp2_with fail
  refine m_keep hr ?_
  (refine m_q 29 (v := ?_) (by kernel_rfl) rfl rfl (fun W hW => ?_) ?_; rotate_left; (go_simp; first | done | with_reducible rfl); simp only [Act.put, List.setIfInBounds_toArray, List.set_cons_zero, List.set_cons_succ]); (refine m_q 30 (v := ?_) (by kernel_rfl) rfl rfl (fun W hW => ?_) ?_; rotate_left; (go_simp; first | done | with_reducible rfl); simp only [Act.put, List.setIfInBounds_toArray, List.set_cons_zero, List.set_cons_succ])
  refine m_end (by kernel_rfl) ?_
  clear z7 z80 z81 z90 z91
  go_wp2_with fail
  go_ret
  exact ⟨rfl, b2⟩
set_option maxRecDepth 100000 in
set_option maxHeartbeats 8000000 in
theorem minimal45_walk (v : Value) (R C : Nat) (zs : List Int) (a : Nat) (w : World) (hT : Tab w) (h : IsRaw w v R C zs) (ha : a ≤ 255) :
    Calls Tryd.prog 7 #[v, .int .u8 a] w fun e w' => e = .returned (.bool true) ∧ Below w.heap.size w w' := by
  have hbd := h.bd
  obtain ⟨r, c, A0, d0, hv, _⟩ := id h
  subst hv
  have HIN := hideC h; clear h
  go_enter Tryd.func7, Tryd.ntmps7
  go_wp2_with fail
  refine absC1 fun W0 hX hbel0 hz => ?_
  clear hz
  refine (Mix2.awake_any45 W0 (hT.below hbel0)).mono ?_
  rintro e w1 ⟨rfl, hb1⟩
  have b1 := hbel0.trans (hb1.mono hbel0.size)
  have hX1 := hX.below hb1 hX.lt
  have x0 := hX1.cell 0
  have x1 := hX1.cell 1
  have x2 := hX1.cell 2
  have HM := hideC (make_raw _ R C zs w1 (HIN.out.below b1))
  go_wp2_with fail
  refine HM.out.mono ?_
  rintro e w2 ⟨A2, c2, rfl, hI, hb2⟩
  have b2 := b1.trans (hb2.mono b1.size)
  obtain ⟨M, hMd⟩ : ∃ M, M = rawM R C zs := ⟨_, rfl⟩
  have hML : M.length = R := by rw [hMd, mat_len]
  rw [← hMd] at hI
  subst hML
  obtain ⟨hR5, hC5⟩ := hbd
  have hl : (nsOf C M).length ≤ 4096 := by rw [nsTo_len]; omega
  clear hMd HM HIN hX hX1 hbel0 hb1 hb2 b1 x0 x1 x2
  replace hT := hT.below b2
  go_wp2_with fail
  refine absC1 fun w3 hY hb hz => ?_
  clear hz
  replace hI := hI.below hb; replace hT := hT.below hb; replace b2 := b2.trans (hb.mono b2.size)
  clear hb
  refine (matrixl_any C A2 c2 M w3 hI (by omega) (by omega)).mono ?_
  rintro e u1 ⟨q, rfl, hm, _, hb⟩
  replace hI := hI.below hb; replace hT := hT.below hb; replace b2 := b2.trans (hb.mono b2.size); replace hY := hY.below hb hY.lt
  clear hb
  go_wp2_with fail
  refine (res3 (rfl) (set_any45 a (by omega) _)).mono ?_
  rintro e u2 ⟨As1, ns1, cs1, rfl, s1, hb⟩
  replace hI := hI.below hb; replace hT := hT.below hb; replace b2 := b2.trans (hb.mono b2.size); replace hY := hY.below hb hY.lt; replace hm := hm.below hb
  clear hb
  have hcard : card (cloN C (nsOf C M) a) ≤ 12 := Nat.le_trans (card_bits fun j hj => comN_lt hj) (by omega : C ≤ 12)
  go_wp2_with fail
  refine (minimal_any q C (nsOf C M) _ a _ hm s1 hT hcard).mono ?_
  rintro e u3 ⟨A, n, c, vs, Ls, rfl, hn, hperm, hpw, hrow, hsets, hb⟩
  replace hI := hI.below hb; replace hT := hT.below hb; replace b2 := b2.trans (hb.mono b2.size); replace hY := hY.below hb hY.lt; replace hm := hm.below hb; replace s1 := s1.below hb
  clear hb
  have y0 := hY.cell 0; have y1 := hY.cell 1
  go_wp2_with fail
  refine (minr_any C A2 c2 M a _ hI (by omega) (by omega) (by omega)).mono ?_
  rintro e u4 ⟨A', c', Ls', rfl, hrow', hpw', hmem, hb⟩
  replace hI := hI.below hb; replace hT := hT.below hb; replace b2 := b2.trans (hb.mono b2.size); replace hY := hY.below hb hY.lt; replace hm := hm.below hb; replace s1 := s1.below hb; replace hrow := hrow.below hb; replace hsets := hsets.below hb
  clear hb
  have hml : Ls.length ≤ 4096 := by rw [hperm.length_eq]; exact minL_le hcard
  have hsort := sorted_of hperm (minL_nodup _ _ _) hpw
  have he : Ls' = Ls := sorted_ext _ _ hpw' hsort fun x => by rw [hmem, hperm.mem_iff]
  subst he
  have h64 : ∀ x ∈ Ls', x < 2 ^ 64 := fun x hx => sub_64 (and_sub.2 (mem_minL.1 ((hmem x).1 hx)).1) (comN_64 (by omega) _)
  have H64 := Lib.hid h64
  obtain ⟨Ls, hLs⟩ : ∃ l, l = Ls' := ⟨_, rfl⟩
  rw [← hLs] at hn hrow' hsets H64 hml ⊢
  subst hn
  obtain ⟨n, hn⟩ : ∃ n, n = Ls.length := ⟨_, rfl⟩
  rw [← hn] at hml ⊢
  have HN := Lib.hid hn
  clear hn hsort hpw hpw' hmem hperm h64 y0 y1 hcard hLs
  go_wp2_with fail
  refine wp_loopF (β := Nat) (fun i f => #[f 0, f 1, f 2, f 3, f 4, f 5, f 6, .slice A n c, f 8, .slice A' n c', f 10, f 11, f 12, f 13, f 14, f 15, f 16, f 17, f 18, f 19, f 20, f 21, f 22, f 23, f 24, f 25, f 26, f 27, f 28, f 29, f 30, f 31, f 32, f 33, f 34, f 35, f 36, f 37, f 38, f 39, f 40, .slice A' n c', .int .i64 (n : Int), .int .i64 (i : Int), f 44, f 45, f 46, f 47, f 48, f 49, f 50, f 51, f 52, f 53, f 54, f 55, f 56])
    (fun i ds V => i ≤ n ∧ ds = [] ∧ Below u4.heap.size u4 V) (fun i => n - i) 0 rfl ⟨Nat.zero_le _, rfl, Below.refl _ _⟩ ?_
  rintro i f ds v9 ⟨hi, rfl, hv⟩
  dsimp only at hi ⊢
  have hb := hv
  replace hI := hI.below hb; replace hT := hT.below hb; replace b2 := b2.trans (hb.mono b2.size); replace hY := hY.below hb hY.lt; replace hm := hm.below hb; replace s1 := s1.below hb; replace hrow := hrow.below hb; replace hsets := hsets.below hb; replace hrow' := hrow'.below hb
  clear hb
  by_cases hlt : i < n
  · have hil : i < Ls.length := by rw [← HN.out]; exact hlt
    obtain ⟨x, hx⟩ : ∃ x, Ls[i]? = some x := ⟨_, List.getElem?_eq_getElem hil⟩
    have hvl : i < vs.length := by rw [hsets.1]; exact hil
    obtain ⟨v, hvx⟩ : ∃ v, vs[i]? = some v := ⟨_, List.getElem?_eq_getElem hvl⟩
    have sx := hsets.2 i v x hvx hx
    have x64 := H64.out x (List.mem_of_getElem? hx)
    obtain ⟨Av, cv, rfl, _⟩ := id sx
    obtain ⟨g1, o1, rfl, hg1, hc1⟩ := hrow (by omega)
    obtain ⟨g2, o2, rfl, hg2, hc2⟩ := hrow' (by rw [List.length_map]; omega)
    have d1 := hc1 i _ hvx
    have d2 := hc2 i (.int .u64 (x : Int)) (by rw [List.getElem?_map, hx]; rfl)
    clear hx hvx hil hvl hc1 hc2
    go_wp2_with fail
    refine wp_mix (fun V => Below v9.heap.size v9 V) 8 (by kernel_rfl) (by kernel_rfl) (Below.refl _ _).drew ?_
    have hr : Below v9.heap.size v9 v9.drew := (Below.refl _ _).drew
    obtain ⟨u5, hw⟩ : ∃ V, V = v9.drew := ⟨_, rfl⟩
    rw [← hw] at hr ⊢; clear hw
    have hb := hr
    replace hI := hI.below hb; replace hT := hT.below hb; replace b2 := b2.trans (hb.mono b2.size); replace hY := hY.below hb hY.lt; replace hm := hm.below hb; replace hrow := hrow.below hb; replace hsets := hsets.below hb; replace hrow' := hrow'.below hb; replace hv := hv.trans (hb.mono hv.size); replace sx := sx.below hb
    clear hb
    (refine m_q 0 (v := ?_) (by kernel_rfl) rfl rfl (fun W hW => ?_) ?_; rotate_left; (go_simp; first | done | with_reducible rfl); simp only [Act.put, List.setIfInBounds_toArray, List.set_cons_zero, List.set_cons_succ]); (refine m_q 1 (v := ?_) (by kernel_rfl) rfl rfl (fun W hW => ?_) ?_; rotate_left; (go_simp; first | done | with_reducible rfl); simp only [Act.put, List.setIfInBounds_toArray, List.set_cons_zero, List.set_cons_succ]); (refine m_q 2 (v := ?_) (by kernel_rfl) rfl rfl (fun W hW => ?_) ?_; rotate_left; (go_simp; first | done | with_reducible rfl); simp only [Act.put, List.setIfInBounds_toArray, List.set_cons_zero, List.set_cons_succ])
    (refine m_q 3 (v := ?_) (by kernel_rfl) rfl rfl (fun W hW => ?_) ?_; rotate_left; (have zd1 := onB hW d1; have zd2 := onB hW d2; go_simp; first | done | with_reducible rfl); simp only [Act.put, List.setIfInBounds_toArray, List.set_cons_zero, List.set_cons_succ]); (refine m_q 4 (v := ?_) (by kernel_rfl) rfl rfl (fun W hW => ?_) ?_; rotate_left; (have zd1 := onB hW d1; have zd2 := onB hW d2; go_simp; first | done | with_reducible rfl); simp only [Act.put, List.setIfInBounds_toArray, List.set_cons_zero, List.set_cons_succ])
    refine m_s1 5 (by kernel_rfl) rfl ?_
    go_wp2_with fail
    refine (res3 (rfl) (set_any45 x x64 _)).mono ?_
    rintro e u6 ⟨At5, nt5, ct5, rfl, t5, hb⟩
    replace hI := hI.below hb; replace hT := hT.below hb; replace b2 := b2.trans (hb.mono b2.size); replace hY := hY.below hb hY.lt; replace hm := hm.below hb; replace hrow := hrow.below hb; replace hsets := hsets.below hb; replace hrow' := hrow'.below hb; replace hv := hv.trans (hb.mono hv.size); replace sx := sx.below hb; replace hr := hr.trans (hb.mono hr.size)
    clear hb
    go_wp2_with fail
    refine m_keep hr ?_
    refine m_s1 6 (by kernel_rfl) rfl ?_
    go_wp2_with fail
    refine (eq_same sx t5).mono ?_
    rintro e u7 ⟨rfl, hb⟩
    replace hI := hI.below hb; replace hT := hT.below hb; replace b2 := b2.trans (hb.mono b2.size); replace hY := hY.below hb hY.lt; replace hm := hm.below hb; replace hrow := hrow.below hb; replace hsets := hsets.below hb; replace hrow' := hrow'.below hb; replace hv := hv.trans (hb.mono hv.size); replace sx := sx.below hb; replace hr := hr.trans (hb.mono hr.size); replace t5 := t5.below hb
    clear hb
    go_wp2_with fail
    refine m_keep hr ?_
    (refine m_q 7 (v := ?_) (by kernel_rfl) rfl rfl (fun W hW => ?_) ?_; rotate_left; (go_simp; first | done | with_reducible rfl); simp only [Act.put, List.setIfInBounds_toArray, List.set_cons_zero, List.set_cons_succ])
    refine m_end (by kernel_rfl) ?_
    clear d1 d2
    go_wp2_with fail
    exact ⟨i + 1, rfl, ⟨by omega, by first | rfl | trivial, hv⟩, by omega⟩
  · obtain rfl : i = n := by omega
    go_wp2_with fail
    go_ret
    exact ⟨rfl, b2⟩
end Mix2
end Go.Proofs.YtiicgbbgiedknaaDoor
