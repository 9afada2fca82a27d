import Derived.Test.YthkjigggfeejdaaDoorMig2
import Derived.Test.YthkjigggfeejdaaDoorMapB
namespace Go.Proofs.YthkjigggfeejdaaDoor
open Go.RowKit Go.Maps

/-! The joint numbers, in plain words. -/
def pk (l : List Nat) (P Q : List (List Bool)) (r k : Nat) : Bool := decide (k ∉ l) && decide (P.getD k [] = Q.getD r [])
/-- The first row below m that is free and the same. -/
def fk (l : List Nat) (P Q : List (List Bool)) (r m : Nat) : Option Nat := (List.range m).find? (pk l P Q r)
theorem fk_succ (l : List Nat) (P Q : List (List Bool)) (r m : Nat) : fk l P Q r (m + 1) = match fk l P Q r m with | some x => some x | none => if pk l P Q r m = true then some m else none := by
  unfold fk
  rw [List.range_succ, List.find?_append]
  cases (List.range m).find? (pk l P Q r) with
  | some x => rfl
  | none => by_cases h : pk l P Q r m = true <;> simp [h]
theorem fk_some {l : List Nat} {P Q : List (List Bool)} {r m x : Nat} (h : fk l P Q r m = some x) : ∀ d, fk l P Q r (m + d) = some x
  | 0 => h
  | d + 1 => by rw [← Nat.add_assoc, fk_succ, fk_some h d]
theorem fk_lt {l : List Nat} {P Q : List (List Bool)} {r m x : Nat} (h : fk l P Q r m = some x) : x < m := List.mem_range.1 (List.mem_of_find?_eq_some h)
def nStep (P Q : List (List Bool)) (st : List Nat × Nat) (r : Nat) : List Nat × Nat := match fk st.1 P Q r P.length with
  | some k => (st.1 ++ [k], st.2)
  | none => (st.1 ++ [st.2], st.2 + 1)
def nums (P Q : List (List Bool)) : Nat → List Nat × Nat
  | 0 => ([], P.length)
  | r + 1 => nStep P Q (nums P Q r) r
theorem nums_bd (P Q : List (List Bool)) : ∀ r, (nums P Q r).1.length = r ∧ (nums P Q r).2 ≤ P.length + r
  | 0 => ⟨rfl, Nat.le_refl _⟩
  | r + 1 => by
    obtain ⟨h1, h2⟩ := nums_bd P Q r
    rw [nums, nStep]
    cases fk (nums P Q r).1 P Q r P.length <;> simp <;> omega
theorem zero_bool (W : World) : (zeroValue 4).run Tryd.prog W = .ok (.bool false) W := by kernel_rfl
theorem ownsMap_below {W W' : World} {k : TypeId} {Rr : Value → Option (DataW Unit × List MemPlace)} {b n : Nat} {Dd : DataW Unit} (h : W.ownsMap Tryd.prog k Rr b n Dd) (hb : Below W.heap.size W W') : W'.ownsMap Tryd.prog k Rr b n Dd := by
  obtain ⟨es, clock, h1, h2, h3, h4⟩ := h
  exact ⟨es, clock, (hb.block b (Array.getElem?_eq_some_iff.1 h1).1).trans h1, h2, h3, h4⟩
theorem ownsMap_but {W W' : World} {k : TypeId} {Rr : Value → Option (DataW Unit × List MemPlace)} {b n : Nat} {Dd : DataW Unit} {r : Option Nat} (h : W.ownsMap Tryd.prog k Rr b n Dd) (hb : But r W W') (hr : some b ≠ r) : W'.ownsMap Tryd.prog k Rr b n Dd := by
  obtain ⟨es, clock, h1, h2, h3, h4⟩ := h
  exact ⟨es, clock, (hb.2 b (Array.getElem?_eq_some_iff.1 h1).1 hr).trans h1, h2, h3, h4⟩
theorem key_nat (x : Nat) (hx : x ≤ 1000000) : keyOf Tryd.prog 3 (.int .i64 (x : Int)) = some (.int .i64 (x : Int)) := by
  refine keyOf_int_mk Tryd.underlying3 ?_
  have h1 : IntKind.i64.min = -9223372036854775808 := by kernel_rfl
  have h2 : IntKind.i64.max = 9223372036854775807 := by kernel_rfl
  rw [Lit.wf, Bool.and_eq_true, decide_eq_true_eq, decide_eq_true_eq, h1, h2]; omega
set_option maxRecDepth 100000 in
theorem look_nat {W : World} {b n : Nat} {l : List Nat} (K : Keyed Tryd.prog 3) (h : W.ownsMap Tryd.prog 3 (plainElem Tryd.prog 4) b n (tkD (l.map Int.ofNat))) (x : Nat) (hx : x ≤ 1000000) :
    (Instr.lookup 142 (.map (some b)) (.int .i64 x) false).run Tryd.prog W = .ok (.bool (decide (x ∈ l))) W := by
  have hwf : (Lit.int .i64 (x : Int)).wf = true := by
    rw [Lit.wf, Bool.and_eq_true, decide_eq_true_eq, decide_eq_true_eq, show IntKind.i64.min = -9223372036854775808 from by decide, show IntKind.i64.max = 9223372036854775807 from by decide]; omega
  have := look_tk h K Tryd.underlying142 Tryd.underlying4 (zero_bool W) (keyOf_int_mk Tryd.underlying3 hwf)
  rw [this]
  congr 3
  rw [eq_iff_iff, List.mem_map]
  constructor
  · rintro ⟨y, hy, e⟩
    have : y = x := Int.ofNat.inj e
    rwa [← this]
  · intro h; exact ⟨x, h, rfl⟩
theorem row_same {D : Nat} {P Q : List (List Bool)} (hD : D ≤ 4096) (hP : Wide D P) (hQ : Wide D Q) {m r : Nat} (hm : m < P.length) (hr : r < Q.length) : decide (mrow (nsOf D P) m = mrow (nsOf D Q) r) = decide (P.getD m [] = Q.getD r []) := by
  have e1 : mrow (nsOf D P) m = rb D P[m] := by unfold mrow; rw [if_pos (by omega), Int.toNat_natCast, nsOf_get hm, rowN_rb hD hm]
  have e2 : mrow (nsOf D Q) r = rb D Q[r] := by unfold mrow; rw [if_pos (by omega), Int.toNat_natCast, nsOf_get hr, rowN_rb hD hr]
  have e3 : P.getD m [] = P[m] := by rw [List.getD_eq_getElem?_getD, List.getElem?_eq_getElem hm]; rfl
  have e4 : Q.getD r [] = Q[r] := by rw [List.getD_eq_getElem?_getD, List.getElem?_eq_getElem hr]; rfl
  rw [e1, e2, e3, e4, Bool.eq_iff_iff, decide_eq_true_eq, decide_eq_true_eq]
  constructor
  · exact rb_inj hD (hP _ (List.getElem_mem hm)) (hQ _ (List.getElem_mem hr))
  · intro h; rw [h]
set_option maxRecDepth 100000 in
set_option maxHeartbeats 4000000 in
theorem numbers_any (u p u' p' D : Nat) (P Q : List (List Bool)) (w : World) (hp : PM w p D P) (hq : PM w p' D Q) :
    Calls Tryd.prog 59 #[cfgV u p, cfgV u' p'] w fun e w' => ∃ A c, e = .returned (.tuple #[.slice A Q.length c, .int .i64 (nums P Q Q.length).2]) ∧ Row w' A ((nums P Q Q.length).1.map i64) ∧ Below w.heap.size w w' := by
  obtain ⟨i0, hi0, hz0, hz1, hz2⟩ := info_parts info_int
  have hpb := hp.bd
  have hqb := hq.bd
  have hmm := @run_makeMap Tryd.prog
  have HP := hideC (fun W hW => pm_rows p D P W (hp.below (w' := W) hW))
  have HQ := hideC (fun W hW => pm_rows p' D Q W (hq.below (w' := W) hW))
  go_enter Tryd.func59, Tryd.ntmps59
  go_wp2_with fail
  obtain ⟨W0, hW0⟩ : ∃ W0, W0 = ((w.alloc (.cells #[ptr u, ptr p] 38)).alloc (.cells #[ptr u', ptr p'] 38)).alloc (.map #[] 0) := ⟨_, rfl⟩
  have hX : Blk W0 w.heap.size 38 #[ptr u, ptr p] := by rw [hW0]; exact ((Blk.new _ _ _).alloc _).alloc _
  have hY : Blk W0 (w.heap.size + 1) 38 #[ptr u', ptr p'] := by rw [hW0]; exact (Blk.new_ (by simp) _ _).alloc _
  have hM : W0.ownsMap Tryd.prog 3 (plainElem Tryd.prog 4) (w.heap.size + 1 + 1) 0 (tkD []) := by
    rw [hW0]
    have := World.ownsMap_made (H := Unit) ((w.alloc (.cells #[ptr u, ptr p] 38)).alloc (.cells #[ptr u', ptr p'] 38)) Tryd.prog 3 (plainElem Tryd.prog 4)
    have e : ((w.alloc (.cells #[ptr u, ptr p] 38)).alloc (.cells #[ptr u', ptr p'] 38)).heap.size = w.heap.size + 1 + 1 := by simp
    rw [e] at this; exact this
  have hb0 : Below w.heap.size w W0 := by rw [hW0]; exact (((Below.refl _ _).alloc (Nat.le_refl _) _).alloc (by simp) _).alloc (by simp; omega) _
  have hz0' : W0.heap.size = w.heap.size + 3 := by rw [hW0]; simp
  rw [← hW0]
  have HZ := Lib.hid hz0'
  clear hW0 hmm hz0'
  refine (HP.out W0 hb0).mono ?_
  rintro e w1 ⟨rfl, rfl⟩
  have x0 := hX.cell 0
  have x1 := hX.cell 1
  have y0 := hY.cell 0
  have y1 := hY.cell 1
  go_wp2_with fail
  refine (HQ.out W0 hb0).mono ?_
  rintro e w1 ⟨rfl, rfl⟩
  go_wp2_with fail
  go_loopw [7, 8, 19] (fun n o i wr => ∃ r : Nat, r ≤ Q.length ∧ i = .int .i64 r ∧ n = .int .i64 (nums P Q r).2 ∧ wr.ownsRow (w.heap.size + 3) 3 1 o r ((nums P Q r).1.map i64) ∧ wr.ownsMap Tryd.prog 3 (plainElem Tryd.prog 4) (w.heap.size + 1 + 1) r (tkD ((nums P Q r).1.map Int.ofNat)) ∧ Below (w.heap.size + 2) W0 wr ∧ w.heap.size + 3 ≤ wr.heap.size) (fun _ _ i _ => Q.length - (intOf i).toNat)
  case atStart => exact ⟨0, Nat.zero_le _, rfl, rfl, World.ownsRow_nil _ _ _ _, hM, Below.refl _ _, by rw [HZ.out]; exact Nat.le_refl _⟩
  case round =>
    obtain ⟨r, hr, rfl, rfl, hown, hmap, hbel, hsz⟩ := hrel
    obtain ⟨wo, rfl⟩ : ∃ wo : World, wo = wr := ⟨_, rfl⟩
    have hnb := nums_bd P Q r
    obtain ⟨L, hL⟩ : ∃ L, L = (nums P Q r).1 := ⟨_, rfl⟩
    obtain ⟨n, hn⟩ : ∃ n, n = (nums P Q r).2 := ⟨_, rfl⟩
    have hnx : nums P Q (r + 1) = nStep P Q (L, n) r := by rw [hL, hn]; rfl
    have HNX := Lib.hid hnx
    rw [← hL] at hown hmap hnb
    rw [← hn] at hnb ⊢
    have HLN := Lib.hid (show nums P Q r = (L, n) by rw [hL, hn])
    clear hL hn hnx
    obtain ⟨hLl, hnn⟩ := hnb
    have hX' := hX.below hbel (by omega)
    have hY' := hY.below hbel (by omega)
    have hbw := hb0.trans (hbel.mono (by omega))
    have x1 := hX'.cell 1
    have y1 := hY'.cell 1
    by_cases hlt : r < Q.length
    · have HLl := Lib.hid hLl; clear hLl
      go_wp2_with fail
      go_loopw [10, 11] (fun a k wq => ∃ m : Nat, m ≤ P.length ∧ k = .int .i64 m ∧ ((Hid (fk L P Q r m = none) ∧ a = .int .i64 (-1)) ∨ ∃ x : Nat, x < P.length ∧ Hid (fk L P Q r m = some x) ∧ a = .int .i64 x) ∧ Below wo.heap.size wo wq) (fun _ k _ => P.length - (intOf k).toNat)
      case atStart => exact ⟨0, Nat.zero_le _, rfl, .inl ⟨Lib.hid rfl, rfl⟩, Below.refl _ _⟩
      case round =>
        obtain ⟨m, hm, rfl, hst, hbq⟩ := hrel
        have hbq0 := hbel.trans (hbq.mono (by omega))
        have hbqw := hb0.trans (hbq0.mono (by omega))
        have x1 := onB hbq x1
        have y1 := onB hbq y1
        rcases hst with ⟨HF, rfl⟩ | ⟨x, hx, HF, rfl⟩
        · by_cases hmP : m < P.length
          · have HPP := hideC (HP.out wr hbqw)
            go_wp2_with fail; (with_reducible refine (HPP.out).mono ?_); rintro e w1 ⟨rfl, rfl⟩
            have HLOOK := hideC (fun V (hV : Below wr.heap.size wr V) => look_nat (int_keyed Tryd.underlying3) (ownsMap_below (ownsMap_below hmap hbq) hV) m (by omega))
            have hfs := fk_succ L P Q r m
            rw [HF.out] at hfs
            have HFS := Lib.hid hfs
            clear hfs
            go_wp2_with fail
            by_cases htk : m ∈ L
            · have hpk : pk L P Q r m = false := by unfold pk; rw [decide_eq_false (fun h => h htk), Bool.false_and]
              have hfs := HFS.out
              rw [hpk, if_neg (by decide)] at hfs
              have HFS2 := Lib.hid hfs
              have htd : decide (m ∈ L) = true := decide_eq_true htk
              clear htk hpk hfs
              refine wp_spine (fun W => Below wr.heap.size wr W) [0, 1, 2, 3, 4, 5, 6, 7, 9, 10, 11] [8, 12, 13, 14] (by kernel_rfl) (by kernel_rfl) ?_
              iterate 5 (refine wpE_op (v := ?_) rfl rfl (fun W hW => ?_) ?_; rotate_left; (have z := HLOOK.out W hW; rw [htd] at z; go_simp; first | done | with_reducible rfl); simp only [Act.put, List.setIfInBounds_toArray, List.set_cons_zero, List.set_cons_succ])
              iterate 6 (refine wpE_no rfl (by rfl) ?_; simp only [Act.put, List.setIfInBounds_toArray, List.set_cons_zero, List.set_cons_succ])
              refine wpE_nil ⟨fun h => (by cases h), wpSp_op rfl (Below.refl _ _).drew ?_⟩
              go_wp2_with fail
              refine nxt_op rfl (Below.refl _ _).drew ?_
              go_wp2_with fail
              refine nxt_op rfl (Below.refl _ _).drew ?_
              go_wp2_with fail
              refine nxt_op rfl (Below.refl _ _).drew ?_
              go_wp2_with fail
              refine nxt_nil ?_
              go_wp2_with fail
              exact ⟨⟨m + 1, by omega, by go_num, .inl ⟨HFS2, rfl⟩, hbq.drew⟩, by simp [intOf]; omega⟩
            · have htd : decide (m ∈ L) = false := decide_eq_false htk
              have hsame := row_same hpb.1 hp.2 hq.2 hmP hlt
              have hpk : pk L P Q r m = decide (mrow (nsOf D P) m = mrow (nsOf D Q) r) := by unfold pk; rw [decide_eq_true htk, Bool.true_and, hsame]
              obtain ⟨N1, hN1⟩ : ∃ N, N = mrow (nsOf D P) m := ⟨_, rfl⟩
              obtain ⟨N2, hN2⟩ : ∃ N, N = mrow (nsOf D Q) r := ⟨_, rfl⟩
              have HR1 := hideC (fun W hW => row_any p D (nsOf D P) m W (hp.1.below (w' := W) hW))
              have HR2 := hideC (fun W hW => row_any p' D (nsOf D Q) r W (hq.1.below (w' := W) hW))
              rw [← hN1] at HR1 hpk
              rw [← hN2] at HR2 hpk
              have HPK := Lib.hid hpk
              clear htk hsame hpk hN1 hN2
              refine wp_spine (fun W => Below wr.heap.size wr W) [0, 1, 2, 3, 4, 5, 6, 7, 9, 10, 11] [8, 12, 13, 14] (by kernel_rfl) (by kernel_rfl) ?_
              iterate 5 (refine wpE_op (v := ?_) rfl rfl (fun W hW => ?_) ?_; rotate_left; (have z := HLOOK.out W hW; rw [htd] at z; go_simp; first | done | with_reducible rfl); simp only [Act.put, List.setIfInBounds_toArray, List.set_cons_zero, List.set_cons_succ])
              iterate 3 (refine wpE_yes (v := ?_) rfl (by rfl) (fun W hW => ?_) ?_; rotate_left; (have z0 := onB hW x1; go_simp; first | done | with_reducible rfl); simp only [Act.put, List.setIfInBounds_toArray, List.set_cons_zero, List.set_cons_succ])
              iterate 3 (refine wpE_yes (v := ?_) rfl (by rfl) (fun W hW => ?_) ?_; rotate_left; (have z1 := onB hW y1; go_simp; first | done | with_reducible rfl); simp only [Act.put, List.setIfInBounds_toArray, List.set_cons_zero, List.set_cons_succ])
              refine wpE_nil ⟨fun h => (by cases h), wpSp_op rfl (Below.refl _ _).drew ?_⟩
              have k0 : Below wr.heap.size wr wr.drew := (Below.refl _ _).drew
              go_wp2_with fail
              (with_reducible refine (HR1.out _ (hbqw.trans (k0.mono hbqw.size))).mono ?_); rintro e w2 ⟨r1, rfl, hs1, hb2⟩
              obtain ⟨A1, c1, rfl, _⟩ := id hs1
              have k2 := k0.trans (hb2.mono k0.size)
              go_wp2_with fail
              refine nxt_op rfl k2 ?_
              go_wp2_with fail
              (with_reducible refine (HR2.out _ (hbqw.trans (k2.mono hbqw.size))).mono ?_); rintro e w3 ⟨r2, rfl, hs2, hb3⟩
              obtain ⟨A2, c2, rfl, _⟩ := id hs2
              have k3 := k2.trans (hb3.mono k2.size)
              go_wp2_with fail
              refine nxt_op rfl k3 ?_
              go_wp2_with fail
              (with_reducible refine (equal_any _ _ N1 N2 w3 (hs1.below hb3) hs2).mono ?_); rintro e w4 ⟨rfl, hb4⟩
              have k4 := k3.trans (hb4.mono k3.size)
              by_cases hNN : N1 = N2
              · have hfs := HFS.out
                rw [HPK.out, decide_eq_true hNN, if_pos rfl] at hfs
                have HFS2 := Lib.hid hfs
                have hnn2 : decide (N1 = N2) = true := decide_eq_true hNN
                clear hfs hNN
                go_wp2_with fail
                refine nxt_op rfl k4 ?_
                go_wp2_with fail
                refine nxt_nil ?_
                go_wp2_with fail
                exact ⟨⟨m + 1, by omega, by go_num, .inr ⟨m, hmP, HFS2, rfl⟩, hbq.trans (k4.mono hbq.size)⟩, by simp [intOf]; omega⟩
              · have hfs := HFS.out
                rw [HPK.out, decide_eq_false hNN, if_neg (by decide)] at hfs
                have HFS2 := Lib.hid hfs
                have hnn2 : decide (N1 = N2) = false := decide_eq_false hNN
                clear hfs hNN
                go_wp2_with fail
                refine nxt_op rfl k4 ?_
                go_wp2_with fail
                refine nxt_nil ?_
                go_wp2_with fail
                exact ⟨⟨m + 1, by omega, by go_num, .inl ⟨HFS2, rfl⟩, hbq.trans (k4.mono hbq.size)⟩, by simp [intOf]; omega⟩
          · obtain rfl : m = P.length := by omega
            have HPP := hideC (HP.out wr hbqw)
            go_wp2_with fail; (with_reducible refine (HPP.out).mono ?_); rintro e w1 ⟨rfl, rfl⟩
            have HK := Lib.hid (key_nat n (by omega))
            have hmq := ownsMap_below hmap hbq
            have howq := own_below hown hbq
            have hszq := hbq.size
            go_wp2_with (first | (at_mapUpdate; refine wpList_mapUpdate_own _ rfl _ _ _ 142 rfl 3 4 (int_keyed Tryd.underlying3) Tryd.underlying142 _ (w.heap.size + 1 + 1) r _ rfl hmq (by unfold maxLen; omega) _ _ _ rfl rfl HK.out _ [] (plainElem_bool Tryd.underlying4 true) ?_; intro w5 hmap5 hgrow5; have hbut5 : But (some (w.heap.size + 1 + 1)) wr w5 := But.grown hgrow5; have how5 := own_but howq hbut5 (fun g hg e => by have := (howq.lt g hg).1; cases e; omega); have hbel5 := hbq0.grown hgrow5 (by omega) (fun q hq => by cases hq; omega); have hsz5 := hgrow5.size; have how6 := how5.alloc (.cells #[.int .i64 (n : Int)] 3)) | (at_builtin; refine wpList_append_own _ rfl _ _ 62 rfl (w.heap.size + 3) 3 i0 (.int .i64 0) 1 8 Tryd.underlying62 hi0 hz0 hz1 hz2 rfl (by decide) _ _ _ rfl (how6) ⟨w5.heap.size, 0, none⟩ 1 1 [.int .i64 (n : Int)] rfl rfl (cell_one_new _ _ _) (by simp [Value.oneCell']) (by unfold maxLen; omega) (by omega) (by simp; omega) ?_; intro v' w3 hown' hgrow _))
            have hmap6 := ownsMap_below hmap5 ((Below.refl w5.heap.size w5).alloc (Nat.le_refl _) (.cells #[.int .i64 (n : Int)] 3))
            have hmap7 := ownsMap_but hmap6 (But.grown hgrow) (fun e => by have := (how6.lt _ e.symm).1; omega)
            have hbel7 := (hbel5.alloc (by omega) (.cells #[.int .i64 (n : Int)] 3)).grown hgrow (by simp; omega) (fun q hq => by have := (how6.lt q hq).1; omega)
            have hst : nums P Q (r + 1) = (L ++ [n], n + 1) := by rw [HNX.out, nStep]; simp only [HF.out]
            have hmapE : tkD ((L ++ [n]).map Int.ofNat) = (tkD (L.map Int.ofNat)).put (.int .i64 (n : Int)) (.lit (.bool true)) := by rw [List.map_append]; exact tkD_snoc _ _
            rw [← hmapE] at hmap7
            have HST := Lib.hid hst
            clear hst hmapE
            go_wp2_with fail
            refine ⟨⟨r + 1, by omega, by go_num, ?_, ?_, ?_, hbel7, by have := hgrow.size; simp at this; omega⟩, by simp [intOf]; omega⟩
            · rw [HST.out]; go_num
            · rw [HST.out, List.map_append]; exact hown'
            · rw [HST.out]; exact hmap7
        · have hfx := fk_some HF.out (P.length - m)
          rw [show m + (P.length - m) = P.length by omega] at hfx
          have HFX := Lib.hid hfx
          clear hfx
          by_cases hmP : m < P.length
          all_goals
            have HPP := hideC (HP.out wr hbqw)
            go_wp2_with fail; (with_reducible refine (HPP.out).mono ?_); rintro e w1 ⟨rfl, rfl⟩
            have HK := Lib.hid (key_nat x (by omega))
            have hmq := ownsMap_below hmap hbq
            have howq := own_below hown hbq
            have hszq := hbq.size
            go_wp2_with (first | (at_mapUpdate; refine wpList_mapUpdate_own _ rfl _ _ _ 142 rfl 3 4 (int_keyed Tryd.underlying3) Tryd.underlying142 _ (w.heap.size + 1 + 1) r _ rfl hmq (by unfold maxLen; omega) _ _ _ rfl rfl HK.out _ [] (plainElem_bool Tryd.underlying4 true) ?_; intro w5 hmap5 hgrow5; have hbut5 : But (some (w.heap.size + 1 + 1)) wr w5 := But.grown hgrow5; have how5 := own_but howq hbut5 (fun g hg e => by have := (howq.lt g hg).1; cases e; omega); have hbel5 := hbq0.grown hgrow5 (by omega) (fun q hq => by cases hq; omega); have hsz5 := hgrow5.size; have how6 := how5.alloc (.cells #[.int .i64 (x : Int)] 3)) | (at_builtin; refine wpList_append_own _ rfl _ _ 62 rfl (w.heap.size + 3) 3 i0 (.int .i64 0) 1 8 Tryd.underlying62 hi0 hz0 hz1 hz2 rfl (by decide) _ _ _ rfl (how6) ⟨w5.heap.size, 0, none⟩ 1 1 [.int .i64 (x : Int)] rfl rfl (cell_one_new _ _ _) (by simp [Value.oneCell']) (by unfold maxLen; omega) (by omega) (by simp; omega) ?_; intro v' w3 hown' hgrow _))
            have hmap6 := ownsMap_below hmap5 ((Below.refl w5.heap.size w5).alloc (Nat.le_refl _) (.cells #[.int .i64 (x : Int)] 3))
            have hmap7 := ownsMap_but hmap6 (But.grown hgrow) (fun e => by have := (how6.lt _ e.symm).1; omega)
            have hbel7 := (hbel5.alloc (by omega) (.cells #[.int .i64 (x : Int)] 3)).grown hgrow (by simp; omega) (fun q hq => by have := (how6.lt q hq).1; omega)
            have hst : nums P Q (r + 1) = (L ++ [x], n) := by rw [HNX.out, nStep]; simp only [HFX.out]
            have hmapE : tkD ((L ++ [x]).map Int.ofNat) = (tkD (L.map Int.ofNat)).put (.int .i64 (x : Int)) (.lit (.bool true)) := by rw [List.map_append]; exact tkD_snoc _ _
            rw [← hmapE] at hmap7
            have HST := Lib.hid hst
            clear hst hmapE
            go_wp2_with fail
            refine ⟨⟨r + 1, by omega, by go_num, ?_, ?_, ?_, hbel7, by have := hgrow.size; simp at this; omega⟩, by simp [intOf]; omega⟩
            · rw [HST.out]
            · rw [HST.out, List.map_append]; exact hown'
            · rw [HST.out]; exact hmap7
    · obtain rfl : r = Q.length := by omega
      obtain ⟨A, c, rfl, h1, _, h2, _⟩ := row_of_own hown
      go_wp2_with fail
      go_ret2
      refine ⟨A, c, ?_, ?_, hbw⟩
      · rw [HLN.out]; rfl
      · rw [HLN.out]; exact h2
end Go.Proofs.YthkjigggfeejdaaDoor
