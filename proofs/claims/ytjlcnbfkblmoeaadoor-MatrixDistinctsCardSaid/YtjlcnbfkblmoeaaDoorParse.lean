import Derived.Test.YtjlcnbfkblmoeaaDoorSplit
namespace Go.Proofs.YtjlcnbfkblmoeaaDoor
open Go.RowKit

theorem Bld.but2 {W W' : World} {base q C : Nat} {Ns : List Nat} {rv : Value} {vs : List Value} {r : Option Nat} (h : Bld base q C Ns W rv vs) (hb : But r W W') (hq : some q ≠ r) (hr : ∀ g, rv.ownBlock = some g → some g ≠ r) (hk : KeepW W W') : Bld base q C Ns W' rv vs := by
  refine ⟨hb.blk h.1 hq, ?_, h.2.2.keep hk⟩
  obtain ⟨hl, h2⟩ := h.2.1
  refine ⟨hl, ?_⟩
  rcases h2 with h2 | ⟨g, cap, cur, hv, hg, hh, r2⟩
  · exact .inl h2
  · exact .inr ⟨g, cap, cur, hv, hg, (hb.2 g (Array.getElem?_eq_some_iff.1 hh).1 (hr g (by rw [hv]; rfl))).trans hh, r2⟩
theorem Bld.setC {W : World} {base q C : Nat} {Ns : List Nat} {rv : Value} {vs : List Value} (h : Bld base q C Ns W rv vs) (C' : Nat) : Bld base q C' Ns (W.setCell ⟨q, 0, none⟩ (.int .i64 (C' : Int))) rv vs :=
  ⟨h.1.set_ 0 _, ownsRow_setCell_other h.2.1 (a := ⟨q, 0, none⟩) (fun e => h.ne e.symm) _, h.2.2.keep (KeepW.setCell (p := ⟨q, 0, none⟩) h.1 (by decide) _)⟩
/-- The columns of the ones of a line. -/
def onesOf (l : List UInt8) (k : Nat) : List Nat := (List.range k).filter fun j => l.getD j 0 == 49
theorem onesOf_yes {l : List UInt8} {k : Nat} (h : (l.getD k 0 == 49) = true) : onesOf l (k + 1) = onesOf l k ++ [k] := by unfold onesOf; rw [List.range_succ, List.filter_append]; simp only [List.filter_cons, List.filter_nil, h, if_true]
theorem onesOf_no {l : List UInt8} {k : Nat} (h : (l.getD k 0 == 49) = false) : onesOf l (k + 1) = onesOf l k := by unfold onesOf; rw [List.range_succ, List.filter_append]; simp only [List.filter_cons, List.filter_nil, h]; simp
theorem onesOf_len (l : List UInt8) (k : Nat) : (onesOf l k).length ≤ k := by unfold onesOf; exact Nat.le_trans (List.length_filter_le _ _) (by simp)
/-- A line as a set. -/
def lineSet (l : List UInt8) : Nat := setOf ((onesOf l l.length).map Int.ofNat)
/-- The columns when k lines are read. -/
def pcols (ls : List (List UInt8)) (k : Nat) : Nat := if k = 0 then 0 else (ls.headD []).length
/-- The columns, the rows of a text. -/
def pC (l : List UInt8) : Nat := pcols (lines l) (l.count 10)
def pNs (l : List UInt8) : List Nat := ((lines l).take (l.count 10)).map lineSet
/-- The text is one of a matrix. -/
def pOK (l : List UInt8) : Prop := pC l ≤ 256 ∧ l.count 10 ≤ 256 ∧ mtext (pC l) (pNs l) (pNs l).length = l
instance (l : List UInt8) : Decidable (pOK l) := by unfold pOK; exact inferInstance
theorem pNs_len (l : List UInt8) : (pNs l).length = l.count 10 := by unfold pNs; rw [List.length_map, List.length_take, lines_len]; omega
/-- What Parse leaves. -/
def ParsePost (w : World) (l : List UInt8) (e : Ending) (w' : World) : Prop :=
  Below w.heap.size w w' ∧ ((e = pair (.pointer none) 6 ∧ ¬ pOK l) ∨ ∃ q, e = pair (ptr q) 0 ∧ pOK l ∧ IsMat w' q (pC l) (pNs l))
theorem byte_at (L : ByteArray) (n : Nat) (h : n < L.size) : L.data.toList.getD n 0 = L[n] := by
  rw [List.getD_eq_getElem?_getD, Array.getElem?_toList, Array.getElem?_eq_getElem h]; rfl
theorem byte_is (b : UInt8) : ((b.toNat : Int) == 49) = (b == 49) := by
  rw [Bool.eq_iff_iff, beq_iff_eq, beq_iff_eq, ← UInt8.toNat_inj]
  show (b.toNat : Int) = 49 ↔ b.toNat = 49
  omega

set_option maxHeartbeats 2000000 in
set_option maxRecDepth 100000 in
theorem parse_any (s : ByteArray) (w : World) (hs : s.size ≤ 4096) :
    Calls Tryd.prog 26 #[.string s] w fun e w' => ParsePost w s.data.toList e w' := by
  obtain ⟨i0, hi0, hz0, hz1, hz2⟩ := info_parts info_int
  have HS := hideC (split_any s w (by omega))
  go_enter Tryd.func26, Tryd.ntmps26
  go_wp2_with fail
  refine HS.out.mono ?_
  rintro e w1 ⟨ps, hps, rfl, hw1⟩
  obtain ⟨m, hm⟩ : ∃ m, ps.length = m + 1 := ⟨ps.length - 1, by
    have := congrArg List.length hps
    rw [List.length_map, lines_len] at this; omega⟩
  rw [hm]
  have hP1 : Blk w1 w.heap.size 9 (ps.map Value.string).toArray := by rw [hw1]; exact Blk.new _ _ _
  have hbel1 : Below w.heap.size w w1 := by rw [hw1]; exact (Below.refl _ _).alloc (Nat.le_refl _) _
  have hz1' : w1.heap.size = w.heap.size + 1 := by rw [hw1]; simp
  clear hw1
  have HZ := Lib.hid hz1'; clear hz1'
  have hmle : m ≤ 4096 := by
    have := congrArg List.length hps
    rw [List.length_map, lines_len, hm] at this
    have h2 := List.count_le_length (a := (10 : UInt8)) (l := s.data.toList)
    have h3 : s.data.toList.length = s.size := by rw [Array.length_toList]; rfl
    omega
  go_wp2_with fail
  have hq0 := Blk.new w1 86 #[.int .i64 0, .slice none 0 0]
  have hbq := (Below.refl w1.heap.size w1).alloc (Nat.le_refl _) (.cells #[.int .i64 0, .slice none 0 0] 86)
  go_loopw [21] (fun i wr => ∃ k : Nat, k ≤ m ∧ i = .int .i64 k ∧ (∃ rv us, Bld w1.heap.size w1.heap.size (pcols (lines s.data.toList) k) (((lines s.data.toList).take k).map lineSet) wr rv us) ∧ Below w1.heap.size w1 wr) (fun i _ => m - (intOf i).toNat)
  case atStart => exact ⟨0, Nat.zero_le _, rfl, ⟨_, _, Bld.start _ _ _ _ hq0⟩, hbq⟩
  case round =>
    obtain ⟨k, hk, rfl, ⟨rv, us, hbld⟩, hbel⟩ := hrel
    by_cases hlt : k < m
    · obtain ⟨L, hL⟩ : ∃ L, ps[k]? = some L := ⟨ps[k]'(by omega), List.getElem?_eq_getElem _⟩
      have hLl : (lines s.data.toList)[k]? = some L.data.toList := by rw [← hps, List.getElem?_map, hL]; rfl
      have hLs : L.size ≤ 4096 := by
        have h2 := lines_part _ _ (List.mem_of_getElem? hLl)
        have h3 : s.data.toList.length = s.size := by rw [Array.length_toList]; rfl
        have h4 : L.data.toList.length = L.size := by rw [Array.length_toList]; rfl
        omega
      have hP := hP1.below hbel hP1.lt
      have cP : wr.cell? ⟨w.heap.size, k, none⟩ = some (.string L) := by rw [hP.cell k, List.getElem?_toArray, List.getElem?_map, hL]; rfl
      have q0 := hbld.1.cell 0
      have f0 := hbld.1.frozen 0
      have lP := hP.lt
      have lQ := hbld.1.lt
      have HP1 := Lib.hid hP1; clear hP1 hP
      obtain ⟨D, hD⟩ : ∃ D, D = pcols (lines s.data.toList) (k + 1) := ⟨_, rfl⟩
      have HD := Lib.hid hD; clear hD
      rcases Nat.eq_zero_or_pos k with hk0 | hk0
      · have e0 : ((k : Int) == 0) = true := by simp [hk0]
        have hbld2 := hbld.setC L.size
        have eD : L.size = D := by
          have h4 : L.data.toList.length = L.size := by rw [Array.length_toList]; rfl
          rw [HD.out, pcols, if_neg (by omega), ← h4]
          subst hk0
          cases hl : lines s.data.toList with
          | nil => rw [hl] at hLl; cases hLl
          | cons x y => rw [hl] at hLl; simp at hLl; simp [hLl]
        have HED := Lib.hid eD; clear eD
        have HK0 := Lib.hid hk0; clear hk0
        go_wp2_with fail
        obtain ⟨W2, hW2⟩ : ∃ W2, W2 = wr.setCell ⟨w1.heap.size, 0, none⟩ (.int .i64 (L.size : Int)) := ⟨_, rfl⟩
        have hbel2 : Below w1.heap.size w1 W2 := by rw [hW2]; exact hbel.setCell (by simp) _
        rw [← hW2, HED.out] at hbld2
        rw [← hW2]
        clear hW2 hbld hbel q0 f0 cP lP lQ
        go_loopw [8, 35] (fun l j wq => ∃ n : Nat, n ≤ L.size ∧ j = .int .i64 n ∧ wq.ownsRow w1.heap.size 3 1 l (onesOf L.data.toList n).length ((onesOf L.data.toList n).map i64) ∧
          Bld w1.heap.size w1.heap.size D (((lines s.data.toList).take k).map lineSet) wq rv us ∧ Below w1.heap.size w1 wq) (fun _ j _ => L.size - (intOf j).toNat)
        case atStart => exact ⟨0, Nat.zero_le _, rfl, World.ownsRow_nil _ _ _ _, hbld2, hbel2⟩
        case round =>
          obtain ⟨n, hn, rfl, hown, hbl3, hbe3⟩ := hrel
          have hol := onesOf_len L.data.toList n
          by_cases hnL : n < L.size
          · have hby := byte_at L n hnL
            have hbi := byte_is L[n]
            cases hb : (L[n] == 49) with
            | true =>
              rw [hb] at hbi
              have HS1 := Lib.hid (onesOf_yes (l := L.data.toList) (k := n) (by rw [hby]; exact hb))
              clear hb hby
              have hsz3 := hbe3.size
              have hown4 := hown.alloc (.cells #[.int .i64 (n : Int)] 3)
              have hbl4 := hbl3.below ((Below.refl _ _).alloc (Nat.le_refl _) (.cells #[.int .i64 (n : Int)] 3))
              go_wp2_with (at_builtin; refine wpList_append_own _ rfl _ _ 32 rfl (w1.heap.size) 3 i0 (.int .i64 0) 1 8 Tryd.underlying32 hi0 hz0 hz1 hz2 rfl (by decide) _ _ _ rfl (hown4) ⟨wr.heap.size, 0, none⟩ 1 1 [.int .i64 n] rfl rfl (cell_one_new _ _ _) (by simp [Value.oneCell']) (by unfold maxLen; omega) (by omega) (by simp; omega) ?_; intro v' w3 hown' hgrow _)
              have hbl5 := hbl4.but2 (But.grown hgrow) (own_ne hown4 hbl4.1 (by decide)) (fun g hg => by
                obtain ⟨cs, hcs⟩ := own_kind hbl4.2.1 g hg
                exact own_ne hown4 hcs (by decide)) (KeepW.grown hgrow hown4 (by decide))
              exact ⟨⟨n + 1, by omega, by go_num, by rw [HS1.out]; simpa using hown', hbl5, (hbe3.alloc hbe3.size _).grown hgrow (by simp; omega) (fun q hq => (hown4.lt q hq).1)⟩, by simp [intOf]; omega⟩
            | false =>
              rw [hb] at hbi
              have HS1 := Lib.hid (onesOf_no (l := L.data.toList) (k := n) (by rw [hby]; exact hb))
              clear hb hby
              go_wp2_with fail
              exact ⟨⟨n + 1, by omega, by go_num, by rw [HS1.out]; exact hown, hbl3, hbe3⟩, by simp [intOf]; omega⟩
          · obtain rfl : n = L.size := by omega
            clear hbld2 hbel2
            obtain ⟨i0, hi0, hz0, hz1, hz2⟩ := info_parts info_set
            obtain ⟨Ax, cx, rfl, _, _, hrow, _⟩ := row_of_own hown
            have hls : L.data.toList.length = L.size := by rw [Array.length_toList]; rfl
            have hof := of_any Ax cx ((onesOf L.data.toList L.size).map Int.ofNat) wr.drew (by rw [List.map_map]; exact hrow) (by rw [List.length_map]; omega)
            rw [List.length_map] at hof
            have hmc : setOf ((onesOf L.data.toList L.size).map Int.ofNat) = lineSet L.data.toList := by rw [lineSet, hls]
            rw [hmc] at hof
            clear hmc
            have HOF := hideC hof; clear hof
            have q1 := hbl3.1.cell 1
            have n1 := hbl3.ne
            have hrl : (((lines s.data.toList).take k).map lineSet).length = k := by rw [List.length_map, List.length_take, Nat.min_eq_left]; have := (List.getElem?_eq_some_iff.1 hLl).1; omega
            have hsz3 := hbe3.size
            have hmin : min k (lines s.data.toList).length = k := by have := (List.getElem?_eq_some_iff.1 hLl).1; omega
            go_wp2_with fail
            refine wp_spine (fun V => But rv.ownBlock wr V) [0, 1, 2, 3, 4, 5] [6, 7, 8, 9, 10, 11] (by kernel_rfl) (by kernel_rfl) ?_
            iterate 6 (refine wpE_op (v := ?_) rfl rfl (fun W hW => ?_) ?_; rotate_left; (have x1 := hW.on q1 n1; go_simp; first | done | with_reducible rfl); simp only [Act.put, List.setIfInBounds_toArray, List.set_cons_zero, List.set_cons_succ])
            refine wpE_nil ⟨fun h => (by cases h), wpSp_op rfl ((But.refl _ _).below (Below.refl _ _).drew) ?_⟩
            go_wp2_with fail
            refine HOF.out.mono ?_
            rintro e w4 ⟨r, rfl, hset, hb4⟩
            obtain ⟨A2, c2, rfl, _⟩ := id hset
            have hb5 : Below wr.heap.size wr w4 := (Below.refl _ _).drew.trans hb4
            have hsz5 := hb5.size
            go_wp2_with fail
            refine nxt_op rfl (.of_below hb5) ?_
            go_wp2_with fail
            have hb6 := hb5.alloc hb5.size (.cells #[.slice A2 (nw (lineSet L.data.toList)) c2] 65)
            have hbl6 := hbl3.below hb6
            have hset6 := hset.keep (KeepW.alloc _ (.cells #[.slice A2 (nw (lineSet L.data.toList)) c2] 65))
            refine nxt_op rfl (.of_below hb6) ?_
            go_wp2_with (at_builtin; refine wpList_append_own _ rfl _ _ 62 rfl (w1.heap.size) 65 i0 (.agg #[.slice none 0 0]) 1 24 Tryd.underlying62 hi0 hz0 hz1 hz2 rfl (by decide) _ _ _ rfl (hbl6.2.1) ⟨w4.heap.size, 0, none⟩ 1 1 [.slice A2 (nw (lineSet L.data.toList)) c2] rfl rfl (cell_one_new _ _ _) (by simp [Value.oneCell']) (by unfold maxLen; omega) (by omega) (by simp; omega) ?_; intro v' w3 hown' hgrow _)
            obtain ⟨g5, cap5, rfl⟩ := ownsRow_succ hown'
            have hbut5 := (But.of_below hb6).trans (But.grown hgrow)
            have hbe5 := (hbe3.trans (hb6.mono hbe3.size)).grown hgrow (by simp; omega) (fun q hq => (hbl6.2.1.lt q hq).1)
            have q3 := hbut5.on q1 n1
            have f3 := hbut5.frozen q1 (hbl3.1.frozen 1) n1
            obtain ⟨hbl7, _⟩ := hbl6.push hset6 rfl rfl hown' hgrow
            rw [hrl] at hbl7
            refine nxt_op rfl hbut5 ?_
            go_wp2_with fail
            refine nxt_op rfl hbut5 ?_
            go_wp2_with fail
            refine nxt_op rfl hbut5 ?_
            go_wp2_with fail
            refine nxt_nil ?_
            go_wp2_with fail
            have htk : ((lines s.data.toList).take (k + 1)).map lineSet = ((lines s.data.toList).take k).map lineSet ++ [lineSet L.data.toList] := by rw [List.take_add_one, hLl]; simp
            rw [← htk] at hbl7
            rw [HD.out] at hbl7
            exact ⟨⟨k + 1, by omega, by go_num, ⟨_, _, hbl7⟩, hbe5.setCell (by simp) _⟩, by simp [intOf]; omega⟩
      · have e0 : ((k : Int) == 0) = false := by simp; omega
        have eD : pcols (lines s.data.toList) k = D := by rw [HD.out, pcols, pcols, if_neg (by omega), if_neg (by omega)]
        have hbld2 := hbld
        rw [eD] at hbld2
        have hbel2 := hbel
        have HED := Lib.hid eD; clear eD
        have HK0 := Lib.hid hk0; clear hk0
        go_wp2_with fail
        obtain ⟨W2, rfl⟩ : ∃ W2, W2 = wr := ⟨_, rfl⟩
        clear hbld hbel q0 f0 cP lP lQ
        go_loopw [8, 35] (fun l j wq => ∃ n : Nat, n ≤ L.size ∧ j = .int .i64 n ∧ wq.ownsRow w1.heap.size 3 1 l (onesOf L.data.toList n).length ((onesOf L.data.toList n).map i64) ∧
          Bld w1.heap.size w1.heap.size D (((lines s.data.toList).take k).map lineSet) wq rv us ∧ Below w1.heap.size w1 wq) (fun _ j _ => L.size - (intOf j).toNat)
        case atStart => exact ⟨0, Nat.zero_le _, rfl, World.ownsRow_nil _ _ _ _, hbld2, hbel2⟩
        case round =>
          obtain ⟨n, hn, rfl, hown, hbl3, hbe3⟩ := hrel
          have hol := onesOf_len L.data.toList n
          by_cases hnL : n < L.size
          · have hby := byte_at L n hnL
            have hbi := byte_is L[n]
            cases hb : (L[n] == 49) with
            | true =>
              rw [hb] at hbi
              have HS1 := Lib.hid (onesOf_yes (l := L.data.toList) (k := n) (by rw [hby]; exact hb))
              clear hb hby
              have hsz3 := hbe3.size
              have hown4 := hown.alloc (.cells #[.int .i64 (n : Int)] 3)
              have hbl4 := hbl3.below ((Below.refl _ _).alloc (Nat.le_refl _) (.cells #[.int .i64 (n : Int)] 3))
              go_wp2_with (at_builtin; refine wpList_append_own _ rfl _ _ 32 rfl (w1.heap.size) 3 i0 (.int .i64 0) 1 8 Tryd.underlying32 hi0 hz0 hz1 hz2 rfl (by decide) _ _ _ rfl (hown4) ⟨wr.heap.size, 0, none⟩ 1 1 [.int .i64 n] rfl rfl (cell_one_new _ _ _) (by simp [Value.oneCell']) (by unfold maxLen; omega) (by omega) (by simp; omega) ?_; intro v' w3 hown' hgrow _)
              have hbl5 := hbl4.but2 (But.grown hgrow) (own_ne hown4 hbl4.1 (by decide)) (fun g hg => by
                obtain ⟨cs, hcs⟩ := own_kind hbl4.2.1 g hg
                exact own_ne hown4 hcs (by decide)) (KeepW.grown hgrow hown4 (by decide))
              exact ⟨⟨n + 1, by omega, by go_num, by rw [HS1.out]; simpa using hown', hbl5, (hbe3.alloc hbe3.size _).grown hgrow (by simp; omega) (fun q hq => (hown4.lt q hq).1)⟩, by simp [intOf]; omega⟩
            | false =>
              rw [hb] at hbi
              have HS1 := Lib.hid (onesOf_no (l := L.data.toList) (k := n) (by rw [hby]; exact hb))
              clear hb hby
              go_wp2_with fail
              exact ⟨⟨n + 1, by omega, by go_num, by rw [HS1.out]; exact hown, hbl3, hbe3⟩, by simp [intOf]; omega⟩
          · obtain rfl : n = L.size := by omega
            clear hbld2 hbel2
            obtain ⟨i0, hi0, hz0, hz1, hz2⟩ := info_parts info_set
            obtain ⟨Ax, cx, rfl, _, _, hrow, _⟩ := row_of_own hown
            have hls : L.data.toList.length = L.size := by rw [Array.length_toList]; rfl
            have hof := of_any Ax cx ((onesOf L.data.toList L.size).map Int.ofNat) wr.drew (by rw [List.map_map]; exact hrow) (by rw [List.length_map]; omega)
            rw [List.length_map] at hof
            have hmc : setOf ((onesOf L.data.toList L.size).map Int.ofNat) = lineSet L.data.toList := by rw [lineSet, hls]
            rw [hmc] at hof
            clear hmc
            have HOF := hideC hof; clear hof
            have q1 := hbl3.1.cell 1
            have n1 := hbl3.ne
            have hrl : (((lines s.data.toList).take k).map lineSet).length = k := by rw [List.length_map, List.length_take, Nat.min_eq_left]; have := (List.getElem?_eq_some_iff.1 hLl).1; omega
            have hsz3 := hbe3.size
            have hmin : min k (lines s.data.toList).length = k := by have := (List.getElem?_eq_some_iff.1 hLl).1; omega
            go_wp2_with fail
            refine wp_spine (fun V => But rv.ownBlock wr V) [0, 1, 2, 3, 4, 5] [6, 7, 8, 9, 10, 11] (by kernel_rfl) (by kernel_rfl) ?_
            iterate 6 (refine wpE_op (v := ?_) rfl rfl (fun W hW => ?_) ?_; rotate_left; (have x1 := hW.on q1 n1; go_simp; first | done | with_reducible rfl); simp only [Act.put, List.setIfInBounds_toArray, List.set_cons_zero, List.set_cons_succ])
            refine wpE_nil ⟨fun h => (by cases h), wpSp_op rfl ((But.refl _ _).below (Below.refl _ _).drew) ?_⟩
            go_wp2_with fail
            refine HOF.out.mono ?_
            rintro e w4 ⟨r, rfl, hset, hb4⟩
            obtain ⟨A2, c2, rfl, _⟩ := id hset
            have hb5 : Below wr.heap.size wr w4 := (Below.refl _ _).drew.trans hb4
            have hsz5 := hb5.size
            go_wp2_with fail
            refine nxt_op rfl (.of_below hb5) ?_
            go_wp2_with fail
            have hb6 := hb5.alloc hb5.size (.cells #[.slice A2 (nw (lineSet L.data.toList)) c2] 65)
            have hbl6 := hbl3.below hb6
            have hset6 := hset.keep (KeepW.alloc _ (.cells #[.slice A2 (nw (lineSet L.data.toList)) c2] 65))
            refine nxt_op rfl (.of_below hb6) ?_
            go_wp2_with (at_builtin; refine wpList_append_own _ rfl _ _ 62 rfl (w1.heap.size) 65 i0 (.agg #[.slice none 0 0]) 1 24 Tryd.underlying62 hi0 hz0 hz1 hz2 rfl (by decide) _ _ _ rfl (hbl6.2.1) ⟨w4.heap.size, 0, none⟩ 1 1 [.slice A2 (nw (lineSet L.data.toList)) c2] rfl rfl (cell_one_new _ _ _) (by simp [Value.oneCell']) (by unfold maxLen; omega) (by omega) (by simp; omega) ?_; intro v' w3 hown' hgrow _)
            obtain ⟨g5, cap5, rfl⟩ := ownsRow_succ hown'
            have hbut5 := (But.of_below hb6).trans (But.grown hgrow)
            have hbe5 := (hbe3.trans (hb6.mono hbe3.size)).grown hgrow (by simp; omega) (fun q hq => (hbl6.2.1.lt q hq).1)
            have q3 := hbut5.on q1 n1
            have f3 := hbut5.frozen q1 (hbl3.1.frozen 1) n1
            obtain ⟨hbl7, _⟩ := hbl6.push hset6 rfl rfl hown' hgrow
            rw [hrl] at hbl7
            refine nxt_op rfl hbut5 ?_
            go_wp2_with fail
            refine nxt_op rfl hbut5 ?_
            go_wp2_with fail
            refine nxt_op rfl hbut5 ?_
            go_wp2_with fail
            refine nxt_nil ?_
            go_wp2_with fail
            have htk : ((lines s.data.toList).take (k + 1)).map lineSet = ((lines s.data.toList).take k).map lineSet ++ [lineSet L.data.toList] := by rw [List.take_add_one, hLl]; simp
            rw [← htk] at hbl7
            rw [HD.out] at hbl7
            exact ⟨⟨k + 1, by omega, by go_num, ⟨_, _, hbl7⟩, hbe5.setCell (by simp) _⟩, by simp [intOf]; omega⟩
    · obtain rfl : k = m := by omega
      have hcm : k = s.data.toList.count 10 := by
        have := congrArg List.length hps
        rw [List.length_map, lines_len] at this; omega
      have hR : ((lines s.data.toList).take k).map lineSet = pNs s.data.toList := by rw [pNs, hcm]
      have hDC : pcols (lines s.data.toList) k = pC s.data.toList := by rw [pC, hcm]
      have hRl : (pNs s.data.toList).length = k := by rw [pNs_len, hcm]
      have hC4 : pC s.data.toList ≤ 4096 := by
        rw [pC, pcols]
        split
        · omega
        · cases hl : lines s.data.toList with
          | nil => simp
          | cons x y =>
            have h2 := lines_part s.data.toList x (by rw [hl]; exact List.mem_cons_self ..)
            have h3 : s.data.toList.length = s.size := by rw [Array.length_toList]; rfl
            simp only [List.headD_cons]; omega
      rw [hR, hDC] at hbld
      have hM := hbld.mat hC4 (by rw [hRl]; omega)
      obtain ⟨q1, q2, q3⟩ := hbld
      obtain ⟨Ax, cx, rfl, _, _, _, _⟩ := row_of_own q2
      have q0 := q1.cell 0
      have q4 := q1.cell 1
      rw [hRl] at q4
      clear q1 q2 q3 hR hDC
      have hbw : Below w.heap.size w wr := hbel1.trans (hbel.mono hbel1.size)
      have HPS := Lib.hid hps; clear hps
      have HR := Lib.hid hRl; clear hRl
      have HCM := Lib.hid hcm; clear hcm
      obtain ⟨C, hC⟩ : ∃ C, C = pC s.data.toList := ⟨_, rfl⟩
      rw [← hC] at q0 hM hC4
      have HC := Lib.hid hC; clear hC
      by_cases hc1 : C ≤ 256
      · by_cases hc2 : k ≤ 256
        · have HT := hideC (text_any _ _ _ _ hM)
          by_cases hc3 : mtext C (pNs s.data.toList) (pNs s.data.toList).length = s.data.toList
          · have es : (⟨(mtext C (pNs s.data.toList) (pNs s.data.toList).length).toArray⟩ : ByteArray) = s := by rw [hc3]
            have H3 := Lib.hid hc3; clear hc3
            rw [es] at HT
            go_wp2_with fail
            refine HT.out.mono ?_
            rintro e w4 ⟨rfl, hb4⟩
            go_wp2_with fail
            go_ret2
            exact ⟨hbw.trans (hb4.mono hbw.size), .inr ⟨_, rfl, ⟨by rw [← HC.out]; exact hc1, by rw [← HCM.out]; exact hc2, by rw [← HC.out]; exact H3.out⟩, by rw [← HC.out]; exact hM.below hb4⟩⟩
          · obtain ⟨T, hT⟩ : ∃ T : ByteArray, T = ⟨(mtext C (pNs s.data.toList) (pNs s.data.toList).length).toArray⟩ := ⟨_, rfl⟩
            have hne : (T.toList == s.toList) = false := by rw [Lib.toList_data, Lib.toList_data, beq_eq_false_iff_ne]; exact fun e => hc3 ((congrArg (fun x : ByteArray => x.data.toList) hT).symm.trans e)
            rw [← hT] at HT
            have H3 := Lib.hid hc3; clear hc3 hT
            go_wp2_with fail
            refine HT.out.mono ?_
            rintro e w4 ⟨rfl, hb4⟩
            go_wp2_with fail
            go_ret2
            exact ⟨hbw.trans (hb4.mono hbw.size), .inl ⟨rfl, fun h => H3.out (by rw [HC.out]; exact h.2.2)⟩⟩
        · go_wp2_with fail
          go_ret2
          exact ⟨hbw, .inl ⟨rfl, fun h => hc2 (by rw [HCM.out]; exact h.2.1)⟩⟩
      · go_wp2_with fail
        go_ret2
        exact ⟨hbw, .inl ⟨rfl, fun h => hc1 (by rw [HC.out]; exact h.1)⟩⟩
end Go.Proofs.YtjlcnbfkblmoeaaDoor
