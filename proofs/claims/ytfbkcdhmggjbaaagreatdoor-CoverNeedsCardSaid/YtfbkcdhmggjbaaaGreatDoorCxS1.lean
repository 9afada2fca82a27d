import Derived.Test.YtfbkcdhmggjbaaaGreatDoorCwC
import Derived.Lib.SliceRun
import Derived.Deep.RegionLaw
/-
  slices.Clone of roles.
-/
namespace Go.Proofs.YtfbkcdhmggjbaaaGreatDoor
open Go.RowKit
set_option maxRecDepth 100000 in
set_option maxHeartbeats 8000000 in
theorem cloneQ_any (base : Nat) (v : Value) (L : List (Nat × Nat)) (w : World) (h : OwnQ w base v L) (h0 : 0 < L.length) (hl : L.length ≤ 4096) :
    Calls Tryz.prog 41 #[v] w fun e w' => ∃ g' c', e = .returned (.slice (some ⟨g', 0, none⟩) L.length c') ∧ OwnQ w' w.heap.size (.slice (some ⟨g', 0, none⟩) L.length c') L ∧ Below w.heap.size w w' := by
  obtain ⟨i0, hi0, hz0, hz1, hz2⟩ := info_parts info_con
  obtain ⟨A, c, vs, rfl, hr, hs, _, _⟩ := h.isQ (by omega)
  have hvl : vs.length = L.length * 2 := by rw [hs.1, flatQ_len]
  obtain ⟨g, off, rfl, hg, hc⟩ := hr (by omega)
  have hadd : ∀ (j : Nat) u, vs[j]? = some u → (w.alloc (.cells #[] 84)).cell? ((⟨g, off, none⟩ : Addr).add j) = some u := fun j u hu => by
    rw [addr_add]
    exact (World.cell?_alloc_lt _ _ _ hg).trans (hc j u hu)
  have hone : ∀ u ∈ vs, u.oneCell' = true := fun u hu => by
    obtain ⟨j, hj⟩ := List.getElem?_of_mem hu
    have hlt : j < (flatQ L).length := by rw [← hs.1]; exact (List.getElem?_eq_some_iff.1 hj).1
    obtain ⟨A, d, e, _⟩ := hs.at_ hlt
    rw [hj] at e
    cases e; rfl
  have HADD := Lib.hid hadd; have HONE := Lib.hid hone; have HLEN := Lib.hid hvl; have HS := Lib.hid hs
  clear hadd hc hone hvl hr hs h
  have own0 := World.ownsRow_lit (base := w.heap.size) (e := 84) (size := 2) w #[] 0 (Nat.le_refl _) (by decide) rfl
  have hb0 := (Below.refl w.heap.size w).alloc (Nat.le_refl _) (.cells #[] 84)
  have hnil := fun W => run_eql_some_nil (P := Tryz.prog) Tryz.underlying78 ⟨g, off, none⟩ L.length c W
  go_enter Tryz.func41, Tryz.ntmps41
  go_wp2_with (at_builtin; refine wpList_append_own _ rfl _ _ 78 rfl w.heap.size 84 i0 (.agg #[.slice none 0 0, .slice none 0 0]) 2 48 Tryz.underlying78 hi0 hz0 hz1 hz2 rfl (by decide) _ _ _ rfl own0 ⟨g, off, none⟩ L.length c vs rfl HLEN.out HADD.out HONE.out (by unfold maxLen; omega) (by omega) (by simp) ?_; intro v' w3 hown' hgrow _)
  have hbe3 := hb0.grown hgrow (by simp) (fun q hq => (own0.lt q hq).1)
  rw [Nat.zero_add, List.nil_append] at hown'
  obtain ⟨g5, cap5, rfl⟩ := own_succP (n := L.length - 1) (by rw [show L.length - 1 + 1 = L.length by omega]; exact hown')
  have hel : L.length - 1 + 1 = L.length := by omega
  rw [hel] at hown' ⊢
  go_ret
  exact ⟨g5, cap5, rfl, ⟨vs, hown', HS.out.below hbe3⟩, hbe3⟩
end Go.Proofs.YtfbkcdhmggjbaaaGreatDoor

/-
  clear of one role (the tail that slices.Delete leaves).
-/
namespace Go.Proofs.YtfbkcdhmggjbaaaGreatDoor
open Go.RowKit
theorem clear_q (w : World) (ty : TypeId) (b o c : Nat) (hv : ∀ w, (zeroValue 84).run Tryz.prog w = .ok (.agg #[.slice none 0 0, .slice none 0 0]) w)
    (hc : ∀ j, j < 2 → (w.cell? ⟨b, o + j, none⟩).isSome = true) (hf : ∀ j, j < 2 → w.frozen? ⟨b, o + j, none⟩ = false) :
    (Builtin.clear_ #[78] ty #[.slice (some ⟨b, o, none⟩) 1 c]).run Tryz.prog w = .ok (.tuple #[]) (w.setCells b o [.slice none 0 0, .slice none 0 0]) := by
  have hzc : (Builtin.zeroCells (Value.agg #[.slice none 0 0, .slice none 0 0]).cells 1).toList = [.slice none 0 0, .slice none 0 0] := by
    simp [Builtin.zeroCells, Value.cells]
    rfl
  have hst := run_storeCells_cells (P := Tryz.prog) b o [.slice none 0 0, .slice none 0 0] 0 w (by simpa using hc) (by simpa using hf) (by intro v hv'; simp at hv'; rw [hv']; rfl)
  simp only [Nat.add_zero] at hst
  simp [Builtin.clear_, run_underlying Tryz.underlying78, hv, hzc, hst]
theorem zero_of {P : Program} {t : TypeId} {i : TypeInfo} {z : Value} (hi : P.info? t = some i) (hz : i.zero = some z) (w : World) : (zeroValue t).run P w = .ok z w := by
  simp [zeroValue, typeInfo, hi, hz]
theorem zero_con (w : World) : (zeroValue 84).run Tryz.prog w = .ok (.agg #[.slice none 0 0, .slice none 0 0]) w := by
  obtain ⟨i0, hi0, hz0, _, _⟩ := info_parts info_con
  exact zero_of hi0 hz0 w
end Go.Proofs.YtfbkcdhmggjbaaaGreatDoor

/-
  slices.Delete of roles: one role is taken out.
-/
namespace Go.Proofs.YtfbkcdhmggjbaaaGreatDoor
open Go.RowKit
/-- Some cells of an array are written. -/
def setAll (cs : Array Value) : Nat → List Value → Array Value
  | _, [] => cs
  | o, v :: vs => setAll (cs.setIfInBounds o v) (o + 1) vs
theorem setAll_size : ∀ (vs : List Value) (o : Nat) (cs : Array Value), (setAll cs o vs).size = cs.size
  | [], _, _ => rfl
  | v :: vs, o, cs => by rw [setAll, setAll_size vs, Array.size_setIfInBounds]
theorem setAll_get : ∀ (vs : List Value) (o : Nat) (cs : Array Value) (i : Nat), i < cs.size → (setAll cs o vs)[i]? = if o ≤ i ∧ i < o + vs.length then vs[i - o]? else cs[i]?
  | [], o, cs, i, h => by rw [setAll, if_neg (by simp)]
  | v :: vs, o, cs, i, h => by
    rw [setAll, setAll_get vs (o + 1) _ i (by rw [Array.size_setIfInBounds]; exact h), List.length_cons]
    by_cases h1 : o + 1 ≤ i ∧ i < o + 1 + vs.length
    · rw [if_pos h1, if_pos (by omega), show i - o = (i - (o + 1)) + 1 by omega, List.getElem?_cons_succ]
    · rw [if_neg h1, Array.getElem?_setIfInBounds]
      by_cases h2 : o = i
      · subst h2
        rw [if_pos rfl, if_pos h, if_pos (by omega), Nat.sub_self]; rfl
      · rw [if_neg h2, if_neg (by omega)]
theorem Blk.sets_ {g : Nat} {t : TypeId} : ∀ (vs : List Value) (o : Nat) {w : World} {cs : Array Value}, Blk w g t cs → Blk (w.setCells g o vs) g t (setAll cs o vs)
  | [], _, _, _, h => h
  | v :: vs, o, _, _, h => Blk.sets_ vs (o + 1) (h.set_ o v)
theorem KeepW.sets_ {g : Nat} {t : TypeId} (ht : 158 ≠ t) : ∀ (vs : List Value) (o : Nat) {w : World} {cs : Array Value}, Blk w g t cs → KeepW w (w.setCells g o vs)
  | [], _, w, _, _ => KeepW.refl w
  | v :: vs, o, _, _, h => (KeepW.setCell (p := ⟨g, o, none⟩) h ht v).trans (KeepW.sets_ ht vs (o + 1) (h.set_ o v))
theorem Below.sets_ {g base : Nat} (hg : base ≤ g) : ∀ (vs : List Value) (o : Nat) (w : World), Below base w (w.setCells g o vs)
  | [], _, _ => Below.refl _ _
  | v :: vs, o, w => ((Below.refl base w).setCell (p := ⟨g, o, none⟩) hg v).trans (Below.sets_ hg vs (o + 1) _)
theorem flatQ_take (L : List (Nat × Nat)) (k : Nat) : flatQ (L.take k) = (flatQ L).take (k * 2) := by
  induction L generalizing k with
  | nil => simp [flatQ]
  | cons s L ih =>
    cases k with
    | zero => simp [flatQ]
    | succ k =>
      have := ih k
      unfold flatQ at this ⊢
      rw [List.take_succ_cons, List.flatMap_cons, List.flatMap_cons, this, show (k + 1) * 2 = k * 2 + 1 + 1 by omega]
      rfl
theorem flatQ_drop (L : List (Nat × Nat)) (k : Nat) : flatQ (L.drop k) = (flatQ L).drop (k * 2) := by
  induction L generalizing k with
  | nil => simp [flatQ]
  | cons s L ih =>
    cases k with
    | zero => simp [flatQ]
    | succ k =>
      have := ih k
      unfold flatQ at this ⊢
      rw [List.drop_succ_cons, List.flatMap_cons, this, show (k + 1) * 2 = k * 2 + 1 + 1 by omega]
      rfl
theorem flatQ_erase (L : List (Nat × Nat)) (k : Nat) : flatQ (L.eraseIdx k) = (flatQ L).take (k * 2) ++ (flatQ L).drop ((k + 1) * 2) := by
  rw [List.eraseIdx_eq_take_drop_succ, flatQ_app, flatQ_take, flatQ_drop]
theorem Sets.cut {w : World} {vs : List Value} {Ns : List Nat} (h : Sets w vs Ns) (a b : Nat) : Sets w (vs.take a ++ vs.drop b) (Ns.take a ++ Ns.drop b) := by
  have hl := h.1
  refine ⟨by simp only [List.length_append, List.length_take, List.length_drop, hl], fun k v N hv hN => ?_⟩
  rw [List.getElem?_append] at hv hN
  rw [List.length_take, hl] at hv
  rw [List.length_take] at hN
  split at hv
  · rename_i hk
    rw [if_pos hk] at hN
    rw [List.getElem?_take] at hv hN
    have hka : k < a := by omega
    rw [if_pos hka] at hv hN
    exact h.2 k v N hv hN
  · rename_i hk
    rw [if_neg hk] at hN
    rw [List.getElem?_drop] at hv hN
    exact h.2 _ v N hv hN
namespace Mix2
set_option maxRecDepth 100000 in
set_option maxHeartbeats 8000000 in
theorem deleteQ_any (base : Nat) (v : Value) (L : List (Nat × Nat)) (k j : Nat) (w : World) (h : OwnQ w base v L) (hk : k < L.length) (hj : j = k + 1) (hl : L.length ≤ 4096) :
    Calls Tryz.prog 40 #[v, .int .i64 k, .int .i64 j] w fun e w' => ∃ v', e = .returned v' ∧ OwnQ w' base v' (L.eraseIdx k) ∧ Below base w w' := by
  obtain ⟨i0, hi0, hz0, hz1, hz2⟩ := info_parts info_con
  obtain ⟨vs, hown, hs⟩ := h
  obtain ⟨n, hn⟩ : ∃ n, n + 1 = L.length := ⟨L.length - 1, by omega⟩
  have hel : (L.eraseIdx k).length = n := by rw [List.length_eraseIdx, if_pos hk]; omega
  have hfl := flatQ_erase L k
  rw [← hn] at hown hk hl
  obtain ⟨g, c, rfl⟩ := own_succP hown
  obtain ⟨hvl, hor⟩ := hown
  obtain ⟨g', c', cur, e0, hbg, hB, hnc, hcm, hcs, htk⟩ := hor.resolve_left (by rintro ⟨h, _⟩; cases h)
  cases e0
  replace hB : Blk w g 84 cur := hB
  obtain ⟨news, hnews⟩ : ∃ news, news = vs.drop (j * 2) := ⟨_, rfl⟩
  have hlen : news.length = (n + 1 - j) * 2 := by rw [hnews, List.length_drop, hvl]; omega
  have hcell : ∀ i u, vs[i]? = some u → cur[i]? = some u := fun i u hu => by
    rw [← htk, List.getElem?_take] at hu
    split at hu
    · simpa using hu
    · cases hu
  have hget : ∀ t u, news[t]? = some u → cur[j * 2 + t]? = some u := fun t u hu => by
    rw [hnews, List.getElem?_drop] at hu
    exact hcell _ _ hu
  have hone : ∀ u ∈ news, u.oneCell' = true := fun u hu => by
    rw [hnews] at hu
    obtain ⟨i, hi⟩ := List.getElem?_of_mem (List.mem_of_mem_drop hu)
    have hlt : i < (flatQ L).length := by rw [← hs.1]; exact (List.getElem?_eq_some_iff.1 hi).1
    obtain ⟨A, d, e, _⟩ := hs.at_ hlt
    rw [hi] at e
    cases e; rfl
  obtain ⟨A, hA, hsrc⟩ : ∃ A : Addr, (if c = j then some (⟨g, 0, none⟩ : Addr) else some ⟨g, j * 2, none⟩) = some A ∧ Hid (∀ t u, news[t]? = some u → w.drew.cell? (A.add t) = some u) := by
    by_cases h : c = j
    · refine ⟨⟨g, 0, none⟩, by simp [h], fun t u hu => ?_⟩
      have h0 : news.length = 0 := by rw [hlen]; omega
      rw [List.length_eq_zero_iff.1 h0] at hu
      simp at hu
    · refine ⟨⟨g, j * 2, none⟩, by simp [h], fun t u hu => ?_⟩
      rw [addr_add]
      exact (hB.cell (j * 2 + t)).trans (hget t u hu)
  have s1 : Hid (news.length = (n + 1 - j) * 2) := hlen
  have s2 : Hid (∀ u ∈ news, u.oneCell' = true) := hone
  have s3 : Hid (∀ t, t < news.length → (w.drew.cell? ⟨g, 0 + k * 2 + t, none⟩).isSome = true ∧ w.drew.frozen? ⟨g, 0 + k * 2 + t, none⟩ = false) := by
    intro t ht
    rw [hlen] at ht
    have e1 := hB.cell (0 + k * 2 + t)
    have hlt : 0 + k * 2 + t < cur.size := by rw [hcs]; omega
    refine ⟨?_, hB.frozen _⟩
    show (w.cell? _).isSome = true
    rw [e1, Array.getElem?_eq_getElem hlt]; rfl
  obtain ⟨olds, holds⟩ : ∃ olds, olds = vs.take (k * 2) := ⟨_, rfl⟩
  have holl : Hid (olds.length = k * 2) := by
    show olds.length = k * 2
    rw [holds, List.length_take, hvl]; omega
  have hold : Hid (∀ j u, olds[j]? = some u → w.drew.cell? ⟨g, 0 + j, none⟩ = some u) := fun i u hu => by
    rw [holds, List.getElem?_take] at hu
    split at hu
    · rw [Nat.zero_add]
      exact (hB.cell i).trans (hcell i u hu)
    · cases hu
  obtain ⟨W1, hW1⟩ : ∃ W1, W1 = w.drew.setCells g (0 + k * 2) news := ⟨_, rfl⟩
  have hB1 : Blk W1 g 84 (setAll cur (0 + k * 2) news) := by rw [hW1]; exact Blk.sets_ news _ (w := w.drew) hB
  have hk1 : KeepW w W1 := by rw [hW1]; exact KeepW.sets_ (by decide) news _ (w := w.drew) hB
  have hb1 : Below base w W1 := by rw [hW1]; exact (Below.refl base w).drew.trans (Below.sets_ hbg news _ _)
  have hsz1 : (setAll cur (0 + k * 2) news).size = c * 2 := by rw [setAll_size, hcs]
  have hcl : ∀ ty cc, (Builtin.clear_ #[78] ty #[.slice (some ⟨g, n * 2, none⟩) 1 cc]).run Tryz.prog W1 = .ok (.tuple #[]) (W1.setCells g (n * 2) [.slice none 0 0, .slice none 0 0]) :=
    fun ty cc => clear_q W1 ty g (n * 2) cc zero_con (fun i hi => by rw [hB1.cell, Array.getElem?_eq_getElem (by rw [hsz1]; omega)]; rfl) (fun i hi => hB1.frozen _)
  have hB2 := hB1.sets_ [.slice none 0 0, .slice none 0 0] (n * 2)
  have hk2 := hk1.trans (KeepW.sets_ (by decide) [.slice none 0 0, .slice none 0 0] (n * 2) hB1)
  have hb2 := hb1.trans (Below.sets_ hbg [.slice none 0 0, .slice none 0 0] (n * 2) W1)
  have hfin : ((setAll (setAll cur (0 + k * 2) news) (n * 2) [.slice none 0 0, .slice none 0 0]).toList.take (n * 2)) = vs.take (k * 2) ++ vs.drop ((k + 1) * 2) := by
    apply List.ext_getElem?
    intro i
    rw [List.getElem?_take]
    by_cases hi : i < n * 2
    · rw [if_pos hi, Array.getElem?_toList, setAll_get _ _ _ _ (by rw [hsz1]; omega), if_neg (by omega), setAll_get _ _ _ _ (by rw [hcs]; omega), List.getElem?_append, List.length_take, hvl]
      by_cases h2 : i < k * 2
      · rw [if_neg (by omega), if_pos (by omega), List.getElem?_take, if_pos h2]
        obtain ⟨u, hu⟩ : ∃ u, vs[i]? = some u := ⟨_, List.getElem?_eq_getElem (by omega)⟩
        rw [hu]
        exact hcell _ _ hu
      · rw [if_pos (by rw [hlen]; omega), if_neg (by omega), hnews, List.getElem?_drop, List.getElem?_drop]
        congr 1
        omega
    · rw [if_neg hi, List.getElem?_eq_none]
      rw [List.length_append, List.length_take, List.length_drop, hvl]
      omega
  have HB2 := Lib.hid hB2; have HK2 := Lib.hid hk2; have HBL2 := Lib.hid hb2; have HFIN := Lib.hid hfin; have HEL := Lib.hid hel; have HFL := Lib.hid hfl; have HS := Lib.hid hs; have HVL := Lib.hid hvl; have HCS := Lib.hid (setAll_size [.slice none 0 0, .slice none 0 0] (n * 2) (setAll cur (0 + k * 2) news)); have HSZ := Lib.hid hsz1
  have hW : Hid (W1 = w.drew.setCells g (k * 2) news) := by
    show W1 = _
    rw [hW1, Nat.zero_add]
  have hic : k ≤ c := by omega
  have hjc : j ≤ c := by omega
  have hj1 : j ≤ n + 1 := by omega
  have hji : (j : Int) ≤ (n : Int) + 1 := by omega
  have hjn : k + (n + 1 - j) = n := by omega
  have HJ := Lib.hid hj
  have hkj : ¬ k = j := by omega
  have mixed : Tryz.prog.follows .mixedOrders = true := by kernel_rfl
  clear hj HJ
  clear hW1 hB1 hk1 hb1 hB2 hk2 hb2 hfin hel hfl hs hvl hcs htk hget hcell hone hnews hlen hsz1 hB hn holds
  go_enter Tryz.func40, Tryz.ntmps40
  go_wp2_with fail
  refine wp_mix (fun _ => True) 8 (by kernel_rfl) (by kernel_rfl) trivial ?_
  obtain ⟨U, hU⟩ : ∃ U, U = w.drew := ⟨_, rfl⟩
  rw [← hU] at hsrc s3 hW hold ⊢
  clear hU
  (refine m_q 0 (v := ?_) (by kernel_rfl) rfl rfl (fun W hW => ?_) ?_; rotate_left; (go_simp; first | done | with_reducible rfl); simp only [Act.put, List.setIfInBounds_toArray, List.set_cons_zero, List.set_cons_succ]); (refine m_q 1 (v := ?_) (by kernel_rfl) rfl rfl (fun W hW => ?_) ?_; rotate_left; (go_simp; first | done | with_reducible rfl); simp only [Act.put, List.setIfInBounds_toArray, List.set_cons_zero, List.set_cons_succ]); (refine m_q 2 (v := ?_) (by kernel_rfl) rfl rfl (fun W hW => ?_) ?_; rotate_left; (go_simp; first | done | with_reducible rfl); simp only [Act.put, List.setIfInBounds_toArray, List.set_cons_zero, List.set_cons_succ]); (refine m_q 3 (v := ?_) (by kernel_rfl) rfl rfl (fun W hW => ?_) ?_; rotate_left; (go_simp; first | done | with_reducible rfl); simp only [Act.put, List.setIfInBounds_toArray, List.set_cons_zero, List.set_cons_succ]); (refine m_q 4 (v := ?_) (by kernel_rfl) rfl rfl (fun W hW => ?_) ?_; rotate_left; (go_simp; first | done | with_reducible rfl); simp only [Act.put, List.setIfInBounds_toArray, List.set_cons_zero, List.set_cons_succ]); (refine m_q 5 (v := ?_) (by kernel_rfl) rfl rfl (fun W hW => ?_) ?_; rotate_left; (go_simp; first | done | with_reducible rfl); simp only [Act.put, List.setIfInBounds_toArray, List.set_cons_zero, List.set_cons_succ])
  refine m_s1 6 (by kernel_rfl) rfl ?_
  go_wp2_with (at_builtin; refine wpList_append_arg U rfl _ _ 78 rfl 84 i0 (.agg #[.slice none 0 0, .slice none 0 0]) 2 48 Tryz.underlying78 hi0 hz0 hz1 hz2 rfl (by decide) g 0 k c olds rfl holl.out hold.out A (n + 1 - j) (c - j) news rfl s1.out hsrc.out s2.out (fun _ => s3.out) (by unfold maxLen; omega) (by omega) (fun _ => ?_) (fun h => absurd h (by omega)))
  rw [← hW.out]
  refine m_keep trivial ?_
  refine m_s1 7 (by kernel_rfl) rfl ?_
  go_wp2_with fail
  refine m_keep trivial ?_
  refine m_end (by kernel_rfl) ?_
  have hcn : ¬ c = n := by omega
  go_wp2
  go_ret
  refine ⟨.slice (some ⟨g, 0, none⟩) n c, rfl, ⟨vs.take (k * 2) ++ vs.drop ((k + 1) * 2), ⟨?_, .inr ⟨g, c, _, by rw [HEL.out], hbg, HB2.out, by rw [HEL.out]; omega, hcm, by rw [HCS.out]; exact HSZ.out, by rw [HEL.out]; exact HFIN.out⟩⟩, by rw [HFL.out]; exact (HS.out.cut _ _).keep HK2.out⟩, HBL2.out⟩
  rw [HEL.out, List.length_append, List.length_take, List.length_drop, HVL.out]
  omega
end Mix2
end Go.Proofs.YtfbkcdhmggjbaaaGreatDoor
