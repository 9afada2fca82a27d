import Derived.Test.YtjlcnbfkblmoeaaDoorComb
import Derived.Test.YtjlcnbfkblmoeaaDoorRegIn
import Derived.RangeFuncCalls
namespace Go.Proofs.YtjlcnbfkblmoeaaDoor
open Go.RowKit
attribute [local go_sem] Oper.semAt_some

/-! Leaving a function behind several loops over a function. -/
/-- The marks of the loops that have run out. -/
def Marks (n₀ : Nat) (W : World) : List Deferred → Prop
  | [] => True
  | d :: ds => (∃ D, d = { target := .collected D, args := #[] } ∧ n₀ ≤ D ∧ W.heap[D]? = some (.deferred (some [])) ∧ ∀ e ∈ ds, ∀ D', e.target = .collected D' → D' < D) ∧ Marks n₀ W ds
theorem Marks.keep {n₀ : Nat} {W W' : World} (h : ∀ (g : Nat), n₀ ≤ g → W.heap[g]? = some (.deferred (some [])) → W'.heap[g]? = some (.deferred (some []))) : ∀ {ds : List Deferred}, Marks n₀ W ds → Marks n₀ W' ds
  | [], _ => trivial
  | _ :: _, ⟨⟨D, h1, h2, h3, h4⟩, h5⟩ => ⟨⟨D, h1, h2, h _ h2 h3, h4⟩, h5.keep h⟩
theorem Marks.lt {n₀ : Nat} {W : World} : ∀ {ds : List Deferred}, Marks n₀ W ds → ∀ e ∈ ds, ∀ D, e.target = .collected D → D < W.heap.size
  | _ :: _, ⟨⟨D, h1, _, h3, _⟩, h5⟩, e, he, D', hD => by
    rcases List.mem_cons.1 he with rfl | he
    · subst h1; cases hD; exact (Array.getElem?_eq_some_iff.1 h3).1
    · exact h5.lt e he D' hD
theorem Marks.keepBut {n₀ : Nat} {W W' : World} (D : Nat) (hB : ∀ g, g ≠ D → W'.heap[g]? = W.heap[g]?) : ∀ {ds : List Deferred}, Marks n₀ W ds → (∀ e ∈ ds, ∀ D', e.target = .collected D' → D' < D) → Marks n₀ W' ds
  | [], _, _ => trivial
  | d :: _, ⟨⟨D1, h1, h2, h3, h4⟩, h5⟩, hlt => ⟨⟨D1, h1, h2, (hB _ (by have := hlt d (List.mem_cons_self ..) D1 (by rw [h1]); omega)).trans h3, h4⟩, h5.keepBut D hB fun e he => hlt e (List.mem_cons_of_mem _ he)⟩
/-- What all marks leave as it was. -/
def Shut (n₀ : Nat) (W W' : World) : Prop := Below n₀ W W' ∧ ∀ (g : Nat) cs t fz, W.heap[g]? = some (Obj.cells cs t fz) → W'.heap[g]? = some (Obj.cells cs t fz)
theorem Shut.refl (n₀ : Nat) (W : World) : Shut n₀ W W := ⟨Below.refl _ _, fun _ _ _ _ h => h⟩
theorem leave_marks {F : Fence} {n : Nat} {P : Program} {fn : Func} {tmps : Array Value} {R : Ending → World → Prop} {n₀ : Nat} : ∀ (ds : List Deferred) (W : World), Marks n₀ W ds → (∀ W', Shut n₀ W W' → LeavesIn F n P fn tmps R [] .returning W') → LeavesInM F n P fn tmps R ds .returning W
  | [], W, _, h => h W (Shut.refl _ _)
  | d :: ds, W, ⟨⟨D, h1, h2, h3, h4⟩, h5⟩, h => by
    subst h1
    refine ⟨by simp, .inl ⟨D, _, rfl, run_takeDeferred h3, ?_⟩⟩
    have ho : ∀ g, g ≠ D → (W.putObj D (.deferred none)).heap[g]? = W.heap[g]? := fun g hg => World.putObj_heap_other hg
    refine leave_marks ds _ (h5.keepBut D ho h4) fun W' hW' => h W' ⟨?_, ?_⟩
    · exact (belowK_b (w := { W with heap := W.heap.extract 0 n₀ }) (by simp; have := (Array.getElem?_eq_some_iff.1 h3).1; omega) W D _ _ (by simp; omega) h3 rfl rfl).trans hW'.1
    · intro g cs t fz hb
      refine hW'.2 g cs t fz ((ho g fun e => ?_).trans hb)
      subst e
      rw [h3] at hb; cases hb
section
variable {n₀ : Nat} {W W' : World}
theorem Shut.keep (h : Shut n₀ W W') : KeepW W W' := ⟨h.1.size, fun g cs hb => h.2 g cs _ _ hb⟩
theorem cells_of {W : World} {a : Addr} {u : Value} (h : W.cell? a = some u) : ∃ cs t fz, W.heap[a.block]? = some (Obj.cells cs t fz) := by
  unfold World.cell? at h
  cases hb : W.heap[a.block]? with
  | none => rw [hb] at h; cases h
  | some o =>
    rw [hb] at h
    cases o <;> simp_all
theorem Shut.row (h : Shut n₀ W W') {A : Option Addr} {cs : List Value} (hr : Row W A cs) : Row W' A cs := fun hn => by
  obtain ⟨g, off, hA, hg, hc⟩ := hr hn
  refine ⟨g, off, hA, Nat.lt_of_lt_of_le hg h.1.size, fun k u hu => ?_⟩
  have h1 := hc k u hu
  obtain ⟨cs', t, fz, hb⟩ := cells_of h1
  exact (World.cell?_of_block ((h.2 _ _ _ _ hb).trans hb.symm)).trans h1
theorem Shut.mat (h : Shut n₀ W W') {p C : Nat} {Ns : List Nat} (hm : IsMat W p C Ns) : IsMat W' p C Ns := by
  obtain ⟨h1, h2, A, c, vs, hB, hc, hr, hs⟩ := hm
  exact ⟨h1, h2, A, c, vs, h.2 _ _ _ _ hB, hc, h.row hr, hs.keep h.keep⟩
end
theorem KeepW.of_but {W W' : World} {r : Nat} {t : TypeId} {cs : Array Value} (h : But (some r) W W') (hr : Blk W r t cs) (ht : 105 ≠ t) : KeepW W W' :=
  ⟨h.1, fun g cs' hb => h.blk hb fun e => by cases e; exact hb.ne_ hr ht rfl⟩
theorem But.setCell (w : World) (p : Addr) (u : Value) : But (some p.block) w (w.setCell p u) := ⟨by simp [World.setCell], fun g _ hne => Below.heap_setCell w p u g fun e => hne (by rw [e])⟩
theorem KeepsOthers.of_below {W W' : World} (h : Below W.heap.size W W') : KeepsOthers W W' := ⟨h.size, fun k _ hk _ => (h.block k (Array.getElem?_eq_some_iff.1 hk).1).trans hk⟩
theorem own_kind {W : World} {base : Nat} {e : TypeId} {size : Nat} {v : Value} {n : Nat} {xs : List Value} (h : W.ownsRow base e size v n xs) (g : Nat) (hg : v.ownBlock = some g) : ∃ cs, Blk W g e cs := by
  rcases h.2 with ⟨rfl, _⟩ | ⟨g', cap, cur, rfl, _, hgb, _⟩
  · simp [Value.ownBlock] at hg
  · obtain rfl : g' = g := by simpa [Value.ownBlock] using hg
    exact ⟨_, hgb⟩
theorem Bld.but {W W' : World} {base q C r : Nat} {Ns : List Nat} {rv : Value} {vs : List Value} {cs : Array Value} (h : Bld base q C Ns W rv vs) (hb : But (some r) W W') (hr : Blk W r 65 cs) (hne : some r ≠ rv.ownBlock) : Bld base q C Ns W' rv vs := by
  refine ⟨hb.blk h.1 fun e => by cases e; exact h.1.ne_ hr (by decide) rfl, ?_, h.2.2.keep (KeepW.of_but hb hr (by decide))⟩
  obtain ⟨hl, h2⟩ := h.2.1
  refine ⟨hl, ?_⟩
  rcases h2 with h2 | ⟨g, cap, cur, hv, hg, hh, r2⟩
  · exact .inl h2
  · refine .inr ⟨g, cap, cur, hv, hg, (hb.2 g (Array.getElem?_eq_some_iff.1 hh).1 fun e => hne ?_).trans hh, r2⟩
    rw [hv]; exact e.symm
theorem Marks.others {n₀ : Nat} {W W' : World} (h : KeepsOthers W W') {ds : List Deferred} (hm : Marks n₀ W ds) : Marks n₀ W' ds := hm.keep fun g _ hg => h.same g _ hg rfl

/-- The union of some rows. -/
def prow (Ms : List Nat) (ks : List Nat) : Nat := ks.foldl (fun r k => r ||| Ms.getD k 0) 0
theorem prow_snoc (Ms ks : List Nat) (k : Nat) : prow Ms (ks ++ [k]) = prow Ms ks ||| Ms.getD k 0 := by simp [prow]
/-- The product, the first k rows. -/
def mprod (Ns Ms : List Nat) (k : Nat) : List Nat := (List.range k).map fun i => prow Ms (mems (Ns.getD i 0))
theorem mprod_succ (Ns Ms : List Nat) (k : Nat) : mprod Ns Ms (k + 1) = mprod Ns Ms k ++ [prow Ms (mems (Ns.getD k 0))] := by simp [mprod, List.range_succ]
theorem mprod_len (Ns Ms : List Nat) (k : Nat) : (mprod Ns Ms k).length = k := by simp [mprod]
theorem mem_rowsIn {C k x : Nat} {Ns : List Nat} (h : rowsIn C Ns) (hk : k < Ns.length) (hx : Ns[k].testBit x = true) : x < C := by
  have := h k hk
  rw [getD_at hk] at this
  have h2 := congrArg (fun n => n.testBit x) this
  simp only [Nat.testBit_and, testBit_lowN, hx, Bool.true_and, decide_eq_true_eq] at h2
  exact h2

set_option maxRecDepth 100000 in
set_option maxHeartbeats 2000000 in
theorem prod_any (p q C D : Nat) (Ns Ms : List Nat) (w : World) (h : IsMat w p C Ns) (h' : IsMat w q D Ms) (hC : C = Ms.length) (hin : rowsIn C Ns) (hT : Tab w) :
    Calls Tryd.prog 22 #[ptr p, ptr q] w fun e w' => ∃ b, e = pair (ptr b) 0 ∧ IsMat w' b D (mprod Ns Ms Ns.length) ∧ Below w.heap.size w w' := by
  obtain ⟨i0, hi0, hz0, hz1, hz2⟩ := info_parts info_set
  obtain ⟨h1, h2, A, c, vs, hB, hc, hr, hs⟩ := id h
  obtain ⟨h1', h2', A', c', vs', hB', hc', hr', hs'⟩ := id h'
  have e0 : ((C : Int) != ((Ms.length : Nat) : Int)) = false := by simp [hC]
  have HCM := Lib.hid hC; clear hC
  refine (callsIn_wide (n := 9)).1 (callsIn_of_wp_marks Tryd.func22 rfl trivial (wpIn_wide.2 ?_) rfl)
  simp only [Tryd.ntmps22, List.size_toArray, List.length_cons, List.length_nil, Nat.reduceAdd, Nat.reduceSub, Array.replicate_succ, Array.replicate_zero, List.push_toArray, List.append_toArray, List.nil_append, List.cons_append]
  go_wp2_with fail
  refine abs1 fun W0 hO0 hbel0 hz => ?_
  have HZ := Lib.hid hz; clear hz
  have o0 := hO0.cell 0
  have m0 := onB hbel0 (hB.cell 0)
  have m1 := onB hbel0 (hB.cell 1)
  have n1 := onB hbel0 (hB'.cell 1)
  have n0 := onB hbel0 (hB'.cell 0)
  refine wp_spine (fun W => Below W0.heap.size W0 W) [0, 1, 2, 3, 4, 5, 6, 7, 8, 9, 10, 11, 12, 13, 14, 15, 16, 17] [] (by kernel_rfl) (by kernel_rfl) ?_
  iterate 3 (refine wpE_op (v := ?_) rfl rfl (fun W hW => ?_) ?_; rotate_left; (go_simp; first | done | with_reducible rfl); simp only [Act.put, List.setIfInBounds_toArray, List.set_cons_zero, List.set_cons_succ])
  iterate 2 (refine wpE_yes (v := ?_) rfl (by rfl) (fun W hW => ?_) ?_; rotate_left; (have x1 := onB hW o0; go_simp; first | done | with_reducible rfl); simp only [Act.put, List.setIfInBounds_toArray, List.set_cons_zero, List.set_cons_succ])
  iterate 2 (refine wpE_op (v := ?_) rfl rfl (fun W hW => ?_) ?_; rotate_left; (go_simp; first | done | with_reducible rfl); simp only [Act.put, List.setIfInBounds_toArray, List.set_cons_zero, List.set_cons_succ])
  iterate 10 (refine wpE_yes (v := ?_) rfl (by rfl) (fun W hW => ?_) ?_; rotate_left; (have x1 := onB hW o0; have x2 := onB hW m0; have x3 := onB hW n1; go_simp; first | done | with_reducible rfl); simp only [Act.put, List.setIfInBounds_toArray, List.set_cons_zero, List.set_cons_succ])
  iterate 1 (refine wpE_op (v := ?_) rfl rfl (fun W hW => ?_) ?_; rotate_left; (go_simp; first | done | with_reducible rfl); simp only [Act.put, List.setIfInBounds_toArray, List.set_cons_zero, List.set_cons_succ])
  refine wpE_nil ⟨fun _ => (Below.refl _ _).drew, wpSp_nil ?_⟩
  have lB := Nat.lt_of_lt_of_le hB.lt hbel0.size
  have lO := hO0.lt
  have lB' := Nat.lt_of_lt_of_le hB'.lt hbel0.size
  go_wp2_with fail
  refine wp_loop (fun a' wr => ∃ (u8 u9 u10 u41 u42 u43 u44 u45 u46 u47 u48 u49 u50 u51 u52 u53 u54 u55 u56 u57 u58 u59 u60 u61 u62 u63 u64 u65 u66 : Value) (ds : List Deferred) (k : Nat), (k ≤ Ns.length ∧ (∃ rv us, Bld w.heap.size W0.heap.size D (mprod Ns Ms k) wr rv us) ∧ Below w.heap.size w wr ∧ Blk wr w.heap.size 30 #[ptr q] ∧ Marks w.heap.size wr ds) ∧
      a' = { tmps := #[ptr p, ptr q, undef, Value.pointer (some ⟨w.heap.size, 0, none⟩), Value.pointer none, .int .i64 0, Value.pointer (some ⟨W0.heap.size, 0, none⟩), undef, u8, u9, u10,
        ptr p, .bool false, .bool false, ptr q, .bool false, .bool false, .bool false, ptr p, .pointer (some ⟨p, 0, none⟩), .pointer (some ⟨p, 0, none⟩), .int .i64 (C : Int), ptr q, .pointer (some ⟨q, 0, none⟩), .pointer (some ⟨q, 1, none⟩),
        .slice A' Ms.length c', .int .i64 (Ms.length : Int), .bool false, .bool false, ptr q, .pointer (some ⟨q, 0, none⟩), .pointer (some ⟨q, 0, none⟩), .int .i64 (D : Int), .agg #[.int .i64 (D : Int), .slice none 0 0], .pointer (some ⟨W0.heap.size, 0, none⟩),
        ptr p, .pointer (some ⟨p, 0, none⟩), .pointer (some ⟨p, 1, none⟩), .slice A Ns.length c, .int .i64 (Ns.length : Int), .int .i64 (k : Int), u41, u42, u43, u44, u45, u46, u47, u48, u49, u50, u51, u52, u53, u54, u55, u56, u57, u58, u59, u60, u61, u62, u63, u64, u65, u66, undef], defers := ds })
    (fun a' _ => Ns.length - (intOf (a'.tmps.getD 40 undef)).toNat) ?_ ?_
  · refine ⟨_, _, _, _, _, _, _, _, _, _, _, _, _, _, _, _, _, _, _, _, _, _, _, _, _, _, _, _, _, [], 0, ⟨Nat.zero_le _, ⟨_, _, Bld.start _ _ _ _ (Blk.new _ _ _)⟩, (hbel0.alloc hbel0.size _).drew, (hO0.alloc _).drew, trivial⟩, rfl⟩
  rintro _ wr ⟨u8, u9, u10, u41, u42, u43, u44, u45, u46, u47, u48, u49, u50, u51, u52, u53, u54, u55, u56, u57, u58, u59, u60, u61, u62, u63, u64, u65, u66, ds, k, ⟨hk, ⟨rv, us, hbld⟩, hbel, hO, hM⟩, rfl⟩
  dsimp only
  by_cases hlt : k < Ns.length
  · obtain ⟨A1, c1, hv, hset⟩ := hs.at_ hlt
    obtain ⟨g, off, rfl, hg, hcell⟩ := hr (by rw [hs.1]; omega)
    have cv := onB hbel (hcell k _ hv)
    go_wp2_with fail
    refine absC2 fun W1 hS1 hR1 hbx hz1 => ?_
    refine (all_any A1 (nw Ns[k]) c1 W1).mono ?_
    rintro e w3 ⟨rfl, hw3⟩
    have hX := hw3 ▸ Blk.new W1 65 #[.slice A1 (nw Ns[k]) c1]
    have hbx3 : Below wr.heap.size wr w3 := by rw [hw3]; exact hbx.alloc hbx.size _
    have hR3 : Blk w3 (wr.heap.size + 1) 65 #[.slice none 0 0] := by rw [hw3]; exact hR1.alloc _
    have hz3 : w3.heap.size = wr.heap.size + 3 := by rw [hw3]; simp [hz1]
    clear hw3 hS1 hR1 hbx
    rw [hz1] at hX ⊢
    clear hz1
    have HZ3 := Lib.hid hz3; clear hz3
    have hbel3 := hbel.trans (hbx3.mono hbel.size)
    have hs3 := hset.below hbel3
    have hT3 := hT.below hbel3
    go_wp2_with fail
    have nR : some (wr.heap.size + 1) ≠ rv.ownBlock := fun e => by have := (hbld.2.1.lt _ e.symm).2; omega
    refine wp_rangeAll (v := .slice A1 (nw Ns[k]) c1) (N := Ns[k]) (Bx := wr.heap.size + 2) rfl (hX.cell 0) hs3 hT3 rfl
      (fun pre W => (∃ rv', Blk W (wr.heap.size + 1) 65 #[rv'] ∧ IsSet W rv' (prow Ms pre)) ∧ But (some (wr.heap.size + 1)) w3 W ∧ Below w.heap.size w W) (fun _ _ _ => False)
      ?hI (fun _ _ _ _ _ hs _ _ => hs) ?h0 ?a1 ?assign ?body ?done (fun _ _ _ _ _ h _ => h.elim)
    case assign =>
      intro l x W K hK
      gi_wp2
      exact hK
    case hI =>
      rintro s W W' row ⟨⟨rv', hb, hsr⟩, hbut, hbl⟩ hg hrow
      have hcells : ∀ (g : Nat) cs t fz, W.heap[g]? = some (Obj.cells cs t fz) → W'.heap[g]? = some (Obj.cells cs t fz) := fun g cs t fz hb => (hg.block g (Array.getElem?_eq_some_iff.1 hb).1 fun e => by
        obtain ⟨_, o, ho, hc⟩ := hrow g e.symm
        rw [ho] at hb; cases hb; cases hc).trans hb
      refine ⟨⟨rv', hcells _ _ _ _ hb, hsr.keep ⟨hg.size, fun g cs h => hcells _ _ _ _ h⟩⟩, ⟨Nat.le_trans hbut.1 hg.size, fun g hg' hne => (hg.block g (Nat.lt_of_lt_of_le hg' hbut.1) fun e => ?_).trans (hbut.2 g hg' hne)⟩, hbl.grown hg hbl.size fun k e => ?_⟩
      · have := (hrow g e.symm).1; omega
      · have := (hrow k e).1; have := hbel3.size; omega
    case h0 => exact ⟨⟨_, hR3, IsSet.empty _⟩, But.refl _ _, hbel3⟩
    case body =>
      rintro l pre x W hx ⟨⟨rv', hR, hsr⟩, hbut, hbl⟩ hlen hkp
      have hxM : x < Ms.length := by have := mem_rowsIn hin hlt hx; have := HCM.out; omega
      obtain ⟨A2, c2, hv', hset'⟩ := hs'.at_ hxM
      obtain ⟨g', off', rfl, hg', hcell'⟩ := hr' (by rw [hs'.1]; omega)
      have hsz := hbel.size
      have cv' := hbut.on (onB hbel3 (hcell' x _ hv')) (by simp; omega)
      have cO := hbut.on (onB hbx3 (hO.cell 0)) (by simp; omega)
      have cn := hbut.on (onB hbel3 (hB'.cell 1)) (by have := hB'.lt; simp; omega)
      have cR := hR.cell 0
      have lR := hR.lt
      have lg' := Nat.lt_of_lt_of_le hg' hbl.size
      have lO' := Nat.lt_of_lt_of_le (Blk.lt hO) (Nat.le_trans hbx3.size hbut.1)
      have lq' := Nat.lt_of_lt_of_le hB'.lt hbl.size
      have hcall := or_any _ _ _ _ W.drew (hsr.below (Below.refl _ _).drew) ((hset'.below hbl).below (Below.refl _ _).drew)
      have HC := hideC hcall; clear hcall
      gi_wp2_with fail
      refine wpIn_spine (fun V => Below W.heap.size W V) [0, 1, 2, 3, 4, 5, 6, 7] [8, 9] (fun _ => trivial) (by kernel_rfl) (by kernel_rfl) (by kernel_rfl) ?_
      iterate 8 (refine wpE_op (v := ?_) rfl rfl (fun W hW => ?_) ?_; rotate_left; (have x1 := onB hW cR; have x2 := onB hW cO; have x3 := onB hW cn; have x4 := onB hW cv'; go_simp; first | done | with_reducible rfl); simp only [Act.put, List.setIfInBounds_toArray, List.set_cons_zero, List.set_cons_succ])
      refine wpE_nil ⟨fun h => (by cases h), wpSpI_op rfl (Below.refl _ _).drew ?_⟩
      gi_wp2_with (refine ⟨trivial, ?_⟩; gi_at_call 63; refine (CallsIn.inRound l (callsIn_wide.2 HC.out)).mono ?_; rintro e w4 ⟨r, rfl, hsetr, hb4⟩; obtain ⟨A3, c3, rfl, _⟩ := id hsetr)
      have hb5 : Below W.heap.size W w4 := (Below.refl _ _).drew.trans hb4
      have hR4 := hR.below hb5 hR.lt
      have cR4 := hR4.cell 0
      have fR4 := hR4.frozen 0
      refine nxtI_op rfl hb5 ?_
      gi_wp2_with fail
      refine nxtI_nil ?_
      gi_wp2_with fail
      have hb6 := (hb5.mono hbl.size).setCell (p := ⟨wr.heap.size + 1, 0, none⟩) (by simp; omega) (.slice A3 (nw (prow Ms pre ||| Ms[x])) c3)
      have hk6 := (KeepW.of_below hb5).trans (KeepW.setCell (p := ⟨wr.heap.size + 1, 0, none⟩) hR4 (by decide) (.slice A3 (nw (prow Ms pre ||| Ms[x])) c3))
      exact ⟨((KeepsOthers.of_below hb5).trans (KeepsOthers.setCell _ _ _)).from _, KpA.mk_ hk6 hb6 hT.pos,
        ⟨_, hR4.set_ 0 _, by rw [prow_snoc, getD_at hxM]; exact hsetr.keep (KeepW.setCell (p := ⟨wr.heap.size + 1, 0, none⟩) hR4 (by decide) _)⟩, (hbut.below hb5).trans (But.setCell _ _ _), hbl.trans hb6⟩
    case done =>
      rintro Dk W hDk ⟨⟨rv', hR, hsr⟩, hbut, hbl⟩ hK
      obtain ⟨A3, c3, rfl, _⟩ := id hsr
      have hbldW := (hbld.below hbx3).but hbut hR3 nR
      have hsz := hbel.size
      have hsz0 := hbel0.size
      have hMW : Marks w.heap.size W ds := (hM.keep fun g _ hg => (hbx3.block g (Array.getElem?_eq_some_iff.1 hg).1).trans hg).keep fun g _ hg => (hbut.2 g (Array.getElem?_eq_some_iff.1 hg).1 fun e => by cases e; rw [hR3] at hg; cases hg).trans hg
      have hlt' : ∀ e ∈ ds, ∀ D', e.target = .collected D' → D' < Dk := fun e he D' hD' => by have := hM.lt e he D' hD'; have := HZ3.out; omega
      have hOW := hbut.blk (hO.below hbx3 hO.lt) (by simp; omega)
      have q1 := hbldW.1.cell 1
      have n1 := hbldW.ne
      have cR := hR.cell 0
      have hln := mprod_len Ns Ms k
      have hsw := hbl.size
      dsimp only
      go_wp2_with fail
      refine wp_spine (fun V => But rv.ownBlock W V) [0, 1, 2, 3, 4, 5] [6, 7, 8, 9, 10] (by kernel_rfl) (by kernel_rfl) ?_
      iterate 6 (refine wpE_op (v := ?_) rfl rfl (fun W hW => ?_) ?_; rotate_left; (have x1 := hW.on q1 n1; have x2 := hW.on cR nR; go_simp; first | done | with_reducible rfl); simp only [Act.put, List.setIfInBounds_toArray, List.set_cons_zero, List.set_cons_succ])
      refine wpE_nil ⟨fun h => (by cases h), wpSp_op rfl ((But.refl _ _).below (Below.refl _ _).drew) ?_⟩
      go_wp2_with fail
      have hb4 := (Below.refl W.heap.size W).drew.alloc (Nat.le_refl _) (.cells #[.slice A3 (nw (prow Ms (mems Ns[k]))) c3] 65)
      have hbld4 := hbldW.below hb4
      have hset4 := hsr.below hb4
      refine nxt_op rfl (.of_below hb4) ?_
      go_wp2_with (at_builtin; refine wpList_append_own _ rfl _ _ 62 rfl (w.heap.size) 65 i0 (.agg #[.slice none 0 0]) 1 24 Tryd.underlying62 hi0 hz0 hz1 hz2 rfl (by decide) _ _ _ rfl (hbld4.2.1) ⟨W.heap.size, 0, none⟩ 1 1 [.slice A3 (nw (prow Ms (mems Ns[k]))) c3] rfl rfl (cell_one_new _ _ _) (by simp [Value.oneCell']) (by unfold maxLen; omega) (by omega) (by simp; omega) ?_; intro v' w3 hown' hgrow _)
      obtain ⟨g5, cap5, rfl⟩ := ownsRow_succ hown'
      have hbut5 := (But.of_below hb4).trans (But.grown hgrow)
      have hbel5 := (hbl.trans (hb4.mono hbl.size)).grown hgrow (by simp; omega) (fun q hq => (hbld4.2.1.lt q hq).1)
      have q3 := hbut5.on q1 n1
      have f3 := hbut5.frozen q1 (hbldW.1.frozen 1) n1
      obtain ⟨hbld5, _⟩ := hbld4.push hset4 rfl rfl hown' hgrow
      have hKO : KeepsOthers W w3 := (KeepsOthers.of_below hb4).trans (KeepsOthers.of_grownBy hgrow fun j o ej ho => by
        obtain ⟨cs, h⟩ := own_kind hbld4.2.1 j ej
        rw [h] at ho; cases ho; rfl)
      rw [hln] at hbld5
      refine nxt_op rfl hbut5 ?_
      go_wp2_with fail
      refine nxt_op rfl hbut5 ?_
      go_wp2_with fail
      refine nxt_op rfl hbut5 ?_
      go_wp2_with fail
      refine nxt_nil ?_
      go_wp2_with fail
      have hO5 := (hbut5.blk hOW (own_ne hbldW.2.1 hOW (by decide))).far (p := ⟨W0.heap.size, 1, none⟩) (by have := HZ.out; simp; omega) (.slice (some ⟨g5, 0, none⟩) (k + 1) cap5)
      have hKO5 := hKO.trans (KeepsOthers.setCell w3 ⟨W0.heap.size, 1, none⟩ (.slice (some ⟨g5, 0, none⟩) (k + 1) cap5))
      rw [← getD_at hlt, ← mprod_succ] at hbld5
      have hM5 := hMW.others hKO5
      refine ⟨⟨_, _, _, _, _, _, _, _, _, _, _, _, _, _, _, _, _, _, _, _, _, _, _, _, _, _, _, _, _, { target := .collected Dk, args := #[] } :: ds, k + 1, ⟨by omega, ⟨_, _, hbld5⟩, hbel5.setCell (by simp; omega) _, hO5, ⟨⟨Dk, rfl, by have := HZ3.out; omega, hKO5.same _ _ hK rfl, hlt'⟩, hM5⟩⟩, rfl⟩, ?_⟩
      simp [intOf]; omega
  · obtain rfl : k = Ns.length := by omega
    have hm := hbld.mat h1' (by rw [mprod_len]; omega)
    go_wp2_with fail
    refine leave_marks ds wr hM fun W' hW' => ?_
    exact ⟨_, results_tmp2 rfl _ _ _, _, rfl, hW'.mat hm, hbel.trans hW'.1⟩
end Go.Proofs.YtjlcnbfkblmoeaaDoor
