import Derived.Test.YtjlcnbfkblmoeaaDoorAll
import Derived.Maps.AppendAt
namespace Go.Proofs.YtjlcnbfkblmoeaaDoor
open Go.RowKit
attribute [local go_sem] Oper.semAt_some
theorem info_int : (Tryd.prog.info? 3).map (fun i => (i.zero, i.size, i.bytes)) = some (some (.int .i64 0), 1, 8) := by kernel_rfl
abbrev i64 (x : Nat) : Value := .int .i64 (x : Int)
/-- 'make([]T, 0, n)' where T has one cell. -/
theorem make0_run {P : Program} (t e : TypeId) (z : Value) (bytes : Nat) (ht : P.underlying t = some (.slice e)) (hinfo : (P.info? e).map (fun i => (i.zero, i.size, i.bytes)) = some (some z, 1, bytes)) (hz1 : z.cells = #[z])
    (n : Nat) (hb : bytes * n ≤ 281474976710656) (hn : n ≤ 65536) (w : World) :
    (Instr.makeSlice t (.int .i64 0) (.int .i64 (n : Int))).run P w = .ok (.slice (some ⟨w.heap.size, 0, none⟩) 0 n) (w.alloc (.cells (zeros z n) e)) := by
  obtain ⟨i, hi, hz, hs, hby⟩ := info_parts hinfo
  have hb' : (i.bytes : Int) * (n : Int) ≤ 281474976710656 := by
    have h : ((i.bytes * n : Nat) : Int) ≤ 281474976710656 := by rw [hby]; omega
    rwa [Int.natCast_mul] at h
  have hr := run_make (P := P) w t e i z ht hi hz .i64 .i64 0 n (by omega) (by omega) hb' (by omega)
  simp only [Int.toNat_natCast, hs, hz1, Nat.mul_one, madeCells_one] at hr
  exact hr
/-- What a slice owns, as a row. -/
theorem row_of_own {w : World} {base : Nat} {e : TypeId} {v : Value} {n : Nat} {xs : List Value} (h : w.ownsRow base e 1 v n xs) : ∃ A c, v = .slice A n c ∧ n ≤ c ∧ c ≤ maxLen ∧ Row w A xs ∧ xs.length = n := by
  obtain ⟨hl, h⟩ := h
  rcases h with ⟨rfl, rfl⟩ | ⟨g, cap, cur, rfl, hg, hb, hnc, hm, hs, ht⟩
  · have : xs = [] := List.eq_nil_of_length_eq_zero (by omega)
    subst this
    exact ⟨none, 0, rfl, Nat.le_refl _, by decide, Row.empty _ _, rfl⟩
  · refine ⟨_, cap, rfl, hnc, hm, Row.of_blk (t := e) (cs := cur) hb fun k u hu => ?_, by omega⟩
    rw [← ht] at hu
    rw [List.getElem?_take] at hu
    split at hu
    · simpa using hu
    · cases hu
theorem pc_filter (N m : Nat) : pc m N = ((List.range m).filter N.testBit).length := by
  unfold pc; rw [List.countP_eq_length_filter]
theorem mems_len (N : Nat) : (mems N).length = card N := by
  unfold mems card; rw [mTo_map, pc_filter]
theorem card_le {N : Nat} (h : nw N ≤ 64) : card N ≤ 4096 := Nat.le_trans (pc_le _ _) (by omega)

theorem KeepW.grown {W w1 : World} {base : Nat} {e : TypeId} {size k : Nat} {v : Value} {xs : List Value} (hg : W.grownBy w1 v.ownBlock) (hrow : W.ownsRow base e size v k xs) (hne : 105 ≠ e) : KeepW W w1 :=
  ⟨hg.size, fun g cs h => (hg.block g h.lt fun ej => by
    rcases hrow.2 with ⟨rfl, _⟩ | ⟨g', cap, cur, rfl, _, hgb, _⟩
    · simp [Value.ownBlock] at ej
    · obtain rfl : g = g' := by simpa [Value.ownBlock] using ej
      exact Blk.ne_ (t := 105) (t' := e) h hgb hne rfl).trans h⟩
theorem KpA.mk_ {n₀ : Nat} {W W' : World} (hk : KeepW W W') (hb : Below n₀ W W') (h0 : 0 < n₀) : KpA W W' :=
  ⟨hk, fun t j hj => (hb.cell (p := ⟨0, j, none⟩) h0).trans (t j hj)⟩
theorem Tab.pos {w : World} (h : Tab w) : 0 < w.heap.size := Nat.lt_of_le_of_lt (Nat.zero_le _) (cell_lt (h 0 (by decide)))
theorem grown_alloc_row {w : World} {base : Nat} {e : TypeId} {size : Nat} {z : Value} (n : Nat) (hb : base ≤ w.heap.size) (hn : n ≤ maxLen) : (w.alloc (.cells (zeros z n) e)).ownsRow base e 1 (.slice (some ⟨w.heap.size, 0, none⟩) 0 n) 0 [] :=
  ⟨by simp, .inr ⟨_, _, _, rfl, hb, heap_alloc_new _ _, Nat.zero_le _, hn, by simp [zeros], by simp⟩⟩

set_option maxRecDepth 100000 in
set_option maxHeartbeats 1000000 in
theorem list_any (v : Value) (N : Nat) (w : World) (hs : IsSet w v N) (hT : Tab w) :
    Calls Tryd.prog 49 #[.agg #[v]] w fun e w' => ∃ A c, e = .returned (.slice A (mems N).length c) ∧ (mems N).length ≤ c ∧ c ≤ maxLen ∧ Row w' A ((mems N).map i64) ∧ Below w.heap.size w w' := by
  obtain ⟨A, c, rfl, hN, _⟩ := id hs
  obtain ⟨i0, hi0, hz0, hz1, hz2⟩ := info_parts info_int
  have hmk : ∀ W, _ := fun W => make0_run (P := Tryd.prog) 32 3 _ 8 Tryd.underlying32 info_int rfl (card N) (by have := card_le hN; omega) (by have := card_le hN; omega) W
  refine (callsIn_wide (n := 9)).1 (callsIn_of_wp_marks Tryd.func49 rfl trivial (wpIn_wide.2 ?_) rfl)
  simp only [Tryd.ntmps49, List.size_toArray, List.length_cons, List.length_nil, Nat.reduceAdd, Nat.reduceSub, Array.replicate_succ, Array.replicate_zero, List.push_toArray, List.append_toArray, List.nil_append, List.cons_append]
  go_wp2_with fail
  refine absC1 fun W0 hA0 hbel0 hz => ?_
  refine (len_any _ N _ (hs.below hbel0)).mono ?_
  rintro e w1 ⟨rfl, hb1⟩
  have hA1 := hA0.below hb1 hA0.lt
  have cA := hA1.cell 0
  have lA := hA1.lt
  go_wp2_with fail
  have hwb1 : Below w.heap.size w w1 := hbel0.trans (hb1.mono hbel0.size)
  have own0 := ((grown_alloc_row (z := .int .i64 0) (w := w1) (base := w.heap.size) (e := 3) (size := 1) (card N) hwb1.size (by have := card_le hN; unfold maxLen; omega)).alloc (.cells #[Value.slice (some ⟨w1.heap.size, 0, none⟩) 0 (card N)] 32)).alloc (.cells #[Value.slice A (nw N) c] 65)
  have hO3 := (Blk.new_ (w := w1.alloc (.cells (zeros (.int .i64 0) (card N)) 3)) (n := w1.heap.size + 1) (by simp) 32 #[Value.slice (some ⟨w1.heap.size, 0, none⟩) 0 (card N)]).alloc (.cells #[Value.slice A (nw N) c] 65)
  refine (all_any A (nw N) c _).mono ?_
  rintro e w3 ⟨rfl, rfl⟩
  have hX3 := Blk.new_ (n := w1.heap.size + 2) (w := (w1.alloc (.cells (zeros (.int .i64 0) (card N)) 3)).alloc (.cells #[Value.slice (some ⟨w1.heap.size, 0, none⟩) 0 (card N)] 32)) (by simp) 65 #[Value.slice A (nw N) c]
  have hw3 := ((hwb1.alloc hwb1.size (.cells (zeros (.int .i64 0) (card N)) 3)).alloc (by have := hwb1.size; simp; omega) (.cells #[Value.slice (some ⟨w1.heap.size, 0, none⟩) 0 (card N)] 32)).alloc (by have := hwb1.size; simp; omega) (.cells #[Value.slice A (nw N) c] 65)
  generalize hW3 : ((w1.alloc (.cells (zeros (.int .i64 0) (card N)) 3)).alloc (.cells #[Value.slice (some ⟨w1.heap.size, 0, none⟩) 0 (card N)] 32)).alloc (.cells #[Value.slice A (nw N) c] 65) = W3 at *
  have hs3 := hs.below hw3
  have hT3 := hT.below hw3
  have hz3 : W3.heap.size = w1.heap.size + 3 := by rw [← hW3]; simp
  clear hW3
  have HZ3 := Lib.hid hz3; clear hz3
  have hle : w.heap.size ≤ w1.heap.size + 1 := by have := hwb1.size; omega
  go_wp2_with fail
  refine wp_rangeAll (v := .slice A (nw N) c) (N := N) (Bx := w1.heap.size + 2) rfl (hX3.cell 0) hs3 hT3 rfl
    (fun pre W => (∃ u, Boxed W (w1.heap.size + 1) 32 u ∧ W.ownsRow w.heap.size 3 1 u pre.length (pre.map i64)) ∧ Below w.heap.size w W) (fun _ _ _ => False)
    ?hI (fun _ _ _ _ _ hs _ _ => hs) ?h0 ?a1 ?assign ?body ?done (fun _ _ _ _ _ h _ => h.elim)
  case assign =>
    intro l x W K hK
    gi_wp2
    exact hK
  case hI =>
    refine OwnFrom.and (Own.from ?_ _) (ownFrom_below (Nat.le_refl _) (by have := HZ3.out; omega))
    intro s W W' row hs hg hr
    obtain ⟨v, h1, h2, _⟩ := holdsRow_own w.heap.size (w1.heap.size + 1) 32 3 1 (fun pre : List Nat => pre.length) (fun pre => pre.map i64) (fun _ _ => True) s W W' row (by obtain ⟨u, a, b⟩ := hs; exact ⟨u, a, b, trivial⟩) hg hr
    exact ⟨v, h1, h2⟩
  case h0 => exact ⟨⟨_, hO3, own0⟩, hw3⟩
  case body =>
    rintro l pre x W hx ⟨⟨u, hv, hrow⟩, hB⟩ hlen hkp
    have hc := hv.cell
    gi_wp2_with (gi_at_builtin; refine wpListIn_append_own _ rfl _ _ 32 rfl w.heap.size 3 i0 (.int .i64 0) 1 8 Tryd.underlying32 hi0 hz0 hz1 hz2 rfl (by decide) _ _ _ rfl (hrow.alloc _) ⟨W.heap.size, 0, none⟩ 1 1 [.int .i64 x] rfl rfl (cell_one_new _ _ _) (by simp [Value.oneCell']) (by unfold maxLen; omega) (by omega) (by have := hB.size; simp; omega) ?_; intro v' w4 hown' hgrow _; obtain ⟨g', cap', rfl⟩ := ownsRow_succ hown'; have hkw := (KeepW.alloc W _).trans (KeepW.grown hgrow (hrow.alloc _) (by decide)); obtain ⟨hv1, hv2, hr2, hk2, hb2⟩ := hv.appended (by decide) hrow hB.size hle hown' hgrow; have hc1 := hv1.cell; have hf1 := hv1.frozen)
    exact ⟨hk2.from _, KpA.mk_ (hkw.trans (KeepW.setCell (p := ⟨w1.heap.size + 1, 0, none⟩) (t := 32) (cs := #[u]) hv1 (by decide) _)) hb2 hT.pos, ⟨_, hv2, by simpa using hr2⟩, hB.trans hb2⟩
  case done =>
    rintro D W hD ⟨⟨u, hv, hrow⟩, hB⟩ hK
    have hc := hv.cell
    go_wp2_with fail
    refine ⟨by simp, .inl ⟨_, _, rfl, run_takeDeferred hK, ?_⟩⟩
    obtain ⟨A', c', rfl, h1, h2, h3, h4⟩ := row_of_own (ownsRow_putObj hrow (.deferred none) hK rfl)
    exact ⟨_, results_tmp rfl _ _ _, A', c', rfl, h1, h2, h3, hB.trans (belowK_b (w := w) (Nat.le_refl _) W D _ _ (by have := HZ3.out; have := hwb1.size; omega) hK rfl rfl)⟩
end Go.Proofs.YtjlcnbfkblmoeaaDoor
