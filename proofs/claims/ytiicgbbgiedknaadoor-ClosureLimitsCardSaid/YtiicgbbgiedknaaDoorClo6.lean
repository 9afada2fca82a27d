/-
  closure.least: whether every column of a set is needed for its rows.
-/
import Derived.Test.YtiicgbbgiedknaaDoorClo5
namespace Go.Proofs.YtiicgbbgiedknaaDoor
open Go.RowKit
attribute [local go_sem] Oper.semAt_some

theorem absC4 {P : Program} {w : World} {f : FuncId} {args : Array Value} {R : Ending → World → Prop} {c1 c2 c3 c4 : Array Value} {t1 t2 t3 t4 : TypeId} (h : ∀ W, Blk W w.heap.size t1 c1 → Blk W (w.heap.size + 1) t2 c2 → Blk W (w.heap.size + 2) t3 c3 → Blk W (w.heap.size + 3) t4 c4 → Below w.heap.size w W → W.heap.size = w.heap.size + 4 → Calls P f args W R) :
    Calls P f args ((((w.alloc (.cells c1 t1)).alloc (.cells c2 t2)).alloc (.cells c3 t3)).alloc (.cells c4 t4)) R :=
  h _ ((((Blk.new _ _ _).alloc _).alloc _).alloc _) (((Blk.new_ (by simp) _ _).alloc _).alloc _) ((Blk.new_ (by simp) _ _).alloc _) (Blk.new_ (by simp) _ _) (((((Below.refl _ _).alloc (Nat.le_refl _) _).alloc (by simp) _).alloc (by simp; omega) _).alloc (by simp; omega) _) (by simp)
def leastB (C : Nat) (Ns : List Nat) (S T : Nat) : Bool := (mems S).all fun j => !decide (havN C Ns (withoutB S (j : Nat)) = T)
set_option maxRecDepth 100000 in
set_option maxHeartbeats 4000000 in
theorem least_any (m : Option Addr) (C : Nat) (Ns : List Nat) (v u : Value) (S T : Nat) (w : World) (h : IsMV w m C Ns) (hs : IsSet w v S) (hu : IsSet w u T) (hT : Tab w) :
    Calls Tryd.prog 46 #[.pointer m, .agg #[v], .agg #[u]] w fun e w' => e = .returned (.bool (leastB C Ns S T)) ∧ Below w.heap.size w w' := by
  obtain ⟨hC, hR⟩ := h.bd
  obtain ⟨Av, cv, rfl, _⟩ := id hs
  obtain ⟨Au, cu, rfl, _⟩ := id hu
  refine (callsIn_wide (n := 9)).1 (callsIn_of_wp_marks Tryd.func46 rfl trivial (wpIn_wide.2 ?_) rfl)
  simp only [Tryd.ntmps46, List.size_toArray, List.length_cons, List.length_nil, Nat.reduceAdd, Nat.reduceSub, Array.replicate_succ, Array.replicate_zero, List.push_toArray, List.append_toArray, List.nil_append, List.cons_append]
  go_wp2_with fail
  refine absC4 fun W3 hM3 hS3 hU3 hO3 hb3 hz3 => ?_
  refine (all_any Av (nw S) cv W3).mono ?_
  rintro e w4 ⟨rfl, hw4⟩
  have hY := hw4 ▸ Blk.new W3 25 #[.slice Av (nw S) cv]
  have hb4 : Below W3.heap.size W3 w4 := by rw [hw4]; exact (Below.refl _ _).alloc (Nat.le_refl _) _
  have b4 := hb3.trans (hb4.mono hb3.size)
  have hM4 := hM3.below hb4 hM3.lt
  have hS4 := hS3.below hb4 hS3.lt
  have hU4 := hU3.below hb4 hU3.lt
  have hO4 := hO3.below hb4 hO3.lt
  have hs4 := hs.below b4
  have hT4 := hT.below b4
  have hsz4 : w4.heap.size = w.heap.size + 5 := by rw [hw4]; simp [hz3]
  rw [hz3] at hY ⊢
  clear hw4 hM3 hS3 hU3 hO3
  have HSZ := Lib.hid hsz4
  have HZ3 := Lib.hid hz3
  clear hsz4 hz3
  have hOwn : ∀ (F : List Nat → Prop), OwnFrom w4.heap.size (fun (pre : List Nat) W => F pre ∧ (∃ cb, Blk W (w.heap.size + 3) 4 #[.bool cb]) ∧ But (some (w.heap.size + 3)) w4 W ∧ Below w.heap.size w W) := by
    rintro F s W W' row ⟨hF, ⟨cb, hb⟩, hbut, hbl⟩ hg hrow
    have hcells : ∀ (g : Nat) cs t fz, W.heap[g]? = some (Obj.cells cs t fz) → W'.heap[g]? = some (Obj.cells cs t fz) := fun g cs t fz hb => (hg.block g (Array.getElem?_eq_some_iff.1 hb).1 fun e => by
      obtain ⟨_, o, ho, hc⟩ := hrow g e.symm
      rw [ho] at hb; cases hb; cases hc).trans hb
    refine ⟨hF, ⟨cb, hcells _ _ _ _ hb⟩, ⟨Nat.le_trans hbut.1 hg.size, fun g hg' hne => (hg.block g (Nat.lt_of_lt_of_le hg' hbut.1) fun e => ?_).trans (hbut.2 g hg' hne)⟩, hbl.grown hg hbl.size fun k e => ?_⟩
    · have := (hrow g e.symm).1; omega
    · have := (hrow k e).1; have := b4.size; omega
  go_wp2_with fail
  refine wp_rangeAll (v := .slice Av (nw S) cv) (N := S) (Bx := w.heap.size + 4) rfl (hY.cell 0) hs4 hT4 rfl
    (fun pre W => (∀ j ∈ pre, havN C Ns (withoutB S (j : Nat)) ≠ T) ∧ (∃ cb, Blk W (w.heap.size + 3) 4 #[.bool cb]) ∧ But (some (w.heap.size + 3)) w4 W ∧ Below w.heap.size w W)
    (fun c pre W => (c = .ret ∧ leastB C Ns S T = false ∧ Blk W (w.heap.size + 3) 4 #[.bool false]) ∧ (∃ cb, Blk W (w.heap.size + 3) 4 #[.bool cb]) ∧ But (some (w.heap.size + 3)) w4 W ∧ Below w.heap.size w W)
    (hOwn _) ?hIx ?h0 ?a1 ?assign ?body ?done ?stop
  case assign =>
    intro l x W K hK
    gi_wp2
    exact hK
  case hIx =>
    rintro c s W W' row ⟨⟨hc, hl, hB⟩, hr⟩ hg hrow
    refine ⟨⟨hc, hl, ?_⟩, (hOwn (fun _ => True) s W W' row ⟨trivial, hr⟩ hg hrow).2⟩
    exact (hg.block _ hB.lt fun e => by
      obtain ⟨_, o, ho, hc⟩ := hrow _ e.symm
      unfold Blk at hB; rw [ho] at hB; cases hB; cases hc).trans hB
  case h0 => exact ⟨fun j hj => by simp at hj, ⟨_, hO4⟩, But.refl _ _, b4⟩
  case body =>
    rintro l pre x W hx ⟨hpre, ⟨cb, hB⟩, hbut, hbl⟩ hlen hkp
    have cM := hbut.on (hM4.cell 0) (by simp)
    have cS := hbut.on (hS4.cell 0) (by simp)
    have cU := hbut.on (hU4.cell 0) (by simp)
    have lM := cell_lt cM
    have lS := cell_lt cS
    have lU := cell_lt cU
    have lB := hB.lt
    have hmv := h.below hbl
    have hd : Below W.heap.size W W.drew := (Below.refl _ _).drew
    have HW := hideC (without_any _ S (x : Nat) W.drew ((hs.below hbl).below hd))
    obtain ⟨sx, hsx⟩ : ∃ n, n = withoutB S (x : Nat) := ⟨_, rfl⟩
    rw [← hsx] at HW
    have HSX := Lib.hid hsx
    clear hsx
    gi_wp2_with fail
    refine wpIn_spine (fun V => Below W.heap.size W V) [0, 1, 2, 5] [3, 4, 6] (fun _ => trivial) (by kernel_rfl) (by kernel_rfl) (by kernel_rfl) ?_
    iterate 4 (refine wpE_op (v := ?_) rfl rfl (fun W hW => ?_) ?_; rotate_left; (have x1 := onB hW cM; have x2 := onB hW cS; have x3 := onB hW cU; go_simp; first | done | with_reducible rfl); simp only [Act.put, List.setIfInBounds_toArray, List.set_cons_zero, List.set_cons_succ])
    refine wpE_nil ⟨fun h => (by cases h), wpSpI_op rfl hd ?_⟩
    gi_wp2_with (refine ⟨trivial, ?_⟩; gi_at_call 64; refine (CallsIn.inRound l (callsIn_wide.2 HW.out)).mono ?_; rintro e w6 ⟨r1, rfl, hr1, hb6⟩; obtain ⟨A6, c6, rfl, _⟩ := id hr1)
    have hb6' := hd.trans (hb6.mono hd.size)
    have HV := hideC (having_any m C Ns _ sx w6 (hmv.below hb6') hr1 ((hT.below hbl).below hb6'))
    obtain ⟨rx, hrx⟩ : ∃ n, n = havN C Ns sx := ⟨_, rfl⟩
    rw [← hrx] at HV
    have HRX := Lib.hid hrx
    clear hrx
    refine nxtI_op rfl hb6' ?_
    gi_wp2_with (refine ⟨trivial, ?_⟩; gi_at_call 19; refine (CallsIn.inRound l (callsIn_wide.2 HV.out)).mono ?_; rintro e w7 ⟨r2, rfl, hr2, hb7⟩; obtain ⟨A7, c7, rfl, _⟩ := id hr2)
    have hb7' := hb6'.trans (hb7.mono hb6'.size)
    have HE := hideC (equal_any _ _ _ _ w7 hr2 ((hu.below hbl).below hb7'))
    refine nxtI_op rfl hb7' ?_
    by_cases hyes : rx = T
    · rw [decide_eq_true hyes] at HE
      have HYES := Lib.hid hyes
      clear hyes
      gi_wp2_with (refine ⟨trivial, ?_⟩; gi_at_call 26; refine (CallsIn.inRound l (callsIn_wide.2 HE.out)).mono ?_; rintro e w8 ⟨rfl, hb8⟩)
      have hb8' := hb7'.trans (hb8.mono hb7'.size)
      refine nxtI_nil ?_
      have hB8 := hB.below hb8' hB.lt
      have cB8 := hB8.cell 0
      have fB8 := hB8.frozen 0
      have hno : leastB C Ns S T = false := by
        unfold leastB
        rw [List.all_eq_false]
        exact ⟨x, mem_mems.2 hx, by simp [← HSX.out, ← HRX.out, HYES.out]⟩
      have HNO := Lib.hid hno
      clear hno
      gi_wp2_with fail
      have hBX := hB8.set_ 0 (.bool false)
      have hb9 := (hb8'.mono hbl.size).setCell (p := ⟨w.heap.size + 3, 0, none⟩) (by show w.heap.size ≤ w.heap.size + 3; omega) (.bool false)
      exact ⟨((KeepsOthers.of_below hb8').trans (KeepsOthers.setCell _ _ _)).from _, ⟨rfl, HNO.out, hBX⟩, ⟨_, hBX⟩, (hbut.below hb8').trans (But.setCell _ _ _), hbl.trans hb9⟩
    · rw [decide_eq_false hyes] at HE
      have HYES := Lib.hid hyes
      clear hyes
      gi_wp2_with (refine ⟨trivial, ?_⟩; gi_at_call 26; refine (CallsIn.inRound l (callsIn_wide.2 HE.out)).mono ?_; rintro e w8 ⟨rfl, hb8⟩)
      have hb8' := hb7'.trans (hb8.mono hb7'.size)
      refine nxtI_nil ?_
      gi_wp2_with fail
      refine ⟨(KeepsOthers.of_below hb8').from _, KpA.of_below hb8', fun j hj => ?_, ⟨_, hB.below hb8' hB.lt⟩, hbut.below hb8', hbl.trans (hb8'.mono hbl.size)⟩
      rcases List.mem_append.1 hj with hj | hj
      · exact hpre j hj
      · rw [List.mem_singleton.1 hj, ← HSX.out, ← HRX.out]; exact HYES.out
  case done =>
    rintro D W hD ⟨hall, ⟨cb, hB⟩, hbut, hbl⟩ hK
    have hyes : leastB C Ns S T = true := by
      unfold leastB
      rw [List.all_eq_true]
      intro j hj
      simp [hall j hj]
    have HYE := Lib.hid hyes
    clear hyes hall
    have cB := hB.cell 0
    have fB := hB.frozen 0
    have lB := hB.lt
    go_wp2_with fail
    have hBX := hB.set_ 0 (.bool true)
    have hbX := hbl.setCell (p := ⟨w.heap.size + 1 + 1 + 1, 0, none⟩) (by show w.heap.size ≤ w.heap.size + 1 + 1 + 1; omega) (.bool true)
    have hKX := (KeepsOthers.setCell W ⟨w.heap.size + 1 + 1 + 1, 0, none⟩ (.bool true)).same _ _ hK rfl
    refine leave_marks (n₀ := w.heap.size) [{ target := .collected D, args := #[] }] _ ⟨⟨D, rfl, by have := b4.size; omega, hKX, fun e he => by cases he⟩, trivial⟩ fun W' hW' => ?_
    have hBB : Blk W' (w.heap.size + 1 + 1 + 1) 4 _ := hW'.2 _ _ _ _ hBX
    have cX := hBB.cell 0
    exact ⟨.bool true, by simp [results, Tryd.results46, go_sem, cX], by rw [HYE.out], hbX.trans hW'.1⟩
  case stop =>
    rintro D c pre W hD ⟨⟨rfl, hno, hB⟩, _, hbut, hbl⟩ hK
    have HNO := Lib.hid hno
    clear hno
    go_wp2_with fail
    refine leave_marks (n₀ := w.heap.size) [{ target := .collected D, args := #[] }] _ ⟨⟨D, rfl, by have := b4.size; omega, hK, fun e he => by cases he⟩, trivial⟩ fun W' hW' => ?_
    have hBB : Blk W' (w.heap.size + 1 + 1 + 1) 4 _ := hW'.2 _ _ _ _ hB
    have cX := hBB.cell 0
    exact ⟨.bool false, by simp [results, Tryd.results46, go_sem, cX], by rw [HNO.out], hbl.trans hW'.1⟩
end Go.Proofs.YtiicgbbgiedknaaDoor
