/-
  slices.ContainsFunc over cells, at whatever predicate; the closures of rank.node and rank.Fool.
-/
import Derived.Test.YtgpooflcbljidaaDoorRn1
namespace Go.Proofs.YtgpooflcbljidaaDoor
open Go.RowKit

set_option maxRecDepth 100000 in
set_option maxHeartbeats 2000000 in
theorem index_node (cp fv : Value) (hfv : fv = .func (.func 94) #[] #[cp]) (p : Int × Int → Bool) (v : Value) (l : List (Int × Int)) (w : World) (hp : IsPairs w v l)
    (hf : ∀ W, Below w.heap.size w W → ∀ c, Calls Tryd.prog 94 #[.agg #[.int .i64 c.1, .int .i64 c.2], cp] W fun e w' => e = .returned (.bool (p c)) ∧ Below W.heap.size W w') :
    Calls Tryd.prog 108 #[v, fv] w fun e w' => ∃ r : Int, e = .returned (.int .i64 r) ∧ decide (0 ≤ r) = l.any p ∧ Below w.heap.size w w' := by
  obtain ⟨A, c, rfl, hrow, hlc, hlm⟩ := hp
  have HF := Lib.hid hf
  clear hf
  go_enter Tryd.func108, Tryd.ntmps108
  go_wp2_with fail
  refine wp_loopF (β := Nat) (fun i f => #[.slice A l.length c, fv, f 2, f 3, .int .i64 0, f 5, f 6, .int .i64 (l.length : Int), .int .i64 (i : Int), f 9, f 10, f 11, f 12, f 13, f 14, f 15, f 16, f 17, f 18])
    (fun i ds W => i ≤ l.length ∧ ds = [] ∧ Below w.heap.size w W ∧ (l.take i).any p = false) (fun i => l.length - i) 0 rfl
    ⟨Nat.zero_le _, rfl, Below.refl _ _, by simp⟩ ?_
  rintro i f ds W ⟨hi, rfl, hb, hno⟩
  dsimp only at hi ⊢
  have HN := Lib.hid hno
  clear hno
  by_cases hlt : i < l.length
  · obtain ⟨a, ha⟩ : ∃ a, l[i]? = some a := ⟨_, List.getElem?_eq_getElem hlt⟩
    obtain ⟨g, off, rfl, hg, c0, c1⟩ := row_pairs (hrow.below hb) ha
    have hc := HF.out W hb a
    obtain ⟨x, hx⟩ : ∃ x, x = p a := ⟨_, rfl⟩
    rw [← hx] at hc
    have HC := hideC hc
    have htk : (l.take (i + 1)).any p = x := by
      rw [List.take_add_one, List.any_append, HN.out, ha, hx]; simp
    have HT := Lib.hid htk
    clear hc htk hx
    have HA := Lib.hid ha
    clear ha
    subst hfv
    go_wp2_with fail
    refine HC.out.mono ?_
    rintro e w1 ⟨rfl, hb1⟩
    have k1 := hb.trans (hb1.mono hb.size)
    cases x with
    | true =>
      go_wp2_with fail
      go_ret
      refine ⟨(i : Int), rfl, ?_, k1⟩
      rw [decide_eq_true (by omega), eq_comm, List.any_eq_true]
      have := HT.out
      rw [List.any_eq_true] at this
      obtain ⟨y, hy, hp⟩ := this
      exact ⟨y, List.mem_of_mem_take hy, hp⟩
    | false =>
      go_wp2_with fail
      exact ⟨i + 1, rfl, ⟨by omega, by first | rfl | trivial, k1, HT.out⟩, by omega⟩
  · obtain rfl : i = l.length := by omega
    have hn := HN.out
    rw [List.take_length] at hn
    have HN2 := Lib.hid hn
    clear hn
    go_wp2_with fail
    go_ret
    exact ⟨-1, rfl, by rw [HN2.out]; rfl, hb⟩
set_option maxRecDepth 100000 in
set_option maxHeartbeats 2000000 in
theorem contains_node (cp : Value) (p : Int × Int → Bool) (v : Value) (l : List (Int × Int)) (w : World) (hp : IsPairs w v l)
    (hf : ∀ W, Below w.heap.size w W → ∀ c, Calls Tryd.prog 94 #[.agg #[.int .i64 c.1, .int .i64 c.2], cp] W fun e w' => e = .returned (.bool (p c)) ∧ Below W.heap.size W w') :
    Calls Tryd.prog 78 #[v, .func (.func 94) #[] #[cp]] w fun e w' => e = .returned (.bool (l.any p)) ∧ Below w.heap.size w w' := by
  have HI := hideC (index_node cp _ rfl p v l w hp hf)
  obtain ⟨x, hx⟩ : ∃ x, x = l.any p := ⟨_, rfl⟩
  rw [← hx] at HI ⊢
  clear hx
  obtain ⟨A, c, rfl, _⟩ := id hp
  go_enter Tryd.func78, Tryd.ntmps78
  go_wp2_with fail
  refine HI.out.mono ?_
  rintro e w1 ⟨r, rfl, hr, hb⟩
  have HR := Lib.hid hr
  clear hr
  go_wp2_with fail
  go_ret
  exact ⟨ret_bool HR.out, hb⟩
set_option maxRecDepth 100000 in
set_option maxHeartbeats 2000000 in
theorem index_fool (cp fv : Value) (hfv : fv = .func (.func 79) #[] #[cp]) (p : Int × Int → Bool) (v : Value) (l : List (Int × Int)) (w : World) (hp : IsPairs w v l)
    (hf : ∀ W, Below w.heap.size w W → ∀ c, Calls Tryd.prog 79 #[.agg #[.int .i64 c.1, .int .i64 c.2], cp] W fun e w' => e = .returned (.bool (p c)) ∧ Below W.heap.size W w') :
    Calls Tryd.prog 108 #[v, fv] w fun e w' => ∃ r : Int, e = .returned (.int .i64 r) ∧ decide (0 ≤ r) = l.any p ∧ Below w.heap.size w w' := by
  obtain ⟨A, c, rfl, hrow, hlc, hlm⟩ := hp
  have HF := Lib.hid hf
  clear hf
  go_enter Tryd.func108, Tryd.ntmps108
  go_wp2_with fail
  refine wp_loopF (β := Nat) (fun i f => #[.slice A l.length c, fv, f 2, f 3, .int .i64 0, f 5, f 6, .int .i64 (l.length : Int), .int .i64 (i : Int), f 9, f 10, f 11, f 12, f 13, f 14, f 15, f 16, f 17, f 18])
    (fun i ds W => i ≤ l.length ∧ ds = [] ∧ Below w.heap.size w W ∧ (l.take i).any p = false) (fun i => l.length - i) 0 rfl
    ⟨Nat.zero_le _, rfl, Below.refl _ _, by simp⟩ ?_
  rintro i f ds W ⟨hi, rfl, hb, hno⟩
  dsimp only at hi ⊢
  have HN := Lib.hid hno
  clear hno
  by_cases hlt : i < l.length
  · obtain ⟨a, ha⟩ : ∃ a, l[i]? = some a := ⟨_, List.getElem?_eq_getElem hlt⟩
    obtain ⟨g, off, rfl, hg, c0, c1⟩ := row_pairs (hrow.below hb) ha
    have hc := HF.out W hb a
    obtain ⟨x, hx⟩ : ∃ x, x = p a := ⟨_, rfl⟩
    rw [← hx] at hc
    have HC := hideC hc
    have htk : (l.take (i + 1)).any p = x := by
      rw [List.take_add_one, List.any_append, HN.out, ha, hx]; simp
    have HT := Lib.hid htk
    clear hc htk hx
    have HA := Lib.hid ha
    clear ha
    subst hfv
    go_wp2_with fail
    refine HC.out.mono ?_
    rintro e w1 ⟨rfl, hb1⟩
    have k1 := hb.trans (hb1.mono hb.size)
    cases x with
    | true =>
      go_wp2_with fail
      go_ret
      refine ⟨(i : Int), rfl, ?_, k1⟩
      rw [decide_eq_true (by omega), eq_comm, List.any_eq_true]
      have := HT.out
      rw [List.any_eq_true] at this
      obtain ⟨y, hy, hp⟩ := this
      exact ⟨y, List.mem_of_mem_take hy, hp⟩
    | false =>
      go_wp2_with fail
      exact ⟨i + 1, rfl, ⟨by omega, by first | rfl | trivial, k1, HT.out⟩, by omega⟩
  · obtain rfl : i = l.length := by omega
    have hn := HN.out
    rw [List.take_length] at hn
    have HN2 := Lib.hid hn
    clear hn
    go_wp2_with fail
    go_ret
    exact ⟨-1, rfl, by rw [HN2.out]; rfl, hb⟩
set_option maxRecDepth 100000 in
set_option maxHeartbeats 2000000 in
theorem contains_fool (cp : Value) (p : Int × Int → Bool) (v : Value) (l : List (Int × Int)) (w : World) (hp : IsPairs w v l)
    (hf : ∀ W, Below w.heap.size w W → ∀ c, Calls Tryd.prog 79 #[.agg #[.int .i64 c.1, .int .i64 c.2], cp] W fun e w' => e = .returned (.bool (p c)) ∧ Below W.heap.size W w') :
    Calls Tryd.prog 78 #[v, .func (.func 79) #[] #[cp]] w fun e w' => e = .returned (.bool (l.any p)) ∧ Below w.heap.size w w' := by
  have HI := hideC (index_fool cp _ rfl p v l w hp hf)
  obtain ⟨x, hx⟩ : ∃ x, x = l.any p := ⟨_, rfl⟩
  rw [← hx] at HI ⊢
  clear hx
  obtain ⟨A, c, rfl, _⟩ := id hp
  go_enter Tryd.func78, Tryd.ntmps78
  go_wp2_with fail
  refine HI.out.mono ?_
  rintro e w1 ⟨r, rfl, hr, hb⟩
  have HR := Lib.hid hr
  clear hr
  go_wp2_with fail
  go_ret
  exact ⟨ret_bool HR.out, hb⟩
/-! The closures. -/
def hasO (Os : List Nat) (i j : Int) : Bool := decide (0 ≤ i) && decide (i < Os.length) && hasB (Os.getD i.toNat 0) j
/-- A row of sets, held in a variable of its own. -/
def IsOpen (w : World) (g : Nat) (Os : List Nat) : Prop := ∃ A c vs, Blk w g 61 #[.slice A Os.length c] ∧ Row w A vs ∧ Sets w vs Os ∧ Os.length ≤ c
theorem IsOpen.below {w w' : World} {g : Nat} {Os : List Nat} (h : IsOpen w g Os) (hb : Below w.heap.size w w') : IsOpen w' g Os := by
  obtain ⟨A, c, vs, h1, h2, h3, h4⟩ := h
  exact ⟨A, c, vs, h1.below hb h1.lt, h2.below hb, h3.below hb, h4⟩
set_option maxRecDepth 100000 in
set_option maxHeartbeats 2000000 in
theorem hasO_any (g : Nat) (Os : List Nat) (i j : Int) (w : World) (h : IsOpen w g Os) :
    Calls Tryd.prog 93 #[.int .i64 i, .int .i64 j, .pointer (some ⟨g, 0, none⟩)] w fun e w' => e = .returned (.bool (hasO Os i j)) ∧ Below w.heap.size w w' := by
  obtain ⟨A, c, vs, hB, hr, hs, _⟩ := h
  have b0 := hB.cell 0
  by_cases h0 : 0 ≤ i
  · obtain ⟨n, rfl⟩ := Int.eq_ofNat_of_zero_le h0
    by_cases h1 : n < Os.length
    · have hv : n < vs.length := by rw [hs.1]; exact h1
      obtain ⟨v, hvx⟩ : ∃ v, vs[n]? = some v := ⟨_, List.getElem?_eq_getElem hv⟩
      have sv := hs.2 n v _ hvx (List.getElem?_eq_getElem h1)
      obtain ⟨Av, cv, rfl, _⟩ := id sv
      obtain ⟨g1, o1, rfl, hg1, hc1⟩ := hr (by omega)
      have d1 := hc1 n _ hvx
      have hh := has_any _ _ j w sv
      have e : hasO Os (n : Int) j = hasB Os[n] j := by
        unfold hasO
        rw [decide_eq_true (by omega), decide_eq_true (by omega), Int.toNat_natCast, List.getD_eq_getElem?_getD, List.getElem?_eq_getElem h1]; rfl
      rw [e]
      generalize hasB Os[n] j = x at hh ⊢
      have HH := hideC hh
      clear hh e sv hvx hc1 hv
      generalize nw Os[n] = q at HH d1
      go_enter Tryd.func93, Tryd.ntmps93
      go_wp2_with fail
      refine HH.out.mono ?_
      rintro e w1 ⟨rfl, hb⟩
      go_wp2_with fail
      go_ret
      exact ⟨rfl, hb⟩
    · have e : hasO Os (n : Int) j = false := by
        unfold hasO
        rw [decide_eq_false (show ¬ ((n : Int) < (Os.length : Int)) by omega), Bool.and_false]; rfl
      rw [e]
      clear e
      go_enter Tryd.func93, Tryd.ntmps93
      go_wp2_with fail
      go_ret
      exact ⟨rfl, Below.refl _ _⟩
  · have e : hasO Os i j = false := by
      unfold hasO
      rw [decide_eq_false h0]; rfl
    rw [e]
    clear e
    go_enter Tryd.func93, Tryd.ntmps93
    go_wp2_with fail
    go_ret
    exact ⟨rfl, Below.refl _ _⟩
set_option maxRecDepth 100000 in
set_option maxHeartbeats 2000000 in
theorem node2_any (g q : Nat) (t : TypeId) (Os : List Nat) (c : Int × Int) (w : World) (h : IsOpen w g Os) (hq : Blk w q t #[.func (.func 93) #[] #[.pointer (some ⟨g, 0, none⟩)]]) :
    Calls Tryd.prog 94 #[.agg #[.int .i64 c.1, .int .i64 c.2], .pointer (some ⟨q, 0, none⟩)] w fun e w' => e = .returned (.bool (!hasO Os c.1 c.2)) ∧ Below w.heap.size w w' := by
  have HH := Lib.hid (fun W hb => hasO_any g Os c.1 c.2 W (h.below hb))
  have q0 := hq.cell 0
  have lq := hq.lt
  go_enter Tryd.func94, Tryd.ntmps94
  go_wp2_with fail
  refine absC1 fun W0 hA hb0 hz => ?_
  refine (HH.out W0 hb0).mono ?_
  rintro e w1 ⟨rfl, hb⟩
  go_wp2_with fail
  go_ret
  exact ⟨rfl, hb0.trans (hb.mono hb0.size)⟩
set_option maxRecDepth 100000 in
set_option maxHeartbeats 2000000 in
theorem fool1_any (m : Option Addr) (C : Nat) (Ns : List Nat) (q : Nat) (t : TypeId) (c : Int × Int) (w : World) (h : IsMV w m C Ns) (hq : Blk w q t #[.pointer m]) :
    Calls Tryd.prog 79 #[.agg #[.int .i64 c.1, .int .i64 c.2], .pointer (some ⟨q, 0, none⟩)] w fun e w' => e = .returned (.bool (!mhas C Ns c.1 c.2)) ∧ Below w.heap.size w w' := by
  have HH := Lib.hid (fun W hb => has_v (h.below (w' := W) hb) c.1 c.2)
  have q0 := hq.cell 0
  have lq := hq.lt
  go_enter Tryd.func79, Tryd.ntmps79
  go_wp2_with fail
  refine absC1 fun W0 hA hb0 hz => ?_
  refine (HH.out W0 hb0).mono ?_
  rintro e w1 ⟨rfl, hb⟩
  go_wp2_with fail
  go_ret
  exact ⟨rfl, hb0.trans (hb.mono hb0.size)⟩
end Go.Proofs.YtgpooflcbljidaaDoor
