import Derived.Test.YtlakjhhpdbgekaaGreatDoorCvQ1
import Derived.Test.YtlakjhhpdbgekaaGreatDoorLaw
/-
  Plain: the reference's concepts in lectic order, counts of cells, and matrices of covered cells.
-/
namespace Go.Proofs.YtlakjhhpdbgekaaGreatDoor
open Go.RowKit

/-- One round of the reference's insertion. -/
def insStep (s : Nat) (x : List Nat × Bool) (t : Nat) : List Nat × Bool := if x.2 = false ∧ lecR s t = true then (x.1 ++ [s] ++ [t], true) else (x.1 ++ [t], x.2)
def insEnd (s : Nat) (x : List Nat × Bool) : List Nat := if x.2 = false then x.1 ++ [s] else x.1
theorem ins_done (s : Nat) : ∀ (l : List Nat) (a : List Nat), l.foldl (insStep s) (a, true) = (a ++ l, true)
  | [], a => by simp
  | t :: l, a => by
    rw [List.foldl_cons, show insStep s (a, true) t = (a ++ [t], true) by simp [insStep], ins_done s l, List.append_assoc]; rfl
theorem ins_all (s : Nat) : ∀ (l : List Nat) (a : List Nat), Lec l → s ∉ l → insEnd s (l.foldl (insStep s) (a, false)) = a ++ insL s l
  | [], a, _, _ => by simp [insEnd, insL]
  | t :: l, a, hl, hs => by
    rw [List.foldl_cons, insL]
    have hne : s ≠ t := fun e => hs (by rw [e]; simp)
    cases h : lecR s t with
    | true =>
      have h2 : lecR t s = false := lecR_asymm _ _ h
      rw [show insStep s (a, false) t = (a ++ [s] ++ [t], true) by simp [insStep, h], ins_done, h2, if_neg (by simp)]
      simp [insEnd]
    | false =>
      have h2 : lecR t s = true := lecR_total _ _ hne h
      rw [show insStep s (a, false) t = (a ++ [t], false) by simp [insStep, h], ins_all s l _ (List.Pairwise.of_cons hl) (fun h => hs (by simp [h])), h2, if_pos rfl]
      simp
theorem ins_len (s : Nat) : ∀ (l : List Nat) (x : List Nat × Bool), (l.foldl (insStep s) x).1.length ≤ x.1.length + l.length + (if x.2 = false then 1 else 0)
  | [], x => by simp
  | t :: l, x => by
    rw [List.foldl_cons]
    have h := ins_len s l (insStep s x t)
    rw [List.length_cons]
    unfold insStep at h ⊢
    split at h
    · rename_i hc; rw [if_pos hc]; rw [if_pos hc.1]; simp at h ⊢; omega
    · rename_i hc; rw [if_neg hc]; simp at h ⊢; omega
section
variable {C : Nat} {Ns : List Nat}
/-- The closed sets, as numbers ascending. -/
def clAsc (C : Nat) (Ns : List Nat) (n : Nat) : List Nat := (List.range n).filter fun s => decide (cloN C Ns s = s)
theorem clAsc_yes {s : Nat} (h : cloN C Ns s = s) : clAsc C Ns (s + 1) = clAsc C Ns s ++ [s] := by
  unfold clAsc; rw [List.range_succ, List.filter_append]; simp [h]
theorem clAsc_no {s : Nat} (h : ¬ cloN C Ns s = s) : clAsc C Ns (s + 1) = clAsc C Ns s := by
  unfold clAsc; rw [List.range_succ, List.filter_append]; simp [h]
theorem clAsc_len (n : Nat) : (clAsc C Ns n).length ≤ n := Nat.le_trans (List.length_filter_le _ _) (by simp)
/-- The first k of them, in lectic order. -/
def conAt (C : Nat) (Ns : List Nat) (k : Nat) : List Nat := ((clAsc C Ns (2 ^ C)).take k).foldl (fun a s => insL s a) []
theorem fold_ins : ∀ n, (clAsc C Ns n).foldl (fun a s => insL s a) [] = closTo C Ns n
  | 0 => rfl
  | n + 1 => by
    have ih := fold_ins n
    rw [closTo]
    split
    · rename_i h
      rw [clAsc_yes h, List.foldl_append, ih]; rfl
    · rename_i h
      rw [clAsc_no h, ih]
theorem conAt_all : conAt C Ns (clAsc C Ns (2 ^ C)).length = closL C Ns := by
  unfold conAt
  rw [List.take_length, fold_ins]; rfl
theorem conAt_succ {k s : Nat} (h : (clAsc C Ns (2 ^ C))[k]? = some s) : conAt C Ns (k + 1) = insL s (conAt C Ns k) := by
  unfold conAt
  rw [List.take_add_one, h, List.foldl_append]; rfl
theorem insL_mem (s : Nat) : ∀ (l : List Nat) (x : Nat), x ∈ insL s l ↔ x = s ∨ x ∈ l
  | [], x => by simp [insL]
  | t :: l, x => by
    rw [insL]
    split
    · rw [List.mem_cons, insL_mem s l, List.mem_cons]
      constructor
      · rintro (h | h | h)
        · exact .inr (.inl h)
        · exact .inl h
        · exact .inr (.inr h)
      · rintro (h | h | h)
        · exact .inr (.inl h)
        · exact .inl h
        · exact .inr (.inr h)
    · rw [List.mem_cons, List.mem_cons]
theorem fold_mem (l : List Nat) : ∀ (a : List Nat) (x : Nat), x ∈ l.foldl (fun a s => insL s a) a ↔ x ∈ l ∨ x ∈ a := by
  induction l with
  | nil => simp
  | cons s l ih =>
    intro a x
    rw [List.foldl_cons, ih, insL_mem, List.mem_cons]
    constructor
    · rintro (h | h | h)
      · exact .inl (.inr h)
      · exact .inl (.inl h)
      · exact .inr h
    · rintro ((h | h) | h)
      · exact .inr (.inl h)
      · exact .inl h
      · exact .inr (.inr h)
theorem fold_lec (l : List Nat) : ∀ (a : List Nat), Lec a → (∀ x ∈ l, x ∉ a) → l.Nodup → Lec (l.foldl (fun a s => insL s a) a) := by
  induction l with
  | nil => intro a h _ _; exact h
  | cons s l ih =>
    intro a h1 h2 h3
    rw [List.nodup_cons] at h3
    refine ih _ (h1.ins (h2 s (by simp))) (fun x hx => ?_) h3.2
    rw [insL_mem]
    rintro (rfl | h)
    · exact h3.1 hx
    · exact h2 x (by simp [hx]) h
theorem clAsc_nodup (n : Nat) : (clAsc C Ns n).Nodup := List.nodup_range.filter _
/-- The reference's insertion at number k. -/
theorem con_ins {k s : Nat} (h : (clAsc C Ns (2 ^ C))[k]? = some s) : insEnd s ((conAt C Ns k).foldl (insStep s) ([], false)) = conAt C Ns (k + 1) := by
  have hnd := clAsc_nodup (C := C) (Ns := Ns) (2 ^ C)
  have hsn : s ∉ conAt C Ns k := fun hm => by
    unfold conAt at hm
    rw [fold_mem] at hm
    rcases hm with hm | hm
    · obtain ⟨i, hi, e⟩ := List.getElem_of_mem hm
      rw [List.length_take] at hi
      rw [List.getElem_take] at e
      obtain ⟨hk, e2⟩ := List.getElem?_eq_some_iff.1 h
      exact List.pairwise_iff_getElem.1 hnd i k (by omega) hk (by omega) (e.trans e2.symm)
    · cases hm
  have hle : Lec (conAt C Ns k) := fold_lec _ _ List.Pairwise.nil (by simp) (hnd.sublist (List.take_sublist _ _))
  rw [ins_all s _ _ hle hsn, conAt_succ h, List.nil_append]
theorem fold_len (l : List Nat) : ∀ (a : List Nat), (l.foldl (fun a s => insL s a) a).length = a.length + l.length := by
  induction l with
  | nil => simp
  | cons s l ih => intro a; rw [List.foldl_cons, ih, insL_len, List.length_cons]; omega
theorem conAt_len (k : Nat) : (conAt C Ns k).length ≤ k := by
  unfold conAt; rw [fold_len, List.length_take, List.length_nil]; omega
end
/-! Counts of cells, row by row. -/
/-- How many cells before (i, n) have a property. -/
def cntT (f : Nat → Nat → Bool) (C i n : Nat) : Nat := ((List.range i).map fun a => (List.range C).countP (f a)).sum + (List.range n).countP (f i)
theorem cntT_zero (f : Nat → Nat → Bool) (C : Nat) : cntT f C 0 0 = 0 := by simp [cntT]
theorem cntT_step (f : Nat → Nat → Bool) (C i n : Nat) : cntT f C i (n + 1) = cntT f C i n + if f i n = true then 1 else 0 := by
  unfold cntT
  rw [List.range_succ, List.countP_append, List.countP_singleton]
  omega
theorem cntT_row (f : Nat → Nat → Bool) (C i : Nat) : cntT f C i C = cntT f C (i + 1) 0 := by
  unfold cntT
  rw [List.range_succ, List.map_append, List.sum_append]
  simp
theorem cntT_le (f : Nat → Nat → Bool) (C i n : Nat) : cntT f C i n ≤ i * C + n := by
  unfold cntT
  have h1 : ∀ i, ((List.range i).map fun a => (List.range C).countP (f a)).sum ≤ i * C := by
    intro i
    induction i with
    | zero => simp
    | succ i ih =>
      rw [List.range_succ, List.map_append, List.sum_append, Nat.succ_mul]
      have := List.countP_le_length (p := f i) (l := List.range C)
      rw [List.length_range] at this
      simp; omega
  have h2 := List.countP_le_length (p := f i) (l := List.range n)
  rw [List.length_range] at h2
  have := h1 i
  omega
def cellF (f : Nat → Nat → Bool) (C i : Nat) : List (Nat × Nat) := (List.range i).flatMap fun a => ((List.range C).filter (f a)).map fun b => (a, b)
theorem cellF_len (f : Nat → Nat → Bool) (C i : Nat) : (cellF f C i).length = cntT f C i 0 := by
  unfold cellF cntT
  rw [List.length_flatMap]
  simp [List.countP_eq_length_filter]
theorem cellF_mem {f : Nat → Nat → Bool} {C i : Nat} {c : Nat × Nat} : c ∈ cellF f C i ↔ c.1 < i ∧ c.2 < C ∧ f c.1 c.2 = true := by
  unfold cellF
  rw [List.mem_flatMap]
  constructor
  · rintro ⟨a, ha, h⟩
    obtain ⟨b, hb, rfl⟩ := List.mem_map.1 h
    rw [List.mem_filter, List.mem_range] at hb
    exact ⟨List.mem_range.1 ha, hb⟩
  · rintro ⟨h1, h2, h3⟩
    exact ⟨c.1, List.mem_range.2 h1, List.mem_map.2 ⟨c.2, List.mem_filter.2 ⟨List.mem_range.2 h2, h3⟩, rfl⟩⟩
theorem cellF_nodup (f : Nat → Nat → Bool) (C : Nat) : ∀ i, (cellF f C i).Nodup
  | 0 => by simp [cellF]
  | i + 1 => by
    have e : cellF f C (i + 1) = cellF f C i ++ ((List.range C).filter (f i)).map fun b => (i, b) := by
      unfold cellF; rw [List.range_succ, List.flatMap_append]; simp
    rw [e, List.nodup_append]
    refine ⟨cellF_nodup f C i, ?_, ?_⟩
    · exact List.Pairwise.map _ (fun a b h e => h (by injection e)) (List.nodup_range.filter _)
    · rintro a ha b hb rfl
      rw [cellF_mem] at ha
      obtain ⟨x, _, rfl⟩ := List.mem_map.1 hb
      simp at ha
/-- A count over a list without repetition. -/
theorem cnt_list {f : Nat → Nat → Bool} {C R : Nat} {o : List (Nat × Nat)} {p : Nat × Nat → Bool} (hn : o.Nodup) (h : ∀ c, (c ∈ o ∧ p c = true) ↔ c.1 < R ∧ c.2 < C ∧ f c.1 c.2 = true) : cntT f C R 0 = o.countP p := by
  rw [← cellF_len, List.countP_eq_length_filter]
  refine List.Perm.length_eq ((List.perm_ext_iff_of_nodup (cellF_nodup f C R) (hn.filter _)).2 fun c => ?_)
  rw [cellF_mem, List.mem_filter, h]
theorem cells_nodup (Os : List Nat) : (cellsOf Os).Nodup := by
  have hm : ∀ N, (mems N).Nodup := fun N => by
    obtain ⟨k, hk⟩ := mems_is N
    rw [hk k (Nat.le_refl _)]
    exact List.nodup_range.filter _
  have h1 : ∀ k, ((List.range k).flatMap fun i => (mems (Os.getD i 0)).map fun j => (i, j)).Nodup := by
    intro k
    induction k with
    | zero => simp
    | succ k ih =>
      rw [List.range_succ, List.flatMap_append, List.nodup_append]
      refine ⟨ih, ?_, ?_⟩
      · simp only [List.flatMap_cons, List.flatMap_nil, List.append_nil]
        exact List.Pairwise.map _ (fun a b h e => h (by injection e)) (hm _)
      · rintro a ha b hb rfl
        rw [List.mem_flatMap] at ha hb
        obtain ⟨x, hx, h⟩ := ha
        obtain ⟨y, hy, h'⟩ := hb
        obtain ⟨_, _, rfl⟩ := List.mem_map.1 h
        obtain ⟨_, _, e⟩ := List.mem_map.1 h'
        rw [List.mem_range] at hx
        simp at hy
        injection e with e _
        omega
  exact h1 _
section
variable {C : Nat} {M : List (List Bool)} {o : List (Nat × Nat)}
/-- The cells that are covered already. -/
def doneF (_C : Nat) (M : List (List Bool)) (o : List (Nat × Nat)) (i j : Nat) : Bool := mget M i j && !decide ((i, j) ∈ o)
/-- Some ones of the matrix, none twice. -/
def OnesOf (C : Nat) (M : List (List Bool)) (o : List (Nat × Nat)) : Prop := o.Nodup ∧ ∀ c ∈ o, c ∈ cellsOf (nsOf C M)
theorem OnesOf.all (C : Nat) (M : List (List Bool)) : OnesOf C M (cellsOf (nsOf C M)) := ⟨cells_nodup _, fun _ h => h⟩
theorem OnesOf.less (h : OnesOf C M o) (s : Nat) : OnesOf C M (lessL C (nsOf C M) o s) := ⟨h.1.sublist List.filter_sublist, fun c hc => h.2 c (mem_lessL.1 hc).1⟩
theorem mem_ones (hC : C ≤ 4096) {c : Nat × Nat} : c ∈ cellsOf (nsOf C M) ↔ c.1 < M.length ∧ c.2 < C ∧ mget M c.1 c.2 = true := by
  rw [mem_cellsOf, nsTo_len]
  constructor
  · rintro ⟨h1, h2⟩
    rw [nsOf_get h1, testBit_rowN _ _ _ _ hC, hasR_nat, Bool.and_eq_true, Bool.and_eq_true, decide_eq_true_eq, decide_eq_true_eq] at h2
    exact ⟨h1, h2.1.2, h2.2⟩
  · rintro ⟨h1, h2, h3⟩
    exact ⟨h1, by rw [nsOf_get h1, testBit_rowN _ _ _ _ hC, hasR_in h1 h2]; exact h3⟩
theorem inS_one (hC : C ≤ 4096) (hR : M.length ≤ 4096) {s i j : Nat} (hi : i < M.length) (hj : j < C) (h : inS C (nsOf C M) s (i, j) = true) : mget M i j = true := by
  unfold inS at h
  rw [Bool.and_eq_true, testBit_havN C _ (by rw [nsTo_len]; exact hR)] at h
  have := h.2.2 j h.1 hj
  rw [nsOf_get hi, testBit_rowN _ _ _ _ hC, hasR_in hi hj] at this
  exact this
theorem done_all : ∀ i, i < M.length → ∀ j, j < C → C ≤ 4096 → doneF C M (cellsOf (nsOf C M)) i j = false := fun i hi j hj hC => by
  unfold doneF
  cases h : mget M i j with
  | false => rfl
  | true => rw [decide_eq_true ((mem_ones hC).2 ⟨hi, hj, h⟩)]; rfl
/-- Add, element by element. -/
theorem done_less (hC : C ≤ 4096) (hR : M.length ≤ 4096) {s i j : Nat} (hi : i < M.length) (hj : j < C) : (doneF C M o i j || inS C (nsOf C M) s (i, j)) = doneF C M (lessL C (nsOf C M) o s) i j := by
  unfold doneF
  cases hin : inS C (nsOf C M) s (i, j) with
  | true =>
    rw [inS_one hC hR hi hj hin, decide_eq_false (show ¬ (i, j) ∈ lessL C (nsOf C M) o s from fun h => by rw [(mem_lessL.1 h).2] at hin; cases hin)]
    simp
  | false =>
    rw [Bool.or_false]
    rw [show decide ((i, j) ∈ o) = decide ((i, j) ∈ lessL C (nsOf C M) o s) from decide_eq_decide.2 ⟨fun h => mem_lessL.2 ⟨h, hin⟩, fun h => (mem_lessL.1 h).1⟩]
theorem done_same (hC : C ≤ 4096) (ho : OnesOf C M o) : sameB C C (mat M.length C (doneF C M o)) M = decide (o = []) := by
  have hlen : (mat M.length C (doneF C M o)).length = M.length := by simp [mat]
  have h1 : withinB C C (mat M.length C (doneF C M o)) M = true := by
    unfold withinB
    rw [decide_eq_true_eq]
    refine ⟨⟨hlen, rfl⟩, fun i hi j hj h => ?_⟩
    rw [hlen] at hi
    rw [mat_get hi hj] at h
    unfold doneF at h
    rw [Bool.and_eq_true] at h
    exact h.1
  unfold sameB
  rw [h1, Bool.true_and]
  unfold withinB
  refine decide_eq_decide.2 ⟨fun h => List.eq_nil_iff_forall_not_mem.2 fun c hc => ?_, fun h => ⟨⟨hlen.symm, rfl⟩, fun i hi j hj h2 => ?_⟩⟩
  · obtain ⟨a, b, d⟩ := (mem_ones hC).1 (ho.2 c hc)
    have := h.2 c.1 a c.2 b d
    rw [mat_get a b] at this
    unfold doneF at this
    rw [decide_eq_true hc] at this
    simp at this
  · rw [mat_get hi hj]
    unfold doneF
    rw [h2, h]; simp
/-- What Covered counts. -/
def freshF (C : Nat) (M : List (List Bool)) (o : List (Nat × Nat)) (s i j : Nat) : Bool := inS C (nsOf C M) s (i, j) && !doneF C M o i j
theorem cnt_covered (hC : C ≤ 4096) (hR : M.length ≤ 4096) (ho : OnesOf C M o) (s : Nat) : cntT (freshF C M o s) C M.length 0 = o.countP (inS C (nsOf C M) s) := by
  refine cnt_list ho.1 fun c => ?_
  unfold freshF doneF
  constructor
  · rintro ⟨h1, h2⟩
    obtain ⟨a, b, d⟩ := (mem_ones hC).1 (ho.2 c h1)
    refine ⟨a, b, ?_⟩
    rw [show ((c.1, c.2) : Nat × Nat) = c from rfl, h2, decide_eq_true h1]; simp
  · rintro ⟨h1, h2, h3⟩
    rw [show ((c.1, c.2) : Nat × Nat) = c from rfl, Bool.and_eq_true] at h3
    have := inS_one hC hR h1 h2 h3.1
    rw [this] at h3
    simp at h3
    exact ⟨h3.2, h3.1⟩
end
end Go.Proofs.YtlakjhhpdbgekaaGreatDoor
