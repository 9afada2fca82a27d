import Derived.Test.YtgpooflcbljidaaDoorMatx
import Derived.Test.YtgpooflcbljidaaDoorShelf
import Derived.Shelf.Strings.Builder1
import Derived.Shelf.Strings.Split
namespace Go.Proofs.YtgpooflcbljidaaDoor
open Go.RowKit

theorem info_byte : (Tryd.prog.info? 5).map (fun i => (i.zero, i.size, i.bytes)) = some (some (.int .u8 0), 1, 1) := by kernel_rfl


/-- The text of row i, its first k columns. -/
def rowText (C : Nat) (Ns : List Nat) (i k : Nat) : List UInt8 := (List.range k).map fun (j : Nat) => if mhas C Ns i j then 49 else 48
theorem rowText_succ (C : Nat) (Ns : List Nat) (i k : Nat) : rowText C Ns i (k + 1) = rowText C Ns i k ++ [if mhas C Ns i k then 49 else 48] := by simp [rowText, List.range_succ]
theorem rowText_len (C : Nat) (Ns : List Nat) (i k : Nat) : (rowText C Ns i k).length = k := by simp [rowText]
/-- The text of the first n rows. -/
def mtext (C : Nat) (Ns : List Nat) : Nat → List UInt8
  | 0 => []
  | n + 1 => mtext C Ns n ++ (rowText C Ns n C ++ [10])
theorem mtext_len (C : Nat) (Ns : List Nat) : ∀ n, (mtext C Ns n).length = (C + 1) * n
  | 0 => rfl
  | n + 1 => by rw [mtext, List.length_append, List.length_append, mtext_len C Ns n, rowText_len, Nat.mul_succ]; simp
theorem byteCells_snoc (l : List UInt8) (b : UInt8) : Lib.byteCells (l ++ [b]) = Lib.byteCells l ++ [.int .u8 (b.toNat : Int)] := by simp [Lib.byteCells]
theorem byteCells_len (l : List UInt8) : (Lib.byteCells l).length = l.length := by simp [Lib.byteCells]

end Go.Proofs.YtgpooflcbljidaaDoor

namespace Go.Proofs.YtgpooflcbljidaaDoor
open Go.RowKit

/-- The pieces between the line ends. -/
def lines : List UInt8 → List (List UInt8)
  | [] => [[]]
  | b :: l => if b = 10 then [] :: lines l else match lines l with
    | h :: t => (b :: h) :: t
    | [] => [[b]]
theorem index_cons (b : UInt8) (l : List UInt8) : Lib.index (b :: l) [10] = if b = 10 then 0 else if Lib.index l [10] = -1 then -1 else Lib.index l [10] + 1 := by
  have h : ([10] : List UInt8).isPrefixOf (b :: l) = decide (b = 10) := by
    show ((10 : UInt8) == b && true) = _
    rw [Bool.and_true, Bool.eq_iff_iff, beq_iff_eq, decide_eq_true_eq]; exact eq_comm
  rw [Lib.index, h]
  by_cases hb : b = 10 <;> simp [hb]
theorem index_ge (l : List UInt8) : -1 ≤ Lib.index l [10] := by
  induction l with
  | nil => decide
  | cons b l ih => rw [index_cons]; split <;> (try split) <;> omega
theorem splitK_lines (l : List UInt8) : Lib.splitK [10] 0 (l.count 10) l = lines l := by
  induction l with
  | nil => rfl
  | cons b l ih =>
    by_cases hb : b = 10
    · subst hb
      rw [List.count_cons_self, Lib.splitK, index_cons, if_pos rfl, if_neg (by decide)]
      simp [lines, ih]
    · rw [List.count_cons_of_ne hb]
      rw [lines, if_neg hb, ← ih]
      cases hc : l.count 10 with
      | zero => rfl
      | succ k =>
        rw [Lib.splitK, Lib.splitK, index_cons, if_neg hb]
        by_cases hi : Lib.index l [10] = -1
        · simp [hi]
        · have := index_ge l
          obtain ⟨i, hi2⟩ : ∃ i : Nat, Lib.index l [10] = i := Int.eq_ofNat_of_zero_le (by omega)
          have e2 : (if Lib.index l [10] = -1 then (-1 : Int) else Lib.index l [10] + 1) = ((i + 1 : Nat) : Int) := by rw [hi2, if_neg (by omega)]; omega
          rw [e2, hi2, if_neg (by rw [beq_iff_eq]; omega), if_neg (by rw [beq_iff_eq]; omega), Int.toNat_natCast, Int.toNat_natCast]
          rfl
theorem lines_ne (l : List UInt8) : lines l ≠ [] := by
  induction l with
  | nil => simp [lines]
  | cons b l ih =>
    rw [lines]
    split
    · simp
    · cases h : lines l <;> simp
theorem lines_len (l : List UInt8) : (lines l).length = l.count 10 + 1 := by
  induction l with
  | nil => rfl
  | cons b l ih =>
    rw [lines]
    by_cases hb : b = 10
    · subst hb; simp [ih]
    · rw [if_neg hb, List.count_cons_of_ne hb, ← ih]
      cases h : lines l with
      | nil => exact absurd h (lines_ne l)
      | cons x y => rfl
theorem lines_part (l : List UInt8) : ∀ x ∈ lines l, x.length ≤ l.length := by
  induction l with
  | nil => simp [lines]
  | cons b l ih =>
    rw [lines]
    split
    · intro x hx
      rcases List.mem_cons.1 hx with rfl | hx
      · simp
      · have := ih x hx; simp; omega
    · cases h : lines l with
      | nil => exact absurd h (lines_ne l)
      | cons y ys =>
        rw [h] at ih
        intro x hx
        rcases List.mem_cons.1 hx with rfl | hx
        · have := ih y (List.mem_cons_self ..); simp; omega
        · have := ih x (List.mem_cons_of_mem _ hx); simp; omega

end Go.Proofs.YtgpooflcbljidaaDoor

namespace Go.Proofs.YtgpooflcbljidaaDoor
open Go.RowKit

theorem Bld.but2 {W W' : World} {base q C : Nat} {Ns : List Nat} {rv : Value} {vs : List Value} {r : Option Nat} (h : Bld base q C Ns W rv vs) (hb : But r W W') (hq : some q ≠ r) (hr : ∀ g, rv.ownBlock = some g → some g ≠ r) (hk : KeepW W W') : Bld base q C Ns W' rv vs := by
  refine ⟨hb.blk h.1 hq, ?_, h.2.2.keep hk⟩
  obtain ⟨hl, h2⟩ := h.2.1
  refine ⟨hl, ?_⟩
  rcases h2 with h2 | ⟨g, cap, cur, hv, hg, hh, r2⟩
  · exact .inl h2
  · exact .inr ⟨g, cap, cur, hv, hg, (hb.2 g (Array.getElem?_eq_some_iff.1 hh).1 (hr g (by rw [hv]; rfl))).trans hh, r2⟩
theorem Bld.setC {W : World} {base q C : Nat} {Ns : List Nat} {rv : Value} {vs : List Value} (h : Bld base q C Ns W rv vs) (C' : Nat) : Bld base q C' Ns (W.setCell ⟨q, 0, none⟩ (.int .i64 (C' : Int))) rv vs :=
  ⟨h.1.set_ 0 _, ownsRow_setCell_other h.2.1 (a := ⟨q, 0, none⟩) (fun e => h.ne e.symm) _, h.2.2.keep (KeepW.setCell (p := ⟨q, 0, none⟩) h.1 (by decide) _)⟩
/-- The columns of the ones of a line. -/
def onesOf (l : List UInt8) (k : Nat) : List Nat := (List.range k).filter fun j => l.getD j 0 == 49
theorem onesOf_yes {l : List UInt8} {k : Nat} (h : (l.getD k 0 == 49) = true) : onesOf l (k + 1) = onesOf l k ++ [k] := by unfold onesOf; rw [List.range_succ, List.filter_append]; simp only [List.filter_cons, List.filter_nil, h, if_true]
theorem onesOf_no {l : List UInt8} {k : Nat} (h : (l.getD k 0 == 49) = false) : onesOf l (k + 1) = onesOf l k := by unfold onesOf; rw [List.range_succ, List.filter_append]; simp only [List.filter_cons, List.filter_nil, h]; simp
theorem onesOf_len (l : List UInt8) (k : Nat) : (onesOf l k).length ≤ k := by unfold onesOf; exact Nat.le_trans (List.length_filter_le _ _) (by simp)
/-- A line as a set. -/
def lineSet (l : List UInt8) : Nat := setOf ((onesOf l l.length).map Int.ofNat)
/-- The columns when k lines are read. -/
def pcols (ls : List (List UInt8)) (k : Nat) : Nat := if k = 0 then 0 else (ls.headD []).length
/-- The columns, the rows of a text. -/
def pC (l : List UInt8) : Nat := pcols (lines l) (l.count 10)
def pNs (l : List UInt8) : List Nat := ((lines l).take (l.count 10)).map lineSet
/-- The text is one of a matrix. -/
def pOK (l : List UInt8) : Prop := pC l ≤ 256 ∧ l.count 10 ≤ 256 ∧ mtext (pC l) (pNs l) (pNs l).length = l
instance (l : List UInt8) : Decidable (pOK l) := by unfold pOK; exact inferInstance
theorem pNs_len (l : List UInt8) : (pNs l).length = l.count 10 := by unfold pNs; rw [List.length_map, List.length_take, lines_len]; omega
/-- What Parse leaves. -/
def ParsePost (w : World) (l : List UInt8) (e : Ending) (w' : World) : Prop :=
  Below w.heap.size w w' ∧ ((e = pair (.pointer none) 6 ∧ ¬ pOK l) ∨ ∃ q, e = pair (ptr q) 0 ∧ pOK l ∧ IsMat w' q (pC l) (pNs l))
theorem byte_at (L : ByteArray) (n : Nat) (h : n < L.size) : L.data.toList.getD n 0 = L[n] := by
  rw [List.getD_eq_getElem?_getD, Array.getElem?_toList, Array.getElem?_eq_getElem h]; rfl
theorem byte_is (b : UInt8) : ((b.toNat : Int) == 49) = (b == 49) := by
  rw [Bool.eq_iff_iff, beq_iff_eq, beq_iff_eq, ← UInt8.toNat_inj]
  show (b.toNat : Int) = 49 ↔ b.toNat = 49
  omega

end Go.Proofs.YtgpooflcbljidaaDoor

namespace Go.Proofs.YtgpooflcbljidaaDoor
open Go.RowKit

/-- Where N first stands in Ns; -1: nowhere. -/
def idxN (Ns : List Nat) (N : Nat) : Int := match Ns.findIdx? (· == N) with
  | some k => k
  | none => -1

theorem idxN_some {Ns : List Nat} {N k : Nat} (hk : k < Ns.length) (h : Ns[k] = N) (hb : ∀ j, j < k → Ns.getD j 0 ≠ N) : idxN Ns N = k := by
  have : Ns.findIdx? (· == N) = some k := by
    rw [List.findIdx?_eq_some_iff_getElem]
    refine ⟨hk, by simp [h], fun j hj => ?_⟩
    have := hb j hj
    rw [getD_at (by omega)] at this
    simpa using this
  rw [idxN, this]
theorem idxN_none {Ns : List Nat} {N : Nat} (hb : ∀ j, j < Ns.length → Ns.getD j 0 ≠ N) : idxN Ns N = -1 := by
  have : Ns.findIdx? (· == N) = none := by
    rw [List.findIdx?_eq_none_iff]
    intro x hx
    obtain ⟨j, hj, rfl⟩ := List.getElem_of_mem hx
    have := hb j hj
    rw [getD_at hj] at this
    simpa using this
  rw [idxN, this]

set_option maxHeartbeats 1000000 in
set_option maxRecDepth 100000 in
theorem indexFunc_any (A : Option Addr) (c : Nat) (vs : List Value) (Ns : List Nat) (v : Value) (N : Nat) (w : World) (hr : Row w A vs) (hs : Sets w vs Ns) (hv : IsSet w v N) (hn : Ns.length ≤ 4096) :
    Calls Tryd.prog 77 #[.slice A Ns.length c, .func (.func 27) #[.agg #[v]] #[]] w fun e w' => e = .returned (.int .i64 (idxN Ns N)) ∧ Below w.heap.size w w' := by
  go_enter Tryd.func77, Tryd.ntmps77
  go_wp2_with fail
  go_loopw [8] (fun i wr => ∃ k : Nat, k ≤ Ns.length ∧ i = .int .i64 k ∧ (∀ j, j < k → Ns.getD j 0 ≠ N) ∧ Below w.heap.size w wr) (fun i _ => Ns.length - (intOf i).toNat)
  case atStart => exact ⟨0, Nat.zero_le _, rfl, fun j hj => absurd hj (by omega), Below.refl _ _⟩
  case round =>
    obtain ⟨k, hk, rfl, heq, hbel⟩ := hrel
    have HEQ := Lib.hid heq; clear heq
    by_cases hlt : k < Ns.length
    · obtain ⟨A1, c1, hvk, hset⟩ := hs.at_ hlt
      obtain ⟨g, off, rfl, hg, hcell⟩ := hr (by rw [hs.1]; omega)
      have cv := onB hbel (hcell k _ hvk)
      have hcall := equal_any v _ N _ wr (hv.below hbel) (hset.below hbel)
      clear hcell hr hs hvk
      by_cases he : N = Ns[k]
      · rw [decide_eq_true he] at hcall
        have HC := hideC hcall; clear hcall
        have HE := Lib.hid he; clear he
        go_wp2_with fail
        refine HC.out.mono ?_
        rintro e w2 ⟨rfl, hb2⟩
        go_wp2_with fail
        go_ret
        exact ⟨ret_int (idxN_some hlt HE.out.symm HEQ.out).symm, hbel.trans (hb2.mono hbel.size)⟩
      · rw [decide_eq_false he] at hcall
        have HC := hideC hcall; clear hcall
        have HE := Lib.hid he; clear he
        go_wp2_with fail
        refine HC.out.mono ?_
        rintro e w2 ⟨rfl, hb2⟩
        go_wp2_with fail
        exact ⟨⟨k + 1, by omega, by go_num, fun j hj => by
          by_cases h : j = k
          · rw [h, getD_at hlt]; exact fun e => HE.out e.symm
          · exact HEQ.out j (by omega), hbel.trans (hb2.mono hbel.size)⟩, by simp [intOf]; omega⟩
    · obtain rfl : k = Ns.length := by omega
      clear hr hs
      go_wp2_with fail
      go_ret
      exact ⟨ret_int (idxN_none HEQ.out).symm, hbel⟩

/-- One row more: the different rows so far, and where each went. -/
def distStep (st : List Nat × List Int) (N : Nat) : List Nat × List Int :=
  if idxN st.1 N < 0 then (st.1 ++ [N], st.2 ++ [(st.1.length : Int)]) else (st.1, st.2 ++ [idxN st.1 N])
def mdist (Ns : List Nat) (k : Nat) : List Nat × List Int := (Ns.take k).foldl distStep ([], [])
theorem mdist_succ {Ns : List Nat} {k : Nat} (h : k < Ns.length) : mdist Ns (k + 1) = distStep (mdist Ns k) Ns[k] := by
  unfold mdist
  rw [List.take_add_one, List.getElem?_eq_getElem h, List.foldl_append]; rfl
theorem mdist_len (Ns : List Nat) : ∀ k, k ≤ Ns.length → (mdist Ns k).1.length ≤ k ∧ (mdist Ns k).2.length = k
  | 0, _ => by simp [mdist]
  | k + 1, h => by
    have ih := mdist_len Ns k (by omega)
    rw [mdist_succ (by omega), distStep]
    split <;> simp <;> omega
theorem own_but {W W' : World} {base : Nat} {e : TypeId} {size : Nat} {v : Value} {n : Nat} {xs : List Value} {r : Option Nat} (h : W.ownsRow base e size v n xs) (hb : But r W W') (hne : ∀ g, v.ownBlock = some g → some g ≠ r) : W'.ownsRow base e size v n xs := by
  obtain ⟨hl, h2⟩ := h
  refine ⟨hl, ?_⟩
  rcases h2 with h2 | ⟨g, cap, cur, hv, hg, hh, r2⟩
  · exact .inl h2
  · exact .inr ⟨g, cap, cur, hv, hg, (hb.2 g (Array.getElem?_eq_some_iff.1 hh).1 (hne g (by rw [hv]; rfl))).trans hh, r2⟩
end Go.Proofs.YtgpooflcbljidaaDoor
