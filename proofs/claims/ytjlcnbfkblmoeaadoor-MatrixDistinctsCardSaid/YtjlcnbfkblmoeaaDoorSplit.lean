import Derived.Test.YtjlcnbfkblmoeaaDoorBuilder
import Derived.Shelf.Strings.Split
namespace Go.Proofs.YtjlcnbfkblmoeaaDoor
open Go.RowKit

/-- The pieces between the line ends. -/
def lines : List UInt8 → List (List UInt8)
  | [] => [[]]
  | b :: l => if b = 10 then [] :: lines l else match lines l with
    | h :: t => (b :: h) :: t
    | [] => [[b]]
theorem index_cons (b : UInt8) (l : List UInt8) : Lib.index (b :: l) [10] = if b = 10 then 0 else if Lib.index l [10] = -1 then -1 else Lib.index l [10] + 1 := by
  have h : ([10] : List UInt8).isPrefixOf (b :: l) = decide (b = 10) := by
    show ((10 : UInt8) == b && true) = _
    rw [Bool.and_true, Bool.eq_iff_iff, beq_iff_eq, decide_eq_true_eq]; exact eq_comm
  rw [Lib.index, h]
  by_cases hb : b = 10 <;> simp [hb]
theorem index_ge (l : List UInt8) : -1 ≤ Lib.index l [10] := by
  induction l with
  | nil => decide
  | cons b l ih => rw [index_cons]; split <;> (try split) <;> omega
theorem splitK_lines (l : List UInt8) : Lib.splitK [10] 0 (l.count 10) l = lines l := by
  induction l with
  | nil => rfl
  | cons b l ih =>
    by_cases hb : b = 10
    · subst hb
      rw [List.count_cons_self, Lib.splitK, index_cons, if_pos rfl, if_neg (by decide)]
      simp [lines, ih]
    · rw [List.count_cons_of_ne hb]
      rw [lines, if_neg hb, ← ih]
      cases hc : l.count 10 with
      | zero => rfl
      | succ k =>
        rw [Lib.splitK, Lib.splitK, index_cons, if_neg hb]
        by_cases hi : Lib.index l [10] = -1
        · simp [hi]
        · have := index_ge l
          obtain ⟨i, hi2⟩ : ∃ i : Nat, Lib.index l [10] = i := Int.eq_ofNat_of_zero_le (by omega)
          have e2 : (if Lib.index l [10] = -1 then (-1 : Int) else Lib.index l [10] + 1) = ((i + 1 : Nat) : Int) := by rw [hi2, if_neg (by omega)]; omega
          rw [e2, hi2, if_neg (by rw [beq_iff_eq]; omega), if_neg (by rw [beq_iff_eq]; omega), Int.toNat_natCast, Int.toNat_natCast]
          rfl
theorem lines_ne (l : List UInt8) : lines l ≠ [] := by
  induction l with
  | nil => simp [lines]
  | cons b l ih =>
    rw [lines]
    split
    · simp
    · cases h : lines l <;> simp
theorem lines_len (l : List UInt8) : (lines l).length = l.count 10 + 1 := by
  induction l with
  | nil => rfl
  | cons b l ih =>
    rw [lines]
    by_cases hb : b = 10
    · subst hb; simp [ih]
    · rw [if_neg hb, List.count_cons_of_ne hb, ← ih]
      cases h : lines l with
      | nil => exact absurd h (lines_ne l)
      | cons x y => rfl
theorem lines_part (l : List UInt8) : ∀ x ∈ lines l, x.length ≤ l.length := by
  induction l with
  | nil => simp [lines]
  | cons b l ih =>
    rw [lines]
    split
    · intro x hx
      rcases List.mem_cons.1 hx with rfl | hx
      · simp
      · have := ih x hx; simp; omega
    · cases h : lines l with
      | nil => exact absurd h (lines_ne l)
      | cons y ys =>
        rw [h] at ih
        intro x hx
        rcases List.mem_cons.1 hx with rfl | hx
        · have := ih y (List.mem_cons_self ..); simp; omega
        · have := ih x (List.mem_cons_of_mem _ hx); simp; omega

set_option maxHeartbeats 1000000 in
set_option maxRecDepth 100000 in
theorem split_any (s : ByteArray) (w : World) (hs : s.size < 4294967281) :
    Calls Tryd.prog 66 #[.string s, .string ⟨#[10]⟩] w fun e w' => ∃ ps : List ByteArray, ps.map (·.data.toList) = lines s.data.toList ∧ e = .returned (.slice (some ⟨w.heap.size, 0, none⟩) ps.length ps.length) ∧ w' = w.alloc (.cells (ps.map Value.string).toArray 9) := by
  have h1 : 1 ≤ (⟨#[10]⟩ : ByteArray).size := by decide
  have hcnt : Lib.countB s ⟨#[10]⟩ = s.data.toList.count 10 := by
    show Lib.count s.data.toList [10] = _
    rw [Lib.count_one]
  have hle := Lib.countB_le ⟨#[10]⟩ h1 s.size s (Nat.le_refl _)
  have hlen := Lib.splitB_all ⟨#[10]⟩ h1 0 _ s rfl
  have hcall : Calls Tryd.prog 114 #[.string s, .string ⟨#[10]⟩] w fun e w' => e = .returned (.int .i64 (Lib.countB s ⟨#[10]⟩)) ∧ w' = w := by
    rw [hcnt]; exact Tryd.strings_Count_one s 10 w
  have c := Any.strings_genSplit_core Tryd.lays221 (by kernel_rfl) s ⟨#[10]⟩ 0 (-1) (Lib.countB s ⟨#[10]⟩ + 1) w hs h1 (Nat.zero_le _)
    (fun x c _ => (Tryd.strings_Index_one x 10 _).mono fun e w' ⟨he, hw⟩ => ⟨he.trans (by
      show _ = Ending.returned (Value.int .i64 (Lib.index x.data.toList [10]))
      rw [Lib.index_one]), hw⟩) hcall (by decide) (by decide) (by rw [if_pos (by decide)]; omega)
  rw [Nat.add_sub_cancel, hlen] at c
  have e2 : Lib.cellsOf (Lib.splitB ⟨#[10]⟩ 0 (Lib.countB s ⟨#[10]⟩) s) (Lib.countB s ⟨#[10]⟩ + 1) = ((Lib.splitB ⟨#[10]⟩ 0 (Lib.countB s ⟨#[10]⟩) s).map Value.string).toArray := by rw [← hlen]; exact Lib.cellsOf_full _
  rw [e2, ← hlen] at c
  have hdat : (Lib.splitB ⟨#[10]⟩ 0 (Lib.countB s ⟨#[10]⟩) s).map (·.data.toList) = lines s.data.toList := by
    rw [Lib.splitB_data, hcnt]
    exact splitK_lines _
  clear e2 hlen hle hcall hcnt
  generalize Lib.splitB ⟨#[10]⟩ 0 (Lib.countB s ⟨#[10]⟩) s = ps at c hdat
  have HC := hideC c; clear c
  go_enter Tryd.func66, Tryd.ntmps66
  go_wp2_with (go_at_call 94; refine HC.out.mono ?_; rintro e w' ⟨rfl, hw⟩; rw [hw])
  go_ret
  exact ⟨_, hdat, rfl, rfl⟩
end Go.Proofs.YtjlcnbfkblmoeaaDoor
