/-
  What the program's node finds, in plain words, and that it is what the reference finds.
-/
import Derived.Test.YtgpooflcbljidaaDoorRn4
import Derived.Test.YtgpooflcbljidaaDoorRk8
namespace Go.Proofs.YtgpooflcbljidaaDoor
open Go.RowKit

theorem isIn_cellsOf (Os : List Nat) (a b : Int) : isIn (cellsOf Os) (a, b) = hasO Os a b := by
  rw [Bool.eq_iff_iff, isIn_iff]
  unfold hasO hasB
  rw [Bool.and_eq_true, Bool.and_eq_true, Bool.and_eq_true, decide_eq_true_eq, decide_eq_true_eq, decide_eq_true_eq]
  constructor
  · rintro ⟨d, hd, e⟩
    obtain ⟨e1, e2⟩ := Prod.mk.inj e
    obtain ⟨h1, h2⟩ := mem_cellsOf.1 hd
    subst e1; subst e2
    exact ⟨⟨by omega, by omega⟩, by omega, by simpa using h2⟩
  · rintro ⟨⟨h1, h2⟩, h3, h4⟩
    refine ⟨(a.toNat, b.toNat), mem_cellsOf.2 ⟨by omega, h4⟩, ?_⟩
    rw [Int.toNat_of_nonneg h1, Int.toNat_of_nonneg h3]
def sumO (Os : List Nat) (n : Nat) : Nat := ((Os.take n).map card).foldl (· + ·) 0
theorem sum_cellsOf (Os : List Nat) : (cellsOf Os).length = ((List.range Os.length).map fun i => card (Os.getD i 0)).sum := by
  unfold cellsOf
  rw [List.length_flatMap]
  congr 1
  refine List.map_congr_left fun i _ => ?_
  rw [List.length_map, mems_len]
theorem range_getD {α : Type} (l : List Nat) (f : Nat → α) : ((List.range l.length).map fun i => f (l.getD i 0)) = l.map f := by
  apply List.ext_getElem?
  intro i
  by_cases hi : i < l.length
  · rw [List.getElem?_map, List.getElem?_range hi, Option.map_some, List.getElem?_map, List.getElem?_eq_getElem hi, Option.map_some, List.getD_eq_getElem?_getD, List.getElem?_eq_getElem hi]; rfl
  · rw [List.getElem?_eq_none (by simp; omega), List.getElem?_eq_none (by simp; omega)]
theorem foldl_sum (l : List Nat) : ∀ a, l.foldl (· + ·) a = a + l.sum := by
  induction l with
  | nil => intro a; simp
  | cons x l ih => intro a; rw [List.foldl_cons, ih, List.sum_cons]; omega
theorem sumO_all (Os : List Nat) : sumO Os Os.length = (cellsOf Os).length := by
  rw [sum_cellsOf, range_getD Os card]
  unfold sumO
  rw [List.take_length, foldl_sum, Nat.zero_add]
/-- The ones that a concept does not cover. -/
def lessO (C : Nat) (Ns Os : List Nat) (s : Nat) : List Nat := (List.range Os.length).map fun i => if (havN C Ns s).testBit i = true then minusN (Os.getD i 0) s else Os.getD i 0
theorem lessO_len (C : Nat) (Ns Os : List Nat) (s : Nat) : (lessO C Ns Os s).length = Os.length := by simp [lessO]
theorem lessO_get {C : Nat} {Ns Os : List Nat} {s i : Nat} (hi : i < Os.length) : (lessO C Ns Os s).getD i 0 = if (havN C Ns s).testBit i = true then minusN (Os.getD i 0) s else Os.getD i 0 := by
  unfold lessO
  rw [List.getD_eq_getElem?_getD, List.getElem?_map, List.getElem?_range hi]; rfl
theorem mems_minus (N s : Nat) : mems (minusN N s) = (mems N).filter fun j => !s.testBit j := by
  obtain ⟨a, ha⟩ := mems_is N
  obtain ⟨b, hb⟩ := mems_is (minusN N s)
  rw [ha (max a b) (by omega), hb (max a b) (by omega), List.filter_filter]
  refine List.filter_congr fun j _ => ?_
  rw [testBit_minusN, Bool.and_comm]
theorem cellsOf_less (C : Nat) (Ns Os : List Nat) (s : Nat) : cellsOf (lessO C Ns Os s) = lessL C Ns (cellsOf Os) s := by
  unfold cellsOf lessL
  rw [List.filter_flatMap, lessO_len]
  have key : ∀ (l : List Nat), (∀ i ∈ l, i < Os.length) → (l.flatMap fun i => (mems ((lessO C Ns Os s).getD i 0)).map fun j => (i, j)) = l.flatMap fun i => ((mems (Os.getD i 0)).map fun j => (i, j)).filter fun c => !inS C Ns s c := by
    intro l
    induction l with
    | nil => intro _; rfl
    | cons i l ih =>
      intro hl
      rw [List.flatMap_cons, List.flatMap_cons, ih fun k hk => hl k (by simp [hk])]
      congr 1
      rw [lessO_get (hl i (by simp)), List.filter_map]
      by_cases hi : (havN C Ns s).testBit i = true
      · rw [if_pos hi, mems_minus]
        congr 1
        refine List.filter_congr fun j _ => ?_
        simp [inS, hi]
      · rw [if_neg hi]
        congr 1
        rw [eq_comm, List.filter_eq_self]
        intro j _
        rw [Bool.not_eq_true] at hi
        simp [inS, hi]
  exact key _ fun i hi => List.mem_range.1 hi
theorem mems_and (N s : Nat) : mems (N &&& s) = (mems N).filter s.testBit := by
  obtain ⟨a, ha⟩ := mems_is N
  obtain ⟨b, hb⟩ := mems_is (N &&& s)
  rw [ha (max a b) (by omega), hb (max a b) (by omega), List.filter_filter]
  refine List.filter_congr fun j _ => ?_
  rw [Nat.testBit_and, Bool.and_comm]
theorem sum_filter (p : Nat → Bool) (f : Nat → Nat) : ∀ l : List Nat, ((l.filter p).map f).sum = (l.map fun i => if p i = true then f i else 0).sum
  | [] => rfl
  | i :: l => by
    rw [List.filter_cons, List.map_cons, List.sum_cons, ← sum_filter p f l]
    split <;> simp
/-- What a concept covers. -/
theorem gain_cells {C : Nat} {Ns Os : List Nat} (hl : Ns.length ≤ 4096) (hlen : Os.length = Ns.length) (s : Nat) : gainR C Ns Os s (mems (havN C Ns s)) = (cellsOf Os).countP (inS C Ns (cloN C Ns s)) := by
  have hm : mems (havN C Ns s) = (List.range Os.length).filter (havN C Ns s).testBit := mems_under fun j hj => by rw [hlen]; exact havN_lt hl hj
  unfold gainR cellsOf
  rw [foldl_sum, Nat.zero_add, hm, sum_filter, List.countP_flatMap]
  congr 1
  refine List.map_congr_left fun i _ => ?_
  rw [Function.comp_apply, List.countP_map]
  have e : ∀ j, (inS C Ns (cloN C Ns s) ∘ fun j => (i, j)) j = ((cloN C Ns s).testBit j && (havN C Ns s).testBit i) := fun j => by
    rw [Function.comp_apply, inS, hav_clo hl]
  rw [List.countP_congr fun j _ => by rw [e j]]
  by_cases hi : (havN C Ns s).testBit i = true
  · rw [if_pos hi, ← mems_len, mems_and, List.countP_eq_length_filter]
    congr 1
    refine List.filter_congr fun j _ => ?_
    rw [hi, Bool.and_true]
  · rw [if_neg hi]
    rw [Bool.not_eq_true] at hi
    rw [eq_comm, List.countP_eq_zero]
    intro j _
    rw [hi]; simp
theorem greatO_most {C : Nat} {Ns Os : List Nat} (hl : Ns.length ≤ 4096) (hlen : Os.length = Ns.length) : greatO C Ns Os (2 ^ C) = mostL C Ns (cellsOf Os) := by
  refine Nat.le_antisymm ?_ ?_
  · refine foldl_max_bound _ _ _ (Nat.zero_le _) fun x hx => ?_
    obtain ⟨s, _, rfl⟩ := List.mem_map.1 hx
    rw [gain_cells hl hlen, ← gain_eq]
    exact mostL_le (clo_clo hl s)
  · refine foldl_max_bound _ _ _ (Nat.zero_le _) fun x hx => ?_
    obtain ⟨s, hs, rfl⟩ := List.mem_map.1 hx
    rw [List.mem_filter, decide_eq_true_eq] at hs
    rw [gain_eq]
    have h1 := gain_cells (C := C) hl hlen s
    rw [hs.2] at h1
    rw [← h1]
    exact (foldl_max_le _ 0).2 _ (List.mem_map.2 ⟨s, hs.1, rfl⟩)
/-! The program's node. -/
def nodeP (C : Nat) (Ns : List Nat) (P : List Nd) : Nat → Int → Int → List Nat → Int × Int
  | 0, _, _, _ => (1, 0)
  | f + 1, n, b, Os =>
    let x := P.getD n.toNat default
    if x.kind = 2 then (if x.cells.any (fun c => !hasO Os c.1 c.2) = true then (3, n) else if (x.cells.length : Int) ≤ b ∨ apartB C Ns x.cells = false then (5, n) else (1, 0))
    else if x.kind = 3 then (if 12 < C ∨ (sumO Os Os.length : Int) ≤ b * greatO C Ns Os (2 ^ C) then (5, n) else (1, 0))
    else if hasO Os x.row x.col = false then (3, n)
    else if b < 1 then (5, n)
    else if (conP C Ns x.row x.col).length = 0 ∨ (conP C Ns x.row x.col).length ≠ x.ch.length then (4, n)
    else kidsF (fun s c => nodeP C Ns P f c (b - 1) (lessO C Ns Os s)) ((conP C Ns x.row x.col).zip x.ch)
theorem kidsF_congr {g h : Nat → Int → Int × Int} : ∀ {l : List (Nat × Int)}, (∀ x ∈ l, g x.1 x.2 = h x.1 x.2) → kidsF g l = kidsF h l
  | [], _ => rfl
  | (s, c) :: t, hh => by
    rw [kidsF, kidsF, hh (s, c) (by simp), kidsF_congr fun x hx => hh x (by simp [hx])]
/-- The sets are ones of the matrix. -/
def Under (Ns Os : List Nat) : Prop := Os.length = Ns.length ∧ ∀ i, i < Os.length → ∀ j, (Os.getD i 0).testBit j = true → (Ns.getD i 0).testBit j = true
theorem Under.less {C : Nat} {Ns Os : List Nat} (h : Under Ns Os) (s : Nat) : Under Ns (lessO C Ns Os s) := by
  refine ⟨by rw [lessO_len]; exact h.1, fun i hi j hj => ?_⟩
  rw [lessO_len] at hi
  rw [lessO_get hi] at hj
  split at hj
  · rw [testBit_minusN, Bool.and_eq_true] at hj; exact h.2 i hi j hj.1
  · exact h.2 i hi j hj
theorem nodeP_eq {C : Nat} {Ns : List Nat} (hC : C ≤ 12) (hl : Ns.length ≤ 4096) (hin : rowsIn C Ns) (P : List Nd) : ∀ (f : Nat) (n b : Int) (Os : List Nat), Under Ns Os → nodeP C Ns P f n b Os = nodeR C Ns P f n b (cellsOf Os)
  | 0, _, _, _, _ => rfl
  | f + 1, n, b, Os, hu => by
    rw [nodeP, nodeR]
    generalize P.getD n.toNat default = x
    have e1 : (x.cells.any (fun c => !hasO Os c.1 c.2) = true) ↔ (x.cells.all (isIn (cellsOf Os)) = false) := by
      rw [← Bool.not_eq_true, List.all_eq_true, List.any_eq_true]
      constructor
      · rintro ⟨c, hc, h⟩ hh
        have := hh c hc
        rw [show c = (c.1, c.2) from rfl, isIn_cellsOf] at this
        rw [this] at h; cases h
      · intro h
        apply Classical.byContradiction
        intro hn
        refine h fun c hc => ?_
        rw [show c = (c.1, c.2) from rfl, isIn_cellsOf]
        cases hh : hasO Os c.1 c.2 with
        | true => rfl
        | false => exact absurd ⟨c, hc, by rw [hh]; rfl⟩ hn
    rw [sumO_all, greatO_most hl hu.1, isIn_cellsOf]
    by_cases k2 : x.kind = 2
    · rw [if_pos k2, if_pos k2]
      by_cases h1 : x.cells.any (fun c => !hasO Os c.1 c.2) = true
      · rw [if_pos h1, if_pos (e1.1 h1)]
      · rw [if_neg h1, if_neg fun h => h1 (e1.2 h)]
    · rw [if_neg k2, if_neg k2]
      by_cases k3 : x.kind = 3
      · rw [if_pos k3, if_pos k3]
      · rw [if_neg k3, if_neg k3]
        by_cases h1 : hasO Os x.row x.col = false
        · rw [if_pos h1, if_pos h1]
        · rw [if_neg h1, if_neg h1]
          by_cases h2 : b < 1
          · rw [if_pos h2, if_pos h2]
          · rw [if_neg h2, if_neg h2]
            -- the cell is a one of the matrix
            rw [Bool.not_eq_false] at h1
            unfold hasO hasB at h1
            simp only [Bool.and_eq_true, decide_eq_true_eq] at h1
            obtain ⟨⟨h3, h4⟩, h5, h6⟩ := h1
            obtain ⟨i, hi⟩ := Int.eq_ofNat_of_zero_le h3
            obtain ⟨j, hj⟩ := Int.eq_ofNat_of_zero_le h5
            rw [hi, hj, Int.toNat_natCast, Int.toNat_natCast] at h6
            rw [hi] at h4
            rw [hi, hj]
            have hil : i < Ns.length := by have := hu.1; omega
            have hbit := hu.2 i (by omega) j h6
            have hjC : j < C := by
              have := hin i hil
              rw [← this, Nat.testBit_and, testBit_lowN, Bool.and_eq_true, decide_eq_true_eq] at hbit
              exact hbit.2
            have hm : mhas C Ns (i : Int) (j : Int) = true := by rw [mhas_at hil hjC]; exact hbit
            have hcd : card (mrow Ns (i : Int)) ≤ 12 := by
              refine Nat.le_trans (card_bits (C := C) fun y hy => ?_) hC
              rw [mrow, if_pos (by omega), Int.toNat_natCast] at hy
              have := hin i hil
              rw [← this, Nat.testBit_and, testBit_lowN, Bool.and_eq_true, decide_eq_true_eq] at hy
              exact hy.2
            have hcp : conP C Ns (i : Int) (j : Int) = conL C Ns i j := by unfold conP; rw [if_pos ⟨hm, hcd⟩, Int.toNat_natCast, Int.toNat_natCast]
            rw [hcp, Int.toNat_natCast, Int.toNat_natCast]
            have hne : conL C Ns i j ≠ [] := by
              intro he
              have hc : cloN C Ns (2 ^ j) ∈ conL C Ns i j := by
                rw [mem_conL, inC, Bool.and_eq_true, Bool.and_eq_true, decide_eq_true_eq]
                refine ⟨⟨clo_clo hl _, clo_sup hl hjC (by simp)⟩, ?_⟩
                rw [hav_clo hl, testBit_havN C Ns hl]
                refine ⟨hil, fun y hy _ => ?_⟩
                rw [Nat.testBit_two_pow, decide_eq_true_eq] at hy
                subst hy; exact hbit
              rw [he] at hc; simp at hc
            have hlen0 : ¬ (conL C Ns i j).length = 0 := fun h => hne (List.eq_nil_of_length_eq_zero h)
            by_cases h7 : (conL C Ns i j).length ≠ x.ch.length
            · rw [if_pos (Or.inr h7), if_pos h7]
            · rw [if_neg (by rw [not_or]; exact ⟨hlen0, h7⟩), if_neg h7]
              refine kidsF_congr fun y _ => ?_
              rw [nodeP_eq hC hl hin P f _ _ _ (hu.less _), cellsOf_less]
end Go.Proofs.YtgpooflcbljidaaDoor
