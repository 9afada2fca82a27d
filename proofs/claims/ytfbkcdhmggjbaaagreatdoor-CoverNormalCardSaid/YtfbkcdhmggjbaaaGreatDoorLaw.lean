import Derived.Test.YtfbkcdhmggjbaaaGreatDoorRef
namespace Go.Proofs.YtfbkcdhmggjbaaaGreatDoor
open Go.RowKit

/-! Plain laws on lists of rows. -/
/-- A row as a set. -/
def rb (C : Nat) (r : List Bool) : Nat := rowN C [r] 0
theorem testBit_rb (C : Nat) (r : List Bool) (j : Nat) (hC : C ≤ 4096) : (rb C r).testBit j = (decide (j < C) && r.getD j false) := by
  unfold rb
  rw [testBit_rowN _ _ _ _ hC, show ((0 : Nat) : Int) = ((0 : Nat) : Int) from rfl, hasR_nat]
  simp [mget]
theorem rowN_rb {C : Nat} {M : List (List Bool)} {i : Nat} (hC : C ≤ 4096) (hi : i < M.length) : rowN C M i = rb C M[i] := by
  apply Nat.eq_of_testBit_eq
  intro j
  rw [testBit_rb _ _ _ hC, testBit_rowN _ _ _ _ hC, hasR_nat]
  simp [mget, hi]
theorem nsOf_rb (C : Nat) (M : List (List Bool)) (hC : C ≤ 4096) : nsOf C M = M.map (rb C) := by
  apply List.ext_getElem
  · simp [nsTo_len]
  · intro i h1 h2
    have hi : i < M.length := by simpa using h2
    rw [List.getElem_map, ← rowN_rb hC hi]
    simp [nsTo]
/-- All rows have C elements. -/
def Wide (C : Nat) (M : List (List Bool)) : Prop := ∀ r ∈ M, r.length = C
theorem toldM_rb {C : Nat} {D : List (List Bool)} (hC : C ≤ 4096) (h : Wide C D) : toldM C (D.map (rb C)) = D := by
  unfold toldM mat
  apply List.ext_getElem
  · simp
  · intro i h1 h2
    have hl := h D[i] (List.getElem_mem h2)
    apply List.ext_getElem
    · simp; exact hl.symm
    · intro j h3 h4
      have hj : j < C := by omega
      simp only [List.getElem_map, List.getElem_range, toldF]
      unfold mhas insideB
      have e : (0 ≤ (i : Int) ∧ (i : Int) < (D.map (rb C)).length ∧ 0 ≤ (j : Int) ∧ (j : Int) < C) := by rw [List.length_map]; omega
      rw [decide_eq_true e, Bool.true_and, Int.toNat_natCast, Int.toNat_natCast, List.getD_eq_getElem?_getD, List.getElem?_map, List.getElem?_eq_getElem h2, Option.map_some, Option.getD_some, testBit_rb _ _ _ hC, decide_eq_true hj, Bool.true_and, List.getD_eq_getElem?_getD, List.getElem?_eq_getElem h4]; rfl
theorem sameB_refl (C : Nat) (M : List (List Bool)) : sameB C C M M = true := by
  unfold sameB withinB
  rw [decide_eq_true ⟨⟨rfl, rfl⟩, fun i _ j _ h => h⟩]; rfl
theorem told_ns {C : Nat} {M : List (List Bool)} (hC : C ≤ 4096) (h : Wide C M) : toldM C (nsOf C M) = M := by rw [nsOf_rb C M hC, toldM_rb hC h]
theorem ref_wide {w : World} {C : Nat} {A : Option Addr} {M : List (List Bool)} (h : IsRef w C A M) : Wide C M := by
  obtain ⟨_, _, vs, _, _, h5⟩ := h
  intro r hr
  obtain ⟨i, hi⟩ := List.getElem?_of_mem hr
  exact (h5 i r hi).1


end Go.Proofs.YtfbkcdhmggjbaaaGreatDoor

namespace Go.Proofs.YtfbkcdhmggjbaaaGreatDoor
open Go.RowKit

/-! Plain laws: what the program's operations on sets of columns do to the elements. -/
theorem mat_congr {R C : Nat} {f g : Nat → Nat → Bool} (h : ∀ i, i < R → ∀ j, j < C → f i j = g i j) : mat R C f = mat R C g := by
  unfold mat
  refine List.map_congr_left fun i hi => List.map_congr_left fun j hj => h i (List.mem_range.1 hi) j (List.mem_range.1 hj)
theorem same_of {R C : Nat} {Ns : List Nat} {f : Nat → Nat → Bool} (hN : Ns.length = R) (h : ∀ i, i < R → ∀ j, j < C → mhas C Ns i j = f i j) : sameB C C (toldM C Ns) (mat R C f) = true := by
  subst hN
  have e : toldM C Ns = mat Ns.length C f := mat_congr h
  rw [e, sameB_refl]
theorem mhas_in {C : Nat} {Ns : List Nat} {i j : Nat} (hi : i < Ns.length) (hj : j < C) : mhas C Ns i j = (Ns.getD i 0).testBit j := by
  unfold mhas insideB
  rw [decide_eq_true (by omega), Bool.true_and, Int.toNat_natCast, Int.toNat_natCast]
theorem hasR_in {C : Nat} {M : List (List Bool)} {i j : Nat} (hi : i < M.length) (hj : j < C) : hasR C M i j = mget M i j := by
  rw [hasR_nat, decide_eq_true hi, decide_eq_true hj]; rfl
theorem getD_map_range {f : Nat → Nat} {k i : Nat} (h : i < k) : ((List.range k).map f).getD i 0 = f i := by
  rw [List.getD_eq_getElem?_getD, List.getElem?_map, List.getElem?_range h]; rfl
theorem testBit_prow (Ms ks : List Nat) (j : Nat) : (prow Ms ks).testBit j = ks.any fun k => (Ms.getD k 0).testBit j := by
  unfold prow
  have : ∀ (ks : List Nat) (N : Nat), (ks.foldl (fun r k => r ||| Ms.getD k 0) N).testBit j = (N.testBit j || ks.any fun k => (Ms.getD k 0).testBit j) := by
    intro ks
    induction ks with
    | nil => intro N; simp
    | cons k ks ih => intro N; rw [List.foldl_cons, ih, Nat.testBit_or, List.any_cons, Bool.or_assoc]
  rw [this, Nat.zero_testBit, Bool.false_or]
/-- The program's product, element by element. -/
theorem mprod_bit {Ns Ms : List Nat} {R i j : Nat} (hi : i < R) : ((mprod Ns Ms R).getD i 0).testBit j = true ↔ ∃ k, (Ns.getD i 0).testBit k = true ∧ (Ms.getD k 0).testBit j = true := by
  unfold mprod
  rw [getD_map_range hi, testBit_prow, List.any_eq_true]
  constructor
  · rintro ⟨k, hk, h⟩; exact ⟨k, mem_mems.1 hk, h⟩
  · rintro ⟨k, hk, h⟩; exact ⟨k, mem_mems.2 hk, h⟩
theorem prodF_iff {M P : List (List Bool)} {K i j : Nat} : prodF M P K i j = true ↔ ∃ k, k < K ∧ mget M i k = true ∧ mget P k j = true := by
  unfold prodF anyTo
  rw [List.any_eq_true]
  constructor
  · rintro ⟨k, hk, h⟩
    rw [Bool.and_eq_true] at h
    exact ⟨k, List.mem_range.1 hk, h.1, h.2⟩
  · rintro ⟨k, hk, h1, h2⟩
    exact ⟨k, List.mem_range.2 hk, by rw [h1, h2]; rfl⟩
theorem mprod_has {C D : Nat} {M P : List (List Bool)} (hC : C ≤ 4096) (hD : D ≤ 4096) (hL : C = P.length) : ∀ i, i < M.length → ∀ j, j < D → mhas D (mprod (nsOf C M) (nsOf D P) M.length) i j = prodF M P C i j := fun i hi j hj => by
  rw [mhas_in (by rw [mprod_len]; exact hi) hj, Bool.eq_iff_iff, mprod_bit hi, prodF_iff]
  constructor
  · rintro ⟨k, h1, h2⟩
    rw [nsOf_get hi, testBit_rowN _ _ _ _ hC, hasR_nat] at h1
    simp only [Bool.and_eq_true, decide_eq_true_eq] at h1
    obtain ⟨⟨_, hk⟩, h1⟩ := h1
    have hkP : k < P.length := by omega
    rw [nsOf_get hkP, testBit_rowN _ _ _ _ hD, hasR_in hkP hj] at h2
    exact ⟨k, hk, h1, h2⟩
  · rintro ⟨k, hk, h1, h2⟩
    have hkP : k < P.length := by omega
    refine ⟨k, ?_, ?_⟩
    · rw [nsOf_get hi, testBit_rowN _ _ _ _ hC, hasR_in hi hk]; exact h1
    · rw [nsOf_get hkP, testBit_rowN _ _ _ _ hD, hasR_in hkP hj]; exact h2
theorem bit_nsOf {C : Nat} {M : List (List Bool)} (hC : C ≤ 4096) {i j : Nat} (hi : i < M.length) (hj : j < C) : ((nsOf C M).getD i 0).testBit j = mget M i j := by
  rw [nsOf_get hi, testBit_rowN _ _ _ _ hC, hasR_in hi hj]
end Go.Proofs.YtfbkcdhmggjbaaaGreatDoor

namespace Go.Proofs.YtfbkcdhmggjbaaaGreatDoor
open Go.RowKit

/-- The value v is a raw matrix of R rows and C columns with the bits zs. -/
def IsRaw (w : World) (v : Value) (R C : Nat) (zs : List Int) : Prop :=
  ∃ (r c : Nat) (A : Option Addr) (d : Nat), v = .agg #[.int .u8 r, .int .u8 c, .slice A zs.length d] ∧ (r : Int) % 6 = R ∧ (c : Int) % 6 = C ∧ r ≤ 255 ∧ c ≤ 255 ∧ Row w A (zs.map (.int .u8)) ∧ (∀ z ∈ zs, 0 ≤ z ∧ z ≤ 255) ∧ zs.length ≤ maxLen
theorem IsRaw.below {w w' : World} {v : Value} {R C : Nat} {zs : List Int} (h : IsRaw w v R C zs) (hb : Below w.heap.size w w') : IsRaw w' v R C zs := by
  obtain ⟨r, c, A, d, h1, h2, h3, h4, h5, h6, h7, h8⟩ := h
  exact ⟨r, c, A, d, h1, h2, h3, h4, h5, h6.below hb, h7, h8⟩
theorem IsRaw.bd {w : World} {v : Value} {R C : Nat} {zs : List Int} (h : IsRaw w v R C zs) : R ≤ 5 ∧ C ≤ 5 := by
  obtain ⟨r, c, A, d, h1, h2, h3, h4, h5, h6, h7, h8⟩ := h; omega
/-- The matrix of a raw one. -/
abbrev rawM (R C : Nat) (zs : List Int) : List (List Bool) := mat R C (rawF C zs)
theorem make_raw (v : Value) (R C : Nat) (zs : List Int) (w : World) (h : IsRaw w v R C zs) :
    Calls Tryz.prog 24 #[v] w fun e w' => ∃ A c, e = .returned (refV C A R c) ∧ IsRef w' C A (rawM R C zs) ∧ Below w.heap.size w w' := by
  have hbd := h.bd
  obtain ⟨r, c, A, d, rfl, h2, h3, h4, h5, h6, h7, h8⟩ := h
  refine (maker_any r c R C A d zs w h2 h3 h4 h5 h6 h7 h8).mono ?_
  rintro e w' ⟨A', c', gs, rfl, hgs, hO, hb⟩
  subst hgs
  obtain ⟨A2, c2, hv, _, hI⟩ := hO.ref (by omega) (by omega)
  cases hv
  exact ⟨_, _, rfl, hI, hb⟩
theorem matrix_raw (C R : Nat) (A : Option Addr) (c : Nat) (f : Nat → Nat → Bool) (w : World) (h : IsRef w C A (mat R C f)) (hC : C ≤ 256) (hR : R ≤ 256) :
    Calls Tryz.prog 9 #[refV C A R c] w fun e w' => ∃ q, e = .returned (ptr q) ∧ IsMat w' q C (nsOf C (mat R C f)) ∧ w.heap.size ≤ q ∧ Below w.heap.size w w' := by
  have := matrixl_any C A c (mat R C f) w h hC (by rw [mat_len]; exact hR)
  rwa [mat_len] at this

end Go.Proofs.YtfbkcdhmggjbaaaGreatDoor
