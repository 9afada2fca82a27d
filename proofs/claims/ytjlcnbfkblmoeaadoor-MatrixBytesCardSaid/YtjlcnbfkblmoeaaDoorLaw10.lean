import Derived.Test.YtjlcnbfkblmoeaaDoorLaw
namespace Go.Proofs.YtjlcnbfkblmoeaaDoor
open Go.RowKit

theorem mhas_at (C : Nat) (M : List (List Bool)) (hC : C ≤ 4096) (k n : Nat) (hk : k < M.length) (hn : n < C) : mhas C (nsOf C M) k n = mget M k n := by
  rw [mhas_nsOf _ _ hC, hasR_nat, decide_eq_true hk, decide_eq_true hn]; simp
theorem str_app (l : List UInt8) (b : UInt8) : (⟨l.toArray⟩ : ByteArray) ++ ⟨#[b]⟩ = ⟨(l ++ [b]).toArray⟩ := by
  apply ByteArray.ext; simp

set_option maxRecDepth 100000 in
set_option maxHeartbeats 2000000 in
theorem textr_any (C : Nat) (A : Option Addr) (c : Nat) (M : List (List Bool)) (w : World) (h : IsRef w C A M) :
    Calls Tryd.prog 25 #[refV C A M.length c] w fun e w' => e = .returned (.string ⟨(mtext C (nsOf C M) M.length).toArray⟩) ∧ Below w.heap.size w w' := by
  have hC := h.1
  have hR := h.2.1
  obtain ⟨Ns, hNs⟩ : ∃ Ns, Ns = nsOf C M := ⟨_, rfl⟩
  have HM : Hid (∀ k n, k < M.length → n < C → mhas C Ns k n = mget M k n) := Lib.hid (by subst hNs; exact fun k n hk hn => mhas_at C M hC k n hk hn)
  rw [← hNs]
  clear hNs
  go_enter Tryd.func25, Tryd.ntmps25
  go_wp2_with fail
  refine abs1 fun W0 hX0 hbel0 hz => ?_
  have HZ := Lib.hid hz; clear hz
  have x0 := hX0.cell 0
  have x1 := hX0.cell 1
  go_loopw [3, 11] (fun s i wr => ∃ k : Nat, k ≤ M.length ∧ i = .int .i64 k ∧ s = .string ⟨(mtext C Ns k).toArray⟩ ∧ Below w.heap.size w wr) (fun _ i _ => M.length - (intOf i).toNat)
  case atStart => exact ⟨0, Nat.zero_le _, rfl, rfl, hbel0⟩
  case round =>
    obtain ⟨k, hk, rfl, rfl, hbel⟩ := hrel
    by_cases hlt : k < M.length
    · obtain ⟨g, off, B, d, rfl, hg, hc, hr, hl⟩ := (h.below hbel).row hlt
      go_wp2_with fail
      go_loopw [3, 17] (fun s i wq => ∃ n : Nat, n ≤ C ∧ i = .int .i64 n ∧ s = .string ⟨(mtext C Ns k ++ rowText C Ns k n).toArray⟩ ∧ wq = wr) (fun _ i _ => C - (intOf i).toNat)
      case atStart => exact ⟨0, Nat.zero_le _, rfl, by simp [rowText], rfl⟩
      case round =>
        obtain ⟨n, hn, rfl, rfl, rfl⟩ := hrel
        have hl1 := mtext_len C Ns k
        have hl2 := rowText_len C Ns k n
        have hmul : (C + 1) * k ≤ 4097 * 4096 := Nat.mul_le_mul (by omega) (by omega)
        have hbd : ¬ 9223372036854775807 < (C + 1) * k + n + 1 := by omega
        clear hmul
        by_cases hltn : n < C
        · have hln : n < M[k].length := by omega
          obtain ⟨g2, off2, rfl, hg2, hc2⟩ := hr (by rw [List.length_map]; omega)
          have hcell := hc2 n (.bool (mget M k n)) (by
            rw [List.getElem?_map, List.getElem?_eq_getElem hln, Option.map_some]
            simp only [mget, List.getD_eq_getElem?_getD, List.getElem?_eq_getElem hlt, Option.getD_some, List.getElem?_eq_getElem hln])
          clear hc2
          have HS := Lib.hid (rowText_succ C Ns k n)
          have hm := HM.out k n hlt hltn
          rw [hm] at HS
          clear hm
          have hs1 := str_app (mtext C Ns k ++ rowText C Ns k n) 49
          have hs0 := str_app (mtext C Ns k ++ rowText C Ns k n) 48
          cases hb : mget M k n with
          | true =>
            rw [hb] at hcell HS
            clear hb
            go_wp2_with fail
            exact ⟨⟨n + 1, by omega, by go_num, by rw [HS.out, ← List.append_assoc]; simp, by trivial⟩, by simp [intOf]; omega⟩
          | false =>
            rw [hb] at hcell HS
            clear hb
            go_wp2_with fail
            exact ⟨⟨n + 1, by omega, by go_num, by rw [HS.out, ← List.append_assoc]; simp, by trivial⟩, by simp [intOf]; omega⟩
        · obtain rfl : n = C := by omega
          have hs := str_app (mtext n Ns k ++ rowText n Ns k n) 10
          go_wp2_with fail
          exact ⟨⟨k + 1, by omega, by go_num, by simp [mtext], hbel⟩, by simp [intOf]; omega⟩
    · obtain rfl : k = M.length := by omega
      go_wp2_with fail
      go_ret
      exact ⟨rfl, hbel⟩

/-! The text of lists of rows, and what reads one back. -/
def bits01 (r : List Bool) : List UInt8 := r.map fun b => if b then 49 else 48
def txt : List (List Bool) → List UInt8
  | [] => []
  | r :: M => bits01 r ++ 10 :: txt M
theorem txt_app (M P : List (List Bool)) : txt (M ++ P) = txt M ++ txt P := by
  induction M with
  | nil => rfl
  | cons r M ih => simp [txt, ih]
theorem bits01_snoc (r : List Bool) (b : Bool) : bits01 (r ++ [b]) = bits01 r ++ [if b then 49 else 48] := by simp [bits01]
/-- The reader: columns, rows, the row being read. -/
def runP : Nat → List (List Bool) → List Bool → List UInt8 → Option (Nat × List (List Bool))
  | C, M, row, [] => if 0 < row.length ∨ 256 < M.length then none else some (C, M)
  | C, M, row, b :: l => if b = 48 ∨ b = 49 then runP C M (row ++ [b == 49]) l
    else if b ≠ 10 ∨ (0 < M.length ∧ row.length ≠ C) ∨ 256 < row.length then none
    else runP row.length (M ++ [row]) [] l
/-- Rows of a matrix: of one length, within the bounds. -/
structure WfM (C : Nat) (M : List (List Bool)) : Prop where
  wide : Wide C M
  cols : C ≤ 256
  none : M = [] → C = 0
theorem WfM.push {C : Nat} {M : List (List Bool)} {row : List Bool} (h : WfM C M) (h1 : ¬ (0 < M.length ∧ row.length ≠ C)) (h2 : row.length ≤ 256) : WfM row.length (M ++ [row]) := by
  refine ⟨fun r hr => ?_, h2, fun h => by simp at h⟩
  rcases List.mem_append.1 hr with hr | hr
  · have hp : 0 < M.length := List.length_pos_of_mem hr
    have := h.wide r hr
    omega
  · rw [List.mem_singleton.1 hr]
theorem runP_sound : ∀ (l : List UInt8) (C : Nat) (M : List (List Bool)) (row : List Bool), WfM C M → ∀ C' M', runP C M row l = some (C', M') → txt M ++ bits01 row ++ l = txt M' ∧ WfM C' M' ∧ M'.length ≤ 256
  | [], C, M, row, h, C', M', e => by
    rw [runP] at e
    split at e
    · cases e
    · cases e
      have : row = [] := List.eq_nil_of_length_eq_zero (by omega)
      subst this
      exact ⟨by simp [bits01], h, by omega⟩
  | b :: l, C, M, row, h, C', M', e => by
    rw [runP] at e
    split at e
    · rename_i hb
      obtain ⟨h1, h2⟩ := runP_sound l C M _ h C' M' e
      refine ⟨?_, h2⟩
      rw [← h1, bits01_snoc]
      rcases hb with rfl | rfl <;> simp
    · split at e
      · cases e
      · rename_i hb hn
        have hb10 : b = 10 := by by_cases hb : b = 10 <;> simp_all
        subst hb10
        obtain ⟨h1, h2⟩ := runP_sound l row.length (M ++ [row]) [] (h.push (fun hh => hn (.inr (.inl hh))) (by omega)) C' M' e
        refine ⟨?_, h2⟩
        rw [← h1, txt_app]
        simp [txt, bits01]
theorem runP_bits (C : Nat) (M : List (List Bool)) (l : List UInt8) : ∀ (r row : List Bool), runP C M row (bits01 r ++ l) = runP C M (row ++ r) l
  | [], row => by simp [bits01]
  | b :: r, row => by
    have : bits01 (b :: r) ++ l = (if b then (49 : UInt8) else 48) :: (bits01 r ++ l) := rfl
    rw [this, runP, if_pos (by cases b <;> simp)]
    rw [show ((if b = true then (49 : UInt8) else 48) == 49) = b by cases b <;> rfl, runP_bits C M l r]
    simp
theorem runP_txt (C' : Nat) : ∀ (P : List (List Bool)) (C : Nat) (M : List (List Bool)), Wide C' P → (M = [] ∨ C = C') → C' ≤ 256 → (M ++ P).length ≤ 256 → runP C M [] (txt P) = some (if P = [] then C else C', M ++ P)
  | [], C, M, _, _, _, h => by
    rw [List.append_nil] at h
    simp only [txt, runP]
    rw [if_neg (by simp; omega)]; simp
  | r :: P, C, M, hw, hm, hc, h => by
    have hr : r.length = C' := hw r (List.mem_cons_self ..)
    rw [txt, runP_bits, List.nil_append, runP, if_neg (by decide), if_neg (by
      rintro (h | ⟨h1, h2⟩ | h)
      · exact h rfl
      · rcases hm with rfl | rfl
        · simp at h1
        · exact h2 hr
      · omega)]
    rw [runP_txt C' P r.length (M ++ [r]) (fun x hx => hw x (List.mem_cons_of_mem _ hx)) (.inr hr) hc (by simpa using h)]
    simp [hr]
theorem lines_bits (r : List Bool) (l : List UInt8) : lines (bits01 r ++ 10 :: l) = bits01 r :: lines l := by
  induction r with
  | nil => simp [bits01, lines]
  | cons b r ih =>
    have : bits01 (b :: r) ++ 10 :: l = (if b then (49 : UInt8) else 48) :: (bits01 r ++ 10 :: l) := rfl
    rw [this, lines, ih, if_neg (by cases b <;> decide)]
    rfl
theorem lines_txt (M : List (List Bool)) : lines (txt M) = M.map bits01 ++ [[]] := by
  induction M with
  | nil => rfl
  | cons r M ih => rw [txt, lines_bits, ih]; rfl
theorem count_bits (r : List Bool) : (bits01 r).count 10 = 0 := by
  rw [List.count_eq_zero]
  intro h
  obtain ⟨b, _, hb⟩ := List.mem_map.1 h
  cases b <;> simp at hb
theorem count_txt (M : List (List Bool)) : (txt M).count 10 = M.length := by
  induction M with
  | nil => rfl
  | cons r M ih => rw [txt, List.count_append, count_bits, List.count_cons_self, ih]; simp
theorem lineSet_bits (C : Nat) (r : List Bool) (hr : r.length = C) (hC : C ≤ 4096) : lineSet (bits01 r) = rb C r := by
  apply Nat.eq_of_testBit_eq
  intro j
  rw [testBit_rb _ _ _ hC]
  unfold lineSet
  rw [testBit_setOf, Bool.eq_iff_iff, decide_eq_true_eq, Bool.and_eq_true, decide_eq_true_eq]
  have hlen : (bits01 r).length = C := by rw [bits01, List.length_map, hr]
  have hg : ∀ k, k < C → ((bits01 r).getD k 0 == 49) = r.getD k false := fun k hk => by
    rw [bits01, List.getD_eq_getElem?_getD, List.getD_eq_getElem?_getD, List.getElem?_map, List.getElem?_eq_getElem (by omega)]
    simp only [Option.map_some, Option.getD_some]
    cases r[k] <;> rfl
  have hmem : ((j : Int) ∈ (onesOf (bits01 r) (bits01 r).length).map Int.ofNat) ↔ j < C ∧ r.getD j false = true := by
    rw [List.mem_map]
    constructor
    · rintro ⟨k, hk, e⟩
      have e' : k = j := Int.ofNat.inj e
      subst e'
      unfold onesOf at hk
      rw [List.mem_filter, List.mem_range, hlen] at hk
      exact ⟨hk.1, by rw [← hg k hk.1]; exact hk.2⟩
    · rintro ⟨h1, h2⟩
      refine ⟨j, ?_, rfl⟩
      unfold onesOf
      rw [List.mem_filter, List.mem_range, hlen]
      exact ⟨h1, by rw [hg j h1]; exact h2⟩
  rw [hmem]
  constructor
  · rintro ⟨_, h⟩; exact h
  · intro h; exact ⟨by omega, h⟩
theorem pC_txt {C : Nat} {M : List (List Bool)} (h : WfM C M) : pC (txt M) = C := by
  unfold pC pcols
  rw [count_txt, lines_txt]
  cases M with
  | nil => simp [h.none rfl]
  | cons r M => simp [bits01, h.wide r (List.mem_cons_self ..)]
theorem pNs_txt {C : Nat} {M : List (List Bool)} (h : WfM C M) : pNs (txt M) = nsOf C M := by
  have hC := h.cols
  unfold pNs
  rw [count_txt, lines_txt, List.take_left' (by simp), nsOf_rb C M (by omega), List.map_map]
  exact List.map_congr_left fun r hr => lineSet_bits C r (h.wide r hr) (by omega)
/-- The text of a matrix is the text of its rows. -/
theorem mtext_told (C : Nat) (Ns : List Nat) : mtext C Ns Ns.length = txt (toldM C Ns) := by
  have : ∀ n, mtext C Ns n = txt (mat n C (toldF C Ns)) := by
    intro n
    induction n with
    | zero => rfl
    | succ n ih =>
      have hm : mat (n + 1) C (toldF C Ns) = mat n C (toldF C Ns) ++ [(List.range C).map fun j => toldF C Ns n j] := by simp [mat, List.range_succ]
      rw [hm, txt_app, ← ih, mtext]
      simp [txt, bits01, rowText, toldF]
  exact this _
theorem mtext_ns {C : Nat} {M : List (List Bool)} (hC : C ≤ 4096) (h : Wide C M) : mtext C (nsOf C M) M.length = txt M := by
  have := mtext_told C (nsOf C M)
  rw [nsTo_len, told_ns hC h] at this
  exact this
theorem pOK_txt {C : Nat} {M : List (List Bool)} (h : WfM C M) (hR : M.length ≤ 256) : pOK (txt M) := by
  have hC := h.cols
  unfold pOK
  rw [pC_txt h, pNs_txt h, count_txt, nsTo_len]
  exact ⟨h.cols, hR, mtext_ns (by omega) h.wide⟩
/-- The reader answers as Parse does. -/
theorem runP_pOK (l : List UInt8) (h : pOK l) : runP 0 [] [] l = some (pC l, toldM (pC l) (pNs l)) := by
  obtain ⟨h1, h2, h3⟩ := h
  have hw : Wide (pC l) (toldM (pC l) (pNs l)) := mat_wide _ _ _
  have hl : (toldM (pC l) (pNs l)).length = l.count 10 := by rw [mat_len, pNs_len]
  have ht : txt (toldM (pC l) (pNs l)) = l := by rw [← mtext_told]; exact h3
  have := runP_txt (pC l) (toldM (pC l) (pNs l)) 0 [] hw (.inl rfl) h1 (by simpa [hl] using h2)
  rw [ht] at this
  rw [this, List.nil_append]
  congr 2
  split
  · rename_i e
    rw [e] at hl
    have hc0 : l.count 10 = 0 := by simpa using hl.symm
    unfold pC pcols
    rw [hc0]; rfl
  · rfl
theorem runP_some {l : List UInt8} {C : Nat} {M : List (List Bool)} (h : runP 0 [] [] l = some (C, M)) : pOK l ∧ C = pC l ∧ M = toldM (pC l) (pNs l) := by
  obtain ⟨h1, h2, h3⟩ := runP_sound l 0 [] [] ⟨fun r hr => by simp at hr, by omega, fun _ => rfl⟩ C M h
  have hl : l = txt M := by simpa [txt, bits01] using h1
  have hp : pOK l := by rw [hl]; exact pOK_txt h2 h3
  have := runP_pOK l hp
  rw [h] at this
  cases this
  exact ⟨hp, rfl, rfl⟩
theorem runP_none {l : List UInt8} (h : runP 0 [] [] l = none) : ¬ pOK l := fun hp => by
  rw [runP_pOK l hp] at h; cases h
end Go.Proofs.YtjlcnbfkblmoeaaDoor
