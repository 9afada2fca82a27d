import Derived.Test.YtfbkcdhmggjbaaaGreatDoorCwI
import Derived.Test.YtfbkcdhmggjbaaaGreatDoorLaw
import Derived.Test.YtfbkcdhmggjbaaaGreatDoorLaw3
/-
  Simplify in plain words: needless roles, then needless users are removed; after it nothing more can be removed.
-/
namespace Go.Proofs.YtfbkcdhmggjbaaaGreatDoor
open Go.RowKit
/-- Roles whose users are below R and whose permissions are below C. -/
def WfQ (R C : Nat) (L : List (Nat × Nat)) : Prop := ∀ s ∈ L, (∀ i, s.1.testBit i = true → i < R) ∧ ∀ j, s.2.testBit j = true → j < C
/-- Some role gives the cell. -/
def givQ (L : List (Nat × Nat)) (i j : Nat) : Prop := ∃ s ∈ L, s.1.testBit i = true ∧ s.2.testBit j = true
theorem low_of {C N : Nat} (h : ∀ j, N.testBit j = true → j < C) : N &&& lowN C = N := Nat.eq_of_testBit_eq fun j => by
  rw [Nat.testBit_and, testBit_lowN]
  cases hb : N.testBit j
  · simp
  · simp [h j hb]
theorem of_low {C N : Nat} (h : N &&& lowN C = N) : ∀ j, N.testBit j = true → j < C := fun j hj => by
  rw [← h, Nat.testBit_and, testBit_lowN] at hj
  simp at hj
  exact hj.2
section
variable {R C : Nat} {L : List (Nat × Nat)}
theorem WfQ.rows1 (h : WfQ R C L) : rowsIn R (L.map (·.1)) := fun k hk => by
  rw [List.length_map] at hk
  rw [List.getD_eq_getElem?_getD, List.getElem?_map, List.getElem?_eq_getElem hk]
  exact low_of (h _ (List.getElem_mem hk)).1
theorem WfQ.rows2 (h : WfQ R C L) : rowsIn C (L.map (·.2)) := fun k hk => by
  rw [List.length_map] at hk
  rw [List.getD_eq_getElem?_getD, List.getElem?_map, List.getElem?_eq_getElem hk]
  exact low_of (h _ (List.getElem_mem hk)).2
theorem WfQ.erase (h : WfQ R C L) (k : Nat) : WfQ R C (L.eraseIdx k) := fun s hs => h s (List.mem_of_mem_eraseIdx hs)
theorem getQ_mem {k : Nat} (hk : k < L.length) : L.getD k (0, 0) ∈ L := by
  rw [List.getD_eq_getElem?_getD, List.getElem?_eq_getElem hk]
  exact List.getElem_mem hk
end
theorem usersQ_bit {R : Nat} {L : List (Nat × Nat)} (hL : L.length ≤ 4096) (i k : Nat) : ((mtrans R (L.map (·.1)) R).getD i 0).testBit k = true ↔ i < R ∧ k < L.length ∧ (L.getD k (0, 0)).1.testBit i = true := by
  rw [bit_trans (by rw [List.length_map]; exact hL), List.length_map]
  constructor
  · rintro ⟨h1, h2, h3⟩
    refine ⟨h1, h2, ?_⟩
    rw [List.getD_eq_getElem?_getD, List.getElem?_map, List.getElem?_eq_getElem h2] at h3
    rw [List.getD_eq_getElem?_getD, List.getElem?_eq_getElem h2]
    exact h3
  · rintro ⟨h1, h2, h3⟩
    refine ⟨h1, h2, ?_⟩
    rw [List.getD_eq_getElem?_getD, List.getElem?_map, List.getElem?_eq_getElem h2]
    rw [List.getD_eq_getElem?_getD, List.getElem?_eq_getElem h2] at h3
    exact h3
theorem permsQ_get {L : List (Nat × Nat)} {k : Nat} (hk : k < L.length) : (L.map (·.2)).getD k 0 = (L.getD k (0, 0)).2 := by
  rw [List.getD_eq_getElem?_getD, List.getElem?_map, List.getElem?_eq_getElem hk, List.getD_eq_getElem?_getD, List.getElem?_eq_getElem hk]; rfl
/-- Valid roles, element for element. -/
theorem validN_iff {C : Nat} {Ns : List Nat} {D E : Nat} {Us Ps : List Nat} : validN C Ns D Us E Ps = true ↔ D = Ps.length ∧ E = C ∧ Us.length = Ns.length ∧ ∀ i, i < Ns.length → ∀ j, (∃ k, (Us.getD i 0).testBit k = true ∧ (Ps.getD k 0).testBit j = true) ↔ (Ns.getD i 0).testBit j = true := by
  constructor
  · intro h
    unfold validN at h
    rw [Bool.and_eq_true, decide_eq_true_eq, decide_eq_true_eq] at h
    obtain ⟨h1, h2, h3, h4, h5⟩ := h
    rw [mprod_len] at h3
    refine ⟨h1, h2, h3, fun i hi j => ?_⟩
    have q1 := h4 i (by rw [mprod_len, h3]; exact hi)
    have q2 := h5 i hi
    have e : (mprod Us Ps Us.length).getD i 0 = Ns.getD i 0 := by rw [← q1, Nat.and_comm]; exact q2
    rw [← e, mprod_bit (by rw [h3]; exact hi)]
  · rintro ⟨h1, h2, h3, h4⟩
    exact valid_of h1 h2 h3 h4
theorem validQ_iff {C : Nat} {Ns : List Nat} {L : List (Nat × Nat)} (hL : L.length ≤ 4096) : validQ C Ns L = true ↔ ∀ i, i < Ns.length → ∀ j, givQ L i j ↔ (Ns.getD i 0).testBit j = true := by
  unfold validQ
  rw [validN_iff, List.length_map, mtrans_len]
  have key : ∀ i, i < Ns.length → ∀ j, ((∃ k, ((mtrans Ns.length (L.map (·.1)) Ns.length).getD i 0).testBit k = true ∧ ((L.map (fun s : Nat × Nat => s.2)).getD k 0).testBit j = true) ↔ givQ L i j) := fun i hi j => by
    constructor
    · rintro ⟨k, h1, h2⟩
      obtain ⟨_, hk, h3⟩ := (usersQ_bit hL i k).1 h1
      rw [permsQ_get hk] at h2
      exact ⟨_, getQ_mem hk, h3, h2⟩
    · rintro ⟨s, hs, h1, h2⟩
      obtain ⟨k, hk, rfl⟩ := List.mem_iff_getElem.1 hs
      have e : L.getD k (0, 0) = L[k] := by rw [List.getD_eq_getElem?_getD, List.getElem?_eq_getElem hk]; rfl
      exact ⟨k, (usersQ_bit hL i k).2 ⟨hi, hk, by rw [e]; exact h1⟩, by rw [permsQ_get hk, e]; exact h2⟩
  constructor
  · rintro ⟨_, _, _, h⟩ i hi j
    rw [← key i hi j]
    exact h i hi j
  · intro h
    refine ⟨rfl, rfl, rfl, fun i hi j => ?_⟩
    rw [key i hi j]
    exact h i hi j

/-- Role r without user i. -/
def clrQ (L : List (Nat × Nat)) (r i : Nat) : List (Nat × Nat) := L.set r (withoutB (L.getD r (0, 0)).1 (i : Nat), (L.getD r (0, 0)).2)
theorem clrQ_len (L : List (Nat × Nat)) (r i : Nat) : (clrQ L r i).length = L.length := by unfold clrQ; rw [List.length_set]
theorem testBit_withoutB (N i j : Nat) : (withoutB N (i : Nat)).testBit j = (N.testBit j && decide (j ≠ i)) := by
  unfold withoutB
  rw [hasB_nat, Int.toNat_natCast]
  cases h : N.testBit i
  · rw [if_neg (by simp)]
    by_cases e : j = i
    · subst e; rw [h]; rfl
    · simp [e]
  · rw [if_pos rfl]
    exact testBit_without h j
theorem getD_setQ (L : List (Nat × Nat)) (r k : Nat) (x : Nat × Nat) : (L.set r x).getD k (0, 0) = if r = k ∧ k < L.length then x else L.getD k (0, 0) := by
  rw [List.getD_eq_getElem?_getD, List.getElem?_set, List.getD_eq_getElem?_getD]
  by_cases h : r = k
  · subst h
    rw [if_pos rfl]
    by_cases hr : r < L.length
    · rw [if_pos hr, if_pos ⟨rfl, hr⟩]; rfl
    · rw [if_neg hr, if_neg (fun hh => hr hh.2), List.getElem?_eq_none (by omega)]
  · rw [if_neg h, if_neg (fun hh => h hh.1)]
theorem clrQ_1 (L : List (Nat × Nat)) (r i k x : Nat) (hr : r < L.length) : ((clrQ L r i).getD k (0, 0)).1.testBit x = ((L.getD k (0, 0)).1.testBit x && !(decide (k = r) && decide (x = i))) := by
  unfold clrQ
  rw [getD_setQ]
  by_cases h : r = k
  · subst h
    rw [if_pos ⟨rfl, hr⟩, testBit_withoutB]
    simp
  · rw [if_neg (fun hh => h hh.1), decide_eq_false (fun e => h e.symm)]
    simp
theorem clrQ_2 (L : List (Nat × Nat)) (r i k : Nat) : ((clrQ L r i).getD k (0, 0)).2 = (L.getD k (0, 0)).2 := by
  unfold clrQ
  rw [getD_setQ]
  split
  · rename_i h
    rw [h.1]
  · rfl
theorem WfQ.clr {R C : Nat} {L : List (Nat × Nat)} (h : WfQ R C L) (r i : Nat) : WfQ R C (clrQ L r i) := by
  by_cases hr : r < L.length
  · intro s hs
    rcases List.mem_or_eq_of_mem_set hs with h1 | h1
    · exact h s h1
    · subst h1
      obtain ⟨q1, q2⟩ := h _ (getQ_mem hr)
      refine ⟨fun x hx => ?_, q2⟩
      rw [testBit_withoutB] at hx
      simp only [Bool.and_eq_true] at hx
      exact q1 x hx.1
  · have : clrQ L r i = L := by unfold clrQ; rw [List.set_eq_of_length_le (by omega)]
    rw [this]; exact h
/-- Needless roles are removed, from the last one on; n are left to look at. -/
def simA (ok : List (Nat × Nat) → Bool) : Nat → List (Nat × Nat) → List (Nat × Nat)
  | 0, L => L
  | n + 1, L => simA ok n (if ok (L.eraseIdx n) = true then L.eraseIdx n else L)
/-- One user of a role. -/
def stepU (ok : List (Nat × Nat) → Bool) (r : Nat) (L : List (Nat × Nat)) (i : Nat) : List (Nat × Nat) := if ok (clrQ L r i) = true then clrQ L r i else L
/-- The users of a role. -/
def simU (ok : List (Nat × Nat) → Bool) (L : List (Nat × Nat)) (r : Nat) : List (Nat × Nat) := (mems (L.getD r (0, 0)).1).foldl (stepU ok r) L
def simB (ok : List (Nat × Nat) → Bool) (L : List (Nat × Nat)) (n : Nat) : List (Nat × Nat) := (List.range n).foldl (simU ok) L
/-- Simplify. -/
def simQ (ok : List (Nat × Nat) → Bool) (L : List (Nat × Nat)) : List (Nat × Nat) := simB ok (simA ok L.length L) (simA ok L.length L).length
/-- One user of a role, in the reference's way. -/
def dropU (ok : List (Nat × Nat) → Bool) (r : Nat) (L : List (Nat × Nat)) (i : Nat) : List (Nat × Nat) := if ((L.getD r (0, 0)).1.testBit i && ok (clrQ L r i)) = true then clrQ L r i else L
section
variable {ok : List (Nat × Nat) → Bool}
theorem simB_succ (L : List (Nat × Nat)) (n : Nat) : simB ok L (n + 1) = simU ok (simB ok L n) n := by unfold simB; rw [List.range_succ, List.foldl_append]; rfl
theorem stepU_len (r : Nat) (L : List (Nat × Nat)) (i : Nat) : (stepU ok r L i).length = L.length := by
  unfold stepU; split
  · exact clrQ_len _ _ _
  · rfl
theorem foldU_len (r : Nat) : ∀ (ks : List Nat) (L : List (Nat × Nat)), (ks.foldl (stepU ok r) L).length = L.length
  | [], _ => rfl
  | k :: ks, L => by rw [List.foldl_cons, foldU_len r ks, stepU_len]
theorem simU_len (L : List (Nat × Nat)) (r : Nat) : (simU ok L r).length = L.length := foldU_len r _ L
theorem simB_len (L : List (Nat × Nat)) : ∀ n, (simB ok L n).length = L.length
  | 0 => rfl
  | n + 1 => by rw [simB_succ, simU_len, simB_len L n]
/-- Both ways are one. -/
theorem drop_same (r : Nat) (L : List (Nat × Nat)) (hr : r < L.length) : ∀ n, (List.range n).foldl (dropU ok r) L = ((List.range n).filter (L.getD r (0, 0)).1.testBit).foldl (stepU ok r) L ∧ ((List.range n).foldl (dropU ok r) L).length = L.length ∧ ∀ i, n ≤ i → (((List.range n).foldl (dropU ok r) L).getD r (0, 0)).1.testBit i = (L.getD r (0, 0)).1.testBit i
  | 0 => ⟨rfl, rfl, fun _ _ => rfl⟩
  | n + 1 => by
    obtain ⟨h1, hl, h2⟩ := drop_same r L hr n
    have hb := h2 n (Nat.le_refl _)
    rw [List.range_succ, List.foldl_append, List.filter_append, List.foldl_append, ← h1]
    obtain ⟨K, hK⟩ : ∃ K, K = (List.range n).foldl (dropU ok r) L := ⟨_, rfl⟩
    rw [← hK] at hb h2 hl ⊢
    rw [List.foldl_cons, List.foldl_nil]
    have hlen : (dropU ok r K n).length = L.length := by
      unfold dropU; split
      · rw [clrQ_len]; exact hl
      · exact hl
    refine ⟨?_, hlen, fun i hi => ?_⟩
    · cases hx : (L.getD r (0, 0)).1.testBit n
      · rw [List.filter_cons_of_neg (by rw [hx]; simp), List.filter_nil, List.foldl_nil]
        unfold dropU
        rw [hb, hx, Bool.false_and, if_neg (by simp)]
      · rw [List.filter_cons_of_pos hx, List.filter_nil, List.foldl_cons, List.foldl_nil]
        unfold dropU stepU
        rw [hb, hx, Bool.true_and]
    · rw [← h2 i (by omega)]
      unfold dropU
      split
      · rw [clrQ_1 _ _ _ _ _ (by rw [hl]; exact hr), decide_eq_false (show ¬ i = n by omega)]
        simp
      · rfl
theorem simU_drop {R C : Nat} {L : List (Nat × Nat)} (hL : WfQ R C L) {r : Nat} (hr : r < L.length) : (List.range R).foldl (dropU ok r) L = simU ok L r := by
  rw [(drop_same r L hr R).1]
  unfold simU
  rw [mems_under fun j hj => (hL _ (getQ_mem hr)).1 j hj]
theorem WfQ.stepU {R C : Nat} {L : List (Nat × Nat)} (h : WfQ R C L) (r i : Nat) : WfQ R C (stepU ok r L i) := by
  unfold Go.Proofs.YtfbkcdhmggjbaaaGreatDoor.stepU; split
  · exact h.clr r i
  · exact h
theorem WfQ.foldU {R C : Nat} (r : Nat) : ∀ (ks : List Nat) {L : List (Nat × Nat)}, WfQ R C L → WfQ R C (ks.foldl (Go.Proofs.YtfbkcdhmggjbaaaGreatDoor.stepU ok r) L)
  | [], _, h => h
  | k :: ks, L, h => by rw [List.foldl_cons]; exact WfQ.foldU r ks (h.stepU r k)
theorem WfQ.simU {R C : Nat} {L : List (Nat × Nat)} (h : WfQ R C L) (r : Nat) : WfQ R C (simU ok L r) := WfQ.foldU r _ h
theorem WfQ.simB {R C : Nat} {L : List (Nat × Nat)} (h : WfQ R C L) : ∀ n, WfQ R C (simB ok L n)
  | 0 => h
  | n + 1 => by rw [simB_succ]; exact (h.simB n).simU n
theorem WfQ.simA {R C : Nat} : ∀ (n : Nat) {L : List (Nat × Nat)}, WfQ R C L → WfQ R C (simA ok n L)
  | 0, _, h => h
  | n + 1, L, h => by
    unfold Go.Proofs.YtfbkcdhmggjbaaaGreatDoor.simA
    split
    · exact WfQ.simA n (h.erase n)
    · exact WfQ.simA n h
theorem simA_len : ∀ (n : Nat) (L : List (Nat × Nat)), (simA ok n L).length ≤ L.length
  | 0, _ => Nat.le_refl _
  | n + 1, L => by
    unfold simA
    split
    · exact Nat.le_trans (simA_len n _) (List.length_eraseIdx_le _ _)
    · exact simA_len n L
theorem simQ_len (L : List (Nat × Nat)) : (simQ ok L).length ≤ L.length := by
  unfold simQ; rw [simB_len]; exact simA_len _ _
theorem WfQ.simQ {R C : Nat} {L : List (Nat × Nat)} (h : WfQ R C L) : WfQ R C (simQ ok L) := (h.simA _).simB _
/-- What is good stays good. -/
theorem ok_foldU (r : Nat) : ∀ (ks : List Nat) (L : List (Nat × Nat)), ok L = true → ok (ks.foldl (stepU ok r) L) = true
  | [], _, h => h
  | k :: ks, L, h => by
    rw [List.foldl_cons]
    refine ok_foldU r ks _ ?_
    unfold stepU; split
    · rename_i hh; exact hh
    · exact h
theorem ok_simB (L : List (Nat × Nat)) (h : ok L = true) : ∀ n, ok (simB ok L n) = true
  | 0 => h
  | n + 1 => by rw [simB_succ]; exact ok_foldU n _ _ (ok_simB L h n)
theorem ok_simA : ∀ (n : Nat) (L : List (Nat × Nat)), ok L = true → ok (simA ok n L) = true
  | 0, _, h => h
  | n + 1, L, h => by
    unfold simA
    split
    · rename_i hh; exact ok_simA n _ hh
    · exact ok_simA n L h
theorem ok_simQ (L : List (Nat × Nat)) (h : ok L = true) : ok (simQ ok L) = true := ok_simB _ (ok_simA _ _ h) _
end
/-- The roles give less. -/
def SubQ (L M : List (Nat × Nat)) : Prop := ∀ i j, givQ L i j → givQ M i j
theorem SubQ.refl (L : List (Nat × Nat)) : SubQ L L := fun _ _ h => h
theorem SubQ.trans {L M K : List (Nat × Nat)} (h : SubQ L M) (k : SubQ M K) : SubQ L K := fun i j g => k i j (h i j g)
theorem SubQ.erase (L : List (Nat × Nat)) (k : Nat) : SubQ (L.eraseIdx k) L := fun _ _ ⟨s, hs, h⟩ => ⟨s, List.mem_of_mem_eraseIdx hs, h⟩
theorem givQ_get {L : List (Nat × Nat)} {i j : Nat} : givQ L i j ↔ ∃ k, k < L.length ∧ (L.getD k (0, 0)).1.testBit i = true ∧ (L.getD k (0, 0)).2.testBit j = true := by
  constructor
  · rintro ⟨s, hs, h⟩
    obtain ⟨k, hk, rfl⟩ := List.mem_iff_getElem.1 hs
    refine ⟨k, hk, ?_⟩
    rw [List.getD_eq_getElem?_getD, List.getElem?_eq_getElem hk]
    exact h
  · rintro ⟨k, hk, h⟩
    exact ⟨_, getQ_mem hk, h⟩
/-- Role for role it is less. -/
def LeQ (L M : List (Nat × Nat)) : Prop := L.length = M.length ∧ ∀ k, (∀ i, (L.getD k (0, 0)).1.testBit i = true → (M.getD k (0, 0)).1.testBit i = true) ∧ (L.getD k (0, 0)).2 = (M.getD k (0, 0)).2
theorem LeQ.refl (L : List (Nat × Nat)) : LeQ L L := ⟨rfl, fun _ => ⟨fun _ h => h, rfl⟩⟩
theorem LeQ.trans {L M K : List (Nat × Nat)} (h : LeQ L M) (k : LeQ M K) : LeQ L K := ⟨h.1.trans k.1, fun x => ⟨fun i g => (k.2 x).1 i ((h.2 x).1 i g), (h.2 x).2.trans (k.2 x).2⟩⟩
theorem LeQ.sub {L M : List (Nat × Nat)} (h : LeQ L M) : SubQ L M := fun i j g => by
  obtain ⟨k, hk, h1, h2⟩ := givQ_get.1 g
  exact givQ_get.2 ⟨k, by rw [← h.1]; exact hk, (h.2 k).1 i h1, by rw [← (h.2 k).2]; exact h2⟩
theorem LeQ.clr (L : List (Nat × Nat)) (r i : Nat) : LeQ (clrQ L r i) L := by
  refine ⟨clrQ_len _ _ _, fun k => ⟨fun x hx => ?_, clrQ_2 _ _ _ _⟩⟩
  by_cases hr : r < L.length
  · rw [clrQ_1 _ _ _ _ _ hr, Bool.and_eq_true] at hx
    exact hx.1
  · have : clrQ L r i = L := by unfold clrQ; rw [List.set_eq_of_length_le (by omega)]
    rw [this] at hx; exact hx
theorem getD_eraseQ (L : List (Nat × Nat)) (r k : Nat) : (L.eraseIdx r).getD k (0, 0) = if k < r then L.getD k (0, 0) else L.getD (k + 1) (0, 0) := by
  rw [List.getD_eq_getElem?_getD, List.getElem?_eraseIdx, List.getD_eq_getElem?_getD, List.getD_eq_getElem?_getD]
  split <;> rfl
theorem LeQ.erase {L M : List (Nat × Nat)} (h : LeQ L M) (r : Nat) : LeQ (L.eraseIdx r) (M.eraseIdx r) := by
  refine ⟨by rw [List.length_eraseIdx, List.length_eraseIdx, h.1], fun k => ?_⟩
  rw [getD_eraseQ, getD_eraseQ]
  split
  · exact h.2 k
  · exact h.2 (k + 1)
section
variable {C : Nat} {Ns : List Nat}
end
end Go.Proofs.YtfbkcdhmggjbaaaGreatDoor

/-
  The reference of chapter 48: matrices whose rows lie anywhere in typed blocks; Without.
-/
namespace Go.Proofs.YtfbkcdhmggjbaaaGreatDoor
open Go.RowKit
/-- The cells xs at A, in a block of type t. -/
def RowY (w : World) (t : TypeId) (A : Option Addr) (xs : List Value) : Prop := 0 < xs.length → ∃ g off cs, A = some ⟨g, off, none⟩ ∧ Blk w g t cs ∧ ∀ (k : Nat) u, xs[k]? = some u → cs[off + k]? = some u
section
variable {w w' : World} {t : TypeId} {A : Option Addr} {xs : List Value}
theorem RowY.row (h : RowY w t A xs) : Row w A xs := fun hn => by
  obtain ⟨g, off, cs, rfl, hB, hc⟩ := h hn
  exact ⟨g, off, rfl, hB.lt, fun k u hu => (hB.cell (off + k)).trans (hc k u hu)⟩
theorem RowY.below (h : RowY w t A xs) (hb : Below w.heap.size w w') : RowY w' t A xs := fun hn => by
  obtain ⟨g, off, cs, e, hB, hc⟩ := h hn
  exact ⟨g, off, cs, e, hB.below hb hB.lt, hc⟩
theorem RowY.far (h : RowY w t A xs) {b : Nat} {t' : TypeId} {cs' : Array Value} (hB : Blk w b t' cs') (hne : t ≠ t') (i : Nat) (u : Value) : RowY (w.setCell ⟨b, i, none⟩ u) t A xs := fun hn => by
  obtain ⟨g, off, cs, e, hC, hc⟩ := h hn
  exact ⟨g, off, cs, e, hC.far (p := ⟨b, i, none⟩) (hC.ne_ hB hne) u, hc⟩
theorem RowY.but {r : Option Nat} (h : RowY w t A xs) (hb : But r w w') (hr : ∀ g cs, Blk w g t cs → some g ≠ r) : RowY w' t A xs := fun hn => by
  obtain ⟨g, off, cs, e, hC, hc⟩ := h hn
  exact ⟨g, off, cs, e, hb.blk hC (hr g cs hC), hc⟩
theorem RowY.of_own {base n : Nat} {v : Value} (h : w.ownsRow base t 1 v n xs) : ∃ A c, v = .slice A n c ∧ n ≤ c ∧ RowY w t A xs := by
  obtain ⟨hl, h | ⟨g, cap, cur, rfl, _, hB, hnc, _, _, htk⟩⟩ := h
  · obtain ⟨rfl, rfl⟩ := h
    exact ⟨none, 0, rfl, Nat.le_refl _, fun hn => by rw [hl] at hn; simp at hn⟩
  · refine ⟨_, cap, rfl, hnc, fun _ => ⟨g, 0, cur, rfl, hB, fun k u hu => ?_⟩⟩
    rw [← htk, List.getElem?_take] at hu
    split at hu
    · rw [Nat.zero_add]; simpa using hu
    · cases hu
theorem RowY.blk {g : Nat} {cs : Array Value} (hB : Blk w g t cs) (hc : ∀ (k : Nat) u, xs[k]? = some u → cs[k]? = some u) : RowY w t (some ⟨g, 0, none⟩) xs := fun _ => ⟨g, 0, cs, rfl, hB, fun k u hu => by rw [Nat.zero_add]; exact hc k u hu⟩
end
/-- The headers hs lead to the rows M, in typed blocks. -/
def HdY (w : World) (C : Nat) (hs : List Value) (M : List (List Bool)) : Prop := hs.length = M.length ∧ ∀ (i : Nat) r, M[i]? = some r → r.length = C ∧ ∃ B d, C ≤ d ∧ hs[i]? = some (.slice B C d) ∧ RowY w 4 B (r.map .bool)
/-- A matrix of the specification's in typed blocks. -/
def YRef (w : World) (C : Nat) (A : Option Addr) (c : Nat) (M : List (List Bool)) : Prop := C ≤ 4096 ∧ M.length ≤ 4096 ∧ M.length ≤ c ∧ ∃ hs, RowY w 93 A hs ∧ HdY w C hs M
section
variable {w w' : World} {C : Nat} {hs : List Value} {M : List (List Bool)} {A : Option Addr} {c : Nat}
theorem HdY.below (h : HdY w C hs M) (hb : Below w.heap.size w w') : HdY w' C hs M := ⟨h.1, fun i r hr => by
  obtain ⟨h1, B, d, h2, h3, h4⟩ := h.2 i r hr
  exact ⟨h1, B, d, h2, h3, h4.below hb⟩⟩
theorem HdY.far (h : HdY w C hs M) {b : Nat} {t' : TypeId} {cs' : Array Value} (hB : Blk w b t' cs') (hne : 4 ≠ t') (i : Nat) (u : Value) : HdY (w.setCell ⟨b, i, none⟩ u) C hs M := ⟨h.1, fun i' r hr => by
  obtain ⟨h1, B, d, h2, h3, h4⟩ := h.2 i' r hr
  exact ⟨h1, B, d, h2, h3, h4.far hB hne i u⟩⟩
theorem HdY.but {r : Option Nat} (h : HdY w C hs M) (hb : But r w w') (hr : ∀ g cs, Blk w g 4 cs → some g ≠ r) : HdY w' C hs M := ⟨h.1, fun i' r hr' => by
  obtain ⟨h1, B, d, h2, h3, h4⟩ := h.2 i' r hr'
  exact ⟨h1, B, d, h2, h3, h4.but hb hr⟩⟩
theorem HdY.nil (w : World) (C : Nat) : HdY w C [] [] := ⟨rfl, fun i r h => by simp at h⟩
theorem HdY.snoc {B : Option Addr} {d : Nat} {r : List Bool} (h : HdY w C hs M) (hr : r.length = C) (hd : C ≤ d) (hB : RowY w 4 B (r.map .bool)) : HdY w C (hs ++ [.slice B C d]) (M ++ [r]) := by
  refine ⟨by simp [h.1], fun i q hq => ?_⟩
  by_cases hi : i < M.length
  · rw [List.getElem?_append_left hi] at hq
    obtain ⟨h1, B', d', h2, h3, h4⟩ := h.2 i q hq
    exact ⟨h1, B', d', h2, by rw [List.getElem?_append_left (by rw [h.1]; exact hi)]; exact h3, h4⟩
  · rw [List.getElem?_append_right (by omega)] at hq
    have : i = M.length := by
      have := (List.getElem?_eq_some_iff.1 hq).1
      simp at this; omega
    subst this
    rw [Nat.sub_self] at hq
    simp at hq
    subst hq
    exact ⟨hr, B, d, hd, by rw [← h.1, List.getElem?_append_right (Nat.le_refl _), Nat.sub_self]; rfl, hB⟩
theorem HdY.of_own {base : Nat} {gs : List Nat} {f : Nat → Nat → Bool} (h : OwnRows w base C gs f) : HdY w C (hdrs C gs) (mat gs.length C f) := by
  refine ⟨by simp [hdrs, mat_len], fun i r hr => ?_⟩
  have hi : i < gs.length := by have := (List.getElem?_eq_some_iff.1 hr).1; rwa [mat_len] at this
  have hr' : r = (List.range C).map fun j => f i j := by
    unfold mat at hr
    rw [List.getElem?_map, List.getElem?_range hi] at hr
    simpa using hr.symm
  subst hr'
  refine ⟨by simp, some ⟨gs[i], 0, none⟩, C, Nat.le_refl _, by unfold hdrs; rw [List.getElem?_map, List.getElem?_eq_getElem hi]; rfl, ?_⟩
  refine RowY.blk (h.2.2 i gs[i] (List.getElem?_eq_getElem hi)) fun k u hu => ?_
  rw [List.getElem?_toArray]
  rw [List.map_map] at hu
  exact hu
theorem YRef.below (h : YRef w C A c M) (hb : Below w.heap.size w w') : YRef w' C A c M := by
  obtain ⟨h1, h2, h3, hs, h4, h5⟩ := h
  exact ⟨h1, h2, h3, hs, h4.below hb, h5.below hb⟩
theorem YRef.far (h : YRef w C A c M) {b : Nat} {t' : TypeId} {cs' : Array Value} (hB : Blk w b t' cs') (h1 : 93 ≠ t') (h2 : 4 ≠ t') (i : Nat) (u : Value) : YRef (w.setCell ⟨b, i, none⟩ u) C A c M := by
  obtain ⟨k1, k2, k3, hs, k4, k5⟩ := h
  exact ⟨k1, k2, k3, hs, k4.far hB h1 i u, k5.far hB h2 i u⟩
theorem YRef.ref (h : YRef w C A c M) : IsRef w C A M := by
  obtain ⟨k1, k2, k3, hs, k4, k5⟩ := h
  refine ⟨k1, k2, hs, k5.1, k4.row, fun i r hr => ?_⟩
  obtain ⟨h1, B, d, h2, h3, h4⟩ := k5.2 i r hr
  exact ⟨h1, B, d, h3, h4.row⟩
theorem YRef.of_own {base n : Nat} {v : Value} {gs : List Nat} {f : Nat → Nat → Bool} (h : OwnRef w base C v gs f) (hn : gs.length = n) (hC : C ≤ 4096) (hR : n ≤ 4096) : ∃ A c, v = .slice A n c ∧ YRef w C A c (mat n C f) := by
  subst hn
  obtain ⟨A, c, e, hc, hr⟩ := RowY.of_own h.1
  exact ⟨A, c, e, hC, by rw [mat_len]; exact hR, by rw [mat_len]; exact hc, _, hr, HdY.of_own h.2⟩
theorem TRef.yref (h : TRef w C A c M) : YRef w C A c M := by
  obtain ⟨hC, hR, base, gs, f, h1, h2, h3⟩ := h
  rw [← h2] at h1
  obtain ⟨A', c', e, hY⟩ := YRef.of_own h1 h2 hC hR
  rw [h2] at e
  cases e
  rw [h3]
  exact hY
/-- Row i. -/
theorem YRef.row (h : YRef w C A c M) {i : Nat} (hi : i < M.length) :
    ∃ g off cs B d, A = some ⟨g, off, none⟩ ∧ Blk w g 93 cs ∧ w.cell? ⟨g, off + i, none⟩ = some (.slice B C d) ∧ C ≤ d ∧ RowY w 4 B (M[i].map .bool) ∧ M[i].length = C := by
  obtain ⟨_, _, _, hs, h4, h5⟩ := h
  obtain ⟨h6, B, d, h7, h8, h9⟩ := h5.2 i M[i] (List.getElem?_eq_getElem hi)
  obtain ⟨g, off, cs, hA, hB, hc⟩ := h4 (by rw [h5.1]; omega)
  exact ⟨g, off, cs, B, d, hA, hB, (hB.cell _).trans (hc i _ h8), h7, h9, h6⟩
end
/-- Rows of our own that are being collected. -/
def OwnY (w : World) (base C : Nat) (v : Value) (M : List (List Bool)) : Prop := ∃ hs, w.ownsRow base 93 1 v M.length hs ∧ HdY w C hs M
section
variable {w w' : World} {base C : Nat} {v : Value} {M : List (List Bool)}
theorem OwnY.nil (w : World) (base C : Nat) : OwnY w base C (.slice none 0 0) [] := ⟨[], World.ownsRow_nil _ _ _ _, HdY.nil _ _⟩
theorem OwnY.below (h : OwnY w base C v M) (hb : Below w.heap.size w w') : OwnY w' base C v M := by
  obtain ⟨hs, h1, h2⟩ := h
  exact ⟨hs, own_below h1 hb, h2.below hb⟩
theorem OwnY.far (h : OwnY w base C v M) {b : Nat} {t' : TypeId} {cs' : Array Value} (hB : Blk w b t' cs') (h1 : 93 ≠ t') (h2 : 4 ≠ t') (i : Nat) (u : Value) : OwnY (w.setCell ⟨b, i, none⟩ u) base C v M := by
  obtain ⟨hs, k1, k2⟩ := h
  exact ⟨hs, ownsRow_setCell_other k1 (a := ⟨b, i, none⟩) (fun e => own_ne k1 hB (fun e' => h1 e'.symm) e.symm) u, k2.far hB h2 i u⟩
theorem OwnY.yref (h : OwnY w base C v M) (hC : C ≤ 4096) (hR : M.length ≤ 4096) : ∃ A c, v = .slice A M.length c ∧ YRef w C A c M := by
  obtain ⟨hs, k1, k2⟩ := h
  obtain ⟨A, c, e, hc, hr⟩ := RowY.of_own k1
  exact ⟨A, c, e, hC, hR, hc, hs, hr, k2⟩
theorem OwnY.val (h : OwnY w base C v M) : ∃ A c, v = .slice A M.length c := by
  obtain ⟨hs, k1, k2⟩ := h
  obtain ⟨A, c, e, hc, hr⟩ := RowY.of_own k1
  exact ⟨A, c, e⟩
end
/-- A box for a matrix of the specification's, made behind w. -/
def Bo1 (w W : World) (g : Nat) (x y : Value) : Prop := Blk W g 28 #[x, y] ∧ w.heap.size ≤ g
section
variable {w W W' : World} {C c g g' : Nat} {A : Option Addr} {x y x' y' : Value} {M : List (List Bool)}
/-- The two cells of a box are written. -/
abbrev st2 (W : World) (g : Nat) (x y : Value) : World := (W.setCell ⟨g, 0, none⟩ x).setCell ⟨g, 1, none⟩ y
theorem Bo1.mk' (h : Blk W g 28 #[x, y]) (hl : w.heap.size ≤ g) : Bo1 w W g x y := ⟨h, hl⟩
theorem Bo1.lt (h : Bo1 w W g x y) : g < W.heap.size := h.1.lt
theorem Bo1.below (h : Bo1 w W g x y) (hb : Below W.heap.size W W') : Bo1 w W' g x y := ⟨h.1.below hb h.1.lt, h.2⟩
theorem Bo1.put (h : Bo1 w W g x y) (x' y' : Value) : Bo1 w (st2 W g x' y') g x' y' := ⟨(h.1.set_ 0 x').set_ 1 y', h.2⟩
theorem Bo1.far (h : Bo1 w W g x y) (hne : g ≠ g') (x' y' : Value) : Bo1 w (st2 W g' x' y') g x y := ⟨(h.1.far (p := ⟨_, 0, none⟩) hne x').far (p := ⟨_, 1, none⟩) hne y', h.2⟩
theorem Bo1.base (h : Bo1 w W g x y) (hb : Below w.heap.size w W) (x' y' : Value) : Below w.heap.size w (st2 W g x' y') := (hb.setCell (p := ⟨_, 0, none⟩) h.2 x').setCell (p := ⟨_, 1, none⟩) h.2 y'
end
set_option maxRecDepth 100000 in
set_option maxHeartbeats 4000000 in
theorem is48q (u r K C R K' : Nat) (Us Ps : List Nat) (A1 A2 : Option Addr) (c1 c2 : Nat) (M1 M2 : List (List Bool)) (w : World) (hu : IsMat w u K Us) (hr : IsMat w r C Ps) (h1 : IsRef w K A1 M1) (h2 : IsRef w C A2 M2) (hR : M1.length = R) (hK : M2.length = K')
    (hK2 : K ≤ 256) (hC : C ≤ 256) (hUl : Us.length ≤ 256) (hPl : Ps.length ≤ 256) (hs1 : sameB K K (toldM K Us) M1 = true) (hs2 : sameB C C (toldM C Ps) M2 = true) :
    Calls Tryz.prog 12 #[.agg #[ptr u, ptr r], refV K A1 R c1, refV C A2 K' c2] w fun e w' => e = .returned (.bool true) ∧ Below w.heap.size w w' := by
  subst hR; subst hK
  have hq1 := fun W (hb : Below w.heap.size w W) => samel_any u K K Us A1 c1 M1 W (hu.below hb) hK2 hUl (h1.below hb)
  have hq2 := fun W (hb : Below w.heap.size w W) => samel_any r C C Ps A2 c2 M2 W (hr.below hb) hC hPl (h2.below hb)
  rw [hs1] at hq1
  rw [hs2] at hq2
  have H1 := Lib.hid hq1; have H2 := Lib.hid hq2
  clear hq1 hq2 hs1 hs2 hu hr h1 h2
  go_enter Tryz.func12, Tryz.ntmps12
  go_wp2_with fail
  refine absC3 fun W0 hX hY hZ hb0 hz => ?_
  clear hz
  refine (H1.out W0 hb0).mono ?_
  rintro e W1 ⟨rfl, hb1⟩
  have b1 := hb0.trans (hb1.mono hb0.size)
  replace hX := hX.below hb1 hX.lt
  replace hZ := hZ.below hb1 hZ.lt
  have x0 := hX.cell 0
  have x1 := hX.cell 1
  have z0 := hZ.cell 0
  have z1 := hZ.cell 1
  clear hY hb0 hb1
  go_wp2_with fail
  refine (H2.out W1 b1).mono ?_
  rintro e W2 ⟨rfl, hb2⟩
  go_wp2_with fail
  go_ret
  exact ⟨rfl, b1.trans (hb2.mono b1.size)⟩
end Go.Proofs.YtfbkcdhmggjbaaaGreatDoor

/-
  The reference of chapter 48: Without (roles without one of them).
-/
namespace Go.Proofs.YtfbkcdhmggjbaaaGreatDoor
open Go.RowKit
/-- Where a slice that is cut at k begins. -/
theorem RowY.cut {w : World} {t : TypeId} {A : Option Addr} {xs : List Value} (h : RowY w t A xs) (k d : Nat) (hk : k ≤ xs.length) (h0 : 0 < xs.length) :
    ∃ g off A', A = some ⟨g, off, none⟩ ∧ (if d = k then some (⟨g, off, none⟩ : Addr) else some ⟨g, off + k, none⟩) = some A' ∧ (xs.length ≤ d → ∀ j u, (xs.drop k)[j]? = some u → w.cell? (A'.add j) = some u) := by
  obtain ⟨g, off, cs, rfl, hB, hc⟩ := h h0
  by_cases e : d = k
  · refine ⟨g, off, ⟨g, off, none⟩, rfl, by rw [if_pos e], fun hd j u hu => ?_⟩
    rw [List.getElem?_drop] at hu
    have := (List.getElem?_eq_some_iff.1 hu).1
    omega
  · refine ⟨g, off, ⟨g, off + k, none⟩, rfl, by rw [if_neg e], fun hd j u hu => ?_⟩
    rw [List.getElem?_drop] at hu
    rw [addr_add, hB.cell, Nat.add_assoc]
    exact hc _ _ hu
theorem one_bools {l : List Bool} : ∀ u ∈ l.map Value.bool, u.oneCell' = true := fun u hu => by
  obtain ⟨b, _, rfl⟩ := List.mem_map.1 hu
  rfl
/-- Users without role r: the first k rows. -/
def wouM (M : List (List Bool)) (r k : Nat) : List (List Bool) := (M.take k).map fun l => l.eraseIdx r
theorem wouM_len {M : List (List Bool)} {r k : Nat} (h : k ≤ M.length) : (wouM M r k).length = k := by unfold wouM; rw [List.length_map, List.length_take]; omega
theorem wouM_succ {M : List (List Bool)} {r k : Nat} (h : k < M.length) : wouM M r (k + 1) = wouM M r k ++ [M[k].eraseIdx r] := by
  unfold wouM
  rw [List.take_add_one, List.getElem?_eq_getElem h, List.map_append]; rfl
/-- Permissions without role r: of the first k rows. -/
def wopM (P : List (List Bool)) (r k : Nat) : List (List Bool) := (P.take k).eraseIdx r
theorem wopM_skip {P : List (List Bool)} {r : Nat} (h : r < P.length) : wopM P r (r + 1) = wopM P r r := by
  unfold wopM
  rw [List.take_add_one, List.getElem?_eq_getElem h, List.eraseIdx_of_length_le (l := P.take r) (by rw [List.length_take]; omega), List.eraseIdx_append_of_length_le (by rw [List.length_take]; omega), List.length_take, Nat.min_eq_left (by omega), Nat.sub_self]
  simp
theorem wopM_succ {P : List (List Bool)} {r k : Nat} (h : k < P.length) (hne : k ≠ r) : wopM P r (k + 1) = wopM P r k ++ [P[k]] := by
  unfold wopM
  rw [List.take_add_one, List.getElem?_eq_getElem h]
  by_cases hk : k < r
  · rw [List.eraseIdx_of_length_le (l := P.take k) (by rw [List.length_take]; omega), List.eraseIdx_append_of_length_le (by rw [List.length_take]; omega), List.length_take, Nat.min_eq_left (by omega)]
    congr 1
    rw [List.eraseIdx_of_length_le (by simp; omega)]; rfl
  · rw [List.eraseIdx_append_of_lt_length (by rw [List.length_take]; omega)]; rfl
theorem wopM_len {P : List (List Bool)} {r k : Nat} (h : k ≤ P.length) : (wopM P r k).length = if r < k then k - 1 else k := by
  unfold wopM
  rw [List.length_eraseIdx, List.length_take, Nat.min_eq_left h]
/-- What stays in place while roles are copied. -/
structure WouI (w W : World) (g : Nat) (u0 u1 p0 p1 : Value) : Prop where
  b3 : Blk W g 28 #[u0, u1]
  b4 : Blk W (g + 1) 28 #[p0, p1]
  b6 : Blk W (g + 2) 28 #[.int .i64 0, .slice none 0 0]
  b7 : Blk W (g + 3) 28 #[.int .i64 0, .slice none 0 0]
  bel : Below w.heap.size w W
section
variable {w W W' : World} {g : Nat} {u0 u1 p0 p1 : Value}
theorem WouI.below (h : WouI w W g u0 u1 p0 p1) (hb : Below W.heap.size W W') : WouI w W' g u0 u1 p0 p1 := ⟨h.b3.below hb h.b3.lt, h.b4.below hb h.b4.lt, h.b6.below hb h.b6.lt, h.b7.below hb h.b7.lt, h.bel.trans (hb.mono h.bel.size)⟩
theorem WouI.far (h : WouI w W g u0 u1 p0 p1) {b : Nat} (hb : w.heap.size ≤ b) (hg : g + 3 < b) (i : Nat) (v : Value) : WouI w (W.setCell ⟨b, i, none⟩ v) g u0 u1 p0 p1 :=
  ⟨h.b3.far (p := ⟨b, i, none⟩) (by simp; omega) v, h.b4.far (p := ⟨b, i, none⟩) (by simp; omega) v, h.b6.far (p := ⟨b, i, none⟩) (by simp; omega) v, h.b7.far (p := ⟨b, i, none⟩) (by simp; omega) v, h.bel.setCell (p := ⟨b, i, none⟩) hb v⟩
theorem WouI.grown (h : WouI w W g u0 u1 p0 p1) {base n size : Nat} {e : TypeId} {v : Value} {xs : List Value} (hg : W.grownBy W' v.ownBlock) (hown : W.ownsRow base e size v n xs) (hb : w.heap.size ≤ base) (he : e ≠ 28) : WouI w W' g u0 u1 p0 p1 :=
  ⟨h.b3.grown hg (own_ne hown h.b3 (fun x => he x.symm)), h.b4.grown hg (own_ne hown h.b4 (fun x => he x.symm)), h.b6.grown hg (own_ne hown h.b6 (fun x => he x.symm)), h.b7.grown hg (own_ne hown h.b7 (fun x => he x.symm)), h.bel.grown hg h.bel.size fun q hq => Nat.le_trans hb (hown.lt q hq).1⟩
end
theorem OwnY.snoc {W W' : World} {base C n : Nat} {v v' : Value} {M : List (List Bool)} {hs : List Value} {B : Option Addr} {d : Nat} {r : List Bool} (hown : W.ownsRow base 93 1 v n hs) (hd : HdY W C hs M) (hg : W.grownBy W' v.ownBlock) (hown' : W'.ownsRow base 93 1 v' (n + 1) (hs ++ [.slice B C d])) (hn : n = M.length) (hr : r.length = C) (hC : C ≤ d) (hB : RowY W 4 B (r.map .bool)) : OwnY W' base C v' (M ++ [r]) := by
  have hne : ∀ g cs, Blk W g 4 cs → some g ≠ v.ownBlock := fun g cs hb => own_ne hown hb (by decide)
  exact ⟨hs ++ [.slice B C d], by rw [List.length_append, List.length_singleton, ← hn]; exact hown', (hd.but (But.grown hg) hne).snoc hr hC (hB.but (But.grown hg) hne)⟩
namespace Mix2
set_option maxRecDepth 100000 in
set_option maxHeartbeats 8000000 in
theorem without48_any (K C : Nat) (A B : Option Addr) (c d : Nat) (M P : List (List Bool)) (r : Nat) (w : World) (hu : YRef w K A c M) (hp : YRef w C B d P) (hK : P.length = K) (hr : r < K) :
    Calls Tryz.prog 44 #[refV K A M.length c, refV C B P.length d, .int .i64 r] w fun e w' => ∃ A1 c1 A2 c2, e = .returned (.tuple #[refV (K - 1 : Nat) A1 M.length c1, refV C A2 (K - 1) c2]) ∧ YRef w' (K - 1) A1 c1 (wouM M r M.length) ∧ YRef w' C A2 c2 (wopM P r P.length) ∧ Below w.heap.size w w' := by
  have hK4 := hu.1
  have hC4 := hp.1
  have hM4 := hu.2.1
  have hMc := hu.2.2.1
  have hPd := hp.2.2.1
  obtain ⟨K1, hK1⟩ : ∃ x, x = K - 1 := ⟨_, rfl⟩
  have hKK : (K : Int) - 1 = (K1 : Int) := by omega
  rw [← hK1]
  have HK := Lib.hid hK; have HK1 := Lib.hid hK1; have HKK := Lib.hid hKK
  clear hK hK1 hKK
  have HU := Lib.hid hu; have HP := Lib.hid hp
  obtain ⟨ib, hib, hzb, hzb1, hzb2⟩ := info_parts info_bool
  obtain ⟨i0, hi0, hz0, hz1, hz2⟩ := info_parts info_bools
  clear hu hp
  go_enter Tryz.func44, Tryz.ntmps44
  go_upto_region 1 with fail
  refine abs4 fun W0 h3 h4 h6 h7 hb0 hz => ?_
  clear hz
  obtain ⟨g, hg⟩ : ∃ x, x = w.heap.size := ⟨_, rfl⟩
  have hgw : w.heap.size ≤ g := by omega
  rw [← hg] at h3 h4 h6 h7 ⊢
  clear hg
  have hI0 : WouI w W0 g (.int .i64 (K : Int)) (.slice A M.length c) (.int .i64 (C : Int)) (.slice B P.length d) := ⟨h3, h4, h6, h7, hb0⟩
  have p0 := h3.cell 0
  have p1 := h3.cell 1
  clear h3 h4 h6 h7 hb0
  go_upto_region 2 with fail
  refine abs1 fun W1 h8 hb1 hz => ?_
  clear hz
  rw [HKK.out] at h8
  obtain ⟨g8, hg8⟩ : ∃ x, x = W0.heap.size := ⟨_, rfl⟩
  have hg83 : g + 3 < g8 := by rw [hg8]; exact hI0.b7.lt
  have hg8w : w.heap.size ≤ g8 := by omega
  rw [← hg8] at h8 ⊢
  have hI1 := hI0.below hb1
  clear hg8 hb1 hI0 p0 p1
  have p0 := hI1.b3.cell 0
  have p1 := hI1.b3.cell 1
  go_wp2_with fail
  refine wp_loopF (β := Nat × Value) (fun x f => #[f 0, f 1, .int .i64 (r : Int), ptr g, ptr (g + 1), f 5, ptr (g + 2), ptr (g + 3), ptr g8, f 9, f 10, f 11, f 12, f 13, f 14, f 15, f 16, f 17, f 18, .int .i64 (M.length : Int), .int .i64 (x.1 : Int), f 21, f 22, f 23, f 24, f 25, f 26, f 27, f 28, f 29, f 30, f 31, f 32, f 33, f 34, f 35, f 36, f 37, f 38, f 39, f 40, f 41, f 42, f 43, f 44, f 45, f 46, f 47, f 48, f 49, f 50, f 51, f 52, f 53, f 54, f 55, f 56, f 57, f 58, f 59, f 60, f 61, f 62, f 63, f 64, f 65, f 66, f 67, f 68, f 69, f 70, f 71, f 72])
    (fun x ds V => ds = [] ∧ x.1 ≤ M.length ∧ WouI w V g (.int .i64 (K : Int)) (.slice A M.length c) (.int .i64 (C : Int)) (.slice B P.length d) ∧ Blk V g8 28 #[.int .i64 (K1 : Int), x.2] ∧ OwnY V w.heap.size K1 x.2 (wouM M r x.1)) (fun x => M.length - x.1) (0, .slice none 0 0) rfl
    ⟨rfl, Nat.zero_le _, hI1, h8, OwnY.nil _ _ _⟩ ?_
  clear hI1 h8 p0 p1
  rintro ⟨k, v8⟩ f ds V ⟨rfl, hk, hI, h8, hO⟩
  dsimp only at hk hI h8 hO ⊢
  by_cases hlt : k < M.length
  · obtain ⟨g1, off, cs, Br, dr, hAe, hBl0, hcell0, hKd, hrow0, hlen⟩ := HU.out.row hlt
    subst hAe
    have hg1w := hBl0.lt
    have hBl := hBl0.below hI.bel hBl0.lt
    have hcell := onB hI.bel hcell0
    have hrow := hrow0.below hI.bel
    clear hBl0 hcell0 hrow0
    obtain ⟨xs, hxs⟩ : ∃ xs, xs = M[k] := ⟨_, rfl⟩
    have hws := wouM_succ (r := r) hlt
    have hwl := wouM_len (M := M) (r := r) hk
    rw [← hxs] at hrow hlen hws
    obtain ⟨gb, ob, csb, eb, hBb, hcb⟩ := hrow (by rw [List.length_map]; omega)
    subst eb
    have p1 := hI.b3.cell 1
    have lg := hI.b3.lt
    have lg1 := hBl.lt
    have lgb := hBb.lt
    have ext : xs.eraseIdx r = xs.take r ++ xs.drop (r + 1) := List.eraseIdx_eq_take_drop_succ ..
    have hadd : ∀ j u, ((xs.take r).map Value.bool)[j]? = some u → (V.alloc (.cells #[] 4)).cell? ((⟨gb, ob, none⟩ : Addr).add j) = some u := fun j u hu => by
      rw [addr_add]
      refine (World.cell?_alloc_lt _ _ _ hBb.lt).trans ((hBb.cell _).trans (hcb j u ?_))
      rw [List.map_take, List.getElem?_take] at hu
      split at hu
      · exact hu
      · cases hu
    have hl1 : ((xs.take r).map Value.bool).length = r * 1 := by rw [List.length_map, List.length_take]; omega
    have HADD := Lib.hid hadd; have HL1 := Lib.hid hl1; have HWS := Lib.hid hws; have HWL := Lib.hid hwl; have HEX := Lib.hid ext; have HROW := Lib.hid hrow; have HLEN := Lib.hid hlen
    have hrd : r ≤ dr := by omega
    have own0 := World.ownsRow_lit (base := V.heap.size) (e := 4) (size := 1) V #[] 0 (Nat.le_refl _) (by decide) rfl
    have hba := (Below.refl V.heap.size V).alloc (Nat.le_refl _) (.cells #[] 4)
    clear hadd hl1 hws hwl ext hrow hlen hxs hcb hBb hBl
    go_wp2_with (at_builtin; refine wpList_append_own _ rfl _ _ 93 rfl V.heap.size 4 ib (.bool false) 1 1 Tryz.underlying93 hib hzb hzb1 hzb2 rfl (by decide) _ _ _ rfl own0 ⟨gb, ob, none⟩ r dr ((xs.take r).map Value.bool) rfl HL1.out HADD.out one_bools (by unfold maxLen; omega) (by omega) (by simp) ?_; intro v9 w9 hown9 hgrow9 _)
    rw [Nat.zero_add, List.nil_append] at hown9
    have hb9 : Below V.heap.size V w9 := hba.grown hgrow9 (by simp) (fun q hq => (own0.lt q hq).1)
    obtain ⟨A9, c9, rfl, hc9, -⟩ := RowY.of_own hown9
    obtain ⟨k1, hk1⟩ : ∃ x, x = r + 1 := ⟨_, rfl⟩
    have ewk : IntKind.i64.wrap ((r : Int) + 1) = (k1 : Int) := by rw [i64w ⟨by omega, by omega⟩]; omega
    have e13 : (k1 : Int) ≤ (K : Int) := by omega
    have e14 : (0 : Int) ≤ (k1 : Int) := by omega
    have e16 : k1 ≤ K := by omega
    have e15 : k1 ≤ dr := by omega
    have hn10 : r + (K - k1) = K1 := by rw [HK1.out]; omega
    have hex := HEX.out
    rw [← hk1] at hex
    have hml : (xs.map Value.bool).length = K := by rw [List.length_map]; exact HLEN.out
    obtain ⟨gb', ob', A', eA, hA, hsrc⟩ := (HROW.out.below hb9).cut k1 dr (by rw [hml]; exact e16) (by rw [hml]; omega)
    cases eA
    have hsrc' : ∀ j u, ((xs.drop k1).map Value.bool)[j]? = some u → w9.drew.cell? (A'.add j) = some u := fun j u hu => hsrc (by rw [hml]; exact hKd) j u (by rw [← List.map_drop]; exact hu)
    have hl2 : ((xs.drop k1).map Value.bool).length = (K - k1) * 1 := by rw [List.length_map, List.length_drop, HLEN.out, Nat.mul_one]
    have HSRC := Lib.hid hsrc'; have HL2 := Lib.hid hl2; have HN := Lib.hid hn10; have HEX2 := Lib.hid hex; have EWK := Lib.hid ewk
    have q8 := h8.cell 1
    have n8 : some g8 ≠ v8.ownBlock := by
      obtain ⟨hs, h1, _⟩ := hO
      exact own_ne h1 h8 (by decide)
    have ng : some g ≠ v8.ownBlock := by
      obtain ⟨hs, h1, _⟩ := hO
      exact own_ne h1 hI.b3 (by decide)
    have ng1 : some g1 ≠ v8.ownBlock := by
      obtain ⟨hs, h1, _⟩ := hO
      intro e
      exact absurd hg1w (Nat.not_lt.2 (h1.lt g1 e.symm).1)
    have hown9d := own_below hown9 (Below.refl w9.heap.size w9).drew
    have hdr : Below w9.heap.size w9 w9.drew := (Below.refl _ _).drew
    have hb9d := hb9.trans (hdr.mono hb9.size)
    clear hk1 ewk hml hsrc hsrc' hl2 hn10 hex own0 hba hgrow9
    refine wp_spine (fun W => But v8.ownBlock V W) [0, 1, 2, 3, 4, 5, 6, 7, 8, 9, 10] [11, 12, 13, 14, 15] (by kernel_rfl) (by kernel_rfl) ?_
    iterate 9 (refine wpE_op (v := ?_) rfl rfl (fun W hW => ?_) ?_; rotate_left; (have x1 := hW.on q8 n8; have x2 := hW.on p1 ng; have x3 := hW.on hcell ng1; go_simp; first | done | with_reducible rfl); simp only [Act.put, List.setIfInBounds_toArray, List.set_cons_zero, List.set_cons_succ])
    iterate 1 (refine wpE_op (v := ?_) rfl rfl (fun W hW => ?_) ?_; rotate_left; (go_simp; first | done | with_reducible rfl); simp only [Act.put, List.setIfInBounds_toArray, List.set_cons_zero, List.set_cons_succ])
    rw [EWK.out]
    iterate 1 (refine wpE_op (v := ?_) rfl rfl (fun W hW => ?_) ?_; rotate_left; (go_simp; first | done | with_reducible rfl); simp only [Act.put, List.setIfInBounds_toArray, List.set_cons_zero, List.set_cons_succ])
    refine wpE_nil ⟨fun h => (by cases h), wpSp_op rfl (.of_below hb9d) ?_⟩
    go_wp2_with (at_builtin; refine wpList_append_own _ rfl _ _ 93 rfl V.heap.size 4 ib (.bool false) 1 1 Tryz.underlying93 hib hzb hzb1 hzb2 rfl (by decide) _ _ _ rfl hown9d A' (K - k1) (dr - k1) ((xs.drop k1).map Value.bool) rfl HL2.out HSRC.out one_bools (by unfold maxLen; omega) (by omega) hb9d.size ?_; intro v10 w10 hown10 hgrow10 _)
    have hb10 : Below V.heap.size V w10 := hb9d.grown hgrow10 hb9d.size (fun q hq => (hown9d.lt q hq).1)
    rw [HN.out, ← List.map_append, ← HEX2.out] at hown10
    obtain ⟨A10, c10, rfl, hc10, hrow10⟩ := RowY.of_own hown10
    refine nxt_op rfl (.of_below hb10) ?_
    go_wp2_with fail
    have hba := (Below.refl w10.heap.size w10).alloc (Nat.le_refl _) (.cells #[.slice A10 K1 c10] 93)
    have hb11 := hb10.trans (hba.mono hb10.size)
    have hrow11 := hrow10.below hba
    obtain ⟨hs, hown8, hd8⟩ := hO.below hb11
    rw [HWL.out] at hown8
    obtain ⟨A8, c8, rfl, hc8, -⟩ := RowY.of_own hown8
    have hI11 := hI.below hb11
    have h811 := h8.below hb11 h8.lt
    have hsz11 := hI11.bel.size
    have hsz10 := Nat.le_trans hI.bel.size hb10.size
    refine nxt_op rfl (.of_below hb11) ?_
    go_wp2_with (at_builtin; refine wpList_append_own _ rfl _ _ 26 rfl (w.heap.size) 93 i0 (.slice none 0 0) 1 24 Tryz.underlying26 hi0 hz0 hz1 hz2 rfl (by decide) _ _ _ rfl (hown8) ⟨w10.heap.size, 0, none⟩ 1 1 [.slice A10 K1 c10] rfl rfl (cell_one_new _ _ _) (by simp [Value.oneCell']) (by unfold maxLen; omega) (by omega) (by simp; omega) ?_; intro v' w3 hown' hgrow _)
    obtain ⟨g13, c13, rfl⟩ := ownsRow_succ hown'
    have hO13 := OwnY.snoc hown8 hd8 hgrow hown' HWL.out.symm (by rw [List.length_eraseIdx, if_pos (by rw [HLEN.out]; exact hr), HLEN.out, HK1.out]) hc10 hrow11
    rw [← HWS.out] at hO13
    have hI13 := hI11.grown hgrow hown8 (Nat.le_refl _) (by decide)
    have h813 := h811.grown hgrow (own_ne hown8 h811 (by decide))
    have hbut : But (Value.slice A8 k c8).ownBlock V w3 := (But.of_below hb11).trans (But.grown hgrow)
    have f8 := h813.frozen 1
    have c8' := h813.cell 1
    have l8 := h813.lt
    have hOn := hO13.far h813 (by decide) (by decide) 1 (.slice (some ⟨g13, 0, none⟩) (k + 1) c13)
    have hIn := hI13.far hg8w hg83 1 (.slice (some ⟨g13, 0, none⟩) (k + 1) c13)
    have h8n := h813.set_ 1 (.slice (some ⟨g13, 0, none⟩) (k + 1) c13)
    have HON := Lib.hid hOn; have HIN := Lib.hid hIn; have H8N := Lib.hid h8n
    clear hOn hIn h8n hO13 hI13 h813 hown'
    refine nxt_op rfl hbut ?_
    go_wp2_with fail
    refine nxt_op rfl hbut ?_
    go_wp2_with fail
    refine nxt_nil ?_
    go_wp2_with fail
    exact ⟨(k + 1, .slice (some ⟨g13, 0, none⟩) (k + 1) c13), rfl, ⟨by first | rfl | trivial, by show k + 1 ≤ M.length; omega, HIN.out, H8N.out, HON.out⟩, by show M.length - (k + 1) < M.length - k; omega⟩
  · obtain rfl : k = M.length := by omega
    have p0 := hI.b4.cell 0
    have p1 := hI.b4.cell 1
    go_upto_region 9 with fail
    refine abs1 fun V1 h11 hb1 hz => ?_
    clear hz
    obtain ⟨g11, hg11⟩ : ∃ x, x = V.heap.size := ⟨_, rfl⟩
    have hg118 : g8 < g11 := by rw [hg11]; exact h8.lt
    have hg11V : V.heap.size ≤ g11 := by omega
    rw [← hg11] at h11 ⊢
    clear hg11
    have hVw := hI.bel.size
    have p1 := (hI.below hb1).b4.cell 1
    have hwl := wouM_len (M := M) (r := r) (Nat.le_refl _)
    have HWL := Lib.hid hwl
    clear hwl p0
    go_wp2_with fail
    refine wp_loopF (β := Nat × Value) (fun x f => #[f 0, f 1, .int .i64 (r : Int), ptr g, ptr (g + 1), f 5, ptr (g + 2), ptr (g + 3), ptr g8, f 9, f 10, ptr g11, f 12, f 13, f 14, f 15, f 16, f 17, f 18, f 19, f 20, f 21, f 22, f 23, f 24, f 25, f 26, f 27, f 28, f 29, f 30, f 31, f 32, f 33, f 34, f 35, f 36, f 37, f 38, f 39, f 40, f 41, f 42, f 43, f 44, f 45, f 46, f 47, f 48, f 49, f 50, f 51, f 52, .int .i64 (P.length : Int), .int .i64 (x.1 : Int), f 55, f 56, f 57, f 58, f 59, f 60, f 61, f 62, f 63, f 64, f 65, f 66, f 67, f 68, f 69, f 70, f 71, f 72])
      (fun x ds W => ds = [] ∧ x.1 ≤ P.length ∧ Below V.heap.size V W ∧ Blk W g11 28 #[.int .i64 (C : Int), x.2] ∧ OwnY W V.heap.size C x.2 (wopM P r x.1)) (fun x => P.length - x.1) (0, .slice none 0 0) rfl
      ⟨rfl, Nat.zero_le _, hb1, h11, by dsimp only; rw [show wopM P r 0 = [] from rfl]; exact OwnY.nil _ _ _⟩ ?_
    clear h11 hb1 p1
    rintro ⟨k, v11⟩ f ds W ⟨rfl, hk, hbW, h11, hO11⟩
    dsimp only at hk h11 hO11 ⊢
    by_cases hlt : k < P.length
    · have hP4 := HP.out.2.1
      by_cases hkr : k = r
      · have hskip := wopM_skip (P := P) (r := r) (by rw [HK.out]; exact hr)
        have hO' : OwnY W V.heap.size C v11 (wopM P r (k + 1)) := by
          rw [hkr, hskip]
          rw [hkr] at hO11
          exact hO11
        have HO := Lib.hid hO'
        have hne : ((k : Int) != (r : Int)) = false := by rw [hkr]; simp
        have hdk : decide ((k : Int) = (r : Int)) = true := by rw [hkr]; simp
        clear hskip hO' hO11 hkr
        go_wp2_with fail
        exact ⟨(k + 1, v11), rfl, ⟨by first | rfl | trivial, by show k + 1 ≤ P.length; omega, hbW, h11, HO.out⟩, by show P.length - (k + 1) < P.length - k; omega⟩
      · obtain ⟨g1, off, cs, Br, dr, hAe, hBl0, hcell0, hCd, hrow0, hlen⟩ := HP.out.row hlt
        subst hAe
        have hbw := hI.bel.trans (hbW.mono hI.bel.size)
        have hg1V : g1 < V.heap.size := Nat.lt_of_lt_of_le hBl0.lt hI.bel.size
        have hcell := onB hbw hcell0
        have hrow := hrow0.below hbw
        have hws := wopM_succ (P := P) (r := r) hlt hkr
        obtain ⟨xs, hxs⟩ : ∃ xs, xs = P[k] := ⟨_, rfl⟩
        rw [← hxs] at hrow hlen hws
        have hwl := wopM_len (P := P) (r := r) (k := k) (by omega)
        obtain ⟨n, hn⟩ : ∃ n, n = (wopM P r k).length := ⟨_, rfl⟩
        rw [← hn] at hwl
        have hn4 : n ≤ 4096 := by rw [hwl]; split <;> omega
        have q11 := h11.cell 1
        have p1 := (hI.below hbW).b4.cell 1
        have n11 : some g11 ≠ v11.ownBlock := by
          obtain ⟨hs, h1, _⟩ := hO11
          exact own_ne h1 h11 (by decide)
        have ng : some (g + 1) ≠ v11.ownBlock := by
          obtain ⟨hs, h1, _⟩ := hO11
          exact own_ne h1 (hI.below hbW).b4 (by decide)
        have ng1 : some g1 ≠ v11.ownBlock := by
          obtain ⟨hs, h1, _⟩ := hO11
          intro e
          exact absurd hg1V (Nat.not_lt.2 (h1.lt g1 e.symm).1)
        have hne : ((k : Int) != (r : Int)) = true := by rw [bne_iff_ne]; omega
        have hdk : decide ((k : Int) = (r : Int)) = false := decide_eq_false (by omega)
        have HWS := Lib.hid hws; have HN := Lib.hid hn; have HLE := Lib.hid hlen
        clear hws hn hwl hlen hxs hcell0 hrow0 hBl0
        go_upto_region 13 with fail
        refine wp_spine (fun U => But v11.ownBlock W U) [0, 1, 2, 3, 4, 5, 6] [7, 8, 9, 10] (by kernel_rfl) (by kernel_rfl) ?_
        iterate 7 (refine wpE_op (v := ?_) rfl rfl (fun W hW => ?_) ?_; rotate_left; (have x1 := hW.on q11 n11; have x2 := hW.on p1 ng; have x3 := hW.on hcell ng1; go_simp; first | done | with_reducible rfl); simp only [Act.put, List.setIfInBounds_toArray, List.set_cons_zero, List.set_cons_succ])
        have hdr : Below W.heap.size W W.drew := (Below.refl _ _).drew
        refine wpE_nil ⟨fun h => (by cases h), wpSp_op rfl (.of_below hdr) ?_⟩
        go_wp2_with fail
        have hba := hdr.alloc hdr.size (.cells #[.slice Br C dr] 93)
        have hsz := hbW.size
        obtain ⟨hs, hown8, hd8⟩ := hO11.below hba
        rw [← HN.out] at hown8
        obtain ⟨A8, c8, rfl, hc8, -⟩ := RowY.of_own hown8
        have hrow2 := hrow.below hba
        have h112 := h11.below hba h11.lt
        refine nxt_op rfl (.of_below hba) ?_
        go_wp2_with (at_builtin; refine wpList_append_own _ rfl _ _ 26 rfl (V.heap.size) 93 i0 (.slice none 0 0) 1 24 Tryz.underlying26 hi0 hz0 hz1 hz2 rfl (by decide) _ _ _ rfl (hown8) ⟨W.heap.size, 0, none⟩ 1 1 [.slice Br C dr] rfl rfl (cell_one_new _ _ _) (by simp [Value.oneCell']) (by unfold maxLen; omega) (by omega) (by simp; omega) ?_; intro v' w3 hown' hgrow _)
        obtain ⟨g13, c13, rfl⟩ := ownsRow_succ hown'
        have hO13 := OwnY.snoc hown8 hd8 hgrow hown' HN.out HLE.out hCd hrow2
        rw [← HWS.out] at hO13
        have h113 := h112.grown hgrow (own_ne hown8 h112 (by decide))
        have hb13 := (hbW.trans (hba.mono hsz)).grown hgrow (by simp; omega) (fun q hq => (hown8.lt q hq).1)
        have hbut : But (Value.slice A8 n c8).ownBlock W w3 := (But.of_below hba).trans (But.grown hgrow)
        have f8 := h113.frozen 1
        have c8' := h113.cell 1
        have l8 := h113.lt
        have hOn := hO13.far h113 (by decide) (by decide) 1 (.slice (some ⟨g13, 0, none⟩) (n + 1) c13)
        have hbn := hb13.setCell (p := ⟨g11, 1, none⟩) hg11V (.slice (some ⟨g13, 0, none⟩) (n + 1) c13)
        have h8n := h113.set_ 1 (.slice (some ⟨g13, 0, none⟩) (n + 1) c13)
        have HON := Lib.hid hOn; have HBN := Lib.hid hbn; have H8N := Lib.hid h8n
        clear hOn hbn h8n hO13 h113 hown'
        refine nxt_op rfl hbut ?_
        go_wp2_with fail
        refine nxt_op rfl hbut ?_
        go_wp2_with fail
        refine nxt_nil ?_
        go_wp2_with fail
        exact ⟨(k + 1, .slice (some ⟨g13, 0, none⟩) (n + 1) c13), rfl, ⟨by first | rfl | trivial, by show k + 1 ≤ P.length; omega, HBN.out, H8N.out, HON.out⟩, by show P.length - (k + 1) < P.length - k; omega⟩
    · obtain rfl : k = P.length := by omega
      have hP4 := HP.out.2.1
      have hlp : (wopM P r P.length).length = K1 := by rw [wopM_len (Nat.le_refl _), if_pos (by rw [HK.out]; exact hr), HK.out, HK1.out]
      obtain ⟨A8, c8, hv8, hY8⟩ := (hO.below hbW).yref (by rw [HK1.out]; omega) (by rw [HWL.out]; exact hM4)
      obtain ⟨A11, c11, hv11, hY11⟩ := hO11.yref hC4 (by rw [hlp, HK1.out]; omega)
      rw [HWL.out] at hv8
      rw [hlp] at hv11
      subst hv8; subst hv11
      have hIW := hI.below hbW
      have h8W := h8.below hbW h8.lt
      have hK14 : K1 ≤ 4096 := by rw [HK1.out]; omega
      go_upto_region 15 with fail
      refine wp_mix (fun U => Blk U g8 28 #[.int .i64 (K1 : Int), .slice A8 M.length c8] ∧ Blk U g11 28 #[.int .i64 (C : Int), .slice A11 K1 c11]) 4 (by kernel_rfl) (by kernel_rfl) ⟨h8W, h11⟩ ?_
      obtain ⟨U, hU⟩ : ∃ U, U = W.drew := ⟨_, rfl⟩
      have hdr : Below W.heap.size W U := by rw [hU]; exact (Below.refl _ _).drew
      rw [← hU]
      clear hU
      (refine m_q 0 (v := ?_) (by kernel_rfl) rfl rfl (fun W hW => ?_) ?_; rotate_left; (have y0 := hW.1.cell 0; have y1 := hW.1.cell 1; go_simp; first | done | with_reducible rfl); simp only [Act.put, List.setIfInBounds_toArray, List.set_cons_zero, List.set_cons_succ])
      (refine m_q 1 (v := ?_) (by kernel_rfl) rfl rfl (fun W hW => ?_) ?_; rotate_left; (have y0 := hW.2.cell 0; have y1 := hW.2.cell 1; go_simp; first | done | with_reducible rfl); simp only [Act.put, List.setIfInBounds_toArray, List.set_cons_zero, List.set_cons_succ])
      have hIU := hIW.below hdr
      have h8U := h8W.below hdr h8W.lt
      have h11U := h11.below hdr h11.lt
      have Y8 := hY8.below hdr
      have Y11 := hY11.below hdr
      have f60 := hIU.b6.frozen 0
      have f61 := hIU.b6.frozen 1
      have f70 := hIU.b7.frozen 0
      have f71 := hIU.b7.frozen 1
      have c60 := hIU.b6.cell 0
      have c61 := hIU.b6.cell 1
      have c70 := hIU.b7.cell 0
      have c71 := hIU.b7.cell 1
      have l6 := hIU.b6.lt
      have l7 := hIU.b7.lt
      have e6 := (hIU.b6.set_ 0 (.int .i64 (K1 : Int))).set_ 1 (.slice A8 M.length c8)
      have e7 := (hIU.b7.far (p := ⟨g + 2, 0, none⟩) (by simp) (.int .i64 (K1 : Int))).far (p := ⟨g + 2, 1, none⟩) (by simp) (.slice A8 M.length c8)
      have e8 := (h8U.far (p := ⟨g + 2, 0, none⟩) (by simp; omega) (.int .i64 (K1 : Int))).far (p := ⟨g + 2, 1, none⟩) (by simp; omega) (.slice A8 M.length c8)
      have e11 := (h11U.far (p := ⟨g + 2, 0, none⟩) (by simp; omega) (.int .i64 (K1 : Int))).far (p := ⟨g + 2, 1, none⟩) (by simp; omega) (.slice A8 M.length c8)
      have k6 := (e6.far (p := ⟨g + 3, 0, none⟩) (by simp) (.int .i64 (C : Int))).far (p := ⟨g + 3, 1, none⟩) (by simp) (.slice A11 K1 c11)
      have k7 := (e7.set_ 0 (.int .i64 (C : Int))).set_ 1 (.slice A11 K1 c11)
      have k8 := (e8.far (p := ⟨g + 3, 0, none⟩) (by simp; omega) (.int .i64 (C : Int))).far (p := ⟨g + 3, 1, none⟩) (by simp; omega) (.slice A11 K1 c11)
      have k11 := (e11.far (p := ⟨g + 3, 0, none⟩) (by simp; omega) (.int .i64 (C : Int))).far (p := ⟨g + 3, 1, none⟩) (by simp; omega) (.slice A11 K1 c11)
      have y8 := (((Y8.far hIU.b6 (by decide) (by decide) 0 (.int .i64 (K1 : Int))).far (hIU.b6.set_ 0 _) (by decide) (by decide) 1 (.slice A8 M.length c8)).far e7 (by decide) (by decide) 0 (.int .i64 (C : Int))).far (e7.set_ 0 _) (by decide) (by decide) 1 (.slice A11 K1 c11)
      have y11 := (((Y11.far hIU.b6 (by decide) (by decide) 0 (.int .i64 (K1 : Int))).far (hIU.b6.set_ 0 _) (by decide) (by decide) 1 (.slice A8 M.length c8)).far e7 (by decide) (by decide) 0 (.int .i64 (C : Int))).far (e7.set_ 0 _) (by decide) (by decide) 1 (.slice A11 K1 c11)
      have hbl := (((hIU.bel.setCell (p := ⟨g + 2, 0, none⟩) (by simp; omega) (.int .i64 (K1 : Int))).setCell (p := ⟨g + 2, 1, none⟩) (by simp; omega) (.slice A8 M.length c8)).setCell (p := ⟨g + 3, 0, none⟩) (by simp; omega) (.int .i64 (C : Int))).setCell (p := ⟨g + 3, 1, none⟩) (by simp; omega) (.slice A11 K1 c11)
      have H8 := Lib.hid e8; have H11 := Lib.hid e11; have K6 := Lib.hid k6; have K7 := Lib.hid k7; have K8 := Lib.hid k8; have K11 := Lib.hid k11; have HY8 := Lib.hid y8; have HY11 := Lib.hid y11; have HBL := Lib.hid hbl
      clear e6 e7 e8 e11 k6 k7 k8 k11 y8 y11 hbl hIU h8U h11U Y8 Y11 hIW h8W hY8 hY11 h11 hO11 hO h8 hI hdr
      refine m_s1 2 (by kernel_rfl) rfl ?_
      go_wp2_with fail
      refine m_keep ⟨H8.out, H11.out⟩ ?_
      refine m_s1 3 (by kernel_rfl) rfl ?_
      go_wp2_with fail
      refine m_keep ⟨K8.out, K11.out⟩ ?_
      refine m_end (by kernel_rfl) ?_
      clear c60 c61 c70 c71 f60 f61 f70 f71
      go_wp2_with fail
      have c60 := K6.out.cell 0
      have c61 := K6.out.cell 1
      have c70 := K7.out.cell 0
      have c71 := K7.out.cell 1
      exact bodyPost_ret (v := .tuple #[refV K1 A8 M.length c8, refV C A11 K1 c11]) (by simp [results, Tryz.results44, go_sem, c60, c61, c70, c71]) rfl ⟨A8, c8, A11, c11, rfl, HY8.out, HY11.out, HBL.out⟩
end Mix2
end Go.Proofs.YtfbkcdhmggjbaaaGreatDoor

/-
  Plain: roles as pairs of sets and as the reference's matrices.
-/
namespace Go.Proofs.YtfbkcdhmggjbaaaGreatDoor
open Go.RowKit
theorem subQ48 {N K : Nat} : N &&& K = N ↔ ∀ j, N.testBit j = true → K.testBit j = true := by
  constructor
  · intro h j hj
    have := congrArg (fun x => x.testBit j) h
    simp only [Nat.testBit_and, hj, Bool.true_and] at this
    exact this
  · intro h
    apply Nat.eq_of_testBit_eq
    intro j
    rw [Nat.testBit_and]
    cases hj : N.testBit j with
    | false => rfl
    | true => rw [h j hj]; rfl
theorem bitQ48 {C : Nat} {M : List (List Bool)} (hC : C ≤ 4096) {i j : Nat} (hi : i < M.length) (h : ((nsOf C M).getD i 0).testBit j = true) : j < C ∧ mget M i j = true := by
  have h1 : j < C := of_low (rowsIn_nsOf C M hC i (by rw [nsTo_len]; exact hi)) j h
  exact ⟨h1, by rw [← bit_nsOf hC hi h1]; exact h⟩
theorem withQ48 {C D : Nat} {M P : List (List Bool)} (hC : C ≤ 4096) : decide (C = D ∧ (nsOf C M).length = (nsOf D P).length ∧ withinM (nsOf C M) (nsOf D P)) = withinB C D M P := by
  unfold withinB
  rw [nsTo_len, nsTo_len, Bool.eq_iff_iff, decide_eq_true_eq, decide_eq_true_eq]
  constructor
  · rintro ⟨rfl, hL, hw⟩
    refine ⟨⟨hL, rfl⟩, fun i hi j hj hm => ?_⟩
    have h1 := subQ48.1 (hw i (by rw [nsTo_len]; exact hi)) j (by rw [bit_nsOf hC hi hj]; exact hm)
    rwa [bit_nsOf hC (by omega) hj] at h1
  · rintro ⟨⟨hL, rfl⟩, hw⟩
    refine ⟨rfl, hL, fun i hi => subQ48.2 fun j hj => ?_⟩
    rw [nsTo_len] at hi
    obtain ⟨hjC, hm⟩ := bitQ48 hC hi hj
    rw [bit_nsOf hC (by omega) hjC]
    exact hw i hi j hjC hm
theorem eqQ48 {C D : Nat} {M P : List (List Bool)} (hC : C ≤ 4096) (hD : D ≤ 4096) : decide (C = D ∧ (nsOf C M).length = (nsOf D P).length ∧ withinM (nsOf C M) (nsOf D P) ∧ withinM (nsOf D P) (nsOf C M)) = sameB C D M P := by
  unfold sameB
  rw [← withQ48 hC, ← withQ48 hD, Bool.eq_iff_iff, Bool.and_eq_true, decide_eq_true_eq, decide_eq_true_eq, decide_eq_true_eq]
  constructor
  · rintro ⟨rfl, hL, h1, h2⟩; exact ⟨⟨rfl, hL, h1⟩, rfl, hL.symm, h2⟩
  · rintro ⟨⟨rfl, hL, h1⟩, _, _, h2⟩; exact ⟨rfl, hL, h1, h2⟩
theorem prodQ48 {C D : Nat} {M P : List (List Bool)} (hC : C ≤ 4096) (hD : D ≤ 4096) (hL : C = P.length) : mprod (nsOf C M) (nsOf D P) M.length = nsOf D (mat M.length D (prodF M P C)) := by
  refine List.ext_getElem (by rw [mprod_len, nsTo_len, mat_len]) fun i h1 h2 => ?_
  have hi : i < M.length := by rw [mprod_len] at h1; exact h1
  rw [← getD_at h1, ← getD_at h2]
  refine Nat.eq_of_testBit_eq fun j => ?_
  by_cases hj : j < D
  · have e := mprod_has hC hD hL i hi j hj
    rw [mhas_in (by rw [mprod_len]; exact hi) hj] at e
    rw [e, bit_nsOf hD (by rw [mat_len]; exact hi) hj, mat_get hi hj]
  · have e1 : ((mprod (nsOf C M) (nsOf D P) M.length).getD i 0).testBit j = false := by
      rw [Bool.eq_false_iff]
      intro h
      obtain ⟨k, _, hk⟩ := (mprod_bit hi).1 h
      by_cases hkP : k < P.length
      · exact hj (bitQ48 hD hkP hk).1
      · rw [List.getD_eq_getElem?_getD, List.getElem?_eq_none (by rw [nsTo_len]; omega)] at hk
        simp at hk
    have e2 : ((nsOf D (mat M.length D (prodF M P C))).getD i 0).testBit j = false := by
      rw [Bool.eq_false_iff]
      intro h
      exact hj (bitQ48 hD (by rw [mat_len]; exact hi) h).1
    rw [e1, e2]
/-- Valid answers as the specification's product and Same. -/
theorem validQ_want {C D E : Nat} {A B P : List (List Bool)} (hC : C ≤ 4096) (hD : D ≤ 4096) (hE : E ≤ 4096) (hL : D = P.length) : validN C (nsOf C A) D (nsOf D B) E (nsOf E P) = sameB E C (mat B.length E (prodF B P D)) A := by
  unfold validN
  rw [decide_eq_true (show D = (nsOf E P).length by rw [nsTo_len]; exact hL), Bool.true_and, ← eqQ48 hE hC, show (nsOf D B).length = B.length from nsTo_len .., prodQ48 hD hE hL]
/-- Users by roles. -/
def matU (R : Nat) (L : List (Nat × Nat)) : List (List Bool) := mat R L.length fun i k => (L.getD k (0, 0)).1.testBit i
/-- Roles by permissions. -/
def matP (C : Nat) (L : List (Nat × Nat)) : List (List Bool) := mat L.length C fun k j => (L.getD k (0, 0)).2.testBit j
theorem matU_len (R : Nat) (L : List (Nat × Nat)) : (matU R L).length = R := mat_len ..
theorem matP_len (C : Nat) (L : List (Nat × Nat)) : (matP C L).length = L.length := mat_len ..
theorem matU_get {R : Nat} {L : List (Nat × Nat)} {i k : Nat} (hi : i < R) (hk : k < L.length) : mget (matU R L) i k = (L.getD k (0, 0)).1.testBit i := mat_get hi hk
theorem matP_get {C : Nat} {L : List (Nat × Nat)} {k j : Nat} (hk : k < L.length) (hj : j < C) : mget (matP C L) k j = (L.getD k (0, 0)).2.testBit j := mat_get hk hj
theorem nsOf_matU {R : Nat} {L : List (Nat × Nat)} (hL : L.length ≤ 4096) : nsOf L.length (matU R L) = mtrans R (L.map (·.1)) R := by
  refine List.ext_getElem (by rw [nsTo_len, mtrans_len, matU_len]) fun i h1 h2 => ?_
  rw [← getD_at h1, ← getD_at h2]
  have hi : i < R := by rw [mtrans_len] at h2; exact h2
  refine Nat.eq_of_testBit_eq fun k => ?_
  rw [Bool.eq_iff_iff, usersQ_bit hL]
  constructor
  · intro h
    obtain ⟨h3, h4⟩ := bitQ48 hL (by rw [matU_len]; exact hi) h
    rw [matU_get hi h3] at h4
    exact ⟨hi, h3, h4⟩
  · rintro ⟨_, h3, h4⟩
    rw [bit_nsOf hL (by rw [matU_len]; exact hi) h3, matU_get hi h3]
    exact h4
theorem nsOf_matP {R C : Nat} {L : List (Nat × Nat)} (hC : C ≤ 4096) (h : WfQ R C L) : nsOf C (matP C L) = L.map (·.2) := by
  refine List.ext_getElem (by rw [nsTo_len, matP_len, List.length_map]) fun k h1 h2 => ?_
  rw [← getD_at h1, ← getD_at h2]
  have hk : k < L.length := by rw [List.length_map] at h2; exact h2
  rw [permsQ_get hk]
  refine Nat.eq_of_testBit_eq fun j => ?_
  rw [Bool.eq_iff_iff]
  constructor
  · intro hh
    obtain ⟨h3, h4⟩ := bitQ48 hC (by rw [matP_len]; exact hk) hh
    rwa [matP_get hk h3] at h4
  · intro hh
    have h3 := (h _ (getQ_mem hk)).2 j hh
    rw [bit_nsOf hC (by rw [matP_len]; exact hk) h3, matP_get hk h3]
    exact hh
/-- The reference's test is the program's. -/
theorem okR_eq {C : Nat} {M : List (List Bool)} {L : List (Nat × Nat)} (hC : C ≤ 4096) (hL : L.length ≤ 4096) (h : WfQ M.length C L) : sameB C C (mat M.length C (prodF (matU M.length L) (matP C L) L.length)) M = validQ C (nsOf C M) L := by
  have e := validQ_want (A := M) (B := matU M.length L) (P := matP C L) hC hL hC (matP_len C L).symm
  rw [nsOf_matU hL, nsOf_matP hC h, matU_len] at e
  rw [← e]
  unfold validQ
  rw [show (nsOf C M).length = M.length from nsTo_len ..]
/-- Without a role. -/
theorem wou_matU {R : Nat} {L : List (Nat × Nat)} {r : Nat} (hr : r < L.length) : wouM (matU R L) r (matU R L).length = matU R (L.eraseIdx r) := by
  unfold wouM
  rw [List.take_length]
  unfold matU mat
  rw [List.map_map]
  refine List.map_congr_left fun i hi => ?_
  show ((List.range L.length).map fun k => (L.getD k (0, 0)).1.testBit i).eraseIdx r = _
  apply List.ext_getElem (by simp [List.length_eraseIdx, hr])
  intro k h1 h2
  rw [List.getElem_eraseIdx]
  rw [List.length_map, List.length_range] at h2
  simp only [List.getElem_map, List.getElem_range]
  rw [getD_eraseQ]
  split <;> rfl
theorem wop_matP {C : Nat} {L : List (Nat × Nat)} {r : Nat} (hr : r < L.length) : wopM (matP C L) r (matP C L).length = matP C (L.eraseIdx r) := by
  unfold wopM
  rw [List.take_length]
  unfold matP mat
  apply List.ext_getElem (by simp [List.length_eraseIdx, hr])
  intro k h1 h2
  rw [List.getElem_eraseIdx]
  rw [List.length_map, List.length_range] at h2
  simp only [List.getElem_map, List.getElem_range]
  rw [getD_eraseQ]
  split <;> rfl
theorem mat_congr2 {R C : Nat} {f f' : Nat → Nat → Bool} (h : ∀ i, i < R → ∀ j, j < C → f i j = f' i j) : mat R C f = mat R C f' := by
  unfold mat
  refine List.map_congr_left fun i hi => List.map_congr_left fun j hj => ?_
  exact h i (List.mem_range.1 hi) j (List.mem_range.1 hj)
/-- With one user less. -/
theorem with_matU {R : Nat} {L : List (Nat × Nat)} {r i : Nat} (hr : r < L.length) : mat R L.length (withF (matU R L) i r false) = matU R (clrQ L r i) := by
  have e : matU R (clrQ L r i) = mat R L.length fun i' k => ((clrQ L r i).getD k (0, 0)).1.testBit i' := by unfold matU; rw [clrQ_len]
  rw [e]
  refine mat_congr2 fun a ha b hb => ?_
  unfold withF
  rw [clrQ_1 _ _ _ _ _ hr, matU_get ha hb]
  by_cases h : a = i ∧ b = r
  · rw [if_pos h, decide_eq_true h.1, decide_eq_true h.2]; simp
  · rw [if_neg h]
    by_cases h1 : a = i
    · rw [decide_eq_false (show ¬ b = r from fun h2 => h ⟨h1, h2⟩)]; simp
    · rw [decide_eq_false h1]; simp
theorem matP_clr {C : Nat} {L : List (Nat × Nat)} {r i : Nat} : matP C (clrQ L r i) = matP C L := by
  have e : matP C (clrQ L r i) = mat L.length C fun k j => ((clrQ L r i).getD k (0, 0)).2.testBit j := by unfold matP; rw [clrQ_len]
  rw [e]
  refine mat_congr2 fun a _ b _ => ?_
  rw [clrQ_2]
/-- The roles of two matrices of the specification's. -/
theorem role_matU {K C R : Nat} {A B : List (List Bool)} (hK : K ≤ 4096) (hC : C ≤ 4096) (hR : A.length = R) (hR4 : R ≤ 4096) (hB : B.length = K) (hA : ∀ (i : Nat) r, A[i]? = some r → r.length = K) (hB2 : ∀ (i : Nat) r, B[i]? = some r → r.length = C) :
    matU R (roleQ K (nsOf K A) (nsOf C B) K) = A ∧ matP C (roleQ K (nsOf K A) (nsOf C B) K) = B := by
  have hg : ∀ k, k < K → (roleQ K (nsOf K A) (nsOf C B) K).getD k (0, 0) = (mcol K (nsOf K A) (k : Nat), (nsOf C B).getD k 0) := fun k hk => by
    unfold roleQ
    rw [List.getD_eq_getElem?_getD, List.getElem?_map, List.getElem?_range hk]; rfl
  constructor
  · unfold matU
    rw [roleQ_len]
    apply List.ext_getElem (by rw [mat_len, hR])
    intro i h1 h2
    have hrl := hA i A[i] (List.getElem?_eq_getElem h2)
    apply List.ext_getElem
    · rw [hrl]; simp [mat]
    · intro k h3 h4
      have hk : k < K := by omega
      have e1 : ((mat R K fun i k => ((roleQ K (nsOf K A) (nsOf C B) K).getD k (0, 0)).1.testBit i)[i])[k] = ((roleQ K (nsOf K A) (nsOf C B) K).getD k (0, 0)).1.testBit i := by simp [mat]
      rw [e1, hg k hk, testBit_mcol _ _ _ _ (by rw [show (nsOf K A).length = A.length from nsTo_len ..]; omega), mhas_in (by rw [show (nsOf K A).length = A.length from nsTo_len ..]; exact h2) hk, bit_nsOf hK h2 hk]
      simp only [mget, List.getD_eq_getElem?_getD, List.getElem?_eq_getElem h2, Option.getD_some, List.getElem?_eq_getElem h4]
  · unfold matP
    rw [roleQ_len]
    apply List.ext_getElem (by rw [mat_len, hB])
    intro k h1 h2
    have hrl := hB2 k B[k] (List.getElem?_eq_getElem h2)
    have hk : k < K := by omega
    apply List.ext_getElem
    · rw [hrl]; simp [mat]
    · intro j h3 h4
      have hj : j < C := by omega
      have e1 : ((mat K C fun k j => ((roleQ K (nsOf K A) (nsOf C B) K).getD k (0, 0)).2.testBit j)[k])[j] = ((roleQ K (nsOf K A) (nsOf C B) K).getD k (0, 0)).2.testBit j := by simp [mat]
      rw [e1, hg k hk, bit_nsOf hC h2 hj]
      simp only [mget, List.getD_eq_getElem?_getD, List.getElem?_eq_getElem h2, Option.getD_some, List.getElem?_eq_getElem h4]
end Go.Proofs.YtfbkcdhmggjbaaaGreatDoor
