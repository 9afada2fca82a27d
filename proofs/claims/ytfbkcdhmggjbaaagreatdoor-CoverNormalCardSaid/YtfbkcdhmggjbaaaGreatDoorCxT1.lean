import Derived.Test.YtfbkcdhmggjbaaaGreatDoorCwC
import Derived.Lib.SliceRun
import Derived.Deep.RegionLaw
import Derived.Test.YtfbkcdhmggjbaaaGreatDoorCwI
import Derived.Test.YtfbkcdhmggjbaaaGreatDoorLaw
import Derived.Test.YtfbkcdhmggjbaaaGreatDoorLaw3
import Derived.Deep.DeepCutAuto
import Derived.Deep.CutBlock
import Derived.Test.YtfbkcdhmggjbaaaGreatDoorCvH
/-
  slices.Clone of roles.
-/
namespace Go.Proofs.YtfbkcdhmggjbaaaGreatDoor
open Go.RowKit
end Go.Proofs.YtfbkcdhmggjbaaaGreatDoor

/-
  clear of one role (the tail that slices.Delete leaves).
-/
namespace Go.Proofs.YtfbkcdhmggjbaaaGreatDoor
open Go.RowKit
end Go.Proofs.YtfbkcdhmggjbaaaGreatDoor

/-
  slices.Delete of roles: one role is taken out.
-/
namespace Go.Proofs.YtfbkcdhmggjbaaaGreatDoor
open Go.RowKit
/-- Some cells of an array are written. -/
def setAll (cs : Array Value) : Nat → List Value → Array Value
  | _, [] => cs
  | o, v :: vs => setAll (cs.setIfInBounds o v) (o + 1) vs
theorem setAll_size : ∀ (vs : List Value) (o : Nat) (cs : Array Value), (setAll cs o vs).size = cs.size
  | [], _, _ => rfl
  | v :: vs, o, cs => by rw [setAll, setAll_size vs, Array.size_setIfInBounds]
theorem setAll_get : ∀ (vs : List Value) (o : Nat) (cs : Array Value) (i : Nat), i < cs.size → (setAll cs o vs)[i]? = if o ≤ i ∧ i < o + vs.length then vs[i - o]? else cs[i]?
  | [], o, cs, i, h => by rw [setAll, if_neg (by simp)]
  | v :: vs, o, cs, i, h => by
    rw [setAll, setAll_get vs (o + 1) _ i (by rw [Array.size_setIfInBounds]; exact h), List.length_cons]
    by_cases h1 : o + 1 ≤ i ∧ i < o + 1 + vs.length
    · rw [if_pos h1, if_pos (by omega), show i - o = (i - (o + 1)) + 1 by omega, List.getElem?_cons_succ]
    · rw [if_neg h1, Array.getElem?_setIfInBounds]
      by_cases h2 : o = i
      · subst h2
        rw [if_pos rfl, if_pos h, if_pos (by omega), Nat.sub_self]; rfl
      · rw [if_neg h2, if_neg (by omega)]
theorem Blk.sets_ {g : Nat} {t : TypeId} : ∀ (vs : List Value) (o : Nat) {w : World} {cs : Array Value}, Blk w g t cs → Blk (w.setCells g o vs) g t (setAll cs o vs)
  | [], _, _, _, h => h
  | v :: vs, o, _, _, h => Blk.sets_ vs (o + 1) (h.set_ o v)
theorem KeepW.sets_ {g : Nat} {t : TypeId} (ht : 158 ≠ t) : ∀ (vs : List Value) (o : Nat) {w : World} {cs : Array Value}, Blk w g t cs → KeepW w (w.setCells g o vs)
  | [], _, w, _, _ => KeepW.refl w
  | v :: vs, o, _, _, h => (KeepW.setCell (p := ⟨g, o, none⟩) h ht v).trans (KeepW.sets_ ht vs (o + 1) (h.set_ o v))
theorem Below.sets_ {g base : Nat} (hg : base ≤ g) : ∀ (vs : List Value) (o : Nat) (w : World), Below base w (w.setCells g o vs)
  | [], _, _ => Below.refl _ _
  | v :: vs, o, w => ((Below.refl base w).setCell (p := ⟨g, o, none⟩) hg v).trans (Below.sets_ hg vs (o + 1) _)
theorem flatQ_take (L : List (Nat × Nat)) (k : Nat) : flatQ (L.take k) = (flatQ L).take (k * 2) := by
  induction L generalizing k with
  | nil => simp [flatQ]
  | cons s L ih =>
    cases k with
    | zero => simp [flatQ]
    | succ k =>
      have := ih k
      unfold flatQ at this ⊢
      rw [List.take_succ_cons, List.flatMap_cons, List.flatMap_cons, this, show (k + 1) * 2 = k * 2 + 1 + 1 by omega]
      rfl
theorem Sets.cut {w : World} {vs : List Value} {Ns : List Nat} (h : Sets w vs Ns) (a b : Nat) : Sets w (vs.take a ++ vs.drop b) (Ns.take a ++ Ns.drop b) := by
  have hl := h.1
  refine ⟨by simp only [List.length_append, List.length_take, List.length_drop, hl], fun k v N hv hN => ?_⟩
  rw [List.getElem?_append] at hv hN
  rw [List.length_take, hl] at hv
  rw [List.length_take] at hN
  split at hv
  · rename_i hk
    rw [if_pos hk] at hN
    rw [List.getElem?_take] at hv hN
    have hka : k < a := by omega
    rw [if_pos hka] at hv hN
    exact h.2 k v N hv hN
  · rename_i hk
    rw [if_neg hk] at hN
    rw [List.getElem?_drop] at hv hN
    exact h.2 _ v N hv hN
namespace Mix2
end Mix2
end Go.Proofs.YtfbkcdhmggjbaaaGreatDoor

/-
  Simplify in plain words: needless roles, then needless users are removed; after it nothing more can be removed.
-/
namespace Go.Proofs.YtfbkcdhmggjbaaaGreatDoor
open Go.RowKit
/-- Roles whose users are below R and whose permissions are below C. -/
def WfQ (R C : Nat) (L : List (Nat × Nat)) : Prop := ∀ s ∈ L, (∀ i, s.1.testBit i = true → i < R) ∧ ∀ j, s.2.testBit j = true → j < C
/-- Some role gives the cell. -/
def givQ (L : List (Nat × Nat)) (i j : Nat) : Prop := ∃ s ∈ L, s.1.testBit i = true ∧ s.2.testBit j = true
theorem low_of {C N : Nat} (h : ∀ j, N.testBit j = true → j < C) : N &&& lowN C = N := Nat.eq_of_testBit_eq fun j => by
  rw [Nat.testBit_and, testBit_lowN]
  cases hb : N.testBit j
  · simp
  · simp [h j hb]
theorem of_low {C N : Nat} (h : N &&& lowN C = N) : ∀ j, N.testBit j = true → j < C := fun j hj => by
  rw [← h, Nat.testBit_and, testBit_lowN] at hj
  simp at hj
  exact hj.2
section
variable {R C : Nat} {L : List (Nat × Nat)}
theorem WfQ.rows1 (h : WfQ R C L) : rowsIn R (L.map (·.1)) := fun k hk => by
  rw [List.length_map] at hk
  rw [List.getD_eq_getElem?_getD, List.getElem?_map, List.getElem?_eq_getElem hk]
  exact low_of (h _ (List.getElem_mem hk)).1
theorem WfQ.rows2 (h : WfQ R C L) : rowsIn C (L.map (·.2)) := fun k hk => by
  rw [List.length_map] at hk
  rw [List.getD_eq_getElem?_getD, List.getElem?_map, List.getElem?_eq_getElem hk]
  exact low_of (h _ (List.getElem_mem hk)).2
theorem WfQ.erase (h : WfQ R C L) (k : Nat) : WfQ R C (L.eraseIdx k) := fun s hs => h s (List.mem_of_mem_eraseIdx hs)
theorem getQ_mem {k : Nat} (hk : k < L.length) : L.getD k (0, 0) ∈ L := by
  rw [List.getD_eq_getElem?_getD, List.getElem?_eq_getElem hk]
  exact List.getElem_mem hk
end
theorem usersQ_bit {R : Nat} {L : List (Nat × Nat)} (hL : L.length ≤ 4096) (i k : Nat) : ((mtrans R (L.map (·.1)) R).getD i 0).testBit k = true ↔ i < R ∧ k < L.length ∧ (L.getD k (0, 0)).1.testBit i = true := by
  rw [bit_trans (by rw [List.length_map]; exact hL), List.length_map]
  constructor
  · rintro ⟨h1, h2, h3⟩
    refine ⟨h1, h2, ?_⟩
    rw [List.getD_eq_getElem?_getD, List.getElem?_map, List.getElem?_eq_getElem h2] at h3
    rw [List.getD_eq_getElem?_getD, List.getElem?_eq_getElem h2]
    exact h3
  · rintro ⟨h1, h2, h3⟩
    refine ⟨h1, h2, ?_⟩
    rw [List.getD_eq_getElem?_getD, List.getElem?_map, List.getElem?_eq_getElem h2]
    rw [List.getD_eq_getElem?_getD, List.getElem?_eq_getElem h2] at h3
    exact h3
theorem permsQ_get {L : List (Nat × Nat)} {k : Nat} (hk : k < L.length) : (L.map (·.2)).getD k 0 = (L.getD k (0, 0)).2 := by
  rw [List.getD_eq_getElem?_getD, List.getElem?_map, List.getElem?_eq_getElem hk, List.getD_eq_getElem?_getD, List.getElem?_eq_getElem hk]; rfl
/-- Valid roles, element for element. -/
theorem validN_iff {C : Nat} {Ns : List Nat} {D E : Nat} {Us Ps : List Nat} : validN C Ns D Us E Ps = true ↔ D = Ps.length ∧ E = C ∧ Us.length = Ns.length ∧ ∀ i, i < Ns.length → ∀ j, (∃ k, (Us.getD i 0).testBit k = true ∧ (Ps.getD k 0).testBit j = true) ↔ (Ns.getD i 0).testBit j = true := by
  constructor
  · intro h
    unfold validN at h
    rw [Bool.and_eq_true, decide_eq_true_eq, decide_eq_true_eq] at h
    obtain ⟨h1, h2, h3, h4, h5⟩ := h
    rw [mprod_len] at h3
    refine ⟨h1, h2, h3, fun i hi j => ?_⟩
    have q1 := h4 i (by rw [mprod_len, h3]; exact hi)
    have q2 := h5 i hi
    have e : (mprod Us Ps Us.length).getD i 0 = Ns.getD i 0 := by rw [← q1, Nat.and_comm]; exact q2
    rw [← e, mprod_bit (by rw [h3]; exact hi)]
  · rintro ⟨h1, h2, h3, h4⟩
    exact valid_of h1 h2 h3 h4
theorem validQ_iff {C : Nat} {Ns : List Nat} {L : List (Nat × Nat)} (hL : L.length ≤ 4096) : validQ C Ns L = true ↔ ∀ i, i < Ns.length → ∀ j, givQ L i j ↔ (Ns.getD i 0).testBit j = true := by
  unfold validQ
  rw [validN_iff, List.length_map, mtrans_len]
  have key : ∀ i, i < Ns.length → ∀ j, ((∃ k, ((mtrans Ns.length (L.map (·.1)) Ns.length).getD i 0).testBit k = true ∧ ((L.map (fun s : Nat × Nat => s.2)).getD k 0).testBit j = true) ↔ givQ L i j) := fun i hi j => by
    constructor
    · rintro ⟨k, h1, h2⟩
      obtain ⟨_, hk, h3⟩ := (usersQ_bit hL i k).1 h1
      rw [permsQ_get hk] at h2
      exact ⟨_, getQ_mem hk, h3, h2⟩
    · rintro ⟨s, hs, h1, h2⟩
      obtain ⟨k, hk, rfl⟩ := List.mem_iff_getElem.1 hs
      have e : L.getD k (0, 0) = L[k] := by rw [List.getD_eq_getElem?_getD, List.getElem?_eq_getElem hk]; rfl
      exact ⟨k, (usersQ_bit hL i k).2 ⟨hi, hk, by rw [e]; exact h1⟩, by rw [permsQ_get hk, e]; exact h2⟩
  constructor
  · rintro ⟨_, _, _, h⟩ i hi j
    rw [← key i hi j]
    exact h i hi j
  · intro h
    refine ⟨rfl, rfl, rfl, fun i hi j => ?_⟩
    rw [key i hi j]
    exact h i hi j

section
variable {ok : List (Nat × Nat) → Bool}
end
/-- The roles give less. -/
def SubQ (L M : List (Nat × Nat)) : Prop := ∀ i j, givQ L i j → givQ M i j
theorem SubQ.refl (L : List (Nat × Nat)) : SubQ L L := fun _ _ h => h
theorem SubQ.trans {L M K : List (Nat × Nat)} (h : SubQ L M) (k : SubQ M K) : SubQ L K := fun i j g => k i j (h i j g)
theorem SubQ.erase (L : List (Nat × Nat)) (k : Nat) : SubQ (L.eraseIdx k) L := fun _ _ ⟨s, hs, h⟩ => ⟨s, List.mem_of_mem_eraseIdx hs, h⟩
theorem givQ_get {L : List (Nat × Nat)} {i j : Nat} : givQ L i j ↔ ∃ k, k < L.length ∧ (L.getD k (0, 0)).1.testBit i = true ∧ (L.getD k (0, 0)).2.testBit j = true := by
  constructor
  · rintro ⟨s, hs, h⟩
    obtain ⟨k, hk, rfl⟩ := List.mem_iff_getElem.1 hs
    refine ⟨k, hk, ?_⟩
    rw [List.getD_eq_getElem?_getD, List.getElem?_eq_getElem hk]
    exact h
  · rintro ⟨k, hk, h⟩
    exact ⟨_, getQ_mem hk, h⟩
/-- Role for role it is less. -/
def LeQ (L M : List (Nat × Nat)) : Prop := L.length = M.length ∧ ∀ k, (∀ i, (L.getD k (0, 0)).1.testBit i = true → (M.getD k (0, 0)).1.testBit i = true) ∧ (L.getD k (0, 0)).2 = (M.getD k (0, 0)).2
theorem LeQ.refl (L : List (Nat × Nat)) : LeQ L L := ⟨rfl, fun _ => ⟨fun _ h => h, rfl⟩⟩
theorem LeQ.trans {L M K : List (Nat × Nat)} (h : LeQ L M) (k : LeQ M K) : LeQ L K := ⟨h.1.trans k.1, fun x => ⟨fun i g => (k.2 x).1 i ((h.2 x).1 i g), (h.2 x).2.trans (k.2 x).2⟩⟩
theorem LeQ.sub {L M : List (Nat × Nat)} (h : LeQ L M) : SubQ L M := fun i j g => by
  obtain ⟨k, hk, h1, h2⟩ := givQ_get.1 g
  exact givQ_get.2 ⟨k, by rw [← h.1]; exact hk, (h.2 k).1 i h1, by rw [← (h.2 k).2]; exact h2⟩
theorem getD_eraseQ (L : List (Nat × Nat)) (r k : Nat) : (L.eraseIdx r).getD k (0, 0) = if k < r then L.getD k (0, 0) else L.getD (k + 1) (0, 0) := by
  rw [List.getD_eq_getElem?_getD, List.getElem?_eraseIdx, List.getD_eq_getElem?_getD, List.getD_eq_getElem?_getD]
  split <;> rfl
theorem LeQ.erase {L M : List (Nat × Nat)} (h : LeQ L M) (r : Nat) : LeQ (L.eraseIdx r) (M.eraseIdx r) := by
  refine ⟨by rw [List.length_eraseIdx, List.length_eraseIdx, h.1], fun k => ?_⟩
  rw [getD_eraseQ, getD_eraseQ]
  split
  · exact h.2 k
  · exact h.2 (k + 1)
section
variable {C : Nat} {Ns : List Nat}
end
end Go.Proofs.YtfbkcdhmggjbaaaGreatDoor

/-
  The reference of chapter 48: matrices whose rows lie anywhere in typed blocks; Without.
-/
namespace Go.Proofs.YtfbkcdhmggjbaaaGreatDoor
open Go.RowKit
/-- The cells xs at A, in a block of type t. -/
def RowY (w : World) (t : TypeId) (A : Option Addr) (xs : List Value) : Prop := 0 < xs.length → ∃ g off cs, A = some ⟨g, off, none⟩ ∧ Blk w g t cs ∧ ∀ (k : Nat) u, xs[k]? = some u → cs[off + k]? = some u
section
variable {w w' : World} {t : TypeId} {A : Option Addr} {xs : List Value}
theorem RowY.row (h : RowY w t A xs) : Row w A xs := fun hn => by
  obtain ⟨g, off, cs, rfl, hB, hc⟩ := h hn
  exact ⟨g, off, rfl, hB.lt, fun k u hu => (hB.cell (off + k)).trans (hc k u hu)⟩
theorem RowY.below (h : RowY w t A xs) (hb : Below w.heap.size w w') : RowY w' t A xs := fun hn => by
  obtain ⟨g, off, cs, e, hB, hc⟩ := h hn
  exact ⟨g, off, cs, e, hB.below hb hB.lt, hc⟩
theorem RowY.far (h : RowY w t A xs) {b : Nat} {t' : TypeId} {cs' : Array Value} (hB : Blk w b t' cs') (hne : t ≠ t') (i : Nat) (u : Value) : RowY (w.setCell ⟨b, i, none⟩ u) t A xs := fun hn => by
  obtain ⟨g, off, cs, e, hC, hc⟩ := h hn
  exact ⟨g, off, cs, e, hC.far (p := ⟨b, i, none⟩) (hC.ne_ hB hne) u, hc⟩
theorem RowY.but {r : Option Nat} (h : RowY w t A xs) (hb : But r w w') (hr : ∀ g cs, Blk w g t cs → some g ≠ r) : RowY w' t A xs := fun hn => by
  obtain ⟨g, off, cs, e, hC, hc⟩ := h hn
  exact ⟨g, off, cs, e, hb.blk hC (hr g cs hC), hc⟩
theorem RowY.of_own {base n : Nat} {v : Value} (h : w.ownsRow base t 1 v n xs) : ∃ A c, v = .slice A n c ∧ n ≤ c ∧ RowY w t A xs := by
  obtain ⟨hl, h | ⟨g, cap, cur, rfl, _, hB, hnc, _, _, htk⟩⟩ := h
  · obtain ⟨rfl, rfl⟩ := h
    exact ⟨none, 0, rfl, Nat.le_refl _, fun hn => by rw [hl] at hn; simp at hn⟩
  · refine ⟨_, cap, rfl, hnc, fun _ => ⟨g, 0, cur, rfl, hB, fun k u hu => ?_⟩⟩
    rw [← htk, List.getElem?_take] at hu
    split at hu
    · rw [Nat.zero_add]; simpa using hu
    · cases hu
theorem RowY.blk {g : Nat} {cs : Array Value} (hB : Blk w g t cs) (hc : ∀ (k : Nat) u, xs[k]? = some u → cs[k]? = some u) : RowY w t (some ⟨g, 0, none⟩) xs := fun _ => ⟨g, 0, cs, rfl, hB, fun k u hu => by rw [Nat.zero_add]; exact hc k u hu⟩
end
/-- The headers hs lead to the rows M, in typed blocks. -/
def HdY (w : World) (C : Nat) (hs : List Value) (M : List (List Bool)) : Prop := hs.length = M.length ∧ ∀ (i : Nat) r, M[i]? = some r → r.length = C ∧ ∃ B d, C ≤ d ∧ hs[i]? = some (.slice B C d) ∧ RowY w 4 B (r.map .bool)
/-- A matrix of the specification's in typed blocks. -/
def YRef (w : World) (C : Nat) (A : Option Addr) (c : Nat) (M : List (List Bool)) : Prop := C ≤ 4096 ∧ M.length ≤ 4096 ∧ M.length ≤ c ∧ ∃ hs, RowY w 93 A hs ∧ HdY w C hs M
section
variable {w w' : World} {C : Nat} {hs : List Value} {M : List (List Bool)} {A : Option Addr} {c : Nat}
theorem HdY.below (h : HdY w C hs M) (hb : Below w.heap.size w w') : HdY w' C hs M := ⟨h.1, fun i r hr => by
  obtain ⟨h1, B, d, h2, h3, h4⟩ := h.2 i r hr
  exact ⟨h1, B, d, h2, h3, h4.below hb⟩⟩
theorem HdY.far (h : HdY w C hs M) {b : Nat} {t' : TypeId} {cs' : Array Value} (hB : Blk w b t' cs') (hne : 4 ≠ t') (i : Nat) (u : Value) : HdY (w.setCell ⟨b, i, none⟩ u) C hs M := ⟨h.1, fun i' r hr => by
  obtain ⟨h1, B, d, h2, h3, h4⟩ := h.2 i' r hr
  exact ⟨h1, B, d, h2, h3, h4.far hB hne i u⟩⟩
theorem HdY.but {r : Option Nat} (h : HdY w C hs M) (hb : But r w w') (hr : ∀ g cs, Blk w g 4 cs → some g ≠ r) : HdY w' C hs M := ⟨h.1, fun i' r hr' => by
  obtain ⟨h1, B, d, h2, h3, h4⟩ := h.2 i' r hr'
  exact ⟨h1, B, d, h2, h3, h4.but hb hr⟩⟩
theorem HdY.nil (w : World) (C : Nat) : HdY w C [] [] := ⟨rfl, fun i r h => by simp at h⟩
theorem HdY.snoc {B : Option Addr} {d : Nat} {r : List Bool} (h : HdY w C hs M) (hr : r.length = C) (hd : C ≤ d) (hB : RowY w 4 B (r.map .bool)) : HdY w C (hs ++ [.slice B C d]) (M ++ [r]) := by
  refine ⟨by simp [h.1], fun i q hq => ?_⟩
  by_cases hi : i < M.length
  · rw [List.getElem?_append_left hi] at hq
    obtain ⟨h1, B', d', h2, h3, h4⟩ := h.2 i q hq
    exact ⟨h1, B', d', h2, by rw [List.getElem?_append_left (by rw [h.1]; exact hi)]; exact h3, h4⟩
  · rw [List.getElem?_append_right (by omega)] at hq
    have : i = M.length := by
      have := (List.getElem?_eq_some_iff.1 hq).1
      simp at this; omega
    subst this
    rw [Nat.sub_self] at hq
    simp at hq
    subst hq
    exact ⟨hr, B, d, hd, by rw [← h.1, List.getElem?_append_right (Nat.le_refl _), Nat.sub_self]; rfl, hB⟩
theorem HdY.of_own {base : Nat} {gs : List Nat} {f : Nat → Nat → Bool} (h : OwnRows w base C gs f) : HdY w C (hdrs C gs) (mat gs.length C f) := by
  refine ⟨by simp [hdrs, mat_len], fun i r hr => ?_⟩
  have hi : i < gs.length := by have := (List.getElem?_eq_some_iff.1 hr).1; rwa [mat_len] at this
  have hr' : r = (List.range C).map fun j => f i j := by
    unfold mat at hr
    rw [List.getElem?_map, List.getElem?_range hi] at hr
    simpa using hr.symm
  subst hr'
  refine ⟨by simp, some ⟨gs[i], 0, none⟩, C, Nat.le_refl _, by unfold hdrs; rw [List.getElem?_map, List.getElem?_eq_getElem hi]; rfl, ?_⟩
  refine RowY.blk (h.2.2 i gs[i] (List.getElem?_eq_getElem hi)) fun k u hu => ?_
  rw [List.getElem?_toArray]
  rw [List.map_map] at hu
  exact hu
theorem YRef.below (h : YRef w C A c M) (hb : Below w.heap.size w w') : YRef w' C A c M := by
  obtain ⟨h1, h2, h3, hs, h4, h5⟩ := h
  exact ⟨h1, h2, h3, hs, h4.below hb, h5.below hb⟩
theorem YRef.far (h : YRef w C A c M) {b : Nat} {t' : TypeId} {cs' : Array Value} (hB : Blk w b t' cs') (h1 : 93 ≠ t') (h2 : 4 ≠ t') (i : Nat) (u : Value) : YRef (w.setCell ⟨b, i, none⟩ u) C A c M := by
  obtain ⟨k1, k2, k3, hs, k4, k5⟩ := h
  exact ⟨k1, k2, k3, hs, k4.far hB h1 i u, k5.far hB h2 i u⟩
theorem YRef.ref (h : YRef w C A c M) : IsRef w C A M := by
  obtain ⟨k1, k2, k3, hs, k4, k5⟩ := h
  refine ⟨k1, k2, hs, k5.1, k4.row, fun i r hr => ?_⟩
  obtain ⟨h1, B, d, h2, h3, h4⟩ := k5.2 i r hr
  exact ⟨h1, B, d, h3, h4.row⟩
theorem YRef.of_own {base n : Nat} {v : Value} {gs : List Nat} {f : Nat → Nat → Bool} (h : OwnRef w base C v gs f) (hn : gs.length = n) (hC : C ≤ 4096) (hR : n ≤ 4096) : ∃ A c, v = .slice A n c ∧ YRef w C A c (mat n C f) := by
  subst hn
  obtain ⟨A, c, e, hc, hr⟩ := RowY.of_own h.1
  exact ⟨A, c, e, hC, by rw [mat_len]; exact hR, by rw [mat_len]; exact hc, _, hr, HdY.of_own h.2⟩
theorem TRef.yref (h : TRef w C A c M) : YRef w C A c M := by
  obtain ⟨hC, hR, base, gs, f, h1, h2, h3⟩ := h
  rw [← h2] at h1
  obtain ⟨A', c', e, hY⟩ := YRef.of_own h1 h2 hC hR
  rw [h2] at e
  cases e
  rw [h3]
  exact hY
/-- Row i. -/
theorem YRef.row (h : YRef w C A c M) {i : Nat} (hi : i < M.length) :
    ∃ g off cs B d, A = some ⟨g, off, none⟩ ∧ Blk w g 93 cs ∧ w.cell? ⟨g, off + i, none⟩ = some (.slice B C d) ∧ C ≤ d ∧ RowY w 4 B (M[i].map .bool) ∧ M[i].length = C := by
  obtain ⟨_, _, _, hs, h4, h5⟩ := h
  obtain ⟨h6, B, d, h7, h8, h9⟩ := h5.2 i M[i] (List.getElem?_eq_getElem hi)
  obtain ⟨g, off, cs, hA, hB, hc⟩ := h4 (by rw [h5.1]; omega)
  exact ⟨g, off, cs, B, d, hA, hB, (hB.cell _).trans (hc i _ h8), h7, h9, h6⟩
end
/-- Rows of our own that are being collected. -/
def OwnY (w : World) (base C : Nat) (v : Value) (M : List (List Bool)) : Prop := ∃ hs, w.ownsRow base 93 1 v M.length hs ∧ HdY w C hs M
section
variable {w w' : World} {base C : Nat} {v : Value} {M : List (List Bool)}
theorem OwnY.nil (w : World) (base C : Nat) : OwnY w base C (.slice none 0 0) [] := ⟨[], World.ownsRow_nil _ _ _ _, HdY.nil _ _⟩
theorem OwnY.below (h : OwnY w base C v M) (hb : Below w.heap.size w w') : OwnY w' base C v M := by
  obtain ⟨hs, h1, h2⟩ := h
  exact ⟨hs, own_below h1 hb, h2.below hb⟩
theorem OwnY.far (h : OwnY w base C v M) {b : Nat} {t' : TypeId} {cs' : Array Value} (hB : Blk w b t' cs') (h1 : 93 ≠ t') (h2 : 4 ≠ t') (i : Nat) (u : Value) : OwnY (w.setCell ⟨b, i, none⟩ u) base C v M := by
  obtain ⟨hs, k1, k2⟩ := h
  exact ⟨hs, ownsRow_setCell_other k1 (a := ⟨b, i, none⟩) (fun e => own_ne k1 hB (fun e' => h1 e'.symm) e.symm) u, k2.far hB h2 i u⟩
theorem OwnY.yref (h : OwnY w base C v M) (hC : C ≤ 4096) (hR : M.length ≤ 4096) : ∃ A c, v = .slice A M.length c ∧ YRef w C A c M := by
  obtain ⟨hs, k1, k2⟩ := h
  obtain ⟨A, c, e, hc, hr⟩ := RowY.of_own k1
  exact ⟨A, c, e, hC, hR, hc, hs, hr, k2⟩
theorem OwnY.val (h : OwnY w base C v M) : ∃ A c, v = .slice A M.length c := by
  obtain ⟨hs, k1, k2⟩ := h
  obtain ⟨A, c, e, hc, hr⟩ := RowY.of_own k1
  exact ⟨A, c, e⟩
end
/-- A box for a matrix of the specification's, made behind w. -/
def Bo1 (w W : World) (g : Nat) (x y : Value) : Prop := Blk W g 28 #[x, y] ∧ w.heap.size ≤ g
section
variable {w W W' : World} {C c g g' : Nat} {A : Option Addr} {x y x' y' : Value} {M : List (List Bool)}
/-- The two cells of a box are written. -/
abbrev st2 (W : World) (g : Nat) (x y : Value) : World := (W.setCell ⟨g, 0, none⟩ x).setCell ⟨g, 1, none⟩ y
theorem Bo1.mk' (h : Blk W g 28 #[x, y]) (hl : w.heap.size ≤ g) : Bo1 w W g x y := ⟨h, hl⟩
theorem Bo1.lt (h : Bo1 w W g x y) : g < W.heap.size := h.1.lt
theorem Bo1.below (h : Bo1 w W g x y) (hb : Below W.heap.size W W') : Bo1 w W' g x y := ⟨h.1.below hb h.1.lt, h.2⟩
theorem Bo1.put (h : Bo1 w W g x y) (x' y' : Value) : Bo1 w (st2 W g x' y') g x' y' := ⟨(h.1.set_ 0 x').set_ 1 y', h.2⟩
theorem Bo1.far (h : Bo1 w W g x y) (hne : g ≠ g') (x' y' : Value) : Bo1 w (st2 W g' x' y') g x y := ⟨(h.1.far (p := ⟨_, 0, none⟩) hne x').far (p := ⟨_, 1, none⟩) hne y', h.2⟩
theorem Bo1.base (h : Bo1 w W g x y) (hb : Below w.heap.size w W) (x' y' : Value) : Below w.heap.size w (st2 W g x' y') := (hb.setCell (p := ⟨_, 0, none⟩) h.2 x').setCell (p := ⟨_, 1, none⟩) h.2 y'
end
set_option maxRecDepth 100000 in
set_option maxHeartbeats 4000000 in
theorem is48q (u r K C R K' : Nat) (Us Ps : List Nat) (A1 A2 : Option Addr) (c1 c2 : Nat) (M1 M2 : List (List Bool)) (w : World) (hu : IsMat w u K Us) (hr : IsMat w r C Ps) (h1 : IsRef w K A1 M1) (h2 : IsRef w C A2 M2) (hR : M1.length = R) (hK : M2.length = K')
    (hK2 : K ≤ 256) (hC : C ≤ 256) (hUl : Us.length ≤ 256) (hPl : Ps.length ≤ 256) (hs1 : sameB K K (toldM K Us) M1 = true) (hs2 : sameB C C (toldM C Ps) M2 = true) :
    Calls Tryz.prog 12 #[.agg #[ptr u, ptr r], refV K A1 R c1, refV C A2 K' c2] w fun e w' => e = .returned (.bool true) ∧ Below w.heap.size w w' := by
  subst hR; subst hK
  have hq1 := fun W (hb : Below w.heap.size w W) => samel_any u K K Us A1 c1 M1 W (hu.below hb) hK2 hUl (h1.below hb)
  have hq2 := fun W (hb : Below w.heap.size w W) => samel_any r C C Ps A2 c2 M2 W (hr.below hb) hC hPl (h2.below hb)
  rw [hs1] at hq1
  rw [hs2] at hq2
  have H1 := Lib.hid hq1; have H2 := Lib.hid hq2
  clear hq1 hq2 hs1 hs2 hu hr h1 h2
  go_enter Tryz.func12, Tryz.ntmps12
  go_wp2_with fail
  refine absC3 fun W0 hX hY hZ hb0 hz => ?_
  clear hz
  refine (H1.out W0 hb0).mono ?_
  rintro e W1 ⟨rfl, hb1⟩
  have b1 := hb0.trans (hb1.mono hb0.size)
  replace hX := hX.below hb1 hX.lt
  replace hZ := hZ.below hb1 hZ.lt
  have x0 := hX.cell 0
  have x1 := hX.cell 1
  have z0 := hZ.cell 0
  have z1 := hZ.cell 1
  clear hY hb0 hb1
  go_wp2_with fail
  refine (H2.out W1 b1).mono ?_
  rintro e W2 ⟨rfl, hb2⟩
  go_wp2_with fail
  go_ret
  exact ⟨rfl, b1.trans (hb2.mono b1.size)⟩
end Go.Proofs.YtfbkcdhmggjbaaaGreatDoor

/-
  The reference of chapter 48: Without (roles without one of them).
-/
namespace Go.Proofs.YtfbkcdhmggjbaaaGreatDoor
open Go.RowKit
/-- Where a slice that is cut at k begins. -/
theorem RowY.cut {w : World} {t : TypeId} {A : Option Addr} {xs : List Value} (h : RowY w t A xs) (k d : Nat) (hk : k ≤ xs.length) (h0 : 0 < xs.length) :
    ∃ g off A', A = some ⟨g, off, none⟩ ∧ (if d = k then some (⟨g, off, none⟩ : Addr) else some ⟨g, off + k, none⟩) = some A' ∧ (xs.length ≤ d → ∀ j u, (xs.drop k)[j]? = some u → w.cell? (A'.add j) = some u) := by
  obtain ⟨g, off, cs, rfl, hB, hc⟩ := h h0
  by_cases e : d = k
  · refine ⟨g, off, ⟨g, off, none⟩, rfl, by rw [if_pos e], fun hd j u hu => ?_⟩
    rw [List.getElem?_drop] at hu
    have := (List.getElem?_eq_some_iff.1 hu).1
    omega
  · refine ⟨g, off, ⟨g, off + k, none⟩, rfl, by rw [if_neg e], fun hd j u hu => ?_⟩
    rw [List.getElem?_drop] at hu
    rw [addr_add, hB.cell, Nat.add_assoc]
    exact hc _ _ hu
/-- What stays in place while roles are copied. -/
structure WouI (w W : World) (g : Nat) (u0 u1 p0 p1 : Value) : Prop where
  b3 : Blk W g 28 #[u0, u1]
  b4 : Blk W (g + 1) 28 #[p0, p1]
  b6 : Blk W (g + 2) 28 #[.int .i64 0, .slice none 0 0]
  b7 : Blk W (g + 3) 28 #[.int .i64 0, .slice none 0 0]
  bel : Below w.heap.size w W
section
variable {w W W' : World} {g : Nat} {u0 u1 p0 p1 : Value}
theorem WouI.below (h : WouI w W g u0 u1 p0 p1) (hb : Below W.heap.size W W') : WouI w W' g u0 u1 p0 p1 := ⟨h.b3.below hb h.b3.lt, h.b4.below hb h.b4.lt, h.b6.below hb h.b6.lt, h.b7.below hb h.b7.lt, h.bel.trans (hb.mono h.bel.size)⟩
theorem WouI.far (h : WouI w W g u0 u1 p0 p1) {b : Nat} (hb : w.heap.size ≤ b) (hg : g + 3 < b) (i : Nat) (v : Value) : WouI w (W.setCell ⟨b, i, none⟩ v) g u0 u1 p0 p1 :=
  ⟨h.b3.far (p := ⟨b, i, none⟩) (by simp; omega) v, h.b4.far (p := ⟨b, i, none⟩) (by simp; omega) v, h.b6.far (p := ⟨b, i, none⟩) (by simp; omega) v, h.b7.far (p := ⟨b, i, none⟩) (by simp; omega) v, h.bel.setCell (p := ⟨b, i, none⟩) hb v⟩
theorem WouI.grown (h : WouI w W g u0 u1 p0 p1) {base n size : Nat} {e : TypeId} {v : Value} {xs : List Value} (hg : W.grownBy W' v.ownBlock) (hown : W.ownsRow base e size v n xs) (hb : w.heap.size ≤ base) (he : e ≠ 28) : WouI w W' g u0 u1 p0 p1 :=
  ⟨h.b3.grown hg (own_ne hown h.b3 (fun x => he x.symm)), h.b4.grown hg (own_ne hown h.b4 (fun x => he x.symm)), h.b6.grown hg (own_ne hown h.b6 (fun x => he x.symm)), h.b7.grown hg (own_ne hown h.b7 (fun x => he x.symm)), h.bel.grown hg h.bel.size fun q hq => Nat.le_trans hb (hown.lt q hq).1⟩
end
theorem OwnY.snoc {W W' : World} {base C n : Nat} {v v' : Value} {M : List (List Bool)} {hs : List Value} {B : Option Addr} {d : Nat} {r : List Bool} (hown : W.ownsRow base 93 1 v n hs) (hd : HdY W C hs M) (hg : W.grownBy W' v.ownBlock) (hown' : W'.ownsRow base 93 1 v' (n + 1) (hs ++ [.slice B C d])) (hn : n = M.length) (hr : r.length = C) (hC : C ≤ d) (hB : RowY W 4 B (r.map .bool)) : OwnY W' base C v' (M ++ [r]) := by
  have hne : ∀ g cs, Blk W g 4 cs → some g ≠ v.ownBlock := fun g cs hb => own_ne hown hb (by decide)
  exact ⟨hs ++ [.slice B C d], by rw [List.length_append, List.length_singleton, ← hn]; exact hown', (hd.but (But.grown hg) hne).snoc hr hC (hB.but (But.grown hg) hne)⟩
namespace Mix2
end Mix2
end Go.Proofs.YtfbkcdhmggjbaaaGreatDoor

/-
  Plain: roles as pairs of sets and as the reference's matrices.
-/
namespace Go.Proofs.YtfbkcdhmggjbaaaGreatDoor
open Go.RowKit
theorem subQ48 {N K : Nat} : N &&& K = N ↔ ∀ j, N.testBit j = true → K.testBit j = true := by
  constructor
  · intro h j hj
    have := congrArg (fun x => x.testBit j) h
    simp only [Nat.testBit_and, hj, Bool.true_and] at this
    exact this
  · intro h
    apply Nat.eq_of_testBit_eq
    intro j
    rw [Nat.testBit_and]
    cases hj : N.testBit j with
    | false => rfl
    | true => rw [h j hj]; rfl
theorem bitQ48 {C : Nat} {M : List (List Bool)} (hC : C ≤ 4096) {i j : Nat} (hi : i < M.length) (h : ((nsOf C M).getD i 0).testBit j = true) : j < C ∧ mget M i j = true := by
  have h1 : j < C := of_low (rowsIn_nsOf C M hC i (by rw [nsTo_len]; exact hi)) j h
  exact ⟨h1, by rw [← bit_nsOf hC hi h1]; exact h⟩
theorem withQ48 {C D : Nat} {M P : List (List Bool)} (hC : C ≤ 4096) : decide (C = D ∧ (nsOf C M).length = (nsOf D P).length ∧ withinM (nsOf C M) (nsOf D P)) = withinB C D M P := by
  unfold withinB
  rw [nsTo_len, nsTo_len, Bool.eq_iff_iff, decide_eq_true_eq, decide_eq_true_eq]
  constructor
  · rintro ⟨rfl, hL, hw⟩
    refine ⟨⟨hL, rfl⟩, fun i hi j hj hm => ?_⟩
    have h1 := subQ48.1 (hw i (by rw [nsTo_len]; exact hi)) j (by rw [bit_nsOf hC hi hj]; exact hm)
    rwa [bit_nsOf hC (by omega) hj] at h1
  · rintro ⟨⟨hL, rfl⟩, hw⟩
    refine ⟨rfl, hL, fun i hi => subQ48.2 fun j hj => ?_⟩
    rw [nsTo_len] at hi
    obtain ⟨hjC, hm⟩ := bitQ48 hC hi hj
    rw [bit_nsOf hC (by omega) hjC]
    exact hw i hi j hjC hm
theorem eqQ48 {C D : Nat} {M P : List (List Bool)} (hC : C ≤ 4096) (hD : D ≤ 4096) : decide (C = D ∧ (nsOf C M).length = (nsOf D P).length ∧ withinM (nsOf C M) (nsOf D P) ∧ withinM (nsOf D P) (nsOf C M)) = sameB C D M P := by
  unfold sameB
  rw [← withQ48 hC, ← withQ48 hD, Bool.eq_iff_iff, Bool.and_eq_true, decide_eq_true_eq, decide_eq_true_eq, decide_eq_true_eq]
  constructor
  · rintro ⟨rfl, hL, h1, h2⟩; exact ⟨⟨rfl, hL, h1⟩, rfl, hL.symm, h2⟩
  · rintro ⟨⟨rfl, hL, h1⟩, _, _, h2⟩; exact ⟨rfl, hL, h1, h2⟩
theorem prodQ48 {C D : Nat} {M P : List (List Bool)} (hC : C ≤ 4096) (hD : D ≤ 4096) (hL : C = P.length) : mprod (nsOf C M) (nsOf D P) M.length = nsOf D (mat M.length D (prodF M P C)) := by
  refine List.ext_getElem (by rw [mprod_len, nsTo_len, mat_len]) fun i h1 h2 => ?_
  have hi : i < M.length := by rw [mprod_len] at h1; exact h1
  rw [← getD_at h1, ← getD_at h2]
  refine Nat.eq_of_testBit_eq fun j => ?_
  by_cases hj : j < D
  · have e := mprod_has hC hD hL i hi j hj
    rw [mhas_in (by rw [mprod_len]; exact hi) hj] at e
    rw [e, bit_nsOf hD (by rw [mat_len]; exact hi) hj, mat_get hi hj]
  · have e1 : ((mprod (nsOf C M) (nsOf D P) M.length).getD i 0).testBit j = false := by
      rw [Bool.eq_false_iff]
      intro h
      obtain ⟨k, _, hk⟩ := (mprod_bit hi).1 h
      by_cases hkP : k < P.length
      · exact hj (bitQ48 hD hkP hk).1
      · rw [List.getD_eq_getElem?_getD, List.getElem?_eq_none (by rw [nsTo_len]; omega)] at hk
        simp at hk
    have e2 : ((nsOf D (mat M.length D (prodF M P C))).getD i 0).testBit j = false := by
      rw [Bool.eq_false_iff]
      intro h
      exact hj (bitQ48 hD (by rw [mat_len]; exact hi) h).1
    rw [e1, e2]
/-- Valid answers as the specification's product and Same. -/
theorem validQ_want {C D E : Nat} {A B P : List (List Bool)} (hC : C ≤ 4096) (hD : D ≤ 4096) (hE : E ≤ 4096) (hL : D = P.length) : validN C (nsOf C A) D (nsOf D B) E (nsOf E P) = sameB E C (mat B.length E (prodF B P D)) A := by
  unfold validN
  rw [decide_eq_true (show D = (nsOf E P).length by rw [nsTo_len]; exact hL), Bool.true_and, ← eqQ48 hE hC, show (nsOf D B).length = B.length from nsTo_len .., prodQ48 hD hE hL]
/-- Users by roles. -/
def matU (R : Nat) (L : List (Nat × Nat)) : List (List Bool) := mat R L.length fun i k => (L.getD k (0, 0)).1.testBit i
/-- Roles by permissions. -/
def matP (C : Nat) (L : List (Nat × Nat)) : List (List Bool) := mat L.length C fun k j => (L.getD k (0, 0)).2.testBit j
theorem matU_len (R : Nat) (L : List (Nat × Nat)) : (matU R L).length = R := mat_len ..
theorem matP_len (C : Nat) (L : List (Nat × Nat)) : (matP C L).length = L.length := mat_len ..
theorem matU_get {R : Nat} {L : List (Nat × Nat)} {i k : Nat} (hi : i < R) (hk : k < L.length) : mget (matU R L) i k = (L.getD k (0, 0)).1.testBit i := mat_get hi hk
/-- The roles of two matrices of the specification's. -/
theorem role_matU {K C R : Nat} {A B : List (List Bool)} (hK : K ≤ 4096) (hC : C ≤ 4096) (hR : A.length = R) (hR4 : R ≤ 4096) (hB : B.length = K) (hA : ∀ (i : Nat) r, A[i]? = some r → r.length = K) (hB2 : ∀ (i : Nat) r, B[i]? = some r → r.length = C) :
    matU R (roleQ K (nsOf K A) (nsOf C B) K) = A ∧ matP C (roleQ K (nsOf K A) (nsOf C B) K) = B := by
  have hg : ∀ k, k < K → (roleQ K (nsOf K A) (nsOf C B) K).getD k (0, 0) = (mcol K (nsOf K A) (k : Nat), (nsOf C B).getD k 0) := fun k hk => by
    unfold roleQ
    rw [List.getD_eq_getElem?_getD, List.getElem?_map, List.getElem?_range hk]; rfl
  constructor
  · unfold matU
    rw [roleQ_len]
    apply List.ext_getElem (by rw [mat_len, hR])
    intro i h1 h2
    have hrl := hA i A[i] (List.getElem?_eq_getElem h2)
    apply List.ext_getElem
    · rw [hrl]; simp [mat]
    · intro k h3 h4
      have hk : k < K := by omega
      have e1 : ((mat R K fun i k => ((roleQ K (nsOf K A) (nsOf C B) K).getD k (0, 0)).1.testBit i)[i])[k] = ((roleQ K (nsOf K A) (nsOf C B) K).getD k (0, 0)).1.testBit i := by simp [mat]
      rw [e1, hg k hk, testBit_mcol _ _ _ _ (by rw [show (nsOf K A).length = A.length from nsTo_len ..]; omega), mhas_in (by rw [show (nsOf K A).length = A.length from nsTo_len ..]; exact h2) hk, bit_nsOf hK h2 hk]
      simp only [mget, List.getD_eq_getElem?_getD, List.getElem?_eq_getElem h2, Option.getD_some, List.getElem?_eq_getElem h4]
  · unfold matP
    rw [roleQ_len]
    apply List.ext_getElem (by rw [mat_len, hB])
    intro k h1 h2
    have hrl := hB2 k B[k] (List.getElem?_eq_getElem h2)
    have hk : k < K := by omega
    apply List.ext_getElem
    · rw [hrl]; simp [mat]
    · intro j h3 h4
      have hj : j < C := by omega
      have e1 : ((mat K C fun k j => ((roleQ K (nsOf K A) (nsOf C B) K).getD k (0, 0)).2.testBit j)[k])[j] = ((roleQ K (nsOf K A) (nsOf C B) K).getD k (0, 0)).2.testBit j := by simp [mat]
      rw [e1, hg k hk, bit_nsOf hC h2 hj]
      simp only [mget, List.getD_eq_getElem?_getD, List.getElem?_eq_getElem h2, Option.getD_some, List.getElem?_eq_getElem h4]
end Go.Proofs.YtfbkcdhmggjbaaaGreatDoor

/-
  The reference of chapter 48: Simplify.
-/
namespace Go.Proofs.YtfbkcdhmggjbaaaGreatDoor
open Go.RowKit
theorem abs5 {P : Program} {c : Code} {Q : Exit → Act → World → Prop} {a : Act} {w : World} {c1 c2 c3 c4 c5 : Array Value} {t1 t2 t3 t4 t5 : TypeId} (h : ∀ W, Blk W w.heap.size t1 c1 → Blk W (w.heap.size + 1) t2 c2 → Blk W (w.heap.size + 2) t3 c3 → Blk W (w.heap.size + 3) t4 c4 → Blk W (w.heap.size + 4) t5 c5 → Below w.heap.size w W → c.wp P Q a W) :
    c.wp P Q a (((((w.alloc (.cells c1 t1)).alloc (.cells c2 t2)).alloc (.cells c3 t3)).alloc (.cells c4 t4)).alloc (.cells c5 t5)) :=
  h _ (((((Blk.new _ _ _).alloc _).alloc _).alloc _).alloc _) ((((Blk.new_ (by simp) _ _).alloc _).alloc _).alloc _) (((Blk.new_ (by simp) _ _).alloc _).alloc _) ((Blk.new_ (by simp) _ _).alloc _) (Blk.new_ (by simp) _ _) ((((((Below.refl _ _).alloc (Nat.le_refl _) _).alloc (by simp) _).alloc (by simp; omega) _).alloc (by simp; omega) _).alloc (by simp; omega) _)
/-- An element. -/
theorem YRef.at_ {w : World} {C : Nat} {A : Option Addr} {c : Nat} {M : List (List Bool)} (h : YRef w C A c M) {i j : Nat} (hi : i < M.length) (hj : j < C) :
    ∃ g off g2 off2 d, A = some ⟨g, off, none⟩ ∧ g < w.heap.size ∧ g2 < w.heap.size ∧ w.cell? ⟨g, off + i, none⟩ = some (.slice (some ⟨g2, off2, none⟩) C d) ∧ w.cell? ⟨g2, off2 + j, none⟩ = some (.bool (mget M i j)) := h.ref.at_ hi hj
/-- The boxes of Simplify. -/
structure SplI (w W : World) (g C R : Nat) (A0 : Option Addr) (c0 : Nat) (Au : Option Addr) (cu : Nat) (Ap : Option Addr) (cp : Nat) (L : List (Nat × Nat)) : Prop where
  b3 : Blk W g 28 #[.int .i64 (C : Int), .slice A0 R c0]
  b4 : Blk W (g + 1) 28 #[.int .i64 (L.length : Int), .slice Au R cu]
  b5 : Blk W (g + 2) 28 #[.int .i64 (C : Int), .slice Ap L.length cp]
  b6 : Blk W (g + 3) 28 #[.int .i64 0, .slice none 0 0]
  b7 : Blk W (g + 4) 28 #[.int .i64 0, .slice none 0 0]
  yu : YRef W L.length Au cu (matU R L)
  yp : YRef W C Ap cp (matP C L)
  bel : Below w.heap.size w W
section
variable {w W W' : World} {g C R c0 cu cp : Nat} {A0 Au Ap : Option Addr} {L : List (Nat × Nat)}
theorem SplI.below (h : SplI w W g C R A0 c0 Au cu Ap cp L) (hb : Below W.heap.size W W') : SplI w W' g C R A0 c0 Au cu Ap cp L :=
  ⟨h.b3.below hb h.b3.lt, h.b4.below hb h.b4.lt, h.b5.below hb h.b5.lt, h.b6.below hb h.b6.lt, h.b7.below hb h.b7.lt, h.yu.below hb, h.yp.below hb, h.bel.trans (hb.mono h.bel.size)⟩
end
namespace Mix2
end Mix2
end Go.Proofs.YtfbkcdhmggjbaaaGreatDoor

/-
  arbaclaw48.product: roles by numbers, and the matrix that they give.
-/
namespace Go.Proofs.YtfbkcdhmggjbaaaGreatDoor
open Go.RowKit
/-- A box for a matrix of the specification's, made behind w, empty as yet. -/
abbrev Bz (w W : World) (g : Nat) : Prop := Bo1 w W g (.int .i64 0) (.slice none 0 0)
/-- What Make has left. -/
def MkY (W : World) (R C : Nat) (zs : List Int) (A : Option Addr) (c : Nat) : Prop := YRef W C A c (rawM R C zs)
theorem MkY.below {W W' : World} {R C c : Nat} {zs : List Int} {A : Option Addr} (h : MkY W R C zs A c) (hb : Below W.heap.size W W') : MkY W' R C zs A c := YRef.below h hb
theorem YRef.st2 {W : World} {C c g : Nat} {A : Option Addr} {M : List (List Bool)} {x y : Value} (h : YRef W C A c M) (hB : Blk W g 28 #[x, y]) (x' y' : Value) : YRef (st2 W g x' y') C A c M :=
  (h.far hB (by decide) (by decide) 0 x').far (hB.set_ 0 x') (by decide) (by decide) 1 y'
theorem makeY_any (v : Value) (R C : Nat) (zs : List Int) (w : World) (h : IsRaw w v R C zs) :
    Calls Tryz.prog 24 #[v] w fun e w' => ∃ A c, e = .returned (refV C A R c) ∧ MkY w' R C zs A c ∧ Below w.heap.size w w' := by
  have hb := h.bd
  refine (make_own v R C zs w h).mono ?_
  rintro e w' ⟨A, c, gs, rfl, hgs, hO, hb'⟩
  obtain ⟨A', c', e, hY⟩ := YRef.of_own hO hgs (by omega) (by omega)
  cases e
  exact ⟨A, c, rfl, hY, hb'⟩
namespace Mix2
set_option maxRecDepth 100000 in
set_option maxHeartbeats 16000000 in
theorem product48_any (v v' : Value) (R C R' C' : Nat) (zs zs' : List Int) (w : World) (h : IsRaw w v R C zs) (h' : IsRaw w v' R' C' zs') :
    Calls Tryz.prog 8 #[v, v'] w fun e w' => ∃ A1 c1 A2 c2 A3 c3, e = .returned (.tuple #[refV C A1 R c1, refV C' A2 C c2, refV C' A3 R c3]) ∧ YRef w' C A1 c1 (rawM R C zs) ∧ YRef w' C' A2 c2 (rawM C C' zs') ∧ YRef w' C' A3 c3 (mat R C' (prodF (rawM R C zs) (rawM C C' zs') C)) ∧ Below w.heap.size w w' := by
  have hbd := h.bd
  have hbd' := h'.bd
  obtain ⟨r, c, A0, d0, hv, h2r, h3c, hr1, hc1, hrow, hz, hl⟩ := id h
  obtain ⟨r', c', A0', d0', hv', h2r', h3c', hr1', hc1', hrow', hz', hl'⟩ := id h'
  subst hv; subst hv'
  have h'' : IsRaw w (.agg #[.int .u8 c, .int .u8 c', .slice A0' zs'.length d0']) C C' zs' := ⟨c, c', A0', d0', rfl, h3c, h3c', hc1, hc1', hrow', hz', hl'⟩
  have HIN := hideC h; have HIN' := hideC h''
  clear h h' h'' h2r h3c h2r' h3c' hrow hrow' hz hz' hl hl' hr1 hr1' hc1 hc1'
  go_enter Tryz.func8, Tryz.ntmps8
  go_upto_region 1 with fail
  refine abs5 fun W0 h2 h3 h4 h5 h6 hb0 => ?_
  obtain ⟨g, hg⟩ : ∃ x, x = w.heap.size := ⟨_, rfl⟩
  have hgw : w.heap.size ≤ g := by omega
  rw [← hg] at h2 h3 h4 h5 h6 ⊢
  clear hg
  have c21 := h2.cell 1
  have c30 := h3.cell 0
  have f30 := h3.frozen 0
  have l3 := h3.lt
  have k2 := h2.far (p := ⟨g + 1, 0, none⟩) (by simp) (.int .u8 c)
  have k3 := h3.set_ 0 (.int .u8 c)
  have k4 := h4.far (p := ⟨g + 1, 0, none⟩) (by simp) (.int .u8 c)
  have k5 := h5.far (p := ⟨g + 1, 0, none⟩) (by simp) (.int .u8 c)
  have k6 := h6.far (p := ⟨g + 1, 0, none⟩) (by simp) (.int .u8 c)
  have kb := hb0.setCell (p := ⟨g + 1, 0, none⟩) (by simp; omega) (.int .u8 c)
  have K2 := Lib.hid k2; have K3 := Lib.hid k3; have K4 := Lib.hid k4; have K5 := Lib.hid k5; have K6 := Lib.hid k6; have KB := Lib.hid kb
  clear k2 k3 k4 k5 k6 kb h2 h3 h4 h5 h6 hb0
  go_upto_region 2 with fail
  obtain ⟨W1, hW1⟩ : ∃ W1, W1 = W0.setCell ⟨g + 1, 0, none⟩ (.int .u8 c) := ⟨_, rfl⟩
  rw [← hW1] at K2 K3 K4 K5 K6 KB ⊢
  clear hW1 c21 c30 f30 l3
  go_upto_region 3 with fail
  go_cut [7, 8] (fun s7 s8 wx => ∃ (g7 g8 : Nat) (A1 A2 : Option Addr) (c1 c2 : Nat), s7 = ptr g7 ∧ s8 = ptr g8 ∧ Blk wx g7 28 #[.int .i64 (C : Int), .slice A1 R c1] ∧ Blk wx g8 28 #[.int .i64 (C' : Int), .slice A2 C c2] ∧ YRef wx C A1 c1 (rawM R C zs) ∧ YRef wx C' A2 c2 (rawM C C' zs') ∧ W1.heap.size ≤ g7 ∧ W1.heap.size ≤ g8 ∧ g7 ≠ g8 ∧ Below W1.heap.size W1 wx)
  case first =>
    have x0 := K2.out.cell 0
    have x1 := K2.out.cell 1
    have x2 := K2.out.cell 2
    have y0 := K3.out.cell 0
    have y1 := K3.out.cell 1
    have y2 := K3.out.cell 2
    refine wp_mix (fun V => Below W1.heap.size W1 V) 8 (by kernel_rfl) (by kernel_rfl) (Below.refl _ _).drew ?_
    have b := (Below.refl W1.heap.size W1).drew
    obtain ⟨W, hWW⟩ : ∃ V, V = W1.drew := ⟨_, rfl⟩
    rw [← hWW] at b ⊢
    clear hWW
    have HM1 := Lib.hid (fun V (hb : Below W1.heap.size W1 V) => makeY_any _ R C zs V (HIN.out.below (KB.out.trans (hb.mono KB.out.size))))
    have HM2 := Lib.hid (fun V (hb : Below W1.heap.size W1 V) => makeY_any _ C C' zs' V (HIN'.out.below (KB.out.trans (hb.mono KB.out.size))))
    (refine m_q 0 (v := ?_) (by kernel_rfl) rfl rfl (fun W hW => ?_) ?_; rotate_left; (have z0 := onB hW x0; have z1 := onB hW x1; have z2 := onB hW x2; have w0 := onB hW y0; have w1 := onB hW y1; have w2 := onB hW y2; go_simp; first | done | with_reducible rfl); simp only [Act.put, List.setIfInBounds_toArray, List.set_cons_zero, List.set_cons_succ]); (refine m_q 2 (v := ?_) (by kernel_rfl) rfl rfl (fun W hW => ?_) ?_; rotate_left; (have z0 := onB hW x0; have z1 := onB hW x1; have z2 := onB hW x2; have w0 := onB hW y0; have w1 := onB hW y1; have w2 := onB hW y2; go_simp; first | done | with_reducible rfl); simp only [Act.put, List.setIfInBounds_toArray, List.set_cons_zero, List.set_cons_succ])
    clear x0 x1 x2 y0 y1 y2
    refine m_join (β := Option Addr × Nat × Option Addr × Nat × Nat × Nat) #[true, true, true, true, true, true, false, false] 2 (fun b f => #[Value.agg #[Value.int IntKind.u8 (r : Int), Value.int IntKind.u8 (c : Int), Value.slice A0 zs.length d0], Value.agg #[Value.int IntKind.u8 (r' : Int), Value.int IntKind.u8 (c' : Int), Value.slice A0' zs'.length d0'], Value.pointer (some { block := g, off := 0 }), Value.pointer (some { block := g + 1, off := 0 }), Value.pointer (some { block := g + 1 + 1, off := 0 }), Value.pointer (some { block := g + 1 + 1 + 1, off := 0 }), Value.pointer (some { block := g + 1 + 1 + 1 + 1, off := 0 }), ptr b.2.2.2.2.1, ptr b.2.2.2.2.2, Value.pointer (some { block := g, off := 1 }), Value.int IntKind.u8 (c : Int), Value.pointer (some { block := g + 1, off := 0 }), Value.agg #[Value.int IntKind.u8 (r : Int), Value.int IntKind.u8 (c : Int), Value.slice A0 zs.length d0], refV C b.1 R b.2.1, Value.agg #[Value.int IntKind.u8 (c : Int), Value.int IntKind.u8 (c' : Int), Value.slice A0' zs'.length d0'], refV C' b.2.2.1 C b.2.2.2.1, undef, undef, undef, undef, undef]) (fun b ds W => ds = [] ∧ Below W1.heap.size W1 W ∧ MkY W R C zs b.1 b.2.1 ∧ MkY W C C' zs' b.2.2.1 b.2.2.2.1 ∧ Bz W1 W b.2.2.2.2.1 ∧ Bz W1 W b.2.2.2.2.2 ∧ b.2.2.2.2.1 ≠ b.2.2.2.2.2) ?_ ?_
    · rintro ⟨A1, c1, A2, c2, g7, g8⟩ f ds W ⟨rfl, b, T1, T2, X7, X8, ng7g8⟩
      try dsimp only at b T1 T2 X7 X8 ng7g8 ⊢
      have P7 := X7.put (.int .i64 (C : Int)) (.slice A1 R c1)
      have P8 := X8.far (Ne.symm ng7g8) (.int .i64 (C : Int)) (.slice A1 R c1)
      have Q1 := YRef.st2 T1 X7.1 (.int .i64 (C : Int)) (.slice A1 R c1)
      have Q2 := YRef.st2 T2 X7.1 (.int .i64 (C : Int)) (.slice A1 R c1)
      have Pb := X7.base b (.int .i64 (C : Int)) (.slice A1 R c1)
      have e0 := X7.1.cell 0; have e1 := X7.1.cell 1; have f0 := X7.1.frozen 0; have f1 := X7.1.frozen 1; have lg := X7.lt
      have HP7 := Lib.hid P7; have HP8 := Lib.hid P8; have HQ1 := Lib.hid Q1; have HQ2 := Lib.hid Q2; have HPB := Lib.hid Pb
      clear P7 P8 Q1 Q2 Pb X7 X8 T1 T2 b
      refine m_s1 6 (by kernel_rfl) rfl ?_
      go_wp2_with fail
      refine m_keep HPB.out ?_
      obtain ⟨W7, hW7⟩ : ∃ W7, W7 = st2 W g7 (.int .i64 (C : Int)) (.slice A1 R c1) := ⟨_, rfl⟩
      rw [← hW7] at HP7 HP8 HQ1 HQ2 HPB
      have hW7e := hW7
      unfold st2 at hW7e
      rw [← hW7e]
      clear hW7 hW7e e0 e1 f0 f1 lg
      have P8 := HP8.out.put (.int .i64 (C' : Int)) (.slice A2 C c2)
      have P7 := HP7.out.far ng7g8 (.int .i64 (C' : Int)) (.slice A2 C c2)
      have Q1 := YRef.st2 HQ1.out HP8.out.1 (.int .i64 (C' : Int)) (.slice A2 C c2)
      have Q2 := YRef.st2 HQ2.out HP8.out.1 (.int .i64 (C' : Int)) (.slice A2 C c2)
      have Pb := HP8.out.base HPB.out (.int .i64 (C' : Int)) (.slice A2 C c2)
      have e0 := HP8.out.1.cell 0; have e1 := HP8.out.1.cell 1; have f0 := HP8.out.1.frozen 0; have f1 := HP8.out.1.frozen 1; have lg := HP8.out.lt
      have HR7 := Lib.hid P7; have HR8 := Lib.hid P8; have HR1 := Lib.hid Q1; have HR2 := Lib.hid Q2; have HRB := Lib.hid Pb
      clear P7 P8 Q1 Q2 Pb
      refine m_s1 7 (by kernel_rfl) rfl ?_
      go_wp2_with fail
      refine m_keep HRB.out ?_
      refine m_end (by kernel_rfl) ?_
      go_wp2_with fail
      go_meet
      exact ⟨g7, g8, A1, A2, c1, c2, rfl, rfl, HR7.out.1, HR8.out.1, HR1.out, HR2.out, HR7.out.2, HR8.out.2, ng7g8, HRB.out⟩
    intro H2_45
    refine m_join (β := Option Addr × Nat × Option Addr × Nat × Nat × Nat) #[true, true, true, true, true, false, false, false] 3 (fun b f => #[Value.agg #[Value.int IntKind.u8 (r : Int), Value.int IntKind.u8 (c : Int), Value.slice A0 zs.length d0], Value.agg #[Value.int IntKind.u8 (r' : Int), Value.int IntKind.u8 (c' : Int), Value.slice A0' zs'.length d0'], Value.pointer (some { block := g, off := 0 }), Value.pointer (some { block := g + 1, off := 0 }), Value.pointer (some { block := g + 1 + 1, off := 0 }), Value.pointer (some { block := g + 1 + 1 + 1, off := 0 }), Value.pointer (some { block := g + 1 + 1 + 1 + 1, off := 0 }), ptr b.2.2.2.2.1, f 8, Value.pointer (some { block := g, off := 1 }), Value.int IntKind.u8 (c : Int), Value.pointer (some { block := g + 1, off := 0 }), Value.agg #[Value.int IntKind.u8 (r : Int), Value.int IntKind.u8 (c : Int), Value.slice A0 zs.length d0], refV C b.1 R b.2.1, Value.agg #[Value.int IntKind.u8 (c : Int), Value.int IntKind.u8 (c' : Int), Value.slice A0' zs'.length d0'], refV C' b.2.2.1 C b.2.2.2.1, undef, undef, undef, undef, undef]) (fun b ds W => ds = [] ∧ Below W1.heap.size W1 W ∧ MkY W R C zs b.1 b.2.1 ∧ MkY W C C' zs' b.2.2.1 b.2.2.2.1 ∧ Bz W1 W b.2.2.2.2.1) ?_ ?_
    · rintro ⟨A1, c1, A2, c2, g7, g8⟩ f ds W ⟨rfl, b, T1, T2, X7⟩
      try dsimp only at b T1 T2 X7 ⊢
      refine m_s1 5 (by kernel_rfl) rfl ?_
      go_wp2_with fail
      refine absN fun wn hB hb _ => ?_
      refine m_keep (b.trans (hb.mono b.size)) ?_
      exact H2_45 ⟨A1, c1, A2, c2, g7, _⟩ _ _ _ (by kernel_rfl) rfl ⟨rfl, b.trans (hb.mono b.size), T1.below hb, T2.below hb, X7.below hb, .mk' hB b.size, Nat.ne_of_lt X7.lt⟩
    intro H2_4
    refine m_join (β := Option Addr × Nat × Option Addr × Nat × Nat × Nat) #[true, true, true, true, false, true, false, false] 3 (fun b f => #[Value.agg #[Value.int IntKind.u8 (r : Int), Value.int IntKind.u8 (c : Int), Value.slice A0 zs.length d0], Value.agg #[Value.int IntKind.u8 (r' : Int), Value.int IntKind.u8 (c' : Int), Value.slice A0' zs'.length d0'], Value.pointer (some { block := g, off := 0 }), Value.pointer (some { block := g + 1, off := 0 }), Value.pointer (some { block := g + 1 + 1, off := 0 }), Value.pointer (some { block := g + 1 + 1 + 1, off := 0 }), Value.pointer (some { block := g + 1 + 1 + 1 + 1, off := 0 }), f 7, ptr b.2.2.2.2.2, Value.pointer (some { block := g, off := 1 }), Value.int IntKind.u8 (c : Int), Value.pointer (some { block := g + 1, off := 0 }), Value.agg #[Value.int IntKind.u8 (r : Int), Value.int IntKind.u8 (c : Int), Value.slice A0 zs.length d0], refV C b.1 R b.2.1, Value.agg #[Value.int IntKind.u8 (c : Int), Value.int IntKind.u8 (c' : Int), Value.slice A0' zs'.length d0'], refV C' b.2.2.1 C b.2.2.2.1, undef, undef, undef, undef, undef]) (fun b ds W => ds = [] ∧ Below W1.heap.size W1 W ∧ MkY W R C zs b.1 b.2.1 ∧ MkY W C C' zs' b.2.2.1 b.2.2.2.1 ∧ Bz W1 W b.2.2.2.2.2) ?_ ?_
    · rintro ⟨A1, c1, A2, c2, g7, g8⟩ f ds W ⟨rfl, b, T1, T2, X8⟩
      try dsimp only at b T1 T2 X8 ⊢
      refine m_s1 4 (by kernel_rfl) rfl ?_
      go_wp2_with fail
      refine absN fun wn hB hb _ => ?_
      refine m_keep (b.trans (hb.mono b.size)) ?_
      exact H2_45 ⟨A1, c1, A2, c2, _, g8⟩ _ _ _ (by kernel_rfl) rfl ⟨rfl, b.trans (hb.mono b.size), T1.below hb, T2.below hb, .mk' hB b.size, X8.below hb, Nat.ne_of_gt X8.lt⟩
    intro H2_5
    refine m_join (β := Option Addr × Nat × Option Addr × Nat × Nat × Nat) #[true, true, true, false, true, true, false, false] 3 (fun b f => #[Value.agg #[Value.int IntKind.u8 (r : Int), Value.int IntKind.u8 (c : Int), Value.slice A0 zs.length d0], Value.agg #[Value.int IntKind.u8 (r' : Int), Value.int IntKind.u8 (c' : Int), Value.slice A0' zs'.length d0'], Value.pointer (some { block := g, off := 0 }), Value.pointer (some { block := g + 1, off := 0 }), Value.pointer (some { block := g + 1 + 1, off := 0 }), Value.pointer (some { block := g + 1 + 1 + 1, off := 0 }), Value.pointer (some { block := g + 1 + 1 + 1 + 1, off := 0 }), ptr b.2.2.2.2.1, ptr b.2.2.2.2.2, Value.pointer (some { block := g, off := 1 }), Value.int IntKind.u8 (c : Int), Value.pointer (some { block := g + 1, off := 0 }), Value.agg #[Value.int IntKind.u8 (r : Int), Value.int IntKind.u8 (c : Int), Value.slice A0 zs.length d0], refV C b.1 R b.2.1, Value.agg #[Value.int IntKind.u8 (c : Int), Value.int IntKind.u8 (c' : Int), Value.slice A0' zs'.length d0'], f 15, undef, undef, undef, undef, undef]) (fun b ds W => ds = [] ∧ Below W1.heap.size W1 W ∧ MkY W R C zs b.1 b.2.1 ∧ Bz W1 W b.2.2.2.2.1 ∧ Bz W1 W b.2.2.2.2.2 ∧ b.2.2.2.2.1 ≠ b.2.2.2.2.2) ?_ ?_
    · rintro ⟨A1, c1, A2, c2, g7, g8⟩ f ds W ⟨rfl, b, T1, X7, X8, ng7g8⟩
      try dsimp only at b T1 X7 X8 ng7g8 ⊢
      refine m_s1 3 (by kernel_rfl) rfl ?_
      go_wp2_with fail
      refine (HM2.out _ b).mono ?_
      rintro e wn ⟨A2, c2, rfl, T2, hb⟩
      have b := b.trans (hb.mono b.size)
      go_wp2_with fail
      refine m_keep b ?_
      exact H2_45 ⟨A1, c1, A2, c2, g7, g8⟩ _ _ _ (by kernel_rfl) rfl ⟨rfl, b, T1.below hb, T2, X7.below hb, X8.below hb, ng7g8⟩
    intro H1_45
    refine m_join (β := Option Addr × Nat × Option Addr × Nat × Nat × Nat) #[true, true, true, true, false, false, false, false] 4 (fun b f => #[Value.agg #[Value.int IntKind.u8 (r : Int), Value.int IntKind.u8 (c : Int), Value.slice A0 zs.length d0], Value.agg #[Value.int IntKind.u8 (r' : Int), Value.int IntKind.u8 (c' : Int), Value.slice A0' zs'.length d0'], Value.pointer (some { block := g, off := 0 }), Value.pointer (some { block := g + 1, off := 0 }), Value.pointer (some { block := g + 1 + 1, off := 0 }), Value.pointer (some { block := g + 1 + 1 + 1, off := 0 }), Value.pointer (some { block := g + 1 + 1 + 1 + 1, off := 0 }), f 7, f 8, Value.pointer (some { block := g, off := 1 }), Value.int IntKind.u8 (c : Int), Value.pointer (some { block := g + 1, off := 0 }), Value.agg #[Value.int IntKind.u8 (r : Int), Value.int IntKind.u8 (c : Int), Value.slice A0 zs.length d0], refV C b.1 R b.2.1, Value.agg #[Value.int IntKind.u8 (c : Int), Value.int IntKind.u8 (c' : Int), Value.slice A0' zs'.length d0'], refV C' b.2.2.1 C b.2.2.2.1, undef, undef, undef, undef, undef]) (fun b ds W => ds = [] ∧ Below W1.heap.size W1 W ∧ MkY W R C zs b.1 b.2.1 ∧ MkY W C C' zs' b.2.2.1 b.2.2.2.1) ?_ ?_
    · rintro ⟨A1, c1, A2, c2, g7, g8⟩ f ds W ⟨rfl, b, T1, T2⟩
      try dsimp only at b T1 T2 ⊢
      refine m_s2 4 5 (by kernel_rfl) rfl rfl ?_ ?_
      · go_wp2_with fail
        refine absN fun wn hB hb _ => ?_
        refine m_keep (b.trans (hb.mono b.size)) ?_
        exact H2_4 ⟨A1, c1, A2, c2, _, 0⟩ _ _ _ (by kernel_rfl) rfl ⟨rfl, b.trans (hb.mono b.size), T1.below hb, T2.below hb, .mk' hB b.size⟩
      · go_wp2_with fail
        refine absN fun wn hB hb _ => ?_
        refine m_keep (b.trans (hb.mono b.size)) ?_
        exact H2_5 ⟨A1, c1, A2, c2, 0, _⟩ _ _ _ (by kernel_rfl) rfl ⟨rfl, b.trans (hb.mono b.size), T1.below hb, T2.below hb, .mk' hB b.size⟩
    intro H2_
    refine m_join (β := Option Addr × Nat × Option Addr × Nat × Nat × Nat) #[true, true, true, false, true, false, false, false] 4 (fun b f => #[Value.agg #[Value.int IntKind.u8 (r : Int), Value.int IntKind.u8 (c : Int), Value.slice A0 zs.length d0], Value.agg #[Value.int IntKind.u8 (r' : Int), Value.int IntKind.u8 (c' : Int), Value.slice A0' zs'.length d0'], Value.pointer (some { block := g, off := 0 }), Value.pointer (some { block := g + 1, off := 0 }), Value.pointer (some { block := g + 1 + 1, off := 0 }), Value.pointer (some { block := g + 1 + 1 + 1, off := 0 }), Value.pointer (some { block := g + 1 + 1 + 1 + 1, off := 0 }), ptr b.2.2.2.2.1, f 8, Value.pointer (some { block := g, off := 1 }), Value.int IntKind.u8 (c : Int), Value.pointer (some { block := g + 1, off := 0 }), Value.agg #[Value.int IntKind.u8 (r : Int), Value.int IntKind.u8 (c : Int), Value.slice A0 zs.length d0], refV C b.1 R b.2.1, Value.agg #[Value.int IntKind.u8 (c : Int), Value.int IntKind.u8 (c' : Int), Value.slice A0' zs'.length d0'], f 15, undef, undef, undef, undef, undef]) (fun b ds W => ds = [] ∧ Below W1.heap.size W1 W ∧ MkY W R C zs b.1 b.2.1 ∧ Bz W1 W b.2.2.2.2.1) ?_ ?_
    · rintro ⟨A1, c1, A2, c2, g7, g8⟩ f ds W ⟨rfl, b, T1, X7⟩
      try dsimp only at b T1 X7 ⊢
      refine m_s2 3 5 (by kernel_rfl) rfl rfl ?_ ?_
      · go_wp2_with fail
        refine (HM2.out _ b).mono ?_
        rintro e wn ⟨A2, c2, rfl, T2, hb⟩
        have b := b.trans (hb.mono b.size)
        go_wp2_with fail
        refine m_keep b ?_
        exact H2_4 ⟨A1, c1, A2, c2, g7, 0⟩ _ _ _ (by kernel_rfl) rfl ⟨rfl, b, T1.below hb, T2, X7.below hb⟩
      · go_wp2_with fail
        refine absN fun wn hB hb _ => ?_
        refine m_keep (b.trans (hb.mono b.size)) ?_
        exact H1_45 ⟨A1, c1, none, 0, g7, _⟩ _ _ _ (by kernel_rfl) rfl ⟨rfl, b.trans (hb.mono b.size), T1.below hb, X7.below hb, .mk' hB b.size, Nat.ne_of_lt X7.lt⟩
    intro H1_4
    refine m_join (β := Option Addr × Nat × Option Addr × Nat × Nat × Nat) #[true, true, true, false, false, true, false, false] 4 (fun b f => #[Value.agg #[Value.int IntKind.u8 (r : Int), Value.int IntKind.u8 (c : Int), Value.slice A0 zs.length d0], Value.agg #[Value.int IntKind.u8 (r' : Int), Value.int IntKind.u8 (c' : Int), Value.slice A0' zs'.length d0'], Value.pointer (some { block := g, off := 0 }), Value.pointer (some { block := g + 1, off := 0 }), Value.pointer (some { block := g + 1 + 1, off := 0 }), Value.pointer (some { block := g + 1 + 1 + 1, off := 0 }), Value.pointer (some { block := g + 1 + 1 + 1 + 1, off := 0 }), f 7, ptr b.2.2.2.2.2, Value.pointer (some { block := g, off := 1 }), Value.int IntKind.u8 (c : Int), Value.pointer (some { block := g + 1, off := 0 }), Value.agg #[Value.int IntKind.u8 (r : Int), Value.int IntKind.u8 (c : Int), Value.slice A0 zs.length d0], refV C b.1 R b.2.1, Value.agg #[Value.int IntKind.u8 (c : Int), Value.int IntKind.u8 (c' : Int), Value.slice A0' zs'.length d0'], f 15, undef, undef, undef, undef, undef]) (fun b ds W => ds = [] ∧ Below W1.heap.size W1 W ∧ MkY W R C zs b.1 b.2.1 ∧ Bz W1 W b.2.2.2.2.2) ?_ ?_
    · rintro ⟨A1, c1, A2, c2, g7, g8⟩ f ds W ⟨rfl, b, T1, X8⟩
      try dsimp only at b T1 X8 ⊢
      refine m_s2 3 4 (by kernel_rfl) rfl rfl ?_ ?_
      · go_wp2_with fail
        refine (HM2.out _ b).mono ?_
        rintro e wn ⟨A2, c2, rfl, T2, hb⟩
        have b := b.trans (hb.mono b.size)
        go_wp2_with fail
        refine m_keep b ?_
        exact H2_5 ⟨A1, c1, A2, c2, 0, g8⟩ _ _ _ (by kernel_rfl) rfl ⟨rfl, b, T1.below hb, T2, X8.below hb⟩
      · go_wp2_with fail
        refine absN fun wn hB hb _ => ?_
        refine m_keep (b.trans (hb.mono b.size)) ?_
        exact H1_45 ⟨A1, c1, none, 0, _, g8⟩ _ _ _ (by kernel_rfl) rfl ⟨rfl, b.trans (hb.mono b.size), T1.below hb, .mk' hB b.size, X8.below hb, Nat.ne_of_gt X8.lt⟩
    intro H1_5
    refine m_join (β := Option Addr × Nat × Option Addr × Nat × Nat × Nat) #[true, false, true, false, true, true, false, false] 4 (fun b f => #[Value.agg #[Value.int IntKind.u8 (r : Int), Value.int IntKind.u8 (c : Int), Value.slice A0 zs.length d0], Value.agg #[Value.int IntKind.u8 (r' : Int), Value.int IntKind.u8 (c' : Int), Value.slice A0' zs'.length d0'], Value.pointer (some { block := g, off := 0 }), Value.pointer (some { block := g + 1, off := 0 }), Value.pointer (some { block := g + 1 + 1, off := 0 }), Value.pointer (some { block := g + 1 + 1 + 1, off := 0 }), Value.pointer (some { block := g + 1 + 1 + 1 + 1, off := 0 }), ptr b.2.2.2.2.1, ptr b.2.2.2.2.2, Value.pointer (some { block := g, off := 1 }), Value.int IntKind.u8 (c : Int), Value.pointer (some { block := g + 1, off := 0 }), Value.agg #[Value.int IntKind.u8 (r : Int), Value.int IntKind.u8 (c : Int), Value.slice A0 zs.length d0], f 13, Value.agg #[Value.int IntKind.u8 (c : Int), Value.int IntKind.u8 (c' : Int), Value.slice A0' zs'.length d0'], f 15, undef, undef, undef, undef, undef]) (fun b ds W => ds = [] ∧ Below W1.heap.size W1 W ∧ Bz W1 W b.2.2.2.2.1 ∧ Bz W1 W b.2.2.2.2.2 ∧ b.2.2.2.2.1 ≠ b.2.2.2.2.2) ?_ ?_
    · rintro ⟨A1, c1, A2, c2, g7, g8⟩ f ds W ⟨rfl, b, X7, X8, ng7g8⟩
      try dsimp only at b X7 X8 ng7g8 ⊢
      refine m_s1 1 (by kernel_rfl) rfl ?_
      go_wp2_with fail
      refine (HM1.out _ b).mono ?_
      rintro e wn ⟨A1, c1, rfl, T1, hb⟩
      have b := b.trans (hb.mono b.size)
      go_wp2_with fail
      refine m_keep b ?_
      exact H1_45 ⟨A1, c1, none, 0, g7, g8⟩ _ _ _ (by kernel_rfl) rfl ⟨rfl, b, T1, X7.below hb, X8.below hb, ng7g8⟩
    intro H0_45
    refine m_join (β := Option Addr × Nat × Option Addr × Nat × Nat × Nat) #[true, true, true, false, false, false, false, false] 5 (fun b f => #[Value.agg #[Value.int IntKind.u8 (r : Int), Value.int IntKind.u8 (c : Int), Value.slice A0 zs.length d0], Value.agg #[Value.int IntKind.u8 (r' : Int), Value.int IntKind.u8 (c' : Int), Value.slice A0' zs'.length d0'], Value.pointer (some { block := g, off := 0 }), Value.pointer (some { block := g + 1, off := 0 }), Value.pointer (some { block := g + 1 + 1, off := 0 }), Value.pointer (some { block := g + 1 + 1 + 1, off := 0 }), Value.pointer (some { block := g + 1 + 1 + 1 + 1, off := 0 }), f 7, f 8, Value.pointer (some { block := g, off := 1 }), Value.int IntKind.u8 (c : Int), Value.pointer (some { block := g + 1, off := 0 }), Value.agg #[Value.int IntKind.u8 (r : Int), Value.int IntKind.u8 (c : Int), Value.slice A0 zs.length d0], refV C b.1 R b.2.1, Value.agg #[Value.int IntKind.u8 (c : Int), Value.int IntKind.u8 (c' : Int), Value.slice A0' zs'.length d0'], f 15, undef, undef, undef, undef, undef]) (fun b ds W => ds = [] ∧ Below W1.heap.size W1 W ∧ MkY W R C zs b.1 b.2.1) ?_ ?_
    · rintro ⟨A1, c1, A2, c2, g7, g8⟩ f ds W ⟨rfl, b, T1⟩
      try dsimp only at b T1 ⊢
      refine m_s3 3 4 5 (by kernel_rfl) rfl rfl rfl ?_ ?_ ?_
      · go_wp2_with fail
        refine (HM2.out _ b).mono ?_
        rintro e wn ⟨A2, c2, rfl, T2, hb⟩
        have b := b.trans (hb.mono b.size)
        go_wp2_with fail
        refine m_keep b ?_
        exact H2_ ⟨A1, c1, A2, c2, 0, 0⟩ _ _ _ (by kernel_rfl) rfl ⟨rfl, b, T1.below hb, T2⟩
      · go_wp2_with fail
        refine absN fun wn hB hb _ => ?_
        refine m_keep (b.trans (hb.mono b.size)) ?_
        exact H1_4 ⟨A1, c1, none, 0, _, 0⟩ _ _ _ (by kernel_rfl) rfl ⟨rfl, b.trans (hb.mono b.size), T1.below hb, .mk' hB b.size⟩
      · go_wp2_with fail
        refine absN fun wn hB hb _ => ?_
        refine m_keep (b.trans (hb.mono b.size)) ?_
        exact H1_5 ⟨A1, c1, none, 0, 0, _⟩ _ _ _ (by kernel_rfl) rfl ⟨rfl, b.trans (hb.mono b.size), T1.below hb, .mk' hB b.size⟩
    intro H1_
    refine m_join (β := Option Addr × Nat × Option Addr × Nat × Nat × Nat) #[true, false, true, false, true, false, false, false] 5 (fun b f => #[Value.agg #[Value.int IntKind.u8 (r : Int), Value.int IntKind.u8 (c : Int), Value.slice A0 zs.length d0], Value.agg #[Value.int IntKind.u8 (r' : Int), Value.int IntKind.u8 (c' : Int), Value.slice A0' zs'.length d0'], Value.pointer (some { block := g, off := 0 }), Value.pointer (some { block := g + 1, off := 0 }), Value.pointer (some { block := g + 1 + 1, off := 0 }), Value.pointer (some { block := g + 1 + 1 + 1, off := 0 }), Value.pointer (some { block := g + 1 + 1 + 1 + 1, off := 0 }), ptr b.2.2.2.2.1, f 8, Value.pointer (some { block := g, off := 1 }), Value.int IntKind.u8 (c : Int), Value.pointer (some { block := g + 1, off := 0 }), Value.agg #[Value.int IntKind.u8 (r : Int), Value.int IntKind.u8 (c : Int), Value.slice A0 zs.length d0], f 13, Value.agg #[Value.int IntKind.u8 (c : Int), Value.int IntKind.u8 (c' : Int), Value.slice A0' zs'.length d0'], f 15, undef, undef, undef, undef, undef]) (fun b ds W => ds = [] ∧ Below W1.heap.size W1 W ∧ Bz W1 W b.2.2.2.2.1) ?_ ?_
    · rintro ⟨A1, c1, A2, c2, g7, g8⟩ f ds W ⟨rfl, b, X7⟩
      try dsimp only at b X7 ⊢
      refine m_s2 1 5 (by kernel_rfl) rfl rfl ?_ ?_
      · go_wp2_with fail
        refine (HM1.out _ b).mono ?_
        rintro e wn ⟨A1, c1, rfl, T1, hb⟩
        have b := b.trans (hb.mono b.size)
        go_wp2_with fail
        refine m_keep b ?_
        exact H1_4 ⟨A1, c1, none, 0, g7, 0⟩ _ _ _ (by kernel_rfl) rfl ⟨rfl, b, T1, X7.below hb⟩
      · go_wp2_with fail
        refine absN fun wn hB hb _ => ?_
        refine m_keep (b.trans (hb.mono b.size)) ?_
        exact H0_45 ⟨none, 0, none, 0, g7, _⟩ _ _ _ (by kernel_rfl) rfl ⟨rfl, b.trans (hb.mono b.size), X7.below hb, .mk' hB b.size, Nat.ne_of_lt X7.lt⟩
    intro H0_4
    refine m_join (β := Option Addr × Nat × Option Addr × Nat × Nat × Nat) #[true, false, true, false, false, true, false, false] 5 (fun b f => #[Value.agg #[Value.int IntKind.u8 (r : Int), Value.int IntKind.u8 (c : Int), Value.slice A0 zs.length d0], Value.agg #[Value.int IntKind.u8 (r' : Int), Value.int IntKind.u8 (c' : Int), Value.slice A0' zs'.length d0'], Value.pointer (some { block := g, off := 0 }), Value.pointer (some { block := g + 1, off := 0 }), Value.pointer (some { block := g + 1 + 1, off := 0 }), Value.pointer (some { block := g + 1 + 1 + 1, off := 0 }), Value.pointer (some { block := g + 1 + 1 + 1 + 1, off := 0 }), f 7, ptr b.2.2.2.2.2, Value.pointer (some { block := g, off := 1 }), Value.int IntKind.u8 (c : Int), Value.pointer (some { block := g + 1, off := 0 }), Value.agg #[Value.int IntKind.u8 (r : Int), Value.int IntKind.u8 (c : Int), Value.slice A0 zs.length d0], f 13, Value.agg #[Value.int IntKind.u8 (c : Int), Value.int IntKind.u8 (c' : Int), Value.slice A0' zs'.length d0'], f 15, undef, undef, undef, undef, undef]) (fun b ds W => ds = [] ∧ Below W1.heap.size W1 W ∧ Bz W1 W b.2.2.2.2.2) ?_ ?_
    · rintro ⟨A1, c1, A2, c2, g7, g8⟩ f ds W ⟨rfl, b, X8⟩
      try dsimp only at b X8 ⊢
      refine m_s2 1 4 (by kernel_rfl) rfl rfl ?_ ?_
      · go_wp2_with fail
        refine (HM1.out _ b).mono ?_
        rintro e wn ⟨A1, c1, rfl, T1, hb⟩
        have b := b.trans (hb.mono b.size)
        go_wp2_with fail
        refine m_keep b ?_
        exact H1_5 ⟨A1, c1, none, 0, 0, g8⟩ _ _ _ (by kernel_rfl) rfl ⟨rfl, b, T1, X8.below hb⟩
      · go_wp2_with fail
        refine absN fun wn hB hb _ => ?_
        refine m_keep (b.trans (hb.mono b.size)) ?_
        exact H0_45 ⟨none, 0, none, 0, _, g8⟩ _ _ _ (by kernel_rfl) rfl ⟨rfl, b.trans (hb.mono b.size), .mk' hB b.size, X8.below hb, Nat.ne_of_gt X8.lt⟩
    intro H0_5
    refine m_s3 1 4 5 (by kernel_rfl) rfl rfl rfl ?_ ?_ ?_
    · go_wp2_with fail
      refine (HM1.out _ b).mono ?_
      rintro e wn ⟨A1, c1, rfl, T1, hb⟩
      have b := b.trans (hb.mono b.size)
      go_wp2_with fail
      refine m_keep b ?_
      exact H1_ ⟨A1, c1, none, 0, 0, 0⟩ _ _ _ (by kernel_rfl) rfl ⟨rfl, b, T1⟩
    · go_wp2_with fail
      refine absN fun wn hB hb _ => ?_
      refine m_keep (b.trans (hb.mono b.size)) ?_
      exact H0_4 ⟨none, 0, none, 0, _, 0⟩ _ _ _ (by kernel_rfl) rfl ⟨rfl, b.trans (hb.mono b.size), .mk' hB b.size⟩
    · go_wp2_with fail
      refine absN fun wn hB hb _ => ?_
      refine m_keep (b.trans (hb.mono b.size)) ?_
      exact H0_5 ⟨none, 0, none, 0, 0, _⟩ _ _ _ (by kernel_rfl) rfl ⟨rfl, b.trans (hb.mono b.size), .mk' hB b.size⟩
  case rest =>
    obtain ⟨g7, g8, A1, A2, c1, c2, hs7, hs8, hB7, hB8, hY1, hY2, hg7, hg8, hne, hb⟩ := hcut
    subst hs7; subst hs8
    have hI2 := K4.out.below hb K4.out.lt
    have hI3 := K5.out.below hb K5.out.lt
    have hI4 := K6.out.below hb K6.out.lt
    have hbw := KB.out.trans (hb.mono KB.out.size)
    have hgg : g + 4 < W1.heap.size := K6.out.lt
    have hpr := fun V (hv : Below wc.heap.size wc V) => prodr_own C C' A1 A2 c1 c2 (rawM R C zs) (rawM C C' zs') V (hY1.below hv).ref (hY2.below hv).ref (mat_len ..).symm
    rw [show (rawM R C zs).length = R from mat_len .., show (rawM C C' zs').length = C from mat_len ..] at hpr
    have HPR := Lib.hid hpr
    clear hpr hb HIN HIN' K2 K3 K4 K5 K6 KB
    go_wp2_with fail
    refine wp_mix (fun V => Blk V g7 28 #[.int .i64 (C : Int), .slice A1 R c1] ∧ Blk V g8 28 #[.int .i64 (C' : Int), .slice A2 C c2]) 8 (by kernel_rfl) (by kernel_rfl) ⟨hB7, hB8⟩ ?_
    obtain ⟨U, hU⟩ : ∃ U, U = wc.drew := ⟨_, rfl⟩
    have hdr : Below wc.heap.size wc U := by rw [hU]; exact (Below.refl _ _).drew
    rw [← hU]
    clear hU
    (refine m_q 0 (v := ?_) (by kernel_rfl) rfl rfl (fun W hW => ?_) ?_; rotate_left; (have y0 := hW.1.cell 0; have y1 := hW.1.cell 1; go_simp; first | done | with_reducible rfl); simp only [Act.put, List.setIfInBounds_toArray, List.set_cons_zero, List.set_cons_succ]); (refine m_q 2 (v := ?_) (by kernel_rfl) rfl rfl (fun W hW => ?_) ?_; rotate_left; (have y0 := hW.1.cell 0; have y1 := hW.1.cell 1; go_simp; first | done | with_reducible rfl); simp only [Act.put, List.setIfInBounds_toArray, List.set_cons_zero, List.set_cons_succ])
    (refine m_q 1 (v := ?_) (by kernel_rfl) rfl rfl (fun W hW => ?_) ?_; rotate_left; (have y0 := hW.2.cell 0; have y1 := hW.2.cell 1; go_simp; first | done | with_reducible rfl); simp only [Act.put, List.setIfInBounds_toArray, List.set_cons_zero, List.set_cons_succ]); (refine m_q 3 (v := ?_) (by kernel_rfl) rfl rfl (fun W hW => ?_) ?_; rotate_left; (have y0 := hW.2.cell 0; have y1 := hW.2.cell 1; go_simp; first | done | with_reducible rfl); simp only [Act.put, List.setIfInBounds_toArray, List.set_cons_zero, List.set_cons_succ])
    have HP := hideC (HPR.out U hdr)
    refine m_s1 4 (by kernel_rfl) rfl ?_
    go_wp2_with fail
    with_reducible refine HP.out.mono ?_
    rintro e V1 ⟨A3, c3, rfl, hT3, hb1⟩
    have hr := hdr.trans (hb1.mono hdr.size)
    go_wp2_with fail
    refine m_keep ⟨hB7.below hr hB7.lt, hB8.below hr hB8.lt⟩ ?_
    have i4 := hI2.below hr hI2.lt
    have i5 := hI3.below hr hI3.lt
    have i6 := hI4.below hr hI4.lt
    have i7 := hB7.below hr hB7.lt
    have i8 := hB8.below hr hB8.lt
    have q1 := hY1.below hr
    have q2 := hY2.below hr
    have q3 := hT3.yref
    have bb := hbw.trans (hr.mono hbw.size)
    clear HP HPR hI2 hI3 hI4 hB7 hB8 hY1 hY2 hT3 hbw hdr hb1
    -- the first store
    have s4 := (i4.set_ 0 (.int .i64 (C : Int))).set_ 1 (.slice A1 R c1)
    have s5 := (i5.far (p := ⟨g + 2, 0, none⟩) (by simp) (.int .i64 (C : Int))).far (p := ⟨g + 2, 1, none⟩) (by simp) (.slice A1 R c1)
    have s6 := (i6.far (p := ⟨g + 2, 0, none⟩) (by simp) (.int .i64 (C : Int))).far (p := ⟨g + 2, 1, none⟩) (by simp) (.slice A1 R c1)
    have s7 := (i7.far (p := ⟨g + 2, 0, none⟩) (by simp; omega) (.int .i64 (C : Int))).far (p := ⟨g + 2, 1, none⟩) (by simp; omega) (.slice A1 R c1)
    have s8 := (i8.far (p := ⟨g + 2, 0, none⟩) (by simp; omega) (.int .i64 (C : Int))).far (p := ⟨g + 2, 1, none⟩) (by simp; omega) (.slice A1 R c1)
    have r1 := YRef.st2 q1 i4 (.int .i64 (C : Int)) (.slice A1 R c1)
    have r2 := YRef.st2 q2 i4 (.int .i64 (C : Int)) (.slice A1 R c1)
    have r3 := YRef.st2 q3 i4 (.int .i64 (C : Int)) (.slice A1 R c1)
    have b4 := (bb.setCell (p := ⟨g + 2, 0, none⟩) (by simp; omega) (.int .i64 (C : Int))).setCell (p := ⟨g + 2, 1, none⟩) (by simp; omega) (.slice A1 R c1)
    have c0 := i4.cell 0; have c1' := i4.cell 1; have f0 := i4.frozen 0; have f1 := i4.frozen 1; have lg := i4.lt
    have S4 := Lib.hid s4; have S5 := Lib.hid s5; have S6 := Lib.hid s6; have S7 := Lib.hid s7; have S8 := Lib.hid s8; have R1 := Lib.hid r1; have R2 := Lib.hid r2; have R3 := Lib.hid r3; have B4 := Lib.hid b4
    clear s4 s5 s6 s7 s8 r1 r2 r3 b4 i4 i5 i6 i7 i8 q1 q2 q3 bb hr
    refine m_s1 5 (by kernel_rfl) rfl ?_
    go_wp2_with fail
    refine m_keep ⟨S7.out, S8.out⟩ ?_
    obtain ⟨V2, hV2⟩ : ∃ V2, V2 = (V1.setCell ⟨g + 2, 0, none⟩ (.int .i64 (C : Int))).setCell ⟨g + 2, 1, none⟩ (.slice A1 R c1) := ⟨_, rfl⟩
    unfold st2 at R1 R2 R3
    rw [← hV2] at S4 S5 S6 S7 S8 R1 R2 R3 B4 ⊢
    clear hV2 c0 c1' f0 f1 lg
    -- the second
    have s4 := (S4.out.far (p := ⟨g + 3, 0, none⟩) (by simp) (.int .i64 (C' : Int))).far (p := ⟨g + 3, 1, none⟩) (by simp) (.slice A2 C c2)
    have s5 := (S5.out.set_ 0 (.int .i64 (C' : Int))).set_ 1 (.slice A2 C c2)
    have s6 := (S6.out.far (p := ⟨g + 3, 0, none⟩) (by simp) (.int .i64 (C' : Int))).far (p := ⟨g + 3, 1, none⟩) (by simp) (.slice A2 C c2)
    have s7 := (S7.out.far (p := ⟨g + 3, 0, none⟩) (by simp; omega) (.int .i64 (C' : Int))).far (p := ⟨g + 3, 1, none⟩) (by simp; omega) (.slice A2 C c2)
    have s8 := (S8.out.far (p := ⟨g + 3, 0, none⟩) (by simp; omega) (.int .i64 (C' : Int))).far (p := ⟨g + 3, 1, none⟩) (by simp; omega) (.slice A2 C c2)
    have r1 := YRef.st2 R1.out S5.out (.int .i64 (C' : Int)) (.slice A2 C c2)
    have r2 := YRef.st2 R2.out S5.out (.int .i64 (C' : Int)) (.slice A2 C c2)
    have r3 := YRef.st2 R3.out S5.out (.int .i64 (C' : Int)) (.slice A2 C c2)
    have b4 := (B4.out.setCell (p := ⟨g + 3, 0, none⟩) (by simp; omega) (.int .i64 (C' : Int))).setCell (p := ⟨g + 3, 1, none⟩) (by simp; omega) (.slice A2 C c2)
    have c0 := S5.out.cell 0; have c1' := S5.out.cell 1; have f0 := S5.out.frozen 0; have f1 := S5.out.frozen 1; have lg := S5.out.lt
    have T4 := Lib.hid s4; have T5 := Lib.hid s5; have T6 := Lib.hid s6; have T7 := Lib.hid s7; have T8 := Lib.hid s8; have Q1 := Lib.hid r1; have Q2 := Lib.hid r2; have Q3 := Lib.hid r3; have D4 := Lib.hid b4
    clear s4 s5 s6 s7 s8 r1 r2 r3 b4
    refine m_s1 6 (by kernel_rfl) rfl ?_
    go_wp2_with fail
    refine m_keep ⟨T7.out, T8.out⟩ ?_
    obtain ⟨V3, hV3⟩ : ∃ V3, V3 = (V2.setCell ⟨g + 3, 0, none⟩ (.int .i64 (C' : Int))).setCell ⟨g + 3, 1, none⟩ (.slice A2 C c2) := ⟨_, rfl⟩
    unfold st2 at Q1 Q2 Q3
    rw [← hV3] at T4 T5 T6 T7 T8 Q1 Q2 Q3 D4 ⊢
    clear hV3 c0 c1' f0 f1 lg S4 S5 S6 S7 S8 R1 R2 R3 B4
    -- the third
    have s4 := (T4.out.far (p := ⟨g + 4, 0, none⟩) (by simp) (.int .i64 (C' : Int))).far (p := ⟨g + 4, 1, none⟩) (by simp) (.slice A3 R c3)
    have s5 := (T5.out.far (p := ⟨g + 4, 0, none⟩) (by simp) (.int .i64 (C' : Int))).far (p := ⟨g + 4, 1, none⟩) (by simp) (.slice A3 R c3)
    have s6 := (T6.out.set_ 0 (.int .i64 (C' : Int))).set_ 1 (.slice A3 R c3)
    have s7 := (T7.out.far (p := ⟨g + 4, 0, none⟩) (by simp; omega) (.int .i64 (C' : Int))).far (p := ⟨g + 4, 1, none⟩) (by simp; omega) (.slice A3 R c3)
    have s8 := (T8.out.far (p := ⟨g + 4, 0, none⟩) (by simp; omega) (.int .i64 (C' : Int))).far (p := ⟨g + 4, 1, none⟩) (by simp; omega) (.slice A3 R c3)
    have r1 := YRef.st2 Q1.out T6.out (.int .i64 (C' : Int)) (.slice A3 R c3)
    have r2 := YRef.st2 Q2.out T6.out (.int .i64 (C' : Int)) (.slice A3 R c3)
    have r3 := YRef.st2 Q3.out T6.out (.int .i64 (C' : Int)) (.slice A3 R c3)
    have b4 := (D4.out.setCell (p := ⟨g + 4, 0, none⟩) (by simp; omega) (.int .i64 (C' : Int))).setCell (p := ⟨g + 4, 1, none⟩) (by simp; omega) (.slice A3 R c3)
    have c0 := T6.out.cell 0; have c1' := T6.out.cell 1; have f0 := T6.out.frozen 0; have f1 := T6.out.frozen 1; have lg := T6.out.lt
    have U4 := Lib.hid s4; have U5 := Lib.hid s5; have U6 := Lib.hid s6; have U7 := Lib.hid s7; have U8 := Lib.hid s8; have P1 := Lib.hid r1; have P2 := Lib.hid r2; have P3 := Lib.hid r3; have E4 := Lib.hid b4
    clear s4 s5 s6 s7 s8 r1 r2 r3 b4
    refine m_s1 7 (by kernel_rfl) rfl ?_
    go_wp2_with fail
    refine m_keep ⟨U7.out, U8.out⟩ ?_
    refine m_end (by kernel_rfl) ?_
    clear c0 c1' f0 f1 lg T4 T5 T6 T7 T8 Q1 Q2 Q3 D4
    go_wp2_with fail
    have c40 := U4.out.cell 0; have c41 := U4.out.cell 1; have c50 := U5.out.cell 0; have c51 := U5.out.cell 1; have c60 := U6.out.cell 0; have c61 := U6.out.cell 1
    exact bodyPost_ret (v := .tuple #[refV C A1 R c1, refV C' A2 C c2, refV C' A3 R c3]) (by simp [results, Tryz.results8, go_sem, c40, c41, c50, c51, c60, c61]) rfl ⟨A1, c1, A2, c2, A3, c3, rfl, P1.out, P2.out, P3.out, E4.out⟩
end Mix2
end Go.Proofs.YtfbkcdhmggjbaaaGreatDoor

/-
  cover.Simplify of valid roles.
-/
namespace Go.Proofs.YtfbkcdhmggjbaaaGreatDoor
open Go.RowKit
attribute [local go_sem] Oper.semAt_some
theorem flatQ_set (L : List (Nat × Nat)) (k N : Nat) (hk : k < L.length) : flatQ (L.set k (N, (L.getD k (0, 0)).2)) = (flatQ L).set (k * 2) N := by
  induction L generalizing k with
  | nil => simp at hk
  | cons s L ih =>
    cases k with
    | zero => rfl
    | succ k =>
      have := ih k (by simpa using hk)
      have e : ((s :: L).getD (k + 1) (0, 0)) = L.getD k (0, 0) := rfl
      unfold flatQ at this ⊢
      rw [e, List.set_cons_succ, List.flatMap_cons, List.flatMap_cons, this, show (k + 1) * 2 = k * 2 + 1 + 1 by omega]
      simp only [List.cons_append, List.nil_append, List.set_cons_succ]
/-- The block of roles of our own. -/
theorem OwnQ.blk {w : World} {base n c : Nat} {A : Option Addr} {L : List (Nat × Nat)} (h : OwnQ w base (.slice A n c) L) (h0 : 0 < L.length) : ∃ g cs, A = some ⟨g, 0, none⟩ ∧ base ≤ g ∧ Blk w g 84 cs := by
  obtain ⟨vs, h1, h2⟩ := h
  rcases id h1.2 with ⟨hv, hn⟩ | ⟨g, cap, cur, hv, hg, hB, _⟩
  · omega
  · cases hv
    exact ⟨g, cur, rfl, hg, hB⟩
/-- The users of one role are written. -/
theorem OwnQ.put1 {w : World} {base g n c k N : Nat} {v : Value} {L : List (Nat × Nat)} (h : OwnQ w base (.slice (some ⟨g, 0, none⟩) n c) L) (hs : IsSet w v N) (hk : k < L.length) :
    OwnQ (w.setCell ⟨g, k * 2, none⟩ v) base (.slice (some ⟨g, 0, none⟩) n c) (L.set k (N, (L.getD k (0, 0)).2)) := by
  obtain ⟨vs, h1, h2⟩ := h
  rcases id h1.2 with ⟨hv, hn⟩ | ⟨g', cap, cur, hv, hg, hB, hc1, hc2, hsz, htk⟩
  · omega
  · cases hv
    have hB' : Blk w g 84 cur := hB
    have hkw : KeepW w (w.setCell ⟨g, k * 2, none⟩ v) := KeepW.setCell (p := ⟨g, k * 2, none⟩) hB' (by decide) v
    refine ⟨vs.set (k * 2) v, ⟨by rw [List.length_set, List.length_set]; exact h1.1, .inr ⟨g, c, cur.setIfInBounds (k * 2) v, by rw [List.length_set], hg, hB'.set_ (k * 2) v, by rw [List.length_set]; exact hc1, hc2, by rw [Array.size_setIfInBounds]; exact hsz, ?_⟩⟩, ?_⟩
    · rw [List.length_set, Array.toList_setIfInBounds, List.take_set, htk]
    · rw [flatQ_set _ _ _ hk]
      exact (h2.keep hkw).put (hs.keep hkw)
theorem IsMO.shut {w w' : World} {q C n : Nat} {Ns : List Nat} (h : IsMO w q C Ns) (k : Shut n w w') : IsMO w' q C Ns := by
  obtain ⟨rv, vs, ⟨k1, k2, k3⟩, k4, k5⟩ := h
  exact ⟨rv, vs, ⟨k.2 _ _ _ _ k1, own_kc k2 ⟨k.1.size, k.2⟩, k3.keep k.keep⟩, k4, k5⟩
theorem roleQ_wf {R C D : Nat} {Us Ps : List Nat} (hU : Us.length = R) (hR : R ≤ 4096) (hP : rowsIn C Ps) : WfQ R C (roleQ D Us Ps Ps.length) := by
  intro s hs
  unfold roleQ at hs
  obtain ⟨k, hk, rfl⟩ := List.mem_map.1 hs
  rw [List.mem_range] at hk
  refine ⟨fun i hi => ?_, of_low (hP k hk)⟩
  rw [testBit_mcol _ _ _ _ (by omega)] at hi
  unfold mhas at hi
  rw [Bool.and_eq_true] at hi
  unfold insideB at hi
  have := hi.1
  simp at this
  omega
/-- What stays in place all along. -/
structure SimI (w W : World) (g g6 q u p : Nat) : Prop where
  b2 : Blk W g 31 #[ptr q]
  b3 : Blk W (g + 1) 34 #[ptr u, ptr p]
  b4 : Blk W (g + 2) 34 #[.pointer none, .pointer none]
  b7 : Blk W (g6 + 1) 81 #[.func (.func 38) #[] #[ptr g]]
  bel : Below w.heap.size w W
section
variable {w W W' : World} {g g6 q u p : Nat}
theorem SimI.below (h : SimI w W g g6 q u p) (hb : Below W.heap.size W W') : SimI w W' g g6 q u p := ⟨h.b2.below hb h.b2.lt, h.b3.below hb h.b3.lt, h.b4.below hb h.b4.lt, h.b7.below hb h.b7.lt, h.bel.trans (hb.mono h.bel.size)⟩
theorem SimI.put {t : TypeId} {cs : Array Value} {b : Nat} (h : SimI w W g g6 q u p) (hB : Blk W b t cs) (hb : w.heap.size ≤ b) (h1 : 31 ≠ t) (h2 : 34 ≠ t) (h3 : 81 ≠ t) (i : Nat) (v : Value) : SimI w (W.setCell ⟨b, i, none⟩ v) g g6 q u p :=
  ⟨h.b2.far (p := ⟨b, i, none⟩) (h.b2.ne_ hB h1) v, h.b3.far (p := ⟨b, i, none⟩) (h.b3.ne_ hB h2) v, h.b4.far (p := ⟨b, i, none⟩) (h.b4.ne_ hB h2) v, h.b7.far (p := ⟨b, i, none⟩) (h.b7.ne_ hB h3) v, h.bel.setCell (p := ⟨b, i, none⟩) hb v⟩
theorem SimI.kc (h : SimI w W g g6 q u p) (hk : KeepC W W') (hb : Below w.heap.size w W') : SimI w W' g g6 q u p := ⟨h.b2.kc hk, h.b3.kc hk, h.b4.kc hk, h.b7.kc hk, hb⟩
end
theorem OwnQ.at_ {w : World} {base n c k : Nat} {A : Option Addr} {L : List (Nat × Nat)} (h : OwnQ w base (.slice A n c) L) (hl : L.length ≤ 1000000) (hk : k < L.length) :
    ∃ g A1 c1 cs, A = some ⟨g, 0, none⟩ ∧ base ≤ g ∧ Blk w g 84 cs ∧ w.cell? ⟨g, k * 2, none⟩ = some (.slice A1 (nw (L.getD k (0, 0)).1) c1) ∧ IsSet w (.slice A1 (nw (L.getD k (0, 0)).1) c1) (L.getD k (0, 0)).1 := by
  obtain ⟨g, cs, rfl, hg, hB⟩ := h.blk (by omega)
  obtain ⟨A', c', e⟩ := h.val
  cases e
  have hs : L[k]? = some (L.getD k (0, 0)) := by rw [List.getD_eq_getElem?_getD, List.getElem?_eq_getElem hk]; rfl
  obtain ⟨g', off, A1, c1, A2, c2, e, _, h1, _, h3, _⟩ := (h.isQ hl).at hs
  cases e
  rw [Nat.zero_add] at h1
  exact ⟨g, A1, c1, cs, rfl, hg, hB, h1, h3⟩
namespace Mix2
end Mix2
end Go.Proofs.YtfbkcdhmggjbaaaGreatDoor

/-
  For the laws of Simplify, Needs and Normal.
-/
namespace Go.Proofs.YtfbkcdhmggjbaaaGreatDoor
open Go.RowKit
theorem mat_rows {R C : Nat} {f : Nat → Nat → Bool} {i : Nat} {r : List Bool} (h : (mat R C f)[i]? = some r) : r.length = C := by
  unfold mat at h
  rw [List.getElem?_map] at h
  obtain ⟨x, _, rfl⟩ := Option.map_eq_some_iff.1 h
  simp
theorem ptrsQ {a b : Option Addr} : ∀ (k : Nat) A n c, (#[.pointer a, .pointer b] : Array Value)[k]? ≠ some (.slice A n c) := by
  intro k A n c
  rcases k with _ | _ | k <;> simp
/-- A matrix stays when a box of two pointers is written. -/
theorem IsMat.boxQ {W : World} {q X C : Nat} {Ns : List Nat} {t : TypeId} {a b : Option Addr} (h : IsMat W q C Ns) (hX : Blk W X t #[.pointer a, .pointer b]) (h1 : 103 ≠ t) (ht : 158 ≠ t) (i : Nat) (u : Value) : IsMat (W.setCell ⟨X, i, none⟩ u) q C Ns := by
  obtain ⟨h1', h2, A, c, vs, hB, hc, hr, hs⟩ := h
  refine ⟨h1', h2, A, c, vs, hB.far (p := ⟨X, i, none⟩) (hB.ne_ hX h1) u, hc, fun hp => ?_, hs.keep (KeepW.setCell (p := ⟨X, i, none⟩) hX ht u)⟩
  obtain ⟨g, off, hA, hg, hcell⟩ := hr hp
  have hne : g ≠ X := by
    rintro rfl
    obtain ⟨v0, hv0⟩ : ∃ v, vs[0]? = some v := ⟨vs[0], List.getElem?_eq_getElem hp⟩
    obtain ⟨N0, hN0⟩ : ∃ N, Ns[0]? = some N := ⟨Ns[0]'(by rw [← hs.1]; exact hp), List.getElem?_eq_getElem _⟩
    obtain ⟨A', c', rfl, _⟩ := hs.2 0 v0 N0 hv0 hN0
    have := hcell 0 _ hv0
    rw [hX.cell] at this
    exact ptrsQ _ _ _ _ this
  exact ⟨g, off, hA, by simpa [World.setCell] using hg, fun k v hv => (World.cell?_of_block (a := ⟨g, off + k, none⟩) (Below.heap_setCell W ⟨X, i, none⟩ u g hne)).trans (hcell k v hv)⟩
theorem IsMat.boxQ2 {W : World} {q X C p1 p2 : Nat} {Ns : List Nat} {t : TypeId} {a b : Option Addr} (h : IsMat W q C Ns) (hX : Blk W X t #[.pointer a, .pointer b]) (h1 : 103 ≠ t) (ht : 158 ≠ t) : IsMat ((W.setCell ⟨X, 0, none⟩ (ptr p1)).setCell ⟨X, 1, none⟩ (ptr p2)) q C Ns :=
  (h.boxQ hX h1 ht 0 (ptr p1)).boxQ (hX.set_ 0 (ptr p1)) h1 ht 1 (ptr p2)
/-- Users and permissions are those of the specification's roles. -/
theorem users_sameQ {R : Nat} {L : List (Nat × Nat)} (hL : L.length ≤ 4096) : sameB L.length L.length (toldM L.length (mtrans R (L.map (·.1)) R)) (matU R L) = true :=
  same_of (mtrans_len ..) fun i hi j hj => by
    rw [mhas_in (by rw [mtrans_len]; exact hi) hj, Bool.eq_iff_iff, usersQ_bit hL]
    exact ⟨fun h => h.2.2, fun h => ⟨hi, hj, h⟩⟩
theorem perms_sameQ {C : Nat} {L : List (Nat × Nat)} : sameB C C (toldM C (L.map (·.2))) (matP C L) = true :=
  same_of (List.length_map ..) fun i hi j hj => by
    rw [mhas_in (by rw [List.length_map]; exact hi) hj, permsQ_get hi]
theorem sameB_self {C : Nat} {M : List (List Bool)} : sameB C C M M = true := by
  unfold sameB withinB
  have : withinR C M M := fun i _ j _ h => h
  rw [decide_eq_true (show (M.length = M.length ∧ C = C) ∧ withinR C M M from ⟨⟨rfl, rfl⟩, this⟩)]; rfl
/-- The roles of the two matrices are valid for their product. -/
theorem valid_prod {C C' R : Nat} {MA MB MW : List (List Bool)} (hC : C ≤ 4096) (hC' : C' ≤ 4096) (hB : MB.length = C) (hA : MA.length = R) (hW : MW = mat R C' (prodF MA MB C)) : validN C' (nsOf C' MW) C (nsOf C MA) C' (nsOf C' MB) = true := by
  rw [validQ_want hC' hC hC' hB.symm, hA, ← hW]
  exact sameB_self
/-- Valid as matrices, valid as pairs of sets. -/
theorem valid_role {C D : Nat} {Ns Us Ps : List Nat} (hP : Ps.length ≤ 4096) (hin : rowsIn D Us) (h : validN C Ns D Us C Ps = true) (hU4 : Us.length ≤ 4096) : validQ C Ns (roleQ D Us Ps Ps.length) = true := by
  obtain ⟨hD, _, hU, hv⟩ := validN_iff.1 h
  have hl := roleQ_len D Us Ps Ps.length
  refine (validQ_iff (by omega)).2 fun i hi j => ?_
  rw [← hv i hi j, givQ_get]
  have hg : ∀ k, k < Ps.length → (roleQ D Us Ps Ps.length).getD k (0, 0) = (mcol D Us (k : Nat), Ps.getD k 0) := fun k hk => by
    unfold roleQ
    rw [List.getD_eq_getElem?_getD, List.getElem?_map, List.getElem?_range hk]; rfl
  constructor
  · rintro ⟨k, hk, h1, h2⟩
    rw [hl] at hk
    rw [hg k hk] at h1 h2
    refine ⟨k, ?_, h2⟩
    rw [testBit_mcol _ _ _ _ hU4, mhas_in (by omega) (by omega)] at h1
    exact h1
  · rintro ⟨k, h1, h2⟩
    have hk : k < Ps.length := by
      rw [← hD]
      exact of_low (hin i (by omega)) k h1
    refine ⟨k, by rw [hl]; exact hk, ?_, by rw [hg k hk]; exact h2⟩
    rw [hg k hk, testBit_mcol _ _ _ _ hU4, mhas_in (by omega) (by omega)]
    exact h1
end Go.Proofs.YtfbkcdhmggjbaaaGreatDoor

/-
  Normal in plain words: roles in normal order, none empty, none twice.
-/
namespace Go.Proofs.YtfbkcdhmggjbaaaGreatDoor
open Go.RowKit
theorem cmpN_zero {N M : Nat} : cmpN N M = 0 ↔ N = M := by
  unfold cmpN
  by_cases h : N = M
  · simp [h]
  · rw [if_neg h]; cases ltR N M <;> simp [h]
theorem cmpN_neg {N M : Nat} : cmpN N M < 0 ↔ ltR N M = true := by
  unfold cmpN
  by_cases h : N = M
  · subst h; simp [ltR_irrefl]
  · rw [if_neg h]; cases ltR N M <;> simp
/-- The order of roles: by permissions, then by users. -/
def ltQ (s t : Nat × Nat) : Bool := ltR s.2 t.2 || (decide (s.2 = t.2) && ltR s.1 t.1)
def cmpQ (s t : Nat × Nat) : Int := if cmpN s.2 t.2 = 0 then cmpN s.1 t.1 else cmpN s.2 t.2
theorem cmpQ_zero {s t : Nat × Nat} : cmpQ s t = 0 ↔ s = t := by
  unfold cmpQ
  by_cases h : cmpN s.2 t.2 = 0
  · rw [if_pos h, cmpN_zero]
    rw [cmpN_zero] at h
    exact ⟨fun h1 => Prod.ext h1 h, fun h1 => by rw [h1]⟩
  · rw [if_neg h]
    exact ⟨fun h1 => absurd h1 h, fun h1 => by rw [h1]; exact cmpN_zero.2 rfl⟩
theorem cmpQ_neg {s t : Nat × Nat} : cmpQ s t < 0 ↔ ltQ s t = true := by
  unfold cmpQ ltQ
  by_cases h : cmpN s.2 t.2 = 0
  · rw [if_pos h, cmpN_neg]
    rw [cmpN_zero] at h
    rw [h, ltR_irrefl, decide_eq_true rfl, Bool.false_or, Bool.true_and]
  · rw [if_neg h, cmpN_neg]
    rw [cmpN_zero] at h
    rw [decide_eq_false h, Bool.false_and, Bool.or_false]
theorem ltQ_irrefl (s : Nat × Nat) : ltQ s s = false := by unfold ltQ; simp [ltR_irrefl]
theorem ltQ_trans {a b c : Nat × Nat} (h : ltQ a b = true) (k : ltQ b c = true) : ltQ a c = true := by
  unfold ltQ at *
  rw [Bool.or_eq_true, Bool.and_eq_true, decide_eq_true_eq] at *
  rcases h with h | ⟨h1, h2⟩
  · rcases k with k | ⟨k1, k2⟩
    · exact .inl (ltR_trans _ _ _ h k)
    · rw [← k1]; exact .inl h
  · rcases k with k | ⟨k1, k2⟩
    · rw [h1]; exact .inl k
    · exact .inr ⟨h1.trans k1, ltR_trans _ _ _ h2 k2⟩
theorem ltQ_total {a b : Nat × Nat} (hne : a ≠ b) (h : ltQ a b = false) : ltQ b a = true := by
  unfold ltQ at *
  rw [Bool.or_eq_false_iff] at h
  rw [Bool.or_eq_true, Bool.and_eq_true, decide_eq_true_eq]
  by_cases h2 : a.2 = b.2
  · right
    have h1 : a.1 ≠ b.1 := fun h1 => hne (Prod.ext h1 h2)
    have hh := h.2
    rw [decide_eq_true h2, Bool.true_and] at hh
    exact ⟨h2.symm, ltR_total _ _ h1 hh⟩
  · left; exact ltR_total _ _ h2 h.1
/-- A strictly ascending list is known by its members. -/
theorem sortedQ_ext : ∀ (l m : List (Nat × Nat)), l.Pairwise (fun a b => ltQ a b = true) → m.Pairwise (fun a b => ltQ a b = true) → (∀ x, x ∈ l ↔ x ∈ m) → l = m
  | [], [], _, _, _ => rfl
  | [], b :: m, _, _, h => by have := (h b).2 (by simp); simp at this
  | a :: l, [], _, _, h => by have := (h a).1 (by simp); simp at this
  | a :: l, b :: m, hl, hm, h => by
    rw [List.pairwise_cons] at hl hm
    have hab : a = b := by
      rcases List.mem_cons.1 ((h a).1 List.mem_cons_self) with h1 | h1
      · exact h1
      · rcases List.mem_cons.1 ((h b).2 List.mem_cons_self) with h2 | h2
        · exact h2.symm
        · have := ltQ_trans (hl.1 b h2) (hm.1 a h1)
          rw [ltQ_irrefl] at this
          cases this
    subst hab
    rw [sortedQ_ext l m hl.2 hm.2 fun x => ?_]
    constructor
    · intro hx
      rcases List.mem_cons.1 ((h x).1 (List.mem_cons_of_mem _ hx)) with h1 | h1
      · subst h1
        have := hl.1 x hx
        rw [ltQ_irrefl] at this
        cases this
      · exact h1
    · intro hx
      rcases List.mem_cons.1 ((h x).2 (List.mem_cons_of_mem _ hx)) with h1 | h1
      · subst h1
        have := hm.1 x hx
        rw [ltQ_irrefl] at this
        cases this
      · exact h1
/-- Neither users nor permissions are empty. -/
def nonE (s : Nat × Nat) : Bool := !(decide (s.1 = 0) || decide (s.2 = 0))
section
variable {α : Type} (f : α → Nat × Nat)
/-- An element comes to its place, if none is equal. -/
def insU (r : α) : List α → List α
  | [] => [r]
  | k :: l => if cmpQ (f r) (f k) = 0 then k :: l else if cmpQ (f r) (f k) < 0 then r :: k :: l else k :: insU r l
/-- One step of the reference's way. -/
def insS (r : α) (st : List α × Bool) (k : α) : List α × Bool := if (!(st.2 || decide (cmpQ (f r) (f k) = 0)) && decide (cmpQ (f r) (f k) < 0)) = true then (st.1 ++ [r] ++ [k], true) else (st.1 ++ [k], st.2 || decide (cmpQ (f r) (f k) = 0))
def insF (r : α) (st : List α × Bool) : List α := if st.2 = true then st.1 else st.1 ++ [r]
theorem insS_done (r : α) : ∀ (l acc : List α), l.foldl (insS f r) (acc, true) = (acc ++ l, true)
  | [], acc => by simp
  | k :: l, acc => by
    rw [List.foldl_cons]
    have : insS f r (acc, true) k = (acc ++ [k], true) := by unfold insS; simp
    rw [this, insS_done r l, List.append_assoc]; rfl
theorem insS_fold (r : α) : ∀ (l acc : List α), insF r (l.foldl (insS f r) (acc, false)) = acc ++ insU f r l
  | [], acc => by simp [insF, insU]
  | k :: l, acc => by
    rw [List.foldl_cons]
    by_cases h0 : cmpQ (f r) (f k) = 0
    · have e : insS f r (acc, false) k = (acc ++ [k], true) := by unfold insS; simp [h0]
      rw [e, insS_done]
      unfold insU
      rw [if_pos h0]
      simp [insF]
    · by_cases h1 : cmpQ (f r) (f k) < 0
      · have e : insS f r (acc, false) k = (acc ++ [r] ++ [k], true) := by unfold insS; simp [h0, h1]
        rw [e, insS_done]
        unfold insU
        rw [if_neg h0, if_pos h1]
        simp [insF]
      · have e : insS f r (acc, false) k = (acc ++ [k], false) := by unfold insS; simp [h0, h1]
        rw [e, insS_fold r l (acc ++ [k]), List.append_assoc]
        conv => rhs; unfold insU
        rw [if_neg h0, if_neg h1]; rfl
theorem insU_mem (r : α) : ∀ (l : List α) (x : Nat × Nat), x ∈ (insU f r l).map f ↔ x = f r ∨ x ∈ l.map f
  | [], x => by simp [insU]
  | k :: l, x => by
    unfold insU
    by_cases h0 : cmpQ (f r) (f k) = 0
    · rw [if_pos h0]
      have := cmpQ_zero.1 h0
      rw [this]
      simp
    · rw [if_neg h0]
      split
      · simp
      · rw [List.map_cons, List.map_cons, List.mem_cons, List.mem_cons, insU_mem r l x]
        constructor
        · rintro (h | h | h)
          · exact .inr (.inl h)
          · exact .inl h
          · exact .inr (.inr h)
        · rintro (h | h | h)
          · exact .inr (.inl h)
          · exact .inl h
          · exact .inr (.inr h)
theorem insU_sorted (r : α) : ∀ (l : List α), (l.map f).Pairwise (fun a b => ltQ a b = true) → ((insU f r l).map f).Pairwise (fun a b => ltQ a b = true)
  | [], _ => by simp [insU]
  | k :: l, h => by
    have h' := h
    rw [List.map_cons, List.pairwise_cons] at h'
    unfold insU
    by_cases h0 : cmpQ (f r) (f k) = 0
    · rw [if_pos h0]; exact h
    · rw [if_neg h0]
      by_cases h1 : cmpQ (f r) (f k) < 0
      · rw [if_pos h1, List.map_cons, List.pairwise_cons]
        refine ⟨fun x hx => ?_, h⟩
        have hk := cmpQ_neg.1 h1
        rcases List.mem_cons.1 (List.map_cons ▸ hx : x ∈ f k :: l.map f) with rfl | hx
        · exact hk
        · exact ltQ_trans hk (h'.1 x hx)
      · rw [if_neg h1, List.map_cons, List.pairwise_cons]
        refine ⟨fun x hx => ?_, insU_sorted r l h'.2⟩
        rcases (insU_mem f r l x).1 hx with rfl | hx
        · refine ltQ_total (fun e => h0 (cmpQ_zero.2 e)) ?_
          rw [cmpQ_neg] at h1
          simpa using h1
        · exact h'.1 x hx
theorem insU_sub (r : α) : ∀ (l : List α) (x : α), x ∈ insU f r l → x = r ∨ x ∈ l
  | [], x, h => by simp [insU] at h; exact .inl h
  | k :: l, x, h => by
    unfold insU at h
    split at h
    · exact .inr h
    · split at h
      · rcases List.mem_cons.1 h with h | h
        · exact .inl h
        · exact .inr h
      · rcases List.mem_cons.1 h with h | h
        · exact .inr (h ▸ List.mem_cons_self)
        · rcases insU_sub r l x h with h | h
          · exact .inl h
          · exact .inr (List.mem_cons_of_mem _ h)
theorem insU_len (r : α) : ∀ (l : List α), (insU f r l).length ≤ l.length + 1
  | [] => by simp [insU]
  | k :: l => by
    unfold insU
    split
    · simp
    · split
      · simp
      · have := insU_len r l
        simp only [List.length_cons]; omega
end
/-- The numbers of the roles in normal order, of the first n. -/
def normI (f : Nat → Nat × Nat) (n : Nat) : List Nat := (List.range n).foldl (fun out r => if nonE (f r) = true then insU f r out else out) []
theorem normI_succ (f : Nat → Nat × Nat) (n : Nat) : normI f (n + 1) = if nonE (f n) = true then insU f n (normI f n) else normI f n := by unfold normI; rw [List.range_succ, List.foldl_append]; rfl
theorem normI_len (f : Nat → Nat × Nat) : ∀ n, (normI f n).length ≤ n
  | 0 => Nat.le_refl _
  | n + 1 => by
    have := normI_len f n
    rw [normI_succ]; split
    · exact Nat.le_trans (insU_len f n _) (by omega)
    · omega
theorem normI_lt (f : Nat → Nat × Nat) : ∀ n, ∀ k ∈ normI f n, k < n
  | 0, k, h => by cases h
  | n + 1, k, h => by
    rw [normI_succ] at h
    split at h
    · rcases insU_sub f n _ k h with h | h
      · omega
      · have := normI_lt f n k h; omega
    · have := normI_lt f n k h; omega
theorem normI_sorted (f : Nat → Nat × Nat) : ∀ n, ((normI f n).map f).Pairwise (fun a b => ltQ a b = true)
  | 0 => List.Pairwise.nil
  | n + 1 => by
    rw [normI_succ]; split
    · exact insU_sorted f n _ (normI_sorted f n)
    · exact normI_sorted f n
theorem normI_mem (f : Nat → Nat × Nat) (x : Nat × Nat) : ∀ n, x ∈ (normI f n).map f ↔ nonE x = true ∧ ∃ k, k < n ∧ f k = x
  | 0 => by
    constructor
    · intro h; cases h
    · rintro ⟨_, k, hk, _⟩; omega
  | n + 1 => by
    rw [normI_succ]
    have ih := normI_mem f x n
    split
    · rename_i hn
      rw [insU_mem, ih]
      constructor
      · rintro (h | ⟨h1, k, hk, h2⟩)
        · subst h; exact ⟨hn, n, by omega, rfl⟩
        · exact ⟨h1, k, by omega, h2⟩
      · rintro ⟨h1, k, hk, h2⟩
        by_cases e : k = n
        · subst e; exact .inl h2.symm
        · exact .inr ⟨h1, k, by omega, h2⟩
    · rename_i hn
      rw [ih]
      constructor
      · rintro ⟨h1, k, hk, h2⟩; exact ⟨h1, k, by omega, h2⟩
      · rintro ⟨h1, k, hk, h2⟩
        refine ⟨h1, k, ?_, h2⟩
        by_cases e : k = n
        · subst e; rw [h2] at hn; exact absurd h1 hn
        · omega
/-- The roles in normal order. -/
def atQ (L : List (Nat × Nat)) (k : Nat) : Nat × Nat := L.getD k (0, 0)
def normL (L : List (Nat × Nat)) : List (Nat × Nat) := (normI (atQ L) L.length).map (atQ L)
theorem normL_len (L : List (Nat × Nat)) : (normL L).length ≤ L.length := by unfold normL; rw [List.length_map]; exact normI_len _ _
theorem normL_sorted (L : List (Nat × Nat)) : (normL L).Pairwise (fun a b => ltQ a b = true) := normI_sorted _ _
theorem mem_normL {L : List (Nat × Nat)} {x : Nat × Nat} : x ∈ normL L ↔ x ∈ L ∧ nonE x = true := by
  unfold normL
  rw [normI_mem]
  constructor
  · rintro ⟨h1, k, hk, rfl⟩; exact ⟨getQ_mem hk, h1⟩
  · rintro ⟨h1, h2⟩
    obtain ⟨k, hk, rfl⟩ := List.mem_iff_getElem.1 h1
    exact ⟨h2, k, hk, by unfold atQ; rw [List.getD_eq_getElem?_getD, List.getElem?_eq_getElem hk]; rfl⟩
theorem normL_ext {L M : List (Nat × Nat)} (hs : M.Pairwise (fun a b => ltQ a b = true)) (hm : ∀ x, x ∈ M ↔ x ∈ L ∧ nonE x = true) : M = normL L :=
  sortedQ_ext M (normL L) hs (normL_sorted L) fun x => by rw [hm, mem_normL]
theorem normL_again (L : List (Nat × Nat)) : normL (normL L) = normL L :=
  (normL_ext (normL_sorted L) fun x => by rw [mem_normL]; exact ⟨fun h => ⟨h, h.2⟩, fun h => h.1⟩).symm
theorem WfQ.normL {R C : Nat} {L : List (Nat × Nat)} (h : WfQ R C L) : WfQ R C (normL L) := fun s hs => h s (mem_normL.1 hs).1
theorem givQ_normL {L : List (Nat × Nat)} {i j : Nat} : givQ (normL L) i j ↔ givQ L i j := by
  constructor
  · rintro ⟨s, hs, h⟩; exact ⟨s, (mem_normL.1 hs).1, h⟩
  · rintro ⟨s, hs, h1, h2⟩
    refine ⟨s, mem_normL.2 ⟨hs, ?_⟩, h1, h2⟩
    unfold nonE
    have e1 : ¬ s.1 = 0 := fun e => by rw [e] at h1; simp at h1
    have e2 : ¬ s.2 = 0 := fun e => by rw [e] at h2; simp at h2
    rw [decide_eq_false e1, decide_eq_false e2]; rfl
theorem valid_normL {C : Nat} {Ns : List Nat} {L : List (Nat × Nat)} (hl : L.length ≤ 4096) (h : validQ C Ns L = true) : validQ C Ns (normL L) = true := by
  rw [validQ_iff (Nat.le_trans (normL_len L) hl)]
  rw [validQ_iff hl] at h
  intro i hi j
  rw [givQ_normL]
  exact h i hi j
end Go.Proofs.YtfbkcdhmggjbaaaGreatDoor
