/-
  Proofs that go through all cases: their form, and that they are accepted, in plain words.
-/
import Derived.Test.YtgpooflcbljidaaDoorRk2
namespace Go.Proofs.YtgpooflcbljidaaDoor
open Go.RowKit

def kidsL (g : Nat → Nat → List Nd) : Nat → List Nat → List Nd × List Int
  | _, [] => ([], [])
  | off, s :: l => (g off s ++ (kidsL g (off + (g off s).length) l).1, (off : Int) :: (kidsL g (off + (g off s).length) l).2)
theorem kidsL_len (g : Nat → Nat → List Nd) : ∀ (l : List Nat) (off : Nat), (kidsL g off l).2.length = l.length
  | [], _ => rfl
  | s :: l, off => by rw [kidsL]; simp [kidsL_len g l]
/-- The cell on which a proof branches. -/
def cellL (last : Bool) (o : List (Nat × Nat)) : Nat × Nat := if last = true then o.getLastD (0, 0) else o.headD (0, 0)
/-- The nodes of a proof that b concepts do not cover the cells; the first of them has the number off. -/
def growL (C : Nat) (Ns : List Nat) (last : Bool) : Nat → Nat → List (Nat × Nat) → List Nd
  | 0, _, o => [⟨2, 0, 0, [], [(((o.headD (0, 0)).1 : Int), ((o.headD (0, 0)).2 : Int))]⟩]
  | b + 1, off, o =>
    if (b + 1) * mostL C Ns o < o.length ∧ last = true then [⟨3, 0, 0, [], []⟩]
    else ⟨1, ((cellL last o).1 : Int), ((cellL last o).2 : Int), (kidsL (fun off s => growL C Ns last b off (lessL C Ns o s)) (off + 1) (conL C Ns (cellL last o).1 (cellL last o).2)).2, []⟩ ::
      (kidsL (fun off s => growL C Ns last b off (lessL C Ns o s)) (off + 1) (conL C Ns (cellL last o).1 (cellL last o).2)).1
theorem growL_pos (C : Nat) (Ns : List Nat) (last : Bool) (b off : Nat) (o : List (Nat × Nat)) : 0 < (growL C Ns last b off o).length := by
  cases b with
  | zero => simp [growL]
  | succ b => rw [growL]; split <;> simp
/-- A part of a list of nodes stands at a place. -/
def At (P : List Nd) (off : Nat) (L : List Nd) : Prop := ∃ pre post, P = pre ++ L ++ post ∧ pre.length = off
theorem At.get {P : List Nd} {off : Nat} {L : List Nd} (h : At P off L) {i : Nat} (hi : i < L.length) : P.getD (off + i) default = L.getD i default := by
  obtain ⟨pre, post, rfl, rfl⟩ := h
  rw [List.getD_eq_getElem?_getD, List.getD_eq_getElem?_getD, List.append_assoc, List.getElem?_append_right (by omega), Nat.add_sub_cancel_left, List.getElem?_append_left hi]
theorem At.left {P : List Nd} {off : Nat} {L K : List Nd} (h : At P off (L ++ K)) : At P off L := by
  obtain ⟨pre, post, rfl, rfl⟩ := h; exact ⟨pre, K ++ post, by simp, rfl⟩
theorem At.right {P : List Nd} {off : Nat} {L K : List Nd} (h : At P off (L ++ K)) : At P (off + L.length) K := by
  obtain ⟨pre, post, rfl, rfl⟩ := h; exact ⟨pre ++ L, post, by simp, by simp⟩
theorem At.tail {P : List Nd} {off : Nat} {x : Nd} {K : List Nd} (h : At P off (x :: K)) : At P (off + 1) K := At.right (L := [x]) h
theorem kids_ok {g : Nat → Int → Int × Int} {q : Nat → Nat → List Nd} {P : List Nd} : ∀ (l : List Nat) (off : Nat), At P off (kidsL q off l).1 → (∀ s ∈ l, ∀ off, At P off (q off s) → g s (off : Int) = (1, 0)) → kidsF g (l.zip (kidsL q off l).2) = (1, 0)
  | [], _, _, _ => rfl
  | s :: l, off, h, hg => by
    rw [kidsL] at h ⊢
    dsimp only at h ⊢
    have h1 := hg s (by simp) off h.left
    rw [List.zip_cons_cons, kidsF, h1, if_neg (by simp)]
    exact kids_ok l _ h.right fun t ht => hg t (by simp [ht])
theorem cellL_mem {last : Bool} {o : List (Nat × Nat)} (h : o ≠ []) : cellL last o ∈ o := by
  unfold cellL
  match o, h with
  | c :: o, _ =>
    split
    · rw [List.getLastD_eq_getLast?, List.getLast?_eq_some_getLast (by simp), Option.getD_some]; exact List.getLast_mem _
    · simp
theorem cov_less {C : Nat} {Ns : List Nat} {b : Nat} {o : List (Nat × Nat)} {s : Nat} (hs : cloN C Ns s = s) (h : Cov C Ns b (lessL C Ns o s)) : Cov C Ns (b + 1) o := by
  obtain ⟨l, hl, hk, hc⟩ := h
  refine ⟨s :: l, by simp; omega, fun t ht => ?_, fun d hd => ?_⟩
  · rcases List.mem_cons.1 ht with rfl | ht
    · exact hs
    · exact hk t ht
  · cases hin : inS C Ns s d
    · obtain ⟨t, ht, h2⟩ := hc d (mem_lessL.2 ⟨hd, hin⟩)
      exact ⟨t, by simp [ht], h2⟩
    · exact ⟨s, by simp, hin⟩
/-- A proof that goes through all cases is accepted, where it is true. -/
theorem grow_ok {C : Nat} {Ns : List Nat} (hC : C ≤ 12) {last : Bool} {P : List Nd} : ∀ (b f off : Nat) (o : List (Nat × Nat)), b < f → ¬ Cov C Ns b o → At P off (growL C Ns last b off o) → nodeR C Ns P f off b o = (1, 0)
  | 0, f + 1, off, o, _, hcov, hat => by
    have hne : o ≠ [] := fun e => hcov (by subst e; exact ⟨[], by simp, by simp, by simp⟩)
    have hg := hat.get (i := 0) (by rw [growL]; simp)
    rw [growL, Nat.add_zero] at hg
    have hx : P.getD off default = ⟨2, 0, 0, [], [(((o.headD (0, 0)).1 : Int), ((o.headD (0, 0)).2 : Int))]⟩ := hg
    have hm : o.headD (0, 0) ∈ o := by match o, hne with | c :: o, _ => simp
    have hin : isIn o (((o.headD (0, 0)).1 : Int), ((o.headD (0, 0)).2 : Int)) = true := isIn_iff.2 ⟨_, hm, rfl⟩
    rw [nodeR, Int.toNat_natCast, hx, if_pos rfl, if_neg (by simp only [List.all_cons, List.all_nil, hin]; decide), if_neg (by simp [apartB])]
  | b + 1, f + 1, off, o, hbf, hcov, hat => by
    have hne : o ≠ [] := fun e => hcov (by subst e; exact ⟨[], by simp, by simp, by simp⟩)
    rw [growL] at hat
    by_cases hcnt : (b + 1) * mostL C Ns o < o.length ∧ last = true
    · rw [if_pos hcnt] at hat
      have hg := hat.get (i := 0) (by simp)
      rw [Nat.add_zero] at hg
      have hx : P.getD off default = ⟨3, 0, 0, [], []⟩ := hg
      rw [nodeR, Int.toNat_natCast, hx]
      have h1 := hcnt.1
      have h2 : ¬ (12 < C ∨ (o.length : Int) ≤ ((b + 1 : Nat) : Int) * (mostL C Ns o : Int)) := by
        rw [← Int.natCast_mul]; omega
      rw [if_neg (by simp), if_pos rfl, if_neg h2]
    · rw [if_neg hcnt] at hat
      have hg := hat.get (i := 0) (by simp)
      have ht := hat.tail
      rw [Nat.add_zero] at hg
      generalize hr : kidsL (fun off s => growL C Ns last b off (lessL C Ns o s)) (off + 1) (conL C Ns (cellL last o).1 (cellL last o).2) = r at hg ht
      have hx : P.getD off default = ⟨1, ((cellL last o).1 : Int), ((cellL last o).2 : Int), r.2, []⟩ := hg
      have hm := cellL_mem (last := last) hne
      have hin : isIn o (((cellL last o).1 : Int), ((cellL last o).2 : Int)) = true := isIn_iff.2 ⟨_, hm, rfl⟩
      have hlen : (conL C Ns (cellL last o).1 (cellL last o).2).length = r.2.length := by rw [← hr, kidsL_len]
      rw [nodeR, Int.toNat_natCast, hx]
      rw [if_neg (by simp), if_neg (by simp), if_neg (by simp [hin]), if_neg (by omega)]
      dsimp only
      rw [Int.toNat_natCast, Int.toNat_natCast, if_neg (by simp [hlen]), ← hr]
      rw [← hr] at ht
      refine kids_ok _ _ ht fun s hs off' h' => ?_
      have hc := (mem_con.1 hs).1
      rw [show ((b + 1 : Nat) : Int) - 1 = (b : Int) by omega]
      exact grow_ok hC b f off' _ (by omega) (fun h => hcov (cov_less hc h)) h'

/-! The form of such a proof. -/
def chOf (L : List Nd) : List Int := L.flatMap Nd.ch
theorem chOf_append (L K : List Nd) : chOf (L ++ K) = chOf L ++ chOf K := by simp [chOf]
/-- Kinds, children behind their parents, each node but the first the child of just one. -/
def Tree (L : List Nd) (off : Nat) : Prop := (∀ i, i < L.length → ((1 ≤ (L.getD i default).kind ∧ (L.getD i default).kind ≤ 3) ∧ ((L.getD i default).kind ≠ 1 → (L.getD i default).ch = [])) ∧ ∀ c ∈ (L.getD i default).ch, ((off + i : Nat) : Int) < c ∧ c < ((off + L.length : Nat) : Int)) ∧
  (chOf L).Perm ((List.range' (off + 1) (L.length - 1)).map Int.ofNat)
theorem range_cut (a n m : Nat) : List.range' a (n + m) = List.range' a n ++ List.range' (a + n) m := by
  rw [List.range'_append_1]
theorem kids_tree {q : Nat → Nat → List Nd} (hq : ∀ off s, Tree (q off s) off ∧ 0 < (q off s).length) : ∀ (l : List Nat) (off : Nat),
    (∀ i, i < (kidsL q off l).1.length → ((1 ≤ ((kidsL q off l).1.getD i default).kind ∧ ((kidsL q off l).1.getD i default).kind ≤ 3) ∧ (((kidsL q off l).1.getD i default).kind ≠ 1 → ((kidsL q off l).1.getD i default).ch = [])) ∧ ∀ c ∈ ((kidsL q off l).1.getD i default).ch, ((off + i : Nat) : Int) < c ∧ c < ((off + (kidsL q off l).1.length : Nat) : Int)) ∧
    ((kidsL q off l).2 ++ chOf (kidsL q off l).1).Perm ((List.range' off (kidsL q off l).1.length).map Int.ofNat) ∧ ∀ c ∈ (kidsL q off l).2, (off : Int) ≤ c ∧ c < ((off + (kidsL q off l).1.length : Nat) : Int)
  | [], off => by simp [kidsL, chOf]
  | s :: l, off => by
    obtain ⟨⟨h1, h2⟩, hp⟩ := hq off s
    obtain ⟨k1, k2, k3⟩ := kids_tree hq l (off + (q off s).length)
    rw [kidsL]
    dsimp only
    generalize hK : kidsL q (off + (q off s).length) l = K at k1 k2 k3
    generalize hL : q off s = L at h1 h2 hp k1 k2 k3
    refine ⟨fun i hi => ?_, ?_, fun c hc => ?_⟩
    · rw [List.length_append] at hi ⊢
      by_cases h : i < L.length
      · have e : (L ++ K.1).getD i default = L.getD i default := by rw [List.getD_eq_getElem?_getD, List.getD_eq_getElem?_getD, List.getElem?_append_left h]
        rw [e]
        exact ⟨(h1 i h).1, fun c hc => by have := (h1 i h).2 c hc; omega⟩
      · have e : (L ++ K.1).getD i default = K.1.getD (i - L.length) default := by rw [List.getD_eq_getElem?_getD, List.getD_eq_getElem?_getD, List.getElem?_append_right (by omega)]
        rw [e]
        exact ⟨(k1 _ (by omega)).1, fun c hc => by have := (k1 _ (by omega)).2 c hc; omega⟩
    · rw [chOf_append, List.length_append, range_cut, List.map_append]
      have e : List.range' off L.length = off :: List.range' (off + 1) (L.length - 1) := by
        conv => lhs; rw [show L.length = (L.length - 1) + 1 by omega, List.range'_succ]
      rw [e, List.map_cons, List.cons_append, List.cons_append]
      refine List.Perm.cons _ ?_
      rw [← List.append_assoc]
      refine (List.perm_append_comm.append_right _).trans ?_
      rw [List.append_assoc]
      exact h2.append k2
    · rw [List.length_append]
      rcases List.mem_cons.1 hc with rfl | hc
      · omega
      · have := k3 c hc; omega
theorem grow_tree (C : Nat) (Ns : List Nat) (last : Bool) : ∀ (b off : Nat) (o : List (Nat × Nat)), Tree (growL C Ns last b off o) off
  | 0, off, o => by
    rw [growL]
    refine ⟨fun i hi => ?_, by simp [chOf]⟩
    obtain rfl : i = 0 := by simpa using hi
    simp
  | b + 1, off, o => by
    rw [growL]
    split
    · refine ⟨fun i hi => ?_, by simp [chOf]⟩
      obtain rfl : i = 0 := by simpa using hi
      simp
    · obtain ⟨k1, k2, k3⟩ := kids_tree (q := fun off s => growL C Ns last b off (lessL C Ns o s)) (fun off s => ⟨grow_tree C Ns last b off _, growL_pos C Ns last b off _⟩) (conL C Ns (cellL last o).1 (cellL last o).2) (off + 1)
      generalize kidsL (fun off s => growL C Ns last b off (lessL C Ns o s)) (off + 1) (conL C Ns (cellL last o).1 (cellL last o).2) = r at k1 k2 k3
      refine ⟨fun i hi => ?_, ?_⟩
      · rw [List.length_cons] at hi ⊢
        cases i with
        | zero => exact ⟨⟨⟨by simp, by simp⟩, fun h => by simp at h⟩, fun c hc => by have := k3 c hc; omega⟩
        | succ i => exact ⟨(k1 i (by omega)).1, fun c hc => by have := (k1 i (by omega)).2 c hc; omega⟩
      · rw [List.length_cons, Nat.add_sub_cancel]
        exact k2
end Go.Proofs.YtgpooflcbljidaaDoor
