/-
  What Check says of proofs, in plain words: what is accepted is true, and proofs that go through all cases are accepted.
-/
import Derived.Test.YthnphekhgaefdaaDoorRn6
import Derived.Test.YthnphekhgaefdaaDoorRr6
namespace Go.Proofs.YthnphekhgaefdaaDoor
open Go.RowKit

theorem under_refl (Ns : List Nat) : Under Ns Ns := ⟨rfl, fun _ _ _ h => h⟩
theorem firstBad_all {P : List Nd} (h : firstBad P = none) : ∀ n, n < P.length → badN P n = false := fun n hn => by
  unfold firstBad at h
  rw [List.find?_eq_none] at h
  have := h n (List.mem_range.2 hn)
  simpa using this
/-- What is accepted is true. -/
theorem check_sound {C : Nat} {Ns : List Nat} (hC : C ≤ 12) (hl : Ns.length ≤ 4096) (hin : rowsIn C Ns) {size : Int} {P : List Nd} (h : (checkP C Ns size P).1 = 1) : size = 0 ∨ (1 ≤ size ∧ ¬ Cov C Ns (size - 1).toNat (cellsOf Ns)) := by
  unfold checkP at h
  by_cases hb : size < 0 ∨ 256 < size ∨ P.length < 1 ∨ 5000 < P.length
  · rw [if_pos hb] at h; exact absurd h (by simp)
  · rw [if_neg hb] at h
    cases hf : firstBad P with
    | some n => rw [hf] at h; exact absurd h (by simp)
    | none =>
      rw [hf] at h
      dsimp only at h
      by_cases h0 : size = 0
      · exact .inl h0
      · rw [if_neg h0] at h
        refine .inr ⟨by omega, ?_⟩
        rw [nodeP_eq hC hl hin P _ _ _ _ (under_refl Ns)] at h
        exact nodeR_sound hl (form_ok (firstBad_all hf)) P.length 0 (size - 1) _ (by omega) (by omega) (by omega) h
theorem mem_chOf {P : List Nd} {c : Int} (h : c ∈ chOf P) : ∃ (i : Nat) (x : Nd), P[i]? = some x ∧ c ∈ x.ch := by
  unfold chOf at h
  obtain ⟨x, hx, hc⟩ := List.mem_flatMap.1 h
  obtain ⟨i, hi, e⟩ := List.getElem_of_mem hx
  exact ⟨i, x, by rw [List.getElem?_eq_getElem hi, e], hc⟩
theorem chOf_at {P : List Nd} {n : Nat} {x : Nd} (hx : P[n]? = some x) : chOf P = earl P n ++ x.ch ++ chOf (P.drop (n + 1)) := by
  obtain ⟨hn, e⟩ := List.getElem?_eq_some_iff.1 hx
  have : P = P.take n ++ x :: P.drop (n + 1) := by
    conv => lhs; rw [← List.take_append_drop n P, List.drop_eq_getElem_cons hn, e]
  conv => lhs; rw [this]
  rw [chOf_append]
  show _ = (P.take n).flatMap Nd.ch ++ _ ++ _
  rw [List.append_assoc]
  congr 1
/-- The form of a tree is right. -/
theorem tree_form {P : List Nd} (h : Tree P 0) : ∀ n, n < P.length → badN P n = false := fun n hn => by
  obtain ⟨h1, h2⟩ := h
  obtain ⟨x, hx⟩ : ∃ x, P[n]? = some x := ⟨_, List.getElem?_eq_getElem hn⟩
  have hxd : P.getD n default = x := by rw [List.getD_eq_getElem?_getD, hx]; rfl
  obtain ⟨⟨⟨k1, k2⟩, k3⟩, k4⟩ := h1 n hn
  rw [hxd] at k1 k2 k3 k4
  have hnd : (chOf P).Nodup := h2.nodup_iff.2 (by
    unfold List.Nodup
    rw [List.pairwise_map]
    exact (List.nodup_range' (step := 1) (by omega)).imp fun h e => h (Int.ofNat.inj e))
  have hearl : 0 < n → (n : Int) ∈ earl P n := fun h0 => by
    have hm : (n : Int) ∈ chOf P := h2.mem_iff.2 (List.mem_map.2 ⟨n, by rw [List.mem_range'_1]; omega, rfl⟩)
    obtain ⟨i, y, hy, hc⟩ := mem_chOf hm
    have hi := (List.getElem?_eq_some_iff.1 hy).1
    have hb := (h1 i hi).2 (n : Int) (by rw [List.getD_eq_getElem?_getD, hy]; exact hc)
    unfold earl
    rw [List.mem_flatMap]
    exact ⟨y, List.mem_of_getElem? (i := i) (by rw [List.getElem?_take, if_pos (by omega)]; exact hy), hc⟩
  unfold badN
  rw [hxd, Bool.or_eq_false_iff]
  constructor
  · unfold badH
    have e1 : decide (x.kind < 1) = false := decide_eq_false (by omega)
    have e2 : decide (3 < x.kind) = false := decide_eq_false (by omega)
    have e3 : (decide (x.kind ≠ 1) && decide (0 < x.ch.length)) = false := by
      by_cases hk : x.kind = 1
      · simp [hk]
      · rw [k3 hk]; simp
    have e4 : (decide (0 < n) && !decide ((n : Int) ∈ earl P n)) = false := by
      by_cases h0 : 0 < n
      · rw [decide_eq_true (hearl h0)]; simp
      · rw [decide_eq_false h0]; rfl
    rw [e1, e2, e3, e4]; rfl
  · rw [List.any_eq_false]
    intro i hi
    rw [List.mem_range] at hi
    have hc : x.ch.getD i 0 = x.ch[i] := by rw [List.getD_eq_getElem?_getD, List.getElem?_eq_getElem hi]; rfl
    have hm : x.ch[i] ∈ x.ch := List.getElem_mem hi
    have hb := k4 _ hm
    rw [hc]
    unfold badC
    have e1 : decide (x.ch[i] ≤ (n : Int)) = false := decide_eq_false (by omega)
    have e2 : decide ((P.length : Int) ≤ x.ch[i]) = false := decide_eq_false (by omega)
    have e3 : decide (x.ch[i] ∈ earl P n ++ x.ch.take i) = false := decide_eq_false fun hmem => by
      rw [chOf_at hx] at hnd
      have hnd2 := (List.nodup_append.1 hnd).1
      have hsp : earl P n ++ x.ch = (earl P n ++ x.ch.take i) ++ x.ch[i] :: x.ch.drop (i + 1) := by
        conv => lhs; rw [← List.take_append_drop i x.ch, List.drop_eq_getElem_cons hi]
        rw [List.append_assoc]
      rw [hsp, List.nodup_append] at hnd2
      exact hnd2.2.2 _ hmem _ (List.mem_cons_self ..) rfl
    rw [e1, e2, e3]; simp
theorem kids_ok2 {g : Nat → Int → Int × Int} {q : Nat → Nat → List Nd} {P : List Nd} {lo : Nat} : ∀ (l : List Nat) (off : Nat), lo ≤ off → At P off (kidsL q off l).1 → (∀ s ∈ l, ∀ off, lo ≤ off → At P off (q off s) → g s (off : Int) = (1, 0)) → kidsF g (l.zip (kidsL q off l).2) = (1, 0)
  | [], _, _, _, _ => rfl
  | s :: l, off, hlo, h, hg => by
    rw [kidsL] at h ⊢
    dsimp only at h ⊢
    have h1 := hg s (by simp) off hlo h.left
    rw [List.zip_cons_cons, kidsF, h1, if_neg (by simp)]
    exact kids_ok2 l _ (by omega) h.right fun t ht => hg t (by simp [ht])
theorem At.lt {P : List Nd} {off : Nat} {L : List Nd} (h : At P off L) (hL : 0 < L.length) : off < P.length := by
  obtain ⟨pre, post, rfl, rfl⟩ := h
  simp; omega
/-- A proof that goes through all cases is accepted, where it is true: fuel for all later nodes is enough. -/
theorem grow_ok2 {C : Nat} {Ns : List Nat} (hC : C ≤ 12) {last : Bool} {P : List Nd} : ∀ (b f off : Nat) (o : List (Nat × Nat)), P.length ≤ f + off → ¬ Cov C Ns b o → At P off (growL C Ns last b off o) → nodeR C Ns P f off b o = (1, 0)
  | 0, f, off, o, hf, hcov, hat => by
    have hlt := hat.lt (growL_pos C Ns last 0 off o)
    obtain ⟨f', rfl⟩ : ∃ f', f = f' + 1 := ⟨f - 1, by omega⟩
    exact grow_ok hC 0 (f' + 1) off o (by omega) hcov hat
  | b + 1, f, off, o, hf, hcov, hat => by
    have hlt := hat.lt (growL_pos C Ns last (b + 1) off o)
    obtain ⟨f, rfl⟩ : ∃ f', f = f' + 1 := ⟨f - 1, by omega⟩
    have hne : o ≠ [] := fun e => hcov (by subst e; exact ⟨[], by simp, by simp, by simp⟩)
    rw [growL] at hat
    by_cases hcnt : (b + 1) * mostL C Ns o < o.length ∧ last = true
    · rw [if_pos hcnt] at hat
      have hg := hat.get (i := 0) (by simp)
      rw [Nat.add_zero] at hg
      have hx : P.getD off default = ⟨3, 0, 0, [], []⟩ := hg
      rw [nodeR, Int.toNat_natCast, hx]
      have h1 := hcnt.1
      have h2 : ¬ (12 < C ∨ (o.length : Int) ≤ ((b + 1 : Nat) : Int) * (mostL C Ns o : Int)) := by
        rw [← Int.natCast_mul]; omega
      rw [if_neg (by simp), if_pos rfl, if_neg h2]
    · rw [if_neg hcnt] at hat
      have hg := hat.get (i := 0) (by simp)
      have ht := hat.tail
      rw [Nat.add_zero] at hg
      generalize hr : kidsL (fun off s => growL C Ns last b off (lessL C Ns o s)) (off + 1) (conL C Ns (cellL last o).1 (cellL last o).2) = r at hg ht
      have hx : P.getD off default = ⟨1, ((cellL last o).1 : Int), ((cellL last o).2 : Int), r.2, []⟩ := hg
      have hm := cellL_mem (last := last) hne
      have hin : isIn o (((cellL last o).1 : Int), ((cellL last o).2 : Int)) = true := isIn_iff.2 ⟨_, hm, rfl⟩
      have hlen : (conL C Ns (cellL last o).1 (cellL last o).2).length = r.2.length := by rw [← hr, kidsL_len]
      rw [nodeR, Int.toNat_natCast, hx]
      rw [if_neg (by simp), if_neg (by simp), if_neg (by simp [hin]), if_neg (by omega)]
      dsimp only
      rw [Int.toNat_natCast, Int.toNat_natCast, if_neg (by simp [hlen]), ← hr]
      rw [← hr] at ht
      refine kids_ok2 (lo := off + 1) _ _ (Nat.le_refl _) ht fun s hs off' hlo h' => ?_
      have hc := (mem_con.1 hs).1
      rw [show ((b + 1 : Nat) : Int) - 1 = (b : Int) by omega]
      exact grow_ok2 hC b f off' _ (by omega) (fun h => hcov (cov_less hc h)) h'
theorem check_grow {C : Nat} {Ns : List Nat} (hC : C ≤ 12) (hl : Ns.length ≤ 4096) (hin : rowsIn C Ns) {last : Bool} {size : Nat} (h1 : 1 ≤ size) (h2 : size ≤ 256) (hcov : ¬ Cov C Ns (size - 1) (cellsOf Ns)) (hlen : (growL C Ns last (size - 1) 0 (cellsOf Ns)).length ≤ 5000) : checkP C Ns size (growL C Ns last (size - 1) 0 (cellsOf Ns)) = (1, 0) := by
  have hpos := growL_pos C Ns last (size - 1) 0 (cellsOf Ns)
  have htr := grow_tree C Ns last (size - 1) 0 (cellsOf Ns)
  have hok := fun (P : List Nd) hat => grow_ok2 hC (P := P) (last := last) (size - 1) P.length 0 (cellsOf Ns) (by omega) hcov hat
  generalize growL C Ns last (size - 1) 0 (cellsOf Ns) = P at hlen hpos htr hok ⊢
  unfold checkP
  rw [if_neg (by omega), firstBad_none (tree_form htr)]
  dsimp only
  rw [if_neg (by omega), nodeP_eq hC hl hin P _ _ _ _ (under_refl Ns)]
  have := hok P ⟨[], [], by simp, rfl⟩
  rw [show ((size : Int) - 1) = ((size - 1 : Nat) : Int) by omega]
  exact this
/-- The nodes of such a proof. -/
theorem grow_nodes (C : Nat) (Ns : List Nat) (last : Bool) : ∀ (b off : Nat) (o : List (Nat × Nat)), ∀ x ∈ growL C Ns last b off o, x.ch.length ≤ 2 ^ C ∧ x.cells.length ≤ 1 ∧ 1 ≤ x.kind ∧ x.kind ≤ 3
  | 0, off, o, x, hx => by
    rw [growL, List.mem_singleton] at hx
    subst hx
    exact ⟨Nat.zero_le _, Nat.le_refl _, by show (1 : Int) ≤ 2; decide, by show (2 : Int) ≤ 3; decide⟩
  | b + 1, off, o, x, hx => by
    rw [growL] at hx
    split at hx
    · rw [List.mem_singleton] at hx
      subst hx
      exact ⟨Nat.zero_le _, Nat.zero_le _, by decide, by decide⟩
    · rcases List.mem_cons.1 hx with rfl | hx
      · refine ⟨?_, Nat.zero_le _, by show (1 : Int) ≤ 1; decide, by show (1 : Int) ≤ 3; decide⟩
        dsimp only
        rw [kidsL_len]
        exact con_len _ _ _
      · have key : ∀ (l : List Nat) (off : Nat), ∀ x ∈ (kidsL (fun off s => growL C Ns last b off (lessL C Ns o s)) off l).1, x.ch.length ≤ 2 ^ C ∧ x.cells.length ≤ 1 ∧ 1 ≤ x.kind ∧ x.kind ≤ 3 := by
          intro l
          induction l with
          | nil => intro off x hx; simp [kidsL] at hx
          | cons s l ih =>
            intro off x hx
            rw [kidsL] at hx
            rcases List.mem_append.1 hx with hx | hx
            · exact grow_nodes C Ns last b _ _ x hx
            · exact ih _ x hx
        exact key _ _ x hx
end Go.Proofs.YthnphekhgaefdaaDoor
