import Derived.Test.YtlakjhhpdbgekaaGreatDoorCvG
import Derived.Test.YtlakjhhpdbgekaaGreatDoorCvT
import Derived.Test.YtlakjhhpdbgekaaGreatDoorRn6
import Derived.Test.YtlakjhhpdbgekaaGreatDoorRk9
/-
  Plain: the proof that Minimal returns is accepted, and none of a greater size.
-/
namespace Go.Proofs.YtlakjhhpdbgekaaGreatDoor
open Go.RowKit

section
variable {C : Nat} {Ns L : List Nat}
theorem kidsQ_len {R : Nat → Nat → List Nd → Prop} : ∀ {l : List Nat} {off : Nat} {K : List Nd} {ch : List Int}, KidsQ R off l K ch → ch.length = l.length
  | [], _, _, _, h => by obtain ⟨-, rfl⟩ := h; rfl
  | _ :: _, _, _, _, h => by obtain ⟨Q, K', ch', _, h2, -, rfl⟩ := h; rw [List.length_cons, List.length_cons, kidsQ_len h2]
theorem kidsQ_tree {R : Nat → Nat → List Nd → Prop} (hR : ∀ off k Q, R off k Q → Tree Q off ∧ 0 < Q.length) : ∀ {l : List Nat} {off : Nat} {K : List Nd} {ch : List Int}, KidsQ R off l K ch →
    (∀ i, i < K.length → ((1 ≤ (K.getD i default).kind ∧ (K.getD i default).kind ≤ 3) ∧ ((K.getD i default).kind ≠ 1 → (K.getD i default).ch = [])) ∧ ∀ c ∈ (K.getD i default).ch, ((off + i : Nat) : Int) < c ∧ c < ((off + K.length : Nat) : Int)) ∧
    (ch ++ chOf K).Perm ((List.range' off K.length).map Int.ofNat) ∧ ∀ c ∈ ch, (off : Int) ≤ c ∧ c < ((off + K.length : Nat) : Int)
  | [], off, K, ch, h => by obtain ⟨rfl, rfl⟩ := h; simp [chOf]
  | s :: l, off, K, ch, h => by
    obtain ⟨Q, K', ch', h0, h2', rfl, rfl⟩ := h
    obtain ⟨⟨h1, h2⟩, hp⟩ := hR off s Q h0
    obtain ⟨k1, k2, k3⟩ := kidsQ_tree hR h2'
    refine ⟨fun i hi => ?_, ?_, fun c hc => ?_⟩
    · rw [List.length_append] at hi ⊢
      by_cases h : i < Q.length
      · have e : (Q ++ K').getD i default = Q.getD i default := by rw [List.getD_eq_getElem?_getD, List.getD_eq_getElem?_getD, List.getElem?_append_left h]
        rw [e]
        exact ⟨(h1 i h).1, fun c hc => by have := (h1 i h).2 c hc; omega⟩
      · have e : (Q ++ K').getD i default = K'.getD (i - Q.length) default := by rw [List.getD_eq_getElem?_getD, List.getD_eq_getElem?_getD, List.getElem?_append_right (by omega)]
        rw [e]
        exact ⟨(k1 _ (by omega)).1, fun c hc => by have := (k1 _ (by omega)).2 c hc; omega⟩
    · rw [chOf_append, List.length_append, range_cut, List.map_append]
      have e : List.range' off Q.length = off :: List.range' (off + 1) (Q.length - 1) := by
        conv => lhs; rw [show Q.length = (Q.length - 1) + 1 by omega, List.range'_succ]
      rw [e, List.map_cons, List.cons_append, List.cons_append]
      refine List.Perm.cons _ ?_
      rw [← List.append_assoc]
      refine (List.perm_append_comm.append_right _).trans ?_
      rw [List.append_assoc]
      exact h2.append k2
    · rw [List.length_append]
      rcases List.mem_cons.1 hc with rfl | hc
      · omega
      · have := k3 c hc; omega
theorem kidsQ_ok {R : Nat → Nat → List Nd → Prop} {g : Nat → Int → Int × Int} {P : List Nd} {lo : Nat} {f : Nat → Nat} : ∀ {l : List Nat} {off : Nat} {K : List Nd} {ch : List Int}, KidsQ R off l K ch → lo ≤ off → At P off K →
    (∀ k ∈ l, ∀ off Q, lo ≤ off → R off k Q → At P off Q → g (f k) (off : Int) = (1, 0)) → kidsF g ((l.map f).zip ch) = (1, 0)
  | [], _, _, _, h, _, _, _ => by obtain ⟨-, rfl⟩ := h; rfl
  | s :: l, off, K, ch, h, hlo, hat, hg => by
    obtain ⟨Q, K', ch', h0, h2, rfl, rfl⟩ := h
    have h1 := hg s (by simp) off Q hlo h0 hat.left
    rw [List.map_cons, List.zip_cons_cons, kidsF, h1, if_neg (by simp)]
    exact kidsQ_ok h2 (by omega) hat.right fun k hk => hg k (by simp [hk])
theorem tree_one {x : Nd} {off : Nat} (h1 : 1 ≤ x.kind ∧ x.kind ≤ 3) (h2 : x.ch = []) : Tree [x] off := by
  refine ⟨fun i hi => ?_, by simp [chOf, h2]⟩
  obtain rfl : i = 0 := by simpa using hi
  refine ⟨⟨h1, fun _ => h2⟩, fun c hc => ?_⟩
  have e : ([x].getD 0 default).ch = [] := h2
  rw [e] at hc; simp at hc
theorem gq_tree : ∀ (b off : Nat) (o : List (Nat × Nat)) (Q : List Nd), GQ C Ns L b off o Q → Tree Q off ∧ 0 < Q.length
  | 0, off, o, Q, h => by
    obtain ⟨cells, _, _, rfl⟩ := h
    exact ⟨tree_one ⟨by show (1 : Int) ≤ 2; decide, by show (2 : Int) ≤ 3; decide⟩ rfl, by simp⟩
  | b + 1, off, o, Q, h => by
    obtain ⟨cells, _, h⟩ := h
    rcases h with ⟨_, rfl⟩ | ⟨_, ⟨_, rfl⟩ | ⟨_, c, K, ch, _, hk, rfl⟩⟩
    · exact ⟨tree_one ⟨by show (1 : Int) ≤ 2; decide, by show (2 : Int) ≤ 3; decide⟩ rfl, by simp⟩
    · exact ⟨tree_one ⟨by show (1 : Int) ≤ 3; decide, by show (3 : Int) ≤ 3; decide⟩ rfl, by simp⟩
    · obtain ⟨k1, k2, k3⟩ := kidsQ_tree (R := fun off k Q => GQ C Ns L b off (lessL C Ns o (L.getD k 0)) Q) (fun off k Q hq => gq_tree b off _ Q hq) hk
      refine ⟨⟨fun i hi => ?_, ?_⟩, by simp⟩
      · rw [List.length_cons] at hi ⊢
        cases i with
        | zero => exact ⟨⟨⟨by simp, by simp⟩, fun h => by simp at h⟩, fun c hc => by have := k3 c hc; omega⟩
        | succ i => exact ⟨(k1 i (by omega)).1, fun c hc => by have := (k1 i (by omega)).2 c hc; omega⟩
      · rw [List.length_cons, Nat.add_sub_cancel]
        exact k2
theorem foolP_apart {l : List (Int × Int)} (h : foolP C Ns l = true) : apartB C Ns l = true := by
  unfold foolP at h; rw [Bool.and_eq_true] at h; exact h.2
theorem foolF_ok : ∀ (o l : List (Nat × Nat)), apartB C Ns (cz l) = true → apartB C Ns (cz (o.foldl (foolS C Ns) l)) = true ∧ ∀ c ∈ o.foldl (foolS C Ns) l, c ∈ l ∨ c ∈ o
  | [], l, h => ⟨h, fun c hc => .inl hc⟩
  | d :: o, l, h => by
    rw [List.foldl_cons]
    have hs : apartB C Ns (cz (foolS C Ns l d)) = true ∧ ∀ c ∈ foolS C Ns l d, c ∈ l ∨ c = d := by
      unfold foolS
      split
      · rename_i hf
        exact ⟨foolP_apart hf, fun c hc => by simpa using hc⟩
      · exact ⟨h, fun c hc => .inl hc⟩
    obtain ⟨h1, h2⟩ := foolF_ok o _ hs.1
    refine ⟨h1, fun c hc => ?_⟩
    rcases h2 c hc with h3 | h3
    · rcases hs.2 c h3 with h4 | rfl
      · exact .inl h4
      · exact .inr (by simp)
    · exact .inr (by simp [h3])
theorem foolL_ok (o : List (Nat × Nat)) : apartB C Ns (cz (foolL C Ns o)) = true ∧ ∀ c ∈ foolL C Ns o, c ∈ o := by
  obtain ⟨h1, h2⟩ := foolF_ok (C := C) (Ns := Ns) o [] (by simp [cz, apartB])
  exact ⟨h1, fun c hc => by rcases h2 c hc with h | h; · simp at h
                            · exact h⟩
theorem cellsG_ok {b : Nat} {o cells : List (Nat × Nat)} (h : CellsG C Ns b o cells) : apartB C Ns (cz cells) = true ∧ ∀ c ∈ cells, c ∈ o := by
  unfold CellsG at h
  split at h
  · rcases h with rfl | ⟨c, d, hc, hd, rfl, hf⟩
    · exact ⟨by simp [cz, apartB], by simp⟩
    · refine ⟨foolP_apart hf, fun x hx => ?_⟩
      simp only [List.mem_cons, List.mem_nil_iff, or_false] at hx
      rcases hx with rfl | rfl
      · exact hc
      · exact hd
  · subst h; exact foolL_ok o
theorem cz_in {o cells : List (Nat × Nat)} (h : ∀ c ∈ cells, c ∈ o) : (cz cells).all (isIn o) = true := by
  rw [List.all_eq_true]
  intro x hx
  obtain ⟨c, hc, rfl⟩ := List.mem_map.1 hx
  exact isIn_iff.2 ⟨c, h c hc, rfl⟩
theorem fool_node {P : List Nd} {f off b : Nat} {o cells : List (Nat × Nat)} (hap : apartB C Ns (cz cells) = true) (hin : ∀ c ∈ cells, c ∈ o) (hlt : b < cells.length) (hat : At P off [⟨2, 0, 0, [], cz cells⟩]) : nodeR C Ns P (f + 1) off b o = (1, 0) := by
  have hg := hat.get (i := 0) (by simp)
  rw [Nat.add_zero] at hg
  have hx : P.getD off default = ⟨2, 0, 0, [], cz cells⟩ := hg
  have hl : (cz cells).length = cells.length := by simp [cz]
  rw [nodeR, Int.toNat_natCast, hx]
  rw [if_pos rfl, if_neg (by rw [cz_in hin]; simp), if_neg (by rw [hap]; simp [hl]; omega)]
theorem most_gain (o : List (Nat × Nat)) : mostL C Ns o ≤ gainM C Ns (allL C Ns) o := by
  unfold mostL
  refine foldl_max_bound _ _ _ (Nat.zero_le _) fun x hx => ?_
  obtain ⟨s, hs, rfl⟩ := List.mem_map.1 hx
  rw [List.mem_filter, decide_eq_true_eq, List.mem_range] at hs
  have hcnt := count_less (C := C) (Ns := Ns) o s
  by_cases h0 : o.countP (inS C Ns s) = 0
  · omega
  · obtain ⟨c, hc, hi⟩ := List.countP_pos_iff.1 (Nat.pos_of_ne_zero h0)
    have hsm : s ∈ allL C Ns := by
      unfold allL
      rw [mem_allTo]
      unfold inS at hi
      rw [Bool.and_eq_true] at hi
      refine ⟨hs.1, fun e => ?_, ?_⟩
      · rw [e] at hi; simp at hi
      · unfold oneS
        rw [Bool.and_eq_true, decide_eq_true_eq, Bool.not_eq_true', decide_eq_false_iff_not]
        exact ⟨hs.2, fun e => by rw [e] at hi; simp at hi⟩
    obtain ⟨k, hk, e⟩ := List.getElem_of_mem hsm
    have := gainM_ge (C := C) (Ns := Ns) (L := allL C Ns) (o := o) hk
    rw [getD_at hk, e] at this
    omega
theorem filter_get {p : Nat → Bool} (l : List Nat) : ((List.range l.length).filter fun k => p (l.getD k 0)).map (fun k => l.getD k 0) = l.filter p := by
    have : ((List.range l.length).map fun k => l.getD k 0) = l := by
      refine List.ext_getElem (by simp) fun i h1 h2 => ?_
      simp [List.getD_eq_getElem?_getD, h2]
    conv => rhs; rw [← this]
    rw [List.filter_map]
    rfl
theorem arK_con {c : Nat × Nat} : (arK C Ns (allL C Ns) 0 c).map (fun k => (allL C Ns).getD k 0) = conL C Ns c.1 c.2 := by
  rw [← allL_con, ← filter_get]
  unfold arK
  congr 1
theorem pick_in {ar : Nat × Nat → List Nat} {o : List (Nat × Nat)} {c : Nat × Nat} (h : pickK ar o none = some c) : c ∈ o := by
  have hne : o ≠ [] := fun e => by rw [e] at h; simp [pickK] at h
  obtain ⟨c', h1, h2, _⟩ := pickK_mem ar hne
  rw [h] at h1
  cases h1; exact h2
/-- The nodes that grow appends are accepted. -/
theorem gq_ok (hC : C ≤ 12) {P : List Nd} : ∀ (b f off : Nat) (o : List (Nat × Nat)) (Q : List Nd), P.length ≤ f + off → GQ C Ns (allL C Ns) b off o Q → At P off Q → nodeR C Ns P f off b o = (1, 0)
  | 0, f, off, o, Q, hf, h, hat => by
    have hlt := hat.lt (gq_tree _ _ _ _ h).2
    obtain ⟨f, rfl⟩ : ∃ f', f = f' + 1 := ⟨f - 1, by omega⟩
    obtain ⟨cells, hc, hpos, rfl⟩ := h
    obtain ⟨h1, h2⟩ := cellsG_ok hc
    exact fool_node h1 h2 hpos hat
  | b + 1, f, off, o, Q, hf, h, hat => by
    have hlt := hat.lt (gq_tree _ _ _ _ h).2
    obtain ⟨f, rfl⟩ : ∃ f', f = f' + 1 := ⟨f - 1, by omega⟩
    obtain ⟨cells, hc, h⟩ := h
    obtain ⟨h1, h2⟩ := cellsG_ok hc
    rcases h with ⟨hlen, rfl⟩ | ⟨_, ⟨hcnt, rfl⟩ | ⟨_, c, K, ch, hpick, hk, rfl⟩⟩
    · exact fool_node h1 h2 hlen hat
    · have hg := hat.get (i := 0) (by simp)
      rw [Nat.add_zero] at hg
      have hx : P.getD off default = ⟨3, 0, 0, [], []⟩ := hg
      rw [nodeR, Int.toNat_natCast, hx]
      have hm := Nat.mul_le_mul_left (b + 1) (most_gain (C := C) (Ns := Ns) o)
      have hno : ¬ (12 < C ∨ (o.length : Int) ≤ ((b + 1 : Nat) : Int) * (mostL C Ns o : Int)) := by
        rw [← Int.natCast_mul]; omega
      rw [if_neg (by simp), if_pos rfl, if_neg hno]
    · have hg := hat.get (i := 0) (by simp)
      have ht := hat.tail
      rw [Nat.add_zero] at hg
      have hx : P.getD off default = ⟨1, (c.1 : Int), (c.2 : Int), ch, []⟩ := hg
      have hin : isIn o ((c.1 : Int), (c.2 : Int)) = true := isIn_iff.2 ⟨_, pick_in hpick, rfl⟩
      have hlen : (conL C Ns c.1 c.2).length = ch.length := by rw [← arK_con, List.length_map, kidsQ_len hk]
      rw [nodeR, Int.toNat_natCast, hx]
      rw [if_neg (by simp), if_neg (by simp), if_neg (by simp [hin]), if_neg (by omega)]
      dsimp only
      rw [Int.toNat_natCast, Int.toNat_natCast, if_neg (by simp [hlen]), ← arK_con]
      refine kidsQ_ok (lo := off + 1) hk (Nat.le_refl _) ht fun k _ off' Q hlo hq h' => ?_
      rw [show ((b + 1 : Nat) : Int) - 1 = (b : Int) by omega]
      exact gq_ok hC b f off' _ Q (by omega) hq h'
theorem min_check (hC : C ≤ 12) (hl : Ns.length ≤ 4096) (hin : rowsIn C Ns) {P : List Nd} (hP : P.length ≤ 5000) (hsz : sizeM C Ns ≤ 256) (h0 : sizeM C Ns = 0 → P = [⟨3, 0, 0, [], []⟩]) (h : ∀ b, sizeM C Ns = b + 1 → GQ C Ns (allL C Ns) b 0 (cellsOf Ns) P) : checkP C Ns (sizeM C Ns : Nat) P = (1, 0) := by
  have htr : Tree P 0 ∧ 0 < P.length := by
    rcases Nat.eq_zero_or_pos (sizeM C Ns) with e | e
    · rw [h0 e]; exact ⟨tree_one ⟨by show (1 : Int) ≤ 3; decide, by show (3 : Int) ≤ 3; decide⟩ rfl, by simp⟩
    · exact gq_tree _ _ _ _ (h (sizeM C Ns - 1) (by omega))
  unfold checkP
  rw [if_neg (by omega), firstBad_none (tree_form htr.1)]
  dsimp only
  by_cases e : sizeM C Ns = 0
  · rw [if_pos (by omega)]
  · rw [if_neg (by omega), nodeP_eq hC hl hin P _ _ _ _ (under_refl Ns)]
    rw [show ((sizeM C Ns : Nat) : Int) - 1 = ((sizeM C Ns - 1 : Nat) : Int) by omega]
    exact gq_ok hC _ _ 0 _ P (by omega) (h (sizeM C Ns - 1) (by omega)) ⟨[], [], by simp, rfl⟩
/-- No proof of a greater size is accepted. -/
theorem min_worse (hC : C ≤ 12) (hl : Ns.length ≤ 4096) (hin : rowsIn C Ns) (P : List Nd) : (checkP C Ns ((sizeM C Ns : Nat) + 1 : Int) P).1 ≠ 1 := fun h => by
  obtain ⟨h1, h2⟩ := minK_spec (C := C) hl hin
  rcases check_sound hC hl hin h with e | ⟨_, e⟩
  · omega
  · rw [show ((sizeM C Ns : Nat) + 1 - 1 : Int).toNat = sizeM C Ns by omega] at e
    exact e ⟨minC C Ns, by rw [h1]; exact Nat.le_refl _, minC_clo, h2⟩
theorem ch_le {x : Nd} : ∀ (P : List Nd), x ∈ P → x.ch.length ≤ (chOf P).length
  | [], h => by simp at h
  | y :: P, h => by
    show x.ch.length ≤ (y.ch ++ chOf P).length
    rw [List.length_append]
    rcases List.mem_cons.1 h with rfl | h
    · omega
    · have := ch_le P h; omega
theorem foolF_ln : ∀ (o l : List (Nat × Nat)), (o.foldl (foolS C Ns) l).length ≤ l.length + o.length
  | [], l => Nat.le_refl _
  | d :: o, l => by
    rw [List.foldl_cons, List.length_cons]
    have h1 := foolF_ln o (foolS C Ns l d)
    have h2 : (foolS C Ns l d).length ≤ l.length + 1 := by unfold foolS; split <;> simp
    omega
theorem cellsG_len {b B : Nat} {o cells : List (Nat × Nat)} (h : CellsG C Ns b o cells) (h2 : 2 ≤ B) (hB : o.length ≤ B) : cells.length ≤ B := by
  unfold CellsG at h
  split at h
  · rcases h with rfl | ⟨c, d, _, _, rfl, _⟩
    · exact Nat.zero_le _
    · exact h2
  · subst h
    have := foolF_ln (C := C) (Ns := Ns) o []
    rw [List.length_nil, Nat.zero_add] at this
    unfold foolL; omega
theorem kidsQ_mem {R : Nat → Nat → List Nd → Prop} {p : Nd → Prop} (hR : ∀ off k Q, R off k Q → ∀ x ∈ Q, p x) : ∀ {l : List Nat} {off : Nat} {K : List Nd} {ch : List Int}, KidsQ R off l K ch → ∀ x ∈ K, p x
  | [], _, _, _, h, x, hx => by obtain ⟨rfl, -⟩ := h; simp at hx
  | _ :: _, _, _, _, h, x, hx => by
    obtain ⟨Q, K', ch', h1, h2, rfl, -⟩ := h
    rcases List.mem_append.1 hx with hx | hx
    · exact hR _ _ _ h1 x hx
    · exact kidsQ_mem hR h2 x hx
theorem gq_cells {B : Nat} (h2 : 2 ≤ B) : ∀ (b off : Nat) (o : List (Nat × Nat)) (Q : List Nd), GQ C Ns L b off o Q → o.length ≤ B → ∀ x ∈ Q, x.cells.length ≤ B
  | 0, off, o, Q, h, hB, x, hx => by
    obtain ⟨cells, hc, _, rfl⟩ := h
    obtain rfl := List.mem_singleton.1 hx
    show (cz cells).length ≤ B
    unfold cz; rw [List.length_map]
    exact cellsG_len hc h2 hB
  | b + 1, off, o, Q, h, hB, x, hx => by
    obtain ⟨cells, hc, h⟩ := h
    rcases h with ⟨_, rfl⟩ | ⟨_, ⟨_, rfl⟩ | ⟨_, c, K, ch, _, hk, rfl⟩⟩
    · obtain rfl := List.mem_singleton.1 hx
      show (cz cells).length ≤ B
      unfold cz; rw [List.length_map]
      exact cellsG_len hc h2 hB
    · obtain rfl := List.mem_singleton.1 hx
      exact Nat.zero_le _
    · rcases List.mem_cons.1 hx with rfl | hx
      · exact Nat.zero_le _
      · exact kidsQ_mem (p := fun x => x.cells.length ≤ B) (R := fun off k Q => GQ C Ns L b off (lessL C Ns o (L.getD k 0)) Q) (fun off k Q hq => gq_cells h2 b off _ Q hq (Nat.le_trans (lessL_len ..) hB)) hk x hx
theorem tree_ok {P : List Nd} (h : Tree P 0) (hP : P.length ≤ 5000) (hc : ∀ x ∈ P, x.cells.length ≤ 1000) : ∀ x ∈ P, NdOK x := fun x hx => by
  obtain ⟨i, hi, e⟩ := List.getElem_of_mem hx
  have h1 := (h.1 i hi).1.1
  have e2 : P.getD i default = x := by rw [List.getD_eq_getElem?_getD, List.getElem?_eq_getElem hi, e]; rfl
  rw [e2] at h1
  have h3 := ch_le P hx
  have h4 := h.2.length_eq
  rw [List.length_map, List.length_range'] at h4
  have h5 := hc x hx
  exact ⟨by omega, by omega, by omega, by omega⟩
theorem min_nodes (hC : C ≤ 5) (hR : Ns.length ≤ 5) (hin : rowsIn C Ns) {P : List Nd} (hP : P.length ≤ 5000) (h0 : sizeM C Ns = 0 → P = [⟨3, 0, 0, [], []⟩]) (h : ∀ b, sizeM C Ns = b + 1 → GQ C Ns (allL C Ns) b 0 (cellsOf Ns) P) : ∀ x ∈ P, NdOK x := by
  rcases Nat.eq_zero_or_pos (sizeM C Ns) with e | e
  · rw [h0 e]
    intro x hx
    obtain rfl := List.mem_singleton.1 hx
    exact ⟨by show 0 ≤ _; omega, by show 0 ≤ _; omega, by decide, by decide⟩
  · have hq := h (sizeM C Ns - 1) (by omega)
    have hcl := cells_small hR hC hin (under_self Ns)
    exact tree_ok (gq_tree _ _ _ _ hq).1 hP (gq_cells (by omega) _ _ _ _ hq hcl)
/-- Rows of nodes, as Check reads them. -/
theorem GN.nodes_is {w : World} {base : Nat} {v : Value} {P : List Nd} {vss : List (List Value)} (h : GN w base v P vss) (hok : ∀ x ∈ P, NdOK x) : ∃ A c, v = .slice A P.length c ∧ P.length ≤ c ∧ IsNodes w A P := by
  obtain ⟨A, c, rfl, hr, hc, _⟩ := RowN.of_own h.own
  refine ⟨A, c, rfl, hc, vss, h.len, fun k x hx => ?_, hr⟩
  obtain ⟨vs, e, v3, v4, rfl, q3, q4⟩ := h.nodes k x hx
  obtain ⟨A1, c1, rfl, r1, _, _⟩ := RowN.of_own q3
  obtain ⟨A2, c2, rfl, r2, hc2, _⟩ := RowN.of_own q4
  obtain ⟨o1, o2, o3, o4⟩ := hok x (List.mem_of_getElem? hx)
  exact ⟨_, e, A1, c1, A2, c2, rfl, r1, r2, hc2, o2, o1, o3, o4⟩
/-- What Check says of the proof that Minimal returns. -/
theorem MinP.check {w : World} {v : Value} (h : MinP w v C Ns) (hC : C ≤ 5) (hR : Ns.length ≤ 5) (hin : rowsIn C Ns) :
    ∃ (P : List Nd) (A : Option Addr) (c : Nat), v = .slice A P.length c ∧ IsNodes w A P ∧ checkP C Ns (sizeM C Ns : Nat) P = (1, 0) ∧ (checkP C Ns ((sizeM C Ns : Nat) + 1 : Int) P).1 ≠ 1 := by
  obtain ⟨base, vss, P, h1, h2, h3, h4⟩ := h
  obtain ⟨A, c, e, _, h5⟩ := h1.nodes_is (min_nodes hC hR hin h2 h3 h4)
  have hs := sizeM_le (C := C) (Ns := Ns) (by omega) hin
  exact ⟨P, A, c, e, h5, min_check (by omega) (by omega) hin h2 (by omega) h3 h4, min_worse (by omega) (by omega) hin P⟩
end
end Go.Proofs.YtlakjhhpdbgekaaGreatDoor
