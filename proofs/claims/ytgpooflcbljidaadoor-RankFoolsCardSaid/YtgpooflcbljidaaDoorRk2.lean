/-
  Covers by concepts, and proofs that few do not do, in plain words.
-/
import Derived.Test.YtgpooflcbljidaaDoorRk1
namespace Go.Proofs.YtgpooflcbljidaaDoor
open Go.RowKit

/-- A cell lies in the concept with the columns s. -/
def inS (C : Nat) (Ns : List Nat) (s : Nat) (c : Nat × Nat) : Bool := s.testBit c.2 && (havN C Ns s).testBit c.1
def lessL (C : Nat) (Ns : List Nat) (o : List (Nat × Nat)) (s : Nat) : List (Nat × Nat) := o.filter fun c => !inS C Ns s c
theorem mem_lessL {C : Nat} {Ns : List Nat} {o : List (Nat × Nat)} {s : Nat} {c : Nat × Nat} : c ∈ lessL C Ns o s ↔ c ∈ o ∧ inS C Ns s c = false := by
  unfold lessL
  rw [List.mem_filter, Bool.not_eq_true']
theorem lessL_len (C : Nat) (Ns : List Nat) (o : List (Nat × Nat)) (s : Nat) : (lessL C Ns o s).length ≤ o.length := List.length_filter_le _ _
/-- b concepts cover the cells. -/
def Cov (C : Nat) (Ns : List Nat) (b : Nat) (o : List (Nat × Nat)) : Prop := ∃ l : List Nat, l.length ≤ b ∧ (∀ s ∈ l, cloN C Ns s = s) ∧ ∀ c ∈ o, ∃ s ∈ l, inS C Ns s c = true
/-- Whether b concepts cover the cells, by trying. -/
def covF (C : Nat) (Ns : List Nat) : Nat → List (Nat × Nat) → Bool
  | _, [] => true
  | 0, _ :: _ => false
  | b + 1, c :: o => (conL C Ns c.1 c.2).any fun s => covF C Ns b (lessL C Ns (c :: o) s)
theorem mem_con {C : Nat} {Ns : List Nat} {s : Nat} {c : Nat × Nat} : s ∈ conL C Ns c.1 c.2 ↔ cloN C Ns s = s ∧ inS C Ns s c = true := by
  rw [mem_conL, inC, inS]
  simp only [Bool.and_eq_true, decide_eq_true_eq, and_assoc]
theorem covF_iff (C : Nat) (Ns : List Nat) : ∀ (b : Nat) (o : List (Nat × Nat)), covF C Ns b o = true ↔ Cov C Ns b o
  | b, [] => by
    unfold covF
    exact ⟨fun _ => ⟨[], by simp, by simp, by simp⟩, fun _ => rfl⟩
  | 0, c :: o => by
    unfold covF
    refine ⟨fun h => (by cases h), ?_⟩
    rintro ⟨l, hl, _, hc⟩
    obtain ⟨s, hs, _⟩ := hc c (by simp)
    have : l = [] := List.eq_nil_of_length_eq_zero (by omega)
    subst this; simp at hs
  | b + 1, c :: o => by
    rw [covF, List.any_eq_true]
    constructor
    · rintro ⟨s, hs, h⟩
      obtain ⟨l, hl, hk, hc⟩ := (covF_iff C Ns b _).1 h
      refine ⟨s :: l, by simp; omega, fun t ht => ?_, fun d hd => ?_⟩
      · rcases List.mem_cons.1 ht with rfl | ht
        · exact (mem_con.1 hs).1
        · exact hk t ht
      · cases hin : inS C Ns s d
        · obtain ⟨t, ht, h2⟩ := hc d (mem_lessL.2 ⟨hd, hin⟩)
          exact ⟨t, by simp [ht], h2⟩
        · exact ⟨s, by simp, hin⟩
    · rintro ⟨l, hl, hk, hc⟩
      obtain ⟨s, hs, h⟩ := hc c (by simp)
      refine ⟨s, mem_con.2 ⟨hk s hs, h⟩, (covF_iff C Ns b _).2 ⟨l.erase s, ?_, fun t ht => hk t (List.mem_of_mem_erase ht), fun d hd => ?_⟩⟩
      · rw [List.length_erase_of_mem hs]; omega
      · obtain ⟨h1, h2⟩ := mem_lessL.1 hd
        obtain ⟨t, ht, h3⟩ := hc d h1
        refine ⟨t, ?_, h3⟩
        by_cases e : t = s
        · subst e; rw [h2] at h3; cases h3
        · exact (List.mem_erase_of_ne e).2 ht
theorem Cov.mono {C : Nat} {Ns : List Nat} {b b' : Nat} {o : List (Nat × Nat)} (h : Cov C Ns b o) (hb : b ≤ b') : Cov C Ns b' o := by
  obtain ⟨l, hl, h⟩ := h; exact ⟨l, by omega, h⟩

/-! Nodes of proofs. -/
structure Nd where
  kind : Int
  row : Int
  col : Int
  ch : List Int
  cells : List (Int × Int)
instance : Inhabited Nd := ⟨⟨0, 0, 0, [], []⟩⟩
def isIn (o : List (Nat × Nat)) (c : Int × Int) : Bool := o.any fun d => decide (c.1 = d.1 ∧ c.2 = d.2)
theorem isIn_iff {o : List (Nat × Nat)} {c : Int × Int} : isIn o c = true ↔ ∃ d ∈ o, c = ((d.1 : Int), (d.2 : Int)) := by
  unfold isIn
  rw [List.any_eq_true]
  simp only [decide_eq_true_eq, Prod.ext_iff]
/-- No rectangle of ones contains two ones. -/
def indep (C : Nat) (Ns : List Nat) (a b : Int × Int) : Bool := !mhas C Ns a.1 b.2 || !mhas C Ns b.1 a.2
def apartB (C : Nat) (Ns : List Nat) (l : List (Int × Int)) : Bool := decide (l.Pairwise fun b a => a ≠ b ∧ indep C Ns a b = true)
/-- How many of the cells a concept covers, at most. -/
def mostL (C : Nat) (Ns : List Nat) (o : List (Nat × Nat)) : Nat := (((List.range (2 ^ C)).filter fun s => decide (cloN C Ns s = s)).map fun s => o.length - (lessL C Ns o s).length).foldl max 0
theorem foldl_max_le (l : List Nat) : ∀ (a : Nat), a ≤ l.foldl max a ∧ ∀ x ∈ l, x ≤ l.foldl max a := by
  induction l with
  | nil => intro a; simp
  | cons y l ih =>
    intro a
    rw [List.foldl_cons]
    obtain ⟨h1, h2⟩ := ih (max a y)
    refine ⟨by omega, fun x hx => ?_⟩
    rcases List.mem_cons.1 hx with rfl | hx
    · omega
    · exact h2 x hx
theorem mostL_le {C : Nat} {Ns : List Nat} {o : List (Nat × Nat)} {s : Nat} (hs : cloN C Ns s = s) : o.length - (lessL C Ns o s).length ≤ mostL C Ns o := by
  unfold mostL
  refine (foldl_max_le _ 0).2 _ (List.mem_map.2 ⟨s, List.mem_filter.2 ⟨List.mem_range.2 ?_, decide_eq_true hs⟩, rfl⟩)
  rw [← hs]
  exact Nat.lt_pow_two_of_testBit _ fun x hx => by
    cases hb : (cloN C Ns s).testBit x
    · rfl
    · have := comN_lt hb; omega
def kidsF (g : Nat → Int → Int × Int) : List (Nat × Int) → Int × Int
  | [] => (1, 0)
  | (s, c) :: t => if (g s c).1 ≠ 1 then g s c else kidsF g t
/-- The first flaw of a node and of those below it, and its number. -/
def nodeR (C : Nat) (Ns : List Nat) (P : List Nd) : Nat → Int → Int → List (Nat × Nat) → Int × Int
  | 0, _, _, _ => (1, 0)
  | f + 1, n, b, o =>
    let x := P.getD n.toNat default
    if x.kind = 2 then (if x.cells.all (isIn o) = false then (3, n) else if (x.cells.length : Int) ≤ b ∨ apartB C Ns x.cells = false then (5, n) else (1, 0))
    else if x.kind = 3 then (if 12 < C ∨ (o.length : Int) ≤ b * mostL C Ns o then (5, n) else (1, 0))
    else if isIn o (x.row, x.col) = false then (3, n)
    else if b < 1 then (5, n)
    else if (conL C Ns x.row.toNat x.col.toNat).length ≠ x.ch.length then (4, n)
    else kidsF (fun s c => nodeR C Ns P f c (b - 1) (lessL C Ns o s)) ((conL C Ns x.row.toNat x.col.toNat).zip x.ch)
theorem kidsF_sound {g : Nat → Int → Int × Int} : ∀ {l : List (Nat × Int)}, (kidsF g l).1 = 1 → ∀ x ∈ l, (g x.1 x.2).1 = 1
  | [], _, x, hx => by simp at hx
  | (s, c) :: t, h, x, hx => by
    rw [kidsF] at h
    by_cases hg : (g s c).1 = 1
    · rw [if_neg (by simp [hg])] at h
      rcases List.mem_cons.1 hx with rfl | hx
      · exact hg
      · exact kidsF_sound h x hx
    · rw [if_pos hg] at h; exact absurd h hg
/-- Two ones in one concept are not independent. -/
theorem indep_in {C : Nat} {Ns : List Nat} (hl : Ns.length ≤ 4096) {s : Nat} (hs : cloN C Ns s = s) {a b : Nat × Nat} (ha : inS C Ns s a = true) (hb : inS C Ns s b = true) : indep C Ns ((a.1 : Int), (a.2 : Int)) ((b.1 : Int), (b.2 : Int)) = false := by
  unfold inS at ha hb
  rw [Bool.and_eq_true] at ha hb
  have key : ∀ {x y : Nat × Nat}, (havN C Ns s).testBit x.1 = true → s.testBit y.2 = true → mhas C Ns (x.1 : Int) (y.2 : Int) = true := by
    intro x y hx hy
    have hyc : y.2 < C := comN_lt (by rw [cloN] at hs; rw [hs]; exact hy)
    have := (testBit_havN C Ns hl s x.1).1 hx
    rw [mhas_at this.1 hyc]
    exact this.2 _ hy hyc
  unfold indep
  rw [key (x := a) (y := b) ha.2 hb.1, key (x := b) (y := a) hb.2 ha.1]; rfl
theorem len_le_one {α : Type} {R : α → α → Prop} {l : List α} (h : l.Pairwise R) (hn : ∀ a ∈ l, ∀ b ∈ l, ¬ R a b) : l.length ≤ 1 := by
  match l, h, hn with
  | [], _, _ => simp
  | [_], _, _ => simp
  | a :: b :: l, h, hn =>
    rw [List.pairwise_cons] at h
    exact absurd (h.1 b (by simp)) (hn a (by simp) b (by simp))
/-- A list of independent ones is not longer than a cover. -/
theorem fool_le {C : Nat} {Ns : List Nat} (hl : Ns.length ≤ 4096) : ∀ (l : List Nat) (cs : List (Nat × Nat)), (∀ s ∈ l, cloN C Ns s = s) →
    (cs.Pairwise fun b a => a ≠ b ∧ indep C Ns ((a.1 : Int), (a.2 : Int)) ((b.1 : Int), (b.2 : Int)) = true) → (∀ c ∈ cs, ∃ s ∈ l, inS C Ns s c = true) → cs.length ≤ l.length
  | [], cs, _, _, hc => by
    match cs, hc with
    | [], _ => simp
    | c :: _, hc => obtain ⟨s, hs, _⟩ := hc c (by simp); simp at hs
  | s :: l, cs, hk, hp, hc => by
    have h1 : (cs.filter (inS C Ns s)).length ≤ 1 := len_le_one (hp.filter _) fun a ha b hb hr => by
      rw [List.mem_filter] at ha hb
      rw [indep_in hl (hk s (by simp)) hb.2 ha.2] at hr
      exact absurd hr.2 (by simp)
    have h2 := fool_le hl l (cs.filter fun c => !inS C Ns s c) (fun t ht => hk t (by simp [ht])) (hp.filter _) fun c hc' => by
      rw [List.mem_filter] at hc'
      obtain ⟨t, ht, h⟩ := hc c hc'.1
      rcases List.mem_cons.1 ht with rfl | ht
      · have := hc'.2; rw [h] at this; cases this
      · exact ⟨t, ht, h⟩
    have h3 : cs.length = (cs.filter (inS C Ns s)).length + (cs.filter fun c => !inS C Ns s c).length := by
      rw [← List.countP_eq_length_filter, ← List.countP_eq_length_filter, List.length_eq_countP_add_countP (inS C Ns s)]
      congr 2
      funext c; cases inS C Ns s c <;> rfl
    rw [List.length_cons]; omega
theorem gain_le {C : Nat} {Ns : List Nat} {K : Nat} : ∀ (l : List Nat) (o : List (Nat × Nat)), (∀ s ∈ l, cloN C Ns s = s) → (∀ s, cloN C Ns s = s → o.countP (inS C Ns s) ≤ K) → (∀ c ∈ o, ∃ s ∈ l, inS C Ns s c = true) → o.length ≤ l.length * K
  | [], o, _, _, hc => by
    match o, hc with
    | [], _ => simp
    | c :: _, hc => obtain ⟨s, hs, _⟩ := hc c (by simp); simp at hs
  | s :: l, o, hk, hK, hc => by
    have h2 := gain_le (K := K) l (lessL C Ns o s) (fun t ht => hk t (by simp [ht])) (fun t ht => Nat.le_trans (by unfold lessL; rw [List.countP_filter]; exact List.countP_mono_left fun c _ h => by simp at h; exact h.1) (hK t ht)) fun c hc' => by
      obtain ⟨h1, h2⟩ := mem_lessL.1 hc'
      obtain ⟨t, ht, h⟩ := hc c h1
      rcases List.mem_cons.1 ht with rfl | ht
      · rw [h2] at h; cases h
      · exact ⟨t, ht, h⟩
    have h1 := hK s (hk s (by simp))
    have h3 : o.length = o.countP (inS C Ns s) + (lessL C Ns o s).length := by
      unfold lessL
      rw [← List.countP_eq_length_filter, List.length_eq_countP_add_countP (inS C Ns s)]
      congr 2
      funext c; cases inS C Ns s c <;> rfl
    rw [List.length_cons, Nat.add_mul, Nat.one_mul]; omega
theorem gain_eq (C : Nat) (Ns : List Nat) (o : List (Nat × Nat)) (s : Nat) : o.length - (lessL C Ns o s).length = o.countP (inS C Ns s) := by
  have h3 : o.length = o.countP (inS C Ns s) + (lessL C Ns o s).length := by
    unfold lessL
    rw [← List.countP_eq_length_filter, List.length_eq_countP_add_countP (inS C Ns s)]
    congr 2
    funext c; cases inS C Ns s c <;> rfl
  omega
/-- The form of the nodes: kinds, and children behind their parents. -/
def FormOK (P : List Nd) : Prop := ∀ n, n < P.length → (1 ≤ (P.getD n default).kind ∧ (P.getD n default).kind ≤ 3) ∧ ∀ c ∈ (P.getD n default).ch, (n : Int) < c ∧ c < P.length
theorem cov_step {C : Nat} {Ns : List Nat} {b : Nat} {o : List (Nat × Nat)} {c : Nat × Nat} (hc : c ∈ o) (h : Cov C Ns b o) : ∃ s ∈ conL C Ns c.1 c.2, ∃ b', b = b' + 1 ∧ Cov C Ns b' (lessL C Ns o s) := by
  obtain ⟨l, hl, hk, hcv⟩ := h
  obtain ⟨s, hs, hin⟩ := hcv c hc
  have hpos : 0 < l.length := List.length_pos_of_mem hs
  obtain ⟨b', rfl⟩ : ∃ b', b = b' + 1 := ⟨b - 1, by omega⟩
  refine ⟨s, mem_con.2 ⟨hk s hs, hin⟩, b', rfl, l.erase s, ?_, fun t ht => hk t (List.mem_of_mem_erase ht), fun d hd => ?_⟩
  · rw [List.length_erase_of_mem hs]; omega
  · obtain ⟨h1, h2⟩ := mem_lessL.1 hd
    obtain ⟨t, ht, h3⟩ := hcv d h1
    refine ⟨t, ?_, h3⟩
    by_cases e : t = s
    · subst e; rw [h2] at h3; cases h3
    · exact (List.mem_erase_of_ne e).2 ht
theorem mem_zip_left {α β : Type} : ∀ {l : List α} {m : List β} {a : α}, l.length = m.length → a ∈ l → ∃ b, (a, b) ∈ l.zip m
  | a' :: l, b' :: m, a, h, ha => by
    rcases List.mem_cons.1 ha with rfl | ha
    · exact ⟨b', by simp⟩
    · obtain ⟨b, hb⟩ := mem_zip_left (l := l) (m := m) (by simpa using h) ha
      exact ⟨b, by simp [hb]⟩
  | [], _, _, _, ha => by simp at ha
  | _ :: _, [], _, h, _ => by simp at h
/-- What is accepted is true: so few concepts do not cover the cells. -/
theorem nodeR_sound {C : Nat} {Ns : List Nat} (hl : Ns.length ≤ 4096) {P : List Nd} (hP : FormOK P) : ∀ (f n : Nat) (b : Int) (o : List (Nat × Nat)), n < P.length → P.length ≤ f + n → 0 ≤ b → (nodeR C Ns P f n b o).1 = 1 → ¬ Cov C Ns b.toNat o
  | 0, n, b, o, hn, hf, _, _ => by omega
  | f + 1, n, b, o, hn, hf, hb, h => by
    rw [nodeR, Int.toNat_natCast] at h
    obtain ⟨hk, hch⟩ := hP n hn
    generalize P.getD n default = x at h hk hch
    intro hcov
    by_cases k2 : x.kind = 2
    · rw [if_pos k2] at h
      by_cases h1 : x.cells.all (isIn o) = false
      · rw [if_pos h1] at h; exact absurd h (by simp)
      · rw [if_neg h1] at h
        by_cases h2 : (x.cells.length : Int) ≤ b ∨ apartB C Ns x.cells = false
        · rw [if_pos h2] at h; exact absurd h (by simp)
        · rw [not_or] at h2
          have hall : ∀ c ∈ x.cells, ∃ d ∈ o, c = ((d.1 : Int), (d.2 : Int)) := fun c hc => isIn_iff.1 (List.all_eq_true.1 (by simpa using h1) c hc)
          have hap : x.cells.Pairwise fun b a => a ≠ b ∧ indep C Ns a b = true := by
            have := h2.2; unfold apartB at this; simpa using this
          -- the cells as numbers
          have hmap : x.cells = (x.cells.map fun c => (c.1.toNat, c.2.toNat)).map fun d : Nat × Nat => ((d.1 : Int), (d.2 : Int)) := by
            rw [List.map_map]
            conv => lhs; rw [← List.map_id x.cells]
            refine List.map_congr_left fun c hc => ?_
            obtain ⟨d, _, rfl⟩ := hall c hc
            simp
          obtain ⟨l, hll, hkk, hcc⟩ := hcov
          rw [hmap, List.pairwise_map] at hap
          have := fool_le hl l _ hkk (hap.imp fun {b a} hh => ⟨fun e => hh.1 (by rw [e]), hh.2⟩) fun c hc => by
            obtain ⟨c0, hc0, rfl⟩ := List.mem_map.1 hc
            obtain ⟨d, hd, rfl⟩ := hall c0 hc0
            simpa using hcc d hd
          rw [List.length_map] at this
          omega
    · rw [if_neg k2] at h
      by_cases k3 : x.kind = 3
      · rw [if_pos k3] at h
        by_cases h2 : 12 < C ∨ (o.length : Int) ≤ b * mostL C Ns o
        · rw [if_pos h2] at h; exact absurd h (by simp)
        · rw [not_or] at h2
          obtain ⟨l, hll, hkk, hcc⟩ := hcov
          have h4 := gain_le (K := mostL C Ns o) l o hkk (fun s hs => by rw [← gain_eq]; exact mostL_le hs) hcc
          have h5 : l.length * mostL C Ns o ≤ b.toNat * mostL C Ns o := Nat.mul_le_mul_right _ hll
          have h6 : ((b.toNat * mostL C Ns o : Nat) : Int) = b * mostL C Ns o := by rw [Int.natCast_mul, Int.toNat_of_nonneg hb]
          omega
      · rw [if_neg k3] at h
        by_cases h1 : isIn o (x.row, x.col) = false
        · rw [if_pos h1] at h; exact absurd h (by simp)
        · rw [if_neg h1] at h
          by_cases h2 : b < 1
          · rw [if_pos h2] at h; exact absurd h (by simp)
          · rw [if_neg h2] at h
            by_cases h3 : (conL C Ns x.row.toNat x.col.toNat).length ≠ x.ch.length
            · rw [if_pos h3] at h; exact absurd h (by simp)
            · rw [if_neg h3] at h
              rw [Bool.not_eq_false] at h1
              obtain ⟨d, hd, e⟩ := isIn_iff.1 h1
              obtain ⟨e1, e2⟩ := Prod.mk.inj e
              rw [e1, e2, Int.toNat_natCast, Int.toNat_natCast] at h h3
              obtain ⟨s, hs, b', hb', hcv⟩ := cov_step hd hcov
              obtain ⟨ch, hz⟩ := mem_zip_left (by simpa using h3) hs
              have h7 := kidsF_sound h _ hz
              dsimp only at h7
              obtain ⟨g1, g2⟩ := hch ch (List.of_mem_zip hz).2
              obtain ⟨m, rfl⟩ := Int.eq_ofNat_of_zero_le (show 0 ≤ ch by omega)
              refine nodeR_sound hl hP f m (b - 1) _ (by omega) (by omega) (by omega) h7 ?_
              rw [show (b - 1).toNat = b' by omega]
              exact hcv
end Go.Proofs.YtgpooflcbljidaaDoor
