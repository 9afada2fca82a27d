import Derived.Test.YtfbkcdhmggjbaaaGreatDoorRn3
import Derived.Test.YtfbkcdhmggjbaaaGreatDoorRkA
import Derived.Test.YtfbkcdhmggjbaaaGreatDoorSets
/-
  rank.greatest: how many uncovered ones a concept contains, at most.
-/
namespace Go.Proofs.YtfbkcdhmggjbaaaGreatDoor
open Go.RowKit
attribute [local go_sem] Oper.semAt_some

/-! What stays when other things than cells are written. -/
def KeepC (W W' : World) : Prop := W.heap.size ≤ W'.heap.size ∧ ∀ (g : Nat) cs t fz, W.heap[g]? = some (Obj.cells cs t fz) → W'.heap[g]? = some (Obj.cells cs t fz)
theorem KeepC.keep {W W' : World} (h : KeepC W W') : KeepW W W' := ⟨h.1, fun _ _ hb => h.2 _ _ _ _ hb⟩
theorem Blk.kc {W W' : World} {g : Nat} {t : TypeId} {cs : Array Value} (hb : Blk W g t cs) (h : KeepC W W') : Blk W' g t cs := h.2 _ _ _ _ hb
theorem KeepC.of_grown {W W' : World} {row : Option Nat} {n : Nat} (hg : W.grownBy W' row) (hr : ∀ k, row = some k → n ≤ k ∧ ∃ o, W.heap[k]? = some o ∧ o.isCells = false) : KeepC W W' :=
  ⟨hg.size, fun g _ _ _ hb => (hg.block g (Array.getElem?_eq_some_iff.1 hb).1 fun e => by
    obtain ⟨_, o, ho, hc⟩ := hr g e.symm
    rw [ho] at hb; cases hb; cases hc).trans hb⟩
/-- The marks of loops that have run out stay. -/
def KeepD (W0 W : World) : Prop := W0.heap.size ≤ W.heap.size ∧ ∀ g : Nat, W0.heap[g]? = some (.deferred (some [])) → W.heap[g]? = some (.deferred (some []))
theorem KeepD.refl (W : World) : KeepD W W := ⟨Nat.le_refl _, fun _ h => h⟩
theorem KeepD.others {W0 W W' : World} (h : KeepD W0 W) (k : KeepsOthers W W') : KeepD W0 W' := ⟨Nat.le_trans h.1 k.size, fun g hg => k.same g _ (h.2 g hg) rfl⟩
theorem KeepD.grown {W0 W W' : World} {row : Option Nat} (h : KeepD W0 W) (hg : W.grownBy W' row) (hr : ∀ k, row = some k → W0.heap.size ≤ k ∧ ∃ o, W.heap[k]? = some o ∧ o.isCells = false) : KeepD W0 W' :=
  ⟨Nat.le_trans h.1 hg.size, fun g hgd => (hg.block g (Array.getElem?_eq_some_iff.1 (h.2 g hgd)).1 fun e => by have := (hr g e.symm).1; have := (Array.getElem?_eq_some_iff.1 hgd).1; omega).trans (h.2 g hgd)⟩
theorem Marks.kd {n₀ : Nat} {W W' : World} {ds : List Deferred} (h : Marks n₀ W ds) (k : KeepD W W') : Marks n₀ W' ds := h.keep fun g _ hg => k.2 g hg
theorem KeepD.of_below {W W' : World} (h : Below W.heap.size W W') : KeepD W W' := ⟨h.size, fun g hg => (h.block g (Array.getElem?_eq_some_iff.1 hg).1).trans hg⟩
/-- One mark more. -/
theorem Marks.cons {n₀ D : Nat} {W0 W : World} {ds : List Deferred} (h : Marks n₀ W0 ds) (k : KeepD W0 W) (hn : n₀ ≤ D) (hD : W0.heap.size ≤ D) (hK : W.heap[D]? = some (.deferred (some []))) : Marks n₀ W ({ target := .collected D, args := #[] } :: ds) :=
  ⟨⟨D, rfl, hn, hK, fun e he D' hD' => by have := h.lt e he D' hD'; omega⟩, h.kd k⟩

theorem IsMat.mv {w : World} {p C : Nat} {Ns : List Nat} (h : IsMat w p C Ns) : IsMV w (some ⟨p, 0, none⟩) C Ns := .inr ⟨p, rfl, h⟩
theorem of_is {w : World} {m : Option Addr} {C : Nat} {Ns : List Nat} {v : Value} {S X Y : Nat} (hX : havN C Ns S = X) (hY : cloN C Ns S = Y) (h : IsMV w m C Ns) (hs : IsSet w v S) (hT : Tab w) :
    Calls Tryz.prog 137 #[.pointer m, .agg #[v]] w fun e w' => ∃ A c B d, e = .returned (.agg #[.slice A (nw X) c, .slice B (nw Y) d]) ∧ IsSet w' (.slice A (nw X) c) X ∧ IsSet w' (.slice B (nw Y) d) Y ∧ Below w.heap.size w w' := by
  refine (of_concept m C Ns v S w h hs hT).mono ?_
  rintro e w' ⟨r, q, rfl, hr, hq, hb⟩
  obtain ⟨A, c, rfl, _⟩ := id hr
  obtain ⟨B, d, rfl, _⟩ := id hq
  subst hX; subst hY
  exact ⟨_, _, _, _, rfl, hr, hq, hb⟩
/-- How many of the ones Os the concept of the columns s covers, in the rows ks. -/
def gainR (C : Nat) (Ns Os : List Nat) (s : Nat) (ks : List Nat) : Nat := (ks.map fun i => card (Os.getD i 0 &&& cloN C Ns s)).foldl (· + ·) 0
theorem filter_up {p : Nat → Bool} {C : Nat} (h : ∀ j, p j = true → j < C) : ∀ n, ((List.range n).filter p).length ≤ C
  | 0 => by simp
  | n + 1 => by
    by_cases hn : n < C
    · exact Nat.le_trans (List.length_filter_le _ _) (by simp; omega)
    · rw [List.range_succ, List.filter_append, List.length_append]
      have : p n = false := by
        cases hp : p n with
        | false => rfl
        | true => exact absurd (h n hp) hn
      have ih := filter_up h n
      simp [this]; exact ih
theorem card_bits {N C : Nat} (h : ∀ j, N.testBit j = true → j < C) : card N ≤ C := by
  rw [← mems_len]
  unfold mems
  rw [mTo_map]
  exact filter_up h _
theorem card_and {C : Nat} {Ns : List Nat} (X s : Nat) : card (X &&& cloN C Ns s) ≤ C := card_bits fun j hj => by
  rw [Nat.testBit_and, Bool.and_eq_true] at hj
  exact comN_lt hj.2
theorem gainR_le (C : Nat) (Ns Os : List Nat) (s : Nat) : ∀ ks : List Nat, gainR C Ns Os s ks ≤ ks.length * C := fun ks => by
  have key : ∀ (l : List Nat) (a : Nat), (l.map fun i => card (Os.getD i 0 &&& cloN C Ns s)).foldl (· + ·) a ≤ a + l.length * C := by
    intro l
    induction l with
    | nil => intro a; simp
    | cons i l ih =>
      intro a
      rw [List.map_cons, List.foldl_cons]
      refine Nat.le_trans (ih _) ?_
      have := card_and (C := C) (Ns := Ns) (Os.getD i 0) s
      rw [List.length_cons, Nat.add_mul, Nat.one_mul]; omega
  have := key ks 0
  unfold gainR; omega
end Go.Proofs.YtfbkcdhmggjbaaaGreatDoor

/-
  What the program's node finds, in plain words, and that it is what the reference finds.
-/
namespace Go.Proofs.YtfbkcdhmggjbaaaGreatDoor
open Go.RowKit

def sumO (Os : List Nat) (n : Nat) : Nat := ((Os.take n).map card).foldl (· + ·) 0
theorem sum_cellsOf (Os : List Nat) : (cellsOf Os).length = ((List.range Os.length).map fun i => card (Os.getD i 0)).sum := by
  unfold cellsOf
  rw [List.length_flatMap]
  congr 1
  refine List.map_congr_left fun i _ => ?_
  rw [List.length_map, mems_len]
theorem range_getD {α : Type} (l : List Nat) (f : Nat → α) : ((List.range l.length).map fun i => f (l.getD i 0)) = l.map f := by
  apply List.ext_getElem?
  intro i
  by_cases hi : i < l.length
  · rw [List.getElem?_map, List.getElem?_range hi, Option.map_some, List.getElem?_map, List.getElem?_eq_getElem hi, Option.map_some, List.getD_eq_getElem?_getD, List.getElem?_eq_getElem hi]; rfl
  · rw [List.getElem?_eq_none (by simp; omega), List.getElem?_eq_none (by simp; omega)]
theorem foldl_sum (l : List Nat) : ∀ a, l.foldl (· + ·) a = a + l.sum := by
  induction l with
  | nil => intro a; simp
  | cons x l ih => intro a; rw [List.foldl_cons, ih, List.sum_cons]; omega
theorem sumO_all (Os : List Nat) : sumO Os Os.length = (cellsOf Os).length := by
  rw [sum_cellsOf, range_getD Os card]
  unfold sumO
  rw [List.take_length, foldl_sum, Nat.zero_add]
/-- The ones that a concept does not cover. -/
def lessO (C : Nat) (Ns Os : List Nat) (s : Nat) : List Nat := (List.range Os.length).map fun i => if (havN C Ns s).testBit i = true then minusN (Os.getD i 0) s else Os.getD i 0
theorem lessO_len (C : Nat) (Ns Os : List Nat) (s : Nat) : (lessO C Ns Os s).length = Os.length := by simp [lessO]
theorem lessO_get {C : Nat} {Ns Os : List Nat} {s i : Nat} (hi : i < Os.length) : (lessO C Ns Os s).getD i 0 = if (havN C Ns s).testBit i = true then minusN (Os.getD i 0) s else Os.getD i 0 := by
  unfold lessO
  rw [List.getD_eq_getElem?_getD, List.getElem?_map, List.getElem?_range hi]; rfl
theorem mems_minus (N s : Nat) : mems (minusN N s) = (mems N).filter fun j => !s.testBit j := by
  obtain ⟨a, ha⟩ := mems_is N
  obtain ⟨b, hb⟩ := mems_is (minusN N s)
  rw [ha (max a b) (by omega), hb (max a b) (by omega), List.filter_filter]
  refine List.filter_congr fun j _ => ?_
  rw [testBit_minusN, Bool.and_comm]
theorem cellsOf_less (C : Nat) (Ns Os : List Nat) (s : Nat) : cellsOf (lessO C Ns Os s) = lessL C Ns (cellsOf Os) s := by
  unfold cellsOf lessL
  rw [List.filter_flatMap, lessO_len]
  have key : ∀ (l : List Nat), (∀ i ∈ l, i < Os.length) → (l.flatMap fun i => (mems ((lessO C Ns Os s).getD i 0)).map fun j => (i, j)) = l.flatMap fun i => ((mems (Os.getD i 0)).map fun j => (i, j)).filter fun c => !inS C Ns s c := by
    intro l
    induction l with
    | nil => intro _; rfl
    | cons i l ih =>
      intro hl
      rw [List.flatMap_cons, List.flatMap_cons, ih fun k hk => hl k (by simp [hk])]
      congr 1
      rw [lessO_get (hl i (by simp)), List.filter_map]
      by_cases hi : (havN C Ns s).testBit i = true
      · rw [if_pos hi, mems_minus]
        congr 1
        refine List.filter_congr fun j _ => ?_
        simp [inS, hi]
      · rw [if_neg hi]
        congr 1
        rw [eq_comm, List.filter_eq_self]
        intro j _
        rw [Bool.not_eq_true] at hi
        simp [inS, hi]
  exact key _ fun i hi => List.mem_range.1 hi
theorem mems_and (N s : Nat) : mems (N &&& s) = (mems N).filter s.testBit := by
  obtain ⟨a, ha⟩ := mems_is N
  obtain ⟨b, hb⟩ := mems_is (N &&& s)
  rw [ha (max a b) (by omega), hb (max a b) (by omega), List.filter_filter]
  refine List.filter_congr fun j _ => ?_
  rw [Nat.testBit_and, Bool.and_comm]
theorem sum_filter (p : Nat → Bool) (f : Nat → Nat) : ∀ l : List Nat, ((l.filter p).map f).sum = (l.map fun i => if p i = true then f i else 0).sum
  | [] => rfl
  | i :: l => by
    rw [List.filter_cons, List.map_cons, List.sum_cons, ← sum_filter p f l]
    split <;> simp
/-- What a concept covers. -/
theorem gain_cells {C : Nat} {Ns Os : List Nat} (hl : Ns.length ≤ 4096) (hlen : Os.length = Ns.length) (s : Nat) : gainR C Ns Os s (mems (havN C Ns s)) = (cellsOf Os).countP (inS C Ns (cloN C Ns s)) := by
  have hm : mems (havN C Ns s) = (List.range Os.length).filter (havN C Ns s).testBit := mems_under fun j hj => by rw [hlen]; exact havN_lt hl hj
  unfold gainR cellsOf
  rw [foldl_sum, Nat.zero_add, hm, sum_filter, List.countP_flatMap]
  congr 1
  refine List.map_congr_left fun i _ => ?_
  rw [Function.comp_apply, List.countP_map]
  have e : ∀ j, (inS C Ns (cloN C Ns s) ∘ fun j => (i, j)) j = ((cloN C Ns s).testBit j && (havN C Ns s).testBit i) := fun j => by
    rw [Function.comp_apply, inS, hav_clo hl]
  rw [List.countP_congr fun j _ => by rw [e j]]
  by_cases hi : (havN C Ns s).testBit i = true
  · rw [if_pos hi, ← mems_len, mems_and, List.countP_eq_length_filter]
    congr 1
    refine List.filter_congr fun j _ => ?_
    rw [hi, Bool.and_true]
  · rw [if_neg hi]
    rw [Bool.not_eq_true] at hi
    rw [eq_comm, List.countP_eq_zero]
    intro j _
    rw [hi]; simp
/-! The program's node. -/
/-- The sets are ones of the matrix. -/
def Under (Ns Os : List Nat) : Prop := Os.length = Ns.length ∧ ∀ i, i < Os.length → ∀ j, (Os.getD i 0).testBit j = true → (Ns.getD i 0).testBit j = true
end Go.Proofs.YtfbkcdhmggjbaaaGreatDoor

/-
  What a child's turn leaves open, cell for cell, and the clone that holds it.
-/
namespace Go.Proofs.YtfbkcdhmggjbaaaGreatDoor
open Go.RowKit
/-- The ones left, where the columns of s have been taken out of the rows tried. -/
def lessP (s : Nat) (Os : List Nat) (pre : List Nat) : List Nat := (List.range Os.length).map fun i => if i ∈ pre then minusN (Os.getD i 0) s else Os.getD i 0
theorem lessP_len (s : Nat) (Os pre : List Nat) : (lessP s Os pre).length = Os.length := by simp [lessP]
theorem lessP_at {s : Nat} {Os pre : List Nat} {i : Nat} (hi : i < Os.length) : (lessP s Os pre)[i]? = some (if i ∈ pre then minusN (Os.getD i 0) s else Os.getD i 0) := by
  unfold lessP
  rw [List.getElem?_map, List.getElem?_range hi, Option.map_some]
theorem lessP_nil (s : Nat) (Os : List Nat) : lessP s Os [] = Os := by
  apply List.ext_getElem?
  intro i
  by_cases hi : i < Os.length
  · rw [lessP_at hi, if_neg (by simp), List.getD_eq_getElem?_getD, List.getElem?_eq_getElem hi]; rfl
  · rw [List.getElem?_eq_none (by rw [lessP_len]; omega), List.getElem?_eq_none (by omega)]
theorem minus_minus (a s : Nat) : minusN (minusN a s) s = minusN a s := nat_ext fun x => by
  rw [testBit_minusN, testBit_minusN]
  cases a.testBit x <;> cases s.testBit x <;> rfl
theorem lessP_snoc {s : Nat} {Os pre : List Nat} {x : Nat} (hx : x < Os.length) : (lessP s Os pre).set x (minusN ((lessP s Os pre).getD x 0) s) = lessP s Os (pre ++ [x]) := by
  apply List.ext_getElem?
  intro i
  have e : (lessP s Os pre).getD x 0 = if x ∈ pre then minusN (Os.getD x 0) s else Os.getD x 0 := by rw [List.getD_eq_getElem?_getD, lessP_at hx]; rfl
  rw [e, List.getElem?_set]
  by_cases hi : x = i
  · subst hi
    rw [if_pos rfl, if_pos (show x < (lessP s Os pre).length by rw [lessP_len]; exact hx), lessP_at hx, if_pos (show x ∈ pre ++ [x] from List.mem_append_right _ (List.mem_singleton.2 rfl))]
    by_cases hp : x ∈ pre
    · rw [if_pos hp, minus_minus]
    · rw [if_neg hp]
  · rw [if_neg hi]
    by_cases hl : i < Os.length
    · rw [lessP_at hl, lessP_at hl]
      have : i ∈ pre ++ [x] ↔ i ∈ pre := by
        rw [List.mem_append, List.mem_singleton]
        exact ⟨fun h => h.elim id fun h => absurd h.symm hi, .inl⟩
      simp only [this]
    · rw [List.getElem?_eq_none (by rw [lessP_len]; omega), List.getElem?_eq_none (by rw [lessP_len]; omega)]
theorem lessP_mems (C : Nat) (Ns Os : List Nat) (s : Nat) : lessP s Os (mems (havN C Ns s)) = lessO C Ns Os s := by
  unfold lessP lessO
  refine List.map_congr_left fun i _ => ?_
  simp only [mem_mems]
theorem sum_step {su c i L : Nat} (hi : i < L) (hL : L ≤ 4096) (hs : su ≤ i * 4096) (hc : c ≤ 4096) : wrap64 ((su : Int) + (c : Int)) = ((su + c : Nat) : Int) ∧ su + c ≤ (i + 1) * 4096 ∧ i + 1 ≤ L ∧ L - (i + 1) < L - i := by
  have : i * 4096 ≤ 16777216 := by omega
  refine ⟨?_, by omega, by omega, by omega⟩
  rw [Int.natCast_add]
  exact IntWalk.wrap64_in _ ⟨by omega, by omega⟩
/-- A block holds, cell for cell from its start, the sets. -/
def Cln (w : World) (g : Nat) (Ls : List Nat) : Prop := ∃ cs vs, Blk w g 74 cs ∧ (∀ (k : Nat) v, vs[k]? = some v → cs[k]? = some v) ∧ Sets w vs Ls
section
variable {w w' : World} {g : Nat} {Ls : List Nat}
theorem Cln.below (h : Cln w g Ls) (hb : Below w.heap.size w w') : Cln w' g Ls := by
  obtain ⟨cs, vs, h1, h2, h3⟩ := h
  exact ⟨cs, vs, h1.below hb h1.lt, h2, h3.below hb⟩
theorem Cln.lt (h : Cln w g Ls) : g < w.heap.size := by obtain ⟨_, _, h1, _⟩ := h; exact h1.lt
theorem Cln.row (h : Cln w g Ls) : ∃ vs, Row w (some ⟨g, 0, none⟩) vs ∧ Sets w vs Ls := by
  obtain ⟨cs, vs, h1, h2, h3⟩ := h
  refine ⟨vs, fun _ => ⟨g, 0, rfl, h1.lt, fun k u hu => ?_⟩, h3⟩
  have hc := h2 k u hu
  obtain ⟨hk, hc'⟩ := Array.getElem?_eq_some_iff.1 hc
  have := h1.cell k
  simpa [hc, hc', hk] using this
theorem Cln.put (h : Cln w g Ls) {v : Value} {N i : Nat} (hs : IsSet w v N) : Cln (w.setCell ⟨g, i, none⟩ v) g (Ls.set i N) := by
  obtain ⟨cs, vs, h1, h2, h3⟩ := h
  have hk := KeepW.setCell (p := ⟨g, i, none⟩) h1 (by decide) v
  refine ⟨_, vs.set i v, h1.set_ i v, fun k u hu => ?_, (h3.put hs).keep hk⟩
  rw [List.getElem?_set] at hu
  rw [Array.getElem?_setIfInBounds]
  by_cases e : i = k
  · subst e
    rw [if_pos rfl] at hu
    split at hu
    · next hl =>
      have := Array.getElem?_eq_some_iff.1 (h2 i _ (List.getElem?_eq_getElem hl))
      obtain ⟨hi, _⟩ := this
      rw [if_pos rfl, if_pos hi]
      exact hu
    · cases hu
  · rw [if_neg e] at hu
    rw [if_neg e]
    exact h2 k u hu
end
end Go.Proofs.YtfbkcdhmggjbaaaGreatDoor
