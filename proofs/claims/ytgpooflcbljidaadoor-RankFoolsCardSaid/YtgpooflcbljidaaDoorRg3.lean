/-
  slices.SortFunc over rank.lectic: a row of sets, in lectic order.
-/
import Derived.Test.YtgpooflcbljidaaDoorRg2
import Derived.Test.YtgpooflcbljidaaDoorSortL
namespace Go.Proofs.YtgpooflcbljidaaDoor
open Go.RowKit

/-- A set of the world w. -/
abbrev SetIn (w : World) := { x : Value × Nat // IsSet w x.1 x.2 }
@[reducible] def setInh (w : World) : Inhabited (SetIn w) := ⟨⟨(.slice none 0 0, 0), IsSet.empty w⟩⟩
def encS (w : World) (x : SetIn w) : List Value := [x.1.1]
def cmpS (w : World) (x y : SetIn w) : Int := lecN x.1.2 y.1.2
theorem ltOf_S (w : World) (x y : SetIn w) : Go.Proofs.ltOf (cmpS w) x y = lecR x.1.2 y.1.2 := by
  unfold Go.Proofs.ltOf cmpS
  exact lecN_lt _ _
theorem swo_S (w : World) : Go.Sort.SWO (Go.Proofs.ltOf (cmpS w)) where
  irrefl x := by rw [ltOf_S]; exact lecR_irrefl _
  trans x y z h1 h2 := by rw [ltOf_S] at *; exact lecR_trans _ _ _ h1 h2
  ntrans x y z h1 h2 := by
    rw [ltOf_S] at *
    cases h : lecR x.1.2 z.1.2
    · rfl
    · by_cases e1 : x.1.2 = y.1.2
      · rw [e1, h2] at h; cases h
      · have a := lecR_total _ _ e1 h1
        by_cases e2 : y.1.2 = z.1.2
        · rw [e2] at a; rw [lecR_asymm _ _ a] at h; cases h
        · have b := lecR_total _ _ e2 h2
          have c := lecR_trans _ _ _ b a
          rw [lecR_asymm _ _ c] at h; cases h
section
variable {α : Type} [Inhabited α]
/-- A world of the sort's: blocks but the row's are as they were. -/
theorem sortWorld_heap (enc : α → List Value) (k : Nat) (w : World) (blk off m : Nat) (d : Array α) (os : Array Obj) {g : Nat} (hg : g < w.heap.size) (hne : g ≠ blk) : (Go.Proofs.sortWorldK enc k w blk off m d os).heap[g]? = w.heap[g]? := by
  unfold Go.Proofs.sortWorldK
  rw [Go.Sort.heap_grow_old _ _ (by simpa [Go.Sort.putRowK, Go.Sort.putRow, Go.Sort.mapBlock, Go.Sort.ahead] using hg)]
  unfold Go.Sort.putRowK Go.Sort.putRow Go.Sort.mapBlock Go.Sort.ahead
  dsimp only
  rw [Array.getElem?_modify, if_neg (fun e => hne e.symm)]
theorem sortWorld_size (enc : α → List Value) (k : Nat) (w : World) (blk off m : Nat) (d : Array α) (os : Array Obj) : w.heap.size ≤ (Go.Proofs.sortWorldK enc k w blk off m d os).heap.size := by
  simp [Go.Proofs.sortWorldK, Go.Sort.putRowK, Go.Sort.putRow, Go.Sort.mapBlock, Go.Sort.ahead, Go.Sort.grow]
theorem sortWorld_keep (enc : α → List Value) (k : Nat) (w : World) (blk off m : Nat) (d : Array α) (os : Array Obj) {t : TypeId} {cs : Array Value} (hB : Blk w blk t cs) (ht : 72 ≠ t) : KeepW w (Go.Proofs.sortWorldK enc k w blk off m d os) :=
  ⟨sortWorld_size enc k w blk off m d os, fun _ _ h => (sortWorld_heap enc k w blk off m d os h.lt (h.ne_ hB ht)).trans h⟩
theorem sortWorld_below (enc : α → List Value) (k : Nat) (w : World) (blk off m : Nat) (d : Array α) (os : Array Obj) (hb : blk < w.heap.size) : Below blk w (Go.Proofs.sortWorldK enc k w blk off m d os) :=
  ⟨rfl, rfl, rfl, sortWorld_size enc k w blk off m d os, fun g hg => sortWorld_heap enc k w blk off m d os (by omega) (by omega)⟩
end
theorem isAggS (W : World) : (isAgg 66).run Tryd.prog W = .ok true W := by kernel_rfl
theorem sizeOfS (W : World) : (Go.sizeOf 66).run Tryd.prog W = .ok 1 W := by kernel_rfl
theorem cmpLays_S (w : World) (blk size : Nat) {t : TypeId} {cs : Array Value} (hB : Blk w blk t cs) (ht : 72 ≠ t) (ht2 : blk ≠ 0) (hT : Tab w) : letI := setInh w; Go.Proofs.CmpLays Tryd.prog 67 #[] (encS w) 1 (cmpS w) blk 0 size w := by
  letI := setInh w
  intro m os dk hs x y
  have hk := sortWorld_keep (encS w) 1 w blk 0 m dk os hB ht
  have hT' : Tab (Go.Proofs.sortWorldK (encS w) 1 w blk 0 m dk os) := fun j hj => by
    have h := hT j hj
    exact (World.cell?_of_block (sortWorld_heap (encS w) 1 w blk 0 m dk os (cell_lt h) (Ne.symm ht2))).trans h
  exact lectic_g x.1.1 y.1.1 x.1.2 y.1.2 _ (x.2.keep hk) (y.2.keep hk) hT'
/-- A row of sets, sorted. -/
theorem sort_sets (g : Nat) (cs : Array Value) (vs : List Value) (Ns : List Nat) (cap : Nat) (w : World) (hB : Blk w g 66 cs) (hv : ∀ (k : Nat) u, vs[k]? = some u → cs[k]? = some u) (hs : Sets w vs Ns) (hT : Tab w) (hsz : vs.length < 4611686018427387904) (hg : g ≠ 0) :
    Calls Tryd.prog 66 #[.slice (some ⟨g, 0, none⟩) vs.length cap, .func (.func 67) #[] #[]] w fun e w' => e = .returned (.tuple #[]) ∧
      ∃ vs' Ns', Ns'.Perm Ns ∧ Ns'.Pairwise (fun a b => lecR b a = false) ∧ vs'.length = vs.length ∧ Row w' (some ⟨g, 0, none⟩) vs' ∧ Sets w' vs' Ns' ∧ Below g w w' ∧ KeepW w w' := by
  letI := setInh w
  have hl := hs.1
  have hset : ∀ k, (h : k < vs.length) → IsSet w vs[k] (Ns[k]'(by omega)) := fun k h => hs.2 k _ _ (List.getElem?_eq_getElem h) (List.getElem?_eq_getElem (by omega))
  let d : Array (SetIn w) := Array.ofFn (n := vs.length) fun k => ⟨(vs[k.1], Ns[k.1]'(by have := k.2; omega)), hset k.1 k.2⟩
  have hd : d.size = vs.length := by simp [d]
  have hdv : d.toList.map (fun x => x.1.1) = vs := by
    apply List.ext_getElem
    · simp [d]
    · intro i h1 h2; simp [d]
  have hdN : d.toList.map (fun x => x.1.2) = Ns := by
    apply List.ext_getElem
    · simp [d, hl]
    · intro i h1 h2; simp [d]
  have hH : Go.Sort.HoldsK (encS w) 1 w g 0 d := by
    intro j hj
    rw [Go.Sort.size_flatK] at hj
    have hj' : j < vs.length := by omega
    refine ⟨?_, hB.frozen _⟩
    rw [Go.Sort.get_flatK _ _ _ _ hj, Nat.zero_add, hB.cell, Nat.div_one, Nat.mod_one]
    have h1 := hv j _ (List.getElem?_eq_getElem hj')
    rw [h1]
    show some _ = some (id ([d[j]!.1.1][0]!))
    rw [getElem!_pos d j (by omega)]
    simp [d]
  clear_value d
  have hcon := AnyQ.slices_SortFunc Tryd.sortSet 1 isAggS sizeOfS (encS w) (fun _ => rfl) (fun x v hx => by
    obtain ⟨A, c, e, _⟩ := x.2
    simp only [encS, List.mem_singleton] at hx
    rw [hx, e]; rfl) (cmpS w) (swo_S w) 67 #[] g 0 cap d w (enters_of Tryd.func67 (by kernel_rfl) rfl) (cmpLays_S w g d.size hB (by decide) hg hT) hH hB.lt (by omega)
  rw [hd] at hcon
  refine Calls.mono hcon ?_
  rintro e w' ⟨rfl, d', n', os, ⟨hps, _, hperm⟩, hsort, rfl⟩
  have hk := sortWorld_keep (encS w) 1 w g 0 n' d' os hB (by decide)
  have hp : d'.toList.Perm d.toList := by
    have e1 : d'.extract 0 vs.length = d' := by rw [← hd, ← hps]; simp
    have e2 : d.extract 0 vs.length = d := by rw [← hd]; simp
    rwa [e1, e2] at hperm
  refine ⟨rfl, d'.toList.map (fun x => x.1.1), d'.toList.map (fun x => x.1.2), by rw [← hdN]; exact hp.map _, ?_, by simp [hps, hd], ?_, ?_, sortWorld_below _ _ _ _ _ _ _ _ hB.lt, hk⟩
  · rw [List.pairwise_map, List.pairwise_iff_getElem]
    intro i j hi hj hij
    rw [Array.length_toList] at hi hj
    have := hsort i j (Nat.zero_le _) hij (by omega)
    rw [ltOf_S, getElem!_pos d' i hi, getElem!_pos d' j hj] at this
    simpa using this
  · intro hn
    refine ⟨g, 0, rfl, Nat.lt_of_lt_of_le hB.lt (sortWorld_size _ _ _ _ _ _ _ _), fun k u hu => ?_⟩
    rw [List.getElem?_map] at hu
    obtain ⟨x, hx, rfl⟩ := Option.map_eq_some_iff.1 hu
    have hkd : k < d'.size := by have := (List.getElem?_eq_some_iff.1 hx).1; rwa [Array.length_toList] at this
    have hc := Go.Sort.cell?_putRow id (Go.Sort.ahead w n') g 0 (Go.Sort.flatK (encS w) 1 d) (Go.Sort.flatK (encS w) 1 d') (fun j hj => hH j hj) (by rw [Go.Sort.size_flatK, Go.Sort.size_flatK, hps]) k (by rw [Go.Sort.size_flatK]; omega)
    unfold Go.Proofs.sortWorldK
    rw [Go.Sort.cell?_grow _ _ _ (by simpa [Go.Sort.putRowK, Go.Sort.putRow, Go.Sort.mapBlock, Go.Sort.ahead] using hB.lt)]
    unfold Go.Sort.putRowK
    rw [hc, Go.Sort.get_flatK _ _ _ _ (by omega), Nat.div_one, Nat.mod_one, getElem!_pos d' k hkd]
    have e : d'[k] = x := by
      have := (List.getElem?_eq_some_iff.1 hx).2
      rw [← this]; simp
    rw [e]; rfl
  · refine ⟨by simp, fun k v N hv' hN => ?_⟩
    rw [List.getElem?_map] at hv' hN
    obtain ⟨x, hx, rfl⟩ := Option.map_eq_some_iff.1 hv'
    rw [hx] at hN
    cases hN
    exact x.2.keep hk
end Go.Proofs.YtgpooflcbljidaaDoor
