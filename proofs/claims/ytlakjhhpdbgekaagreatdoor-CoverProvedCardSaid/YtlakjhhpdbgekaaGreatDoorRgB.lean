import Derived.Test.YtlakjhhpdbgekaaGreatDoorRgA
import Derived.Test.YtlakjhhpdbgekaaGreatDoorSortL
/-
  slices.SortFunc over rank.lectic: a row of sets, in lectic order.
-/
namespace Go.Proofs.YtlakjhhpdbgekaaGreatDoor
open Go.RowKit

/-- A set of the world w. -/
abbrev SetIn (w : World) := { x : Value × Nat // IsSet w x.1 x.2 }
@[reducible] def setInh (w : World) : Inhabited (SetIn w) := ⟨⟨(.slice none 0 0, 0), IsSet.empty w⟩⟩
def encS (w : World) (x : SetIn w) : List Value := [x.1.1]
def cmpS (w : World) (x y : SetIn w) : Int := lecN x.1.2 y.1.2
theorem ltOf_S (w : World) (x y : SetIn w) : Go.Proofs.ltOf (cmpS w) x y = lecR x.1.2 y.1.2 := by
  unfold Go.Proofs.ltOf cmpS
  exact lecN_lt _ _
theorem swo_S (w : World) : Go.Sort.SWO (Go.Proofs.ltOf (cmpS w)) where
  irrefl x := by rw [ltOf_S]; exact lecR_irrefl _
  trans x y z h1 h2 := by rw [ltOf_S] at *; exact lecR_trans _ _ _ h1 h2
  ntrans x y z h1 h2 := by
    rw [ltOf_S] at *
    cases h : lecR x.1.2 z.1.2
    · rfl
    · by_cases e1 : x.1.2 = y.1.2
      · rw [e1, h2] at h; cases h
      · have a := lecR_total _ _ e1 h1
        by_cases e2 : y.1.2 = z.1.2
        · rw [e2] at a; rw [lecR_asymm _ _ a] at h; cases h
        · have b := lecR_total _ _ e2 h2
          have c := lecR_trans _ _ _ b a
          rw [lecR_asymm _ _ c] at h; cases h
section
variable {α : Type} [Inhabited α]
/-- A world of the sort's: blocks but the row's are as they were. -/
theorem sortWorld_heap (enc : α → List Value) (k : Nat) (w : World) (blk off m : Nat) (d : Array α) (os : Array Obj) {g : Nat} (hg : g < w.heap.size) (hne : g ≠ blk) : (Go.Proofs.sortWorldK enc k w blk off m d os).heap[g]? = w.heap[g]? := by
  unfold Go.Proofs.sortWorldK
  rw [Go.Sort.heap_grow_old _ _ (by simpa [Go.Sort.putRowK, Go.Sort.putRow, Go.Sort.mapBlock, Go.Sort.ahead] using hg)]
  unfold Go.Sort.putRowK Go.Sort.putRow Go.Sort.mapBlock Go.Sort.ahead
  dsimp only
  rw [Array.getElem?_modify, if_neg (fun e => hne e.symm)]
theorem sortWorld_size (enc : α → List Value) (k : Nat) (w : World) (blk off m : Nat) (d : Array α) (os : Array Obj) : w.heap.size ≤ (Go.Proofs.sortWorldK enc k w blk off m d os).heap.size := by
  simp [Go.Proofs.sortWorldK, Go.Sort.putRowK, Go.Sort.putRow, Go.Sort.mapBlock, Go.Sort.ahead, Go.Sort.grow]
theorem sortWorld_keep (enc : α → List Value) (k : Nat) (w : World) (blk off m : Nat) (d : Array α) (os : Array Obj) {t : TypeId} {cs : Array Value} (hB : Blk w blk t cs) (ht : 110 ≠ t) : KeepW w (Go.Proofs.sortWorldK enc k w blk off m d os) :=
  ⟨sortWorld_size enc k w blk off m d os, fun _ _ h => (sortWorld_heap enc k w blk off m d os h.lt (h.ne_ hB ht)).trans h⟩
theorem sortWorld_below (enc : α → List Value) (k : Nat) (w : World) (blk off m : Nat) (d : Array α) (os : Array Obj) (hb : blk < w.heap.size) : Below blk w (Go.Proofs.sortWorldK enc k w blk off m d os) :=
  ⟨rfl, rfl, rfl, sortWorld_size enc k w blk off m d os, fun g hg => sortWorld_heap enc k w blk off m d os (by omega) (by omega)⟩
end
theorem isAggS (W : World) : (isAgg 65).run Tryz.prog W = .ok true W := by kernel_rfl
theorem sizeOfS (W : World) : (Go.sizeOf 65).run Tryz.prog W = .ok 1 W := by kernel_rfl
theorem cmpLays_S (w : World) (blk size : Nat) {t : TypeId} {cs : Array Value} (hB : Blk w blk t cs) (ht : 110 ≠ t) (ht2 : blk ≠ 0) (hT : Tab w) : letI := setInh w; Go.Proofs.CmpLays Tryz.prog 151 #[] (encS w) 1 (cmpS w) blk 0 size w := by
  letI := setInh w
  intro m os dk hs x y
  have hk := sortWorld_keep (encS w) 1 w blk 0 m dk os hB ht
  have hT' : Tab (Go.Proofs.sortWorldK (encS w) 1 w blk 0 m dk os) := fun j hj => by
    have h := hT j hj
    exact (World.cell?_of_block (sortWorld_heap (encS w) 1 w blk 0 m dk os (cell_lt h) (Ne.symm ht2))).trans h
  exact lectic_g x.1.1 y.1.1 x.1.2 y.1.2 _ (x.2.keep hk) (y.2.keep hk) hT'
/-- A row of sets, sorted. -/
theorem sort_sets (g : Nat) (cs : Array Value) (vs : List Value) (Ns : List Nat) (cap : Nat) (w : World) (hB : Blk w g 65 cs) (hv : ∀ (k : Nat) u, vs[k]? = some u → cs[k]? = some u) (hs : Sets w vs Ns) (hT : Tab w) (hsz : vs.length < 4611686018427387904) (hg : g ≠ 0) :
    Calls Tryz.prog 150 #[.slice (some ⟨g, 0, none⟩) vs.length cap, .func (.func 151) #[] #[]] w fun e w' => e = .returned (.tuple #[]) ∧
      ∃ vs' Ns', Ns'.Perm Ns ∧ Ns'.Pairwise (fun a b => lecR b a = false) ∧ vs'.length = vs.length ∧ Row w' (some ⟨g, 0, none⟩) vs' ∧ Sets w' vs' Ns' ∧ Below g w w' ∧ KeepW w w' := by
  letI := setInh w
  have hl := hs.1
  have hset : ∀ k, (h : k < vs.length) → IsSet w vs[k] (Ns[k]'(by omega)) := fun k h => hs.2 k _ _ (List.getElem?_eq_getElem h) (List.getElem?_eq_getElem (by omega))
  let d : Array (SetIn w) := Array.ofFn (n := vs.length) fun k => ⟨(vs[k.1], Ns[k.1]'(by have := k.2; omega)), hset k.1 k.2⟩
  have hd : d.size = vs.length := by simp [d]
  have hdv : d.toList.map (fun x => x.1.1) = vs := by
    apply List.ext_getElem
    · simp [d]
    · intro i h1 h2; simp [d]
  have hdN : d.toList.map (fun x => x.1.2) = Ns := by
    apply List.ext_getElem
    · simp [d, hl]
    · intro i h1 h2; simp [d]
  have hH : Go.Sort.HoldsK (encS w) 1 w g 0 d := by
    intro j hj
    rw [Go.Sort.size_flatK] at hj
    have hj' : j < vs.length := by omega
    refine ⟨?_, hB.frozen _⟩
    rw [Go.Sort.get_flatK _ _ _ _ hj, Nat.zero_add, hB.cell, Nat.div_one, Nat.mod_one]
    have h1 := hv j _ (List.getElem?_eq_getElem hj')
    rw [h1]
    show some _ = some (id ([d[j]!.1.1][0]!))
    rw [getElem!_pos d j (by omega)]
    simp [d]
  clear_value d
  have hcon := AnyQ.slices_SortFunc Tryz.sortSet 1 isAggS sizeOfS (encS w) (fun _ => rfl) (fun x v hx => by
    obtain ⟨A, c, e, _⟩ := x.2
    simp only [encS, List.mem_singleton] at hx
    rw [hx, e]; rfl) (cmpS w) (swo_S w) 151 #[] g 0 cap d w (enters_of Tryz.func151 (by kernel_rfl) rfl) (cmpLays_S w g d.size hB (by decide) hg hT) hH hB.lt (by omega)
  rw [hd] at hcon
  refine Calls.mono hcon ?_
  rintro e w' ⟨rfl, d', n', os, ⟨hps, _, hperm⟩, hsort, rfl⟩
  have hk := sortWorld_keep (encS w) 1 w g 0 n' d' os hB (by decide)
  have hp : d'.toList.Perm d.toList := by
    have e1 : d'.extract 0 vs.length = d' := by rw [← hd, ← hps]; simp
    have e2 : d.extract 0 vs.length = d := by rw [← hd]; simp
    rwa [e1, e2] at hperm
  refine ⟨rfl, d'.toList.map (fun x => x.1.1), d'.toList.map (fun x => x.1.2), by rw [← hdN]; exact hp.map _, ?_, by simp [hps, hd], ?_, ?_, sortWorld_below _ _ _ _ _ _ _ _ hB.lt, hk⟩
  · rw [List.pairwise_map, List.pairwise_iff_getElem]
    intro i j hi hj hij
    rw [Array.length_toList] at hi hj
    have := hsort i j (Nat.zero_le _) hij (by omega)
    rw [ltOf_S, getElem!_pos d' i hi, getElem!_pos d' j hj] at this
    simpa using this
  · intro hn
    refine ⟨g, 0, rfl, Nat.lt_of_lt_of_le hB.lt (sortWorld_size _ _ _ _ _ _ _ _), fun k u hu => ?_⟩
    rw [List.getElem?_map] at hu
    obtain ⟨x, hx, rfl⟩ := Option.map_eq_some_iff.1 hu
    have hkd : k < d'.size := by have := (List.getElem?_eq_some_iff.1 hx).1; rwa [Array.length_toList] at this
    have hc := Go.Sort.cell?_putRow id (Go.Sort.ahead w n') g 0 (Go.Sort.flatK (encS w) 1 d) (Go.Sort.flatK (encS w) 1 d') (fun j hj => hH j hj) (by rw [Go.Sort.size_flatK, Go.Sort.size_flatK, hps]) k (by rw [Go.Sort.size_flatK]; omega)
    unfold Go.Proofs.sortWorldK
    rw [Go.Sort.cell?_grow _ _ _ (by simpa [Go.Sort.putRowK, Go.Sort.putRow, Go.Sort.mapBlock, Go.Sort.ahead] using hB.lt)]
    unfold Go.Sort.putRowK
    rw [hc, Go.Sort.get_flatK _ _ _ _ (by omega), Nat.div_one, Nat.mod_one, getElem!_pos d' k hkd]
    have e : d'[k] = x := by
      have := (List.getElem?_eq_some_iff.1 hx).2
      rw [← this]; simp
    rw [e]; rfl
  · refine ⟨by simp, fun k v N hv' hN => ?_⟩
    rw [List.getElem?_map] at hv' hN
    obtain ⟨x, hx, rfl⟩ := Option.map_eq_some_iff.1 hv'
    rw [hx] at hN
    cases hN
    exact x.2.keep hk
end Go.Proofs.YtlakjhhpdbgekaaGreatDoor

namespace Go.Proofs.YtlakjhhpdbgekaaGreatDoor
open Go.RowKit
set_option maxRecDepth 100000 in
set_option maxHeartbeats 8000000 in
theorem conc_yes (p C : Nat) (Ns : List Nat) (i j : Nat) (w : World) (h : IsMat w p C Ns) (hin : rowsIn C Ns) (hi : i < Ns.length) (hj : j < C) (hbit : (Ns.getD i 0).testBit j = true) (hc : card (Ns.getD i 0) ≤ 12) (hT : Tab w) :
    Calls Tryz.prog 135 #[ptr p, .int .i64 i, .int .i64 j] w fun e w' => ∃ A n c vs, e = .returned (.slice A n c) ∧ n = (conL C Ns i j).length ∧ Row w' A vs ∧ Sets w' vs (conL C Ns i j) ∧ Below w.heap.size w w' := by
  have hlN : Ns.length ≤ 4096 := h.2.1
  have hC4 : C ≤ 4096 := h.1
  have hhas := hasm_any p C Ns i j w h
  rw [mhas_at hi hj, hbit] at hhas
  have hrow : ∀ W, Below w.heap.size w W → _ := fun W hb => row_any p C Ns i W (h.below hb)
  rw [mrow, if_pos (by omega), Int.toNat_natCast] at hrow
  have hDC : ∀ x, (Ns.getD i 0).testBit x = true → x < C := fun x hx => by
    have := hin i hi
    rw [← this, Nat.testBit_and, testBit_lowN, Bool.and_eq_true, decide_eq_true_eq] at hx
    exact hx.2
  have hDe : ∀ x, (Ns.getD i 0).testBit x = true ↔ (Ns.getD i 0).testBit x = true := fun _ => Iff.rfl
  have hmc := fun K hK => mem_candL (C := C) (D := Ns.getD i 0) (K := K) hlN hi hDe hDC hbit hK
  generalize Ns.getD i 0 = D at hhas hrow hDC hmc hbit hc
  have hwo : withoutB D (j : Int) = D ^^^ 2 ^ j := by unfold withoutB hasB; simp [hbit]
  have hKb : ∀ x, (D ^^^ 2 ^ j).testBit x = true ↔ D.testBit x = true ∧ x ≠ j := fun x => by rw [testBit_without hbit, Bool.and_eq_true, decide_eq_true_eq]
  obtain ⟨K, hK⟩ : ∃ K, K = D ^^^ 2 ^ j := ⟨_, rfl⟩
  rw [← hK] at hwo hKb
  have hKj : K.testBit j = false := by
    cases hb : K.testBit j with
    | false => rfl
    | true => exact absurd rfl ((hKb j).1 hb).2
  have hcK : card K ≤ 12 := by
    rw [← mems_len] at hc ⊢
    exact Nat.le_trans (List.Nodup.length_le_of_subset (mems_nodup K) fun x hx => mem_mems.2 ((hKb x).1 (mem_mems.1 hx)).1) hc
  have HMC := Lib.hid (hmc K hKb)
  have HKJ := Lib.hid hKj
  have HWO := Lib.hid hwo
  have HH := hideC hhas
  have HR := Lib.hid hrow
  have HLC := hideC (fun W r hr => len_any r D W hr)
  obtain ⟨cd, hcd⟩ : ∃ x, x = card D := ⟨_, rfl⟩
  rw [← hcd] at HLC hc
  clear hhas hrow hDC hDe hmc hbit hwo hKb hKj hcd hK
  obtain ⟨i0, hi0, hz0, hz1, hz2⟩ := info_parts info_set
  go_enter Tryz.func135, Tryz.ntmps135
  go_wp2_with fail
  refine HH.out.mono ?_
  rintro e w1 ⟨rfl, b1⟩
  go_wp2_with fail
  refine (res3 rfl (HR.out w1 b1)).mono ?_
  rintro e w2 ⟨A2, n2, c2, rfl, s2, hb⟩
  have b2 := b1.trans (hb.mono b1.size)
  go_wp2_with fail
  refine (HLC.out w2 _ s2).mono ?_
  rintro e w3 ⟨rfl, hb⟩
  have b3 := b2.trans (hb.mono b2.size)
  go_wp2_with fail
  refine (res3 rfl (HR.out w3 b3)).mono ?_
  rintro e w4 ⟨A4, n4, c4, rfl, s4, hb⟩
  have b4 := b3.trans (hb.mono b3.size)
  go_wp2_with fail
  refine (res3 HWO.out (without_any _ D (j : Int) w4 s4)).mono ?_
  rintro e w5 ⟨A5, n5, c5, rfl, s5, hb⟩
  have b5 := b4.trans (hb.mono b4.size)
  go_wp2_with fail
  refine (list_any _ K w5 s5 (hT.below b5)).mono ?_
  rintro e w6 ⟨AL, cL, rfl, hLc, hLm, hrL, hb⟩
  have b6 := b5.trans (hb.mono b5.size)
  have hlen : (mems K).length ≤ 12 := by rw [mems_len]; exact hcK
  obtain ⟨l, hl⟩ : ∃ l, l = (mems K).length := ⟨_, rfl⟩
  rw [← hl] at hLc hlen ⊢
  have HL := Lib.hid hl
  clear hl
  obtain ⟨E, hE⟩ : ∃ E : Nat, E = 2 ^ l := ⟨_, rfl⟩
  have hE2 : E ≤ 4096 := by rw [hE]; exact Nat.le_trans (Nat.pow_le_pow_right (by omega) hlen) (by decide)
  have e2 : wrap64 ((2 : Int) ^ l) = (E : Int) := by
    have : ((2 : Int) ^ l) = (E : Int) := by rw [hE]; simp
    rw [this]
    exact IntWalk.wrap64_in _ ⟨by omega, by omega⟩
  have HEE := Lib.hid hE
  have HS5 := Lib.hid s5
  clear hE hb s2 s4 s5 b1 b2 b3 b4 b5 HH HR HLC HWO hLm hLc
  have hm6 := h.below b6
  have hT6 := hT.below b6
  go_wp2_with fail
  rw [e2]
  clear e2
  refine wp_loopF (β := Nat × Value) (fun s f => #[ptr p, f 1, .int .i64 (j : Int), f 3, f 4, f 5, f 6, .slice AL l cL, s.2, f 9, f 10, f 11, f 12, f 13, f 14, f 15, f 16, f 17, f 18, f 19, f 20, f 21, f 22, f 23, f 24, f 25, f 26, f 27, f 28, f 29, f 30, f 31, f 32, .int .i64 (E : Int), .int .i64 (s.1 : Int), f 35, f 36, f 37, f 38, f 39, f 40, f 41, f 42, f 43, f 44, f 45, f 46, f 47, f 48, f 49, f 50, f 51, f 52, f 53, f 54, f 55, f 56, f 57, f 58, f 59, f 60, f 61, f 62, f 63, f 64, f 65, f 66])
    (fun s ds wr => s.1 ≤ E ∧ ds = [] ∧ Below w6.heap.size w6 wr ∧ ∃ vs, wr.ownsRow w6.heap.size 65 1 s.2 (candL C Ns j K s.1).length vs ∧ Sets wr vs (candL C Ns j K s.1)) (fun s => E - s.1) (0, .slice none 0 0) rfl
    ⟨Nat.zero_le _, rfl, Below.refl _ _, [], World.ownsRow_nil _ _ _ _, Sets.nil _⟩ ?_
  rintro ⟨n, v8⟩ f ds wr ⟨hnE, rfl, hbr, vs, hown, hsets⟩
  dsimp only at hnE hown hsets ⊢
  by_cases hlt : n < E
  · go_wp2_with fail
    refine absC1 fun w7 hB7 hb7 hz7 => ?_
    have hof := of_any (some ⟨wr.heap.size, 0, none⟩) 1 [(j : Int)] w7 (Row.of_blk hB7 fun k u hu => by rw [List.map_cons, List.map_nil] at hu; rw [List.getElem?_toArray]; exact hu) (by simp)
    have hsj : setOf [(j : Int)] = 2 ^ j := nat_ext fun x => by
      rw [testBit_setOf, Nat.testBit_two_pow, decide_eq_true_eq, decide_eq_true_eq]
      simp only [List.mem_singleton]
      omega
    have HOF := hideC (res3 hsj hof)
    clear hof hsj
    refine HOF.out.mono ?_
    rintro e w8 ⟨A8, n8, c8, rfl, s8, hb8⟩
    have hb78 := hb7.trans (hb8.mono hb7.size)
    have hbr8 := hbr.trans (hb78.mono hbr.size)
    have hown8 := own_below hown hb78
    have hsets8 := hsets.below hb78
    clear HOF hB7 hz7 hb7 hb8
    go_wp2_with fail
    refine abs1 fun W7 hG hb9 hz9 => ?_
    have hb67 := hbr8.trans (hb9.mono hbr8.size)
    have hown7 := own_below hown8 hb9
    have hsets7 := hsets8.below hb9
    have s9 := s8.below hb9
    have lG := hG.lt
    obtain ⟨g, hg⟩ : ∃ g, g = w8.heap.size := ⟨_, rfl⟩
    have hgr : wr.heap.size ≤ g := by rw [hg]; exact hb78.size
    have hg6 : w6.heap.size ≤ g := by rw [hg]; exact hbr8.size
    rw [← hg] at hG lG hz9 ⊢
    clear hg hb9 hb78 s8 hown8 hsets8 hbr8
    refine wp_loopF (β := Nat) (fun q f => #[ptr p, f 1, .int .i64 (j : Int), f 3, f 4, f 5, f 6, .slice AL l cL, v8, .int .i64 (n : Int), .pointer (some ⟨g, 0, none⟩), f 11, f 12, f 13, f 14, f 15, f 16, f 17, f 18, f 19, f 20, f 21, f 22, f 23, f 24, f 25, f 26, f 27, f 28, f 29, f 30, f 31, f 32, .int .i64 (E : Int), .int .i64 (n : Int), f 35, f 36, f 37, f 38, f 39, .slice AL l cL, .int .i64 (l : Int), .int .i64 (q : Int), f 43, f 44, f 45, f 46, f 47, f 48, f 49, f 50, f 51, f 52, f 53, f 54, f 55, f 56, f 57, f 58, f 59, f 60, f 61, f 62, f 63, f 64, f 65, f 66])
      (fun q ds wi => q ≤ l ∧ ds = [] ∧ But (some g) W7 wi ∧ Below w6.heap.size w6 wi ∧ KeepW W7 wi ∧ ∃ v10, Blk wi g 65 #[v10] ∧ IsSet wi v10 (2 ^ j ||| subTo (mems K) n q)) (fun q => l - q) 0 rfl
      ⟨Nat.zero_le _, rfl, But.refl _ _, hb67, KeepW.refl _, _, hG, by show IsSet W7 _ (2 ^ j ||| 0); rw [Nat.or_zero]; exact s9⟩ ?_
    rintro q f ds wi ⟨hil, rfl, hbut, hbi, hki, v10, hG2, hs11⟩
    dsimp only
    by_cases hq : q < l
    · obtain ⟨g0, off0, rfl, hg0, hcell⟩ := hrL (by rw [List.length_map, ← HL.out]; omega)
      have hjm : q < (mems K).length := by rw [← HL.out]; exact hq
      obtain ⟨x, hx⟩ : ∃ x, (mems K)[q]? = some x := ⟨_, List.getElem?_eq_getElem hjm⟩
      have d0 := onB hbi (hcell q (i64 x) (by rw [List.getElem?_map, hx]; rfl))
      have hgd : (mems K).getD q 0 = x := by rw [List.getD_eq_getElem?_getD, hx]; rfl
      have hstep : 2 ^ j ||| subTo (mems K) n (q + 1) = if n.testBit q = true then (2 ^ j ||| subTo (mems K) n q) ||| 2 ^ x else 2 ^ j ||| subTo (mems K) n q := by
        rw [subTo, hgd]
        split
        · rw [Nat.or_assoc]
        · rfl
      have ebit := bit_form n q (by omega)
      have hx4 : x ≤ 4095 := by
        by_cases hh : x ≤ 4095
        · exact hh
        · have := card_mem_le K x (mem_mems.1 (List.mem_of_getElem? hx)) w5 A5 n5 c5 HS5.out
          omega
      obtain ⟨st, hst⟩ : ∃ s, s = 2 ^ j ||| subTo (mems K) n q := ⟨_, rfl⟩
      rw [← hst] at hs11 hstep
      obtain ⟨A9, c9, rfl, _⟩ := id hs11
      have cG := hG2.cell 0
      have fG := hG2.frozen 0
      have lG2 := hG2.lt
      clear hst hx hgd hjm hcell
      by_cases hb : n.testBit q = true
      · rw [if_pos hb] at hstep
        rw [hb] at ebit
        have HST := Lib.hid hstep
        have hwi := with_any _ st (x : Int) wi hs11
        rw [withB, if_pos ⟨by omega, by omega⟩, Int.toNat_natCast] at hwi
        have HWI := hideC hwi
        clear hstep hb hwi
        go_wp2_with fail
        refine HWI.out.mono ?_
        rintro e wj ⟨r, rfl, hr, hbj⟩
        obtain ⟨A10, c10, rfl, _⟩ := id hr
        have hG3 := hG2.below hbj hG2.lt
        have cG3 := hG3.cell 0
        have fG3 := hG3.frozen 0
        have lG3 := hG3.lt
        clear cG fG lG2
        go_wp2_with fail
        exact ⟨q + 1, rfl, ⟨by omega, by first | rfl | trivial, (hbut.below hbj).trans (But.setCell _ _ _), (hbi.trans (hbj.mono hbi.size)).setCell (p := ⟨g, 0, none⟩) hg6 (.slice A10 (nw (st ||| 2 ^ x)) c10), (hki.trans (KeepW.of_below hbj)).trans (KeepW.setCell (p := ⟨g, 0, none⟩) hG3 (by decide) (.slice A10 (nw (st ||| 2 ^ x)) c10)), _, hG3.set_ 0 (.slice A10 (nw (st ||| 2 ^ x)) c10), by rw [HST.out]; exact hr.put hG3 (by decide) 0 _⟩, by omega⟩
      · rw [if_neg hb] at hstep
        rw [Bool.not_eq_true] at hb
        rw [hb] at ebit
        have HST := Lib.hid hstep
        clear hstep hb
        go_wp2_with fail
        exact ⟨q + 1, rfl, ⟨by omega, by first | rfl | trivial, hbut, hbi, hki, _, hG2, by rw [HST.out]; exact hs11⟩, by omega⟩
    · have hss : 2 ^ j ||| subTo (mems K) n q = tryS j K n := by rw [show q = l by omega, HL.out]; rfl
      rw [hss] at hs11
      have hms := candL_succ C Ns j K n
      obtain ⟨sn, hsn⟩ : ∃ s, s = tryS j K n := ⟨_, rfl⟩
      rw [← hsn] at hs11 hms
      obtain ⟨A9, c9, rfl, _⟩ := id hs11
      have cG := hG2.cell 0
      have hmvi := hm6.below hbi
      have hTi := hT6.below hbi
      have hcl := closed_any p C Ns _ sn wi hmvi hs11 hTi
      have hownI := own_but hown7 hbut fun g' hg' => by have := (hown.lt g' hg').2; simp; omega
      have hsetsI := hsets7.keep hki
      by_cases hyes : cloN C Ns sn = sn &&& lowN C
      · rw [decide_eq_true hyes] at hcl
        rw [if_pos hyes] at hms
        have HCL := hideC hcl
        have HMS := Lib.hid hms
        clear hcl hms hyes hsn hss
        go_wp2_with fail
        refine HCL.out.mono ?_
        rintro e wc ⟨rfl, hbc⟩
        have hownC := own_below hownI hbc
        have hsetsC := hsetsI.below hbc
        have hbC := hbi.trans (hbc.mono hbi.size)
        have hsC := hs11.below hbc
        have cGc := onB hbc cG
        have lGc := cell_lt cGc
        have hbCs := hbC.size
        have hloc := own_below hownC ((Below.refl wc.heap.size wc).alloc (Nat.le_refl _) (.cells #[.slice A9 (nw sn) c9] 65))
        have hml := candL_le C Ns j K n
        clear cG
        go_wp2_with (at_builtin; refine wpList_append_own _ rfl _ _ 83 rfl (w6.heap.size) 65 i0 (.agg #[.slice none 0 0]) 1 24 Tryz.underlying83 hi0 hz0 hz1 hz2 rfl (by decide) _ _ _ rfl (hloc) ⟨wc.heap.size, 0, none⟩ 1 1 [.slice A9 (nw sn) c9] rfl rfl (cell_one_new _ _ _) (by simp [Value.oneCell']) (by unfold maxLen; omega) (by omega) (by simp; omega) ?_; intro v' w3 hown' hgrow _)
        have hb3 := (hbC.alloc hbC.size (.cells #[.slice A9 (nw sn) c9] 65)).grown hgrow (by simp; omega) (fun q hq => (hloc.lt q hq).1)
        have hs3 := ((hsetsC.snoc hsC).below ((Below.refl wc.heap.size wc).alloc (Nat.le_refl _) (.cells #[.slice A9 (nw sn) c9] 65))).keep (KeepW.grown hgrow hloc (by decide))
        exact ⟨(n + 1, v'), rfl, ⟨by show n + 1 ≤ E; omega, by first | rfl | trivial, hb3, _, by show w3.ownsRow _ _ _ v' (candL C Ns j K (n + 1)).length _; rw [HMS.out, List.length_append]; exact hown', by show Sets _ _ (candL C Ns j K (n + 1)); rw [HMS.out]; exact hs3⟩, by show E - (n + 1) < E - n; omega⟩
      · rw [decide_eq_false hyes] at hcl
        rw [if_neg hyes] at hms
        have HCL := hideC hcl
        have HMS := Lib.hid hms
        clear hcl hms hyes hsn hss
        go_wp2_with fail
        refine HCL.out.mono ?_
        rintro e wc ⟨rfl, hbc⟩
        go_wp2_with fail
        exact ⟨(n + 1, v8), rfl, ⟨by show n + 1 ≤ E; omega, by first | rfl | trivial, hbi.trans (hbc.mono hbi.size), vs, by show wc.ownsRow _ _ _ v8 (candL C Ns j K (n + 1)).length _; rw [HMS.out]; exact own_below hownI hbc, by show Sets _ _ (candL C Ns j K (n + 1)); rw [HMS.out]; exact hsetsI.below hbc⟩, by show E - (n + 1) < E - n; omega⟩
  · have hnE2 : n = E := by omega
    have hcand : candL C Ns j K n = candL C Ns j K (2 ^ (mems K).length) := by rw [hnE2, HEE.out, HL.out]
    rw [hcand] at hown hsets
    have hml := candL_le C Ns j K n
    rw [hcand] at hml
    have hnd := candL_nodup (C := C) (Ns := Ns) HKJ.out
    have hTw := hT6.below hbr
    have hpos : 0 < w6.heap.size := cell_lt (hT6 0 (by decide))
    have hb9 := b6.trans (hbr.mono b6.size)
    obtain ⟨KL, hKL⟩ : ∃ l, l = candL C Ns j K (2 ^ (mems K).length) := ⟨_, rfl⟩
    have HM2 := Lib.hid (fun s => by rw [hKL]; exact HMC.out s : ∀ s, s ∈ KL ↔ s ∈ conL C Ns i j)
    rw [← hKL] at hown hsets hml hnd
    clear hKL hcand HMC
    have hfin : ∀ Ls : List Nat, Ls.Perm KL → Ls.Pairwise (fun a b => lecR b a = false) → Ls = conL C Ns i j := fun Ls hp hpw =>
      Lec.ext (lec_of hp hnd hpw) (conL_lec C Ns i j) fun s => by rw [hp.mem_iff]; exact HM2.out s
    have HFIN := Lib.hid hfin
    clear hfin
    rcases id hown.2 with ⟨hv9, hlen0⟩ | ⟨g, cap, cur, hv9, hg, hB, hc1, hc2, hsz, htk⟩
    · subst hv9
      have hnil : KL = [] := List.eq_nil_of_length_eq_zero hlen0
      subst hnil
      have hem : ([] : List Nat) = conL C Ns i j := HFIN.out [] (List.Perm.refl _) List.Pairwise.nil
      have HEM := Lib.hid hem
      have HCON := hideC (AnyF.slices_SortFunc_none Tryz.sortSet none 0 (.func (.func 151) #[] #[]) wr)
      clear hml hem hnd
      go_wp2_with fail
      refine Calls.mono HCON.out ?_
      rintro e w9 ⟨rfl, rfl⟩
      go_wp2_with fail
      go_ret
      exact ⟨none, 0, 0, [], rfl, by rw [← HEM.out]; rfl, Row.empty _ _, by rw [← HEM.out]; exact Sets.nil _, hb9⟩
    · subst hv9
      obtain ⟨N9, hN9⟩ : ∃ N, N = KL.length := ⟨_, rfl⟩
      have hvl : vs.length = N9 := by rw [hsets.1, hN9]
      have hcon := sort_sets g cur vs KL cap wr hB (fun k u hu => by
        have hk : k < vs.length := (List.getElem?_eq_some_iff.1 hu).1
        rw [← htk, List.getElem?_take_of_lt (by rw [Nat.mul_one, ← hN9, ← hvl]; exact hk), Array.getElem?_toList] at hu
        exact hu) hsets hTw (by rw [hvl]; omega) (by omega)
      rw [hvl] at hcon
      rw [← hN9]
      have HCON := hideC hcon
      have HN9 := Lib.hid hN9
      clear hcon hml hN9 hvl hnd
      go_wp2_with fail
      refine HCON.out.mono ?_
      rintro e w9 ⟨rfl, vs', Ls, hperm, hpw, hvl', hrow, hsets', hbb, _⟩
      have hlen9 : N9 = Ls.length := by rw [HN9.out, hperm.length_eq]
      have hLs := HFIN.out Ls hperm hpw
      have hb10 := hb9.trans (hbb.mono (by have := b6.size; omega))
      have HLEN9 := Lib.hid hlen9
      have HLS := Lib.hid hLs
      clear hlen9 hLs
      go_wp2_with fail
      go_ret
      exact ⟨_, _, _, vs', rfl, by rw [HLEN9.out, HLS.out], hrow, by rw [← HLS.out]; exact hsets', hb10⟩
/-- rank.Concepts at every matrix, nil too. -/
theorem conc_any (m : Option Addr) (C : Nat) (Ns : List Nat) (i j : Int) (w : World) (h : IsMV w m C Ns) (hin : rowsIn C Ns) (hT : Tab w) :
    Calls Tryz.prog 135 #[.pointer m, .int .i64 i, .int .i64 j] w fun e w' => ∃ A n c vs, e = .returned (.slice A n c) ∧ n = (conP C Ns i j).length ∧ Row w' A vs ∧ Sets w' vs (conP C Ns i j) ∧ Below w.heap.size w w' := by
  by_cases hy : mhas C Ns i j = true ∧ card (mrow Ns i) ≤ 12
  · unfold conP
    rw [if_pos hy]
    obtain ⟨a, b, rfl, rfl, ha, hb, hbit⟩ := mhas_parts hy.1
    have hc := hy.2
    rw [mrow, if_pos (by omega), Int.toNat_natCast] at hc
    rw [Int.toNat_natCast, Int.toNat_natCast]
    rcases h with ⟨rfl, rfl, rfl⟩ | ⟨p, rfl, h⟩
    · simp at ha
    · exact conc_yes p C Ns a b w h hin ha hb hbit hc hT
  · unfold conP
    rw [if_neg hy]
    refine (conc_no m C Ns i j w h hy).mono ?_
    rintro e w' ⟨rfl, hb⟩
    exact ⟨none, 0, 0, [], rfl, rfl, Row.empty _ _, Sets.nil _, hb⟩
end Go.Proofs.YtlakjhhpdbgekaaGreatDoor
