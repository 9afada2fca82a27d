import Derived.Test.YtjlcnbfkblmoeaaDoorRead
namespace Go.Proofs.YtjlcnbfkblmoeaaDoor
open Go.RowKit
variable {P : Nat → Prop}

/-- A slice of the bytes ys, anywhere. -/
def IsBy (W : World) (A : Option Addr) (c : Nat) (ys : List Nat) : Prop := ys.length ≤ c ∧ c ≤ maxLen ∧ (A = none → c = 0) ∧ Row W A ((zb ys).map enc8)
theorem IsBy.below {W W' : World} {A : Option Addr} {c : Nat} {ys : List Nat} (h : IsBy W A c ys) (hb : Below W.heap.size W W') : IsBy W' A c ys := ⟨h.1, h.2.1, h.2.2.1, h.2.2.2.below hb⟩
theorem zb_get {ys : List Nat} {k : Nat} (h : k < ys.length) : ((zb ys).map enc8)[k]? = some (enc8 (ys[k] : Int)) := by
  rw [List.getElem?_map, List.getElem?_map, List.getElem?_eq_getElem h]; rfl
theorem IsBy.cell {W : World} {A : Option Addr} {c : Nat} {ys : List Nat} (h : IsBy W A c ys) {k : Nat} (hk : k < ys.length) : ∃ g off, A = some ⟨g, off, none⟩ ∧ g < W.heap.size ∧ W.cell? ⟨g, off + k, none⟩ = some (enc8 (ys[k] : Int)) := by
  obtain ⟨g, off, hA, hg, hc⟩ := h.2.2.2 (by rw [List.length_map, List.length_map]; omega)
  exact ⟨g, off, hA, hg, hc k _ (zb_get hk)⟩
theorem IsBy.take {W : World} {A : Option Addr} {c : Nat} {ys : List Nat} (h : IsBy W A c ys) (k : Nat) : IsBy W A c (ys.take k) := by
  refine ⟨by rw [List.length_take]; have := h.1; omega, h.2.1, h.2.2.1, fun hp => ?_⟩
  have hp' : 0 < ys.length := by rw [List.length_map, List.length_map, List.length_take] at hp; omega
  obtain ⟨g, off, hA, hg, hc⟩ := h.2.2.2 (by rw [List.length_map, List.length_map]; exact hp')
  refine ⟨g, off, hA, hg, fun j u hu => hc j u ?_⟩
  rw [List.getElem?_map, List.getElem?_map] at hu ⊢
  have hj : j < (ys.take k).length := by
    rcases Nat.lt_or_ge j (ys.take k).length with hj | hj
    · exact hj
    · rw [List.getElem?_eq_none hj] at hu; cases hu
  rw [List.getElem?_take_of_lt (by rw [List.length_take] at hj; omega)] at hu
  exact hu
/-- The address of the rest. -/
def restA (A : Option Addr) (c k : Nat) : Option Addr := if c = k then A else A.map (·.add k)
theorem IsBy.drop {W : World} {A : Option Addr} {c : Nat} {ys : List Nat} (h : IsBy W A c ys) {k : Nat} (hk : k ≤ ys.length) : IsBy W (restA A c k) (c - k) (ys.drop k) := by
  have h1 := h.1
  have h2 := h.2.1
  unfold restA
  by_cases hck : c = k
  · rw [if_pos hck]
    have : ys.drop k = [] := List.drop_of_length_le (by omega)
    rw [this]
    exact ⟨by simp, by omega, fun _ => by omega, fun h => by simp at h⟩
  · rw [if_neg hck]
    refine ⟨by rw [List.length_drop]; omega, by omega, fun e => ?_, fun hp => ?_⟩
    · cases A with
      | none => have := h.2.2.1 rfl; omega
      | some a => cases e
    · rw [List.length_map, List.length_map, List.length_drop] at hp
      obtain ⟨g, off, rfl, hg, hc⟩ := h.2.2.2 (by rw [List.length_map, List.length_map]; omega)
      refine ⟨g, off + k, ?_, hg, fun j u hu => ?_⟩
      · show some (Addr.add ⟨g, off, none⟩ k) = _
        unfold Addr.add; split <;> simp_all
      · rw [List.getElem?_map, List.getElem?_map, List.getElem?_drop] at hu
        have := hc (k + j) u (by rw [List.getElem?_map, List.getElem?_map]; exact hu)
        rwa [← Nat.add_assoc] at this
/-- A reader at block b: what is left (in a block that P tells of), and its error. -/
def IsRd (P : Nat → Prop) (b : Nat) (ys : List Nat) (e : Int) (W : World) : Prop := ∃ A c, Blk W b 128 #[.slice A ys.length c, .int .i64 e] ∧ IsBy W A c ys ∧ ∀ a, A = some a → P a.block
theorem add_block (a : Addr) (k : Nat) : (a.add k).block = a.block := by unfold Addr.add; split <;> rfl
theorem restA_block {A : Option Addr} {c k : Nat} (h : ∀ a, A = some a → P a.block) : ∀ a, restA A c k = some a → P a.block := by
  unfold restA
  split
  · exact h
  · intro a ha
    obtain ⟨x, hx, rfl⟩ := Option.map_eq_some_iff.1 ha
    rw [add_block]; exact h x hx
theorem IsRd.below {b : Nat} {ys : List Nat} {e : Int} {W W' : World} (h : IsRd P b ys e W) (hb : Below W.heap.size W W') : IsRd P b ys e W' := by
  obtain ⟨A, c, h1, h2, h3⟩ := h
  exact ⟨A, c, h1.below hb h1.lt, h2.below hb, h3⟩
theorem IsRd.lt {b : Nat} {ys : List Nat} {e : Int} {W : World} (h : IsRd P b ys e W) : b < W.heap.size := by
  obtain ⟨A, c, h1, h2⟩ := h; exact h1.lt
/-- The bytes do not lie in the reader's block. -/
theorem rd_apart {W : World} {b : Nat} {A A' : Option Addr} {n c : Nat} {e : Int} {t : TypeId} {ys : List Nat} (hB : Blk W b t #[.slice A' n c, .int .i64 e]) (h : Row W A ((zb ys).map enc8)) (hp : 0 < ys.length) {g off : Nat} (hA : A = some ⟨g, off, none⟩) : g ≠ b := by
  obtain ⟨g', off', e', _, hc⟩ := h (by rw [List.length_map, List.length_map]; exact hp)
  rw [hA] at e'
  cases e'
  rintro rfl
  have := hc 0 _ (zb_get hp)
  rw [hB.cell] at this
  rcases off with _ | _ | n
  · simp at this
  · simp at this
  · simp at this
/-- Only the reader's block was written. -/
def Kr (base b : Nat) (w w' : World) : Prop := Below base w w' ∧ But (some b) w w'
theorem Kr.trans {base b : Nat} {A B C : World} (h : Kr base b A B) (k : Kr base b B C) : Kr base b A C := ⟨h.1.trans k.1, h.2.trans k.2⟩
theorem Kr.of_below {base b : Nat} {w w' : World} (h : Below w.heap.size w w') (hb : base ≤ w.heap.size) : Kr base b w w' := ⟨h.mono hb, .of_below h⟩
theorem Kr.size {base b : Nat} {w w' : World} (h : Kr base b w w') : w.heap.size ≤ w'.heap.size := h.2.1
theorem Kr.refl (base b : Nat) (w : World) : Kr base b w w := ⟨Below.refl _ _, But.refl _ _⟩
theorem Kr.set {base b : Nat} {w : World} (hb : base ≤ b) (i : Nat) (u : Value) : Kr base b w (w.setCell ⟨b, i, none⟩ u) := ⟨(Below.refl _ _).setCell (p := ⟨b, i, none⟩) hb _, But.setCell w ⟨b, i, none⟩ u⟩
/-- Bytes stay when the reader's block is written. -/
theorem IsBy.kr {W W' : World} {b base : Nat} {A A' : Option Addr} {n c c' : Nat} {e : Int} {t : TypeId} {ys : List Nat} (h : IsBy W A c ys) (hB : Blk W b t #[.slice A' n c', .int .i64 e]) (hk : Kr base b W W') : IsBy W' A c ys := by
  refine ⟨h.1, h.2.1, h.2.2.1, fun hp => ?_⟩
  have hp' : 0 < ys.length := by rwa [List.length_map, List.length_map] at hp
  obtain ⟨g, off, hA, hg, hc⟩ := h.2.2.2 hp
  have hne := rd_apart hB h.2.2.2 hp' hA
  exact ⟨g, off, hA, Nat.lt_of_lt_of_le hg hk.size, fun k u hu => hk.2.on (hc k u hu) fun e => hne (by cases e; rfl)⟩
theorem run_eql_none_nil {P : Program} {t e : TypeId} (h : P.underlying t = some (.slice e)) (w : World) : (binOp .eql t (.slice none 0 0) (.slice none 0 0)).run P w = .ok (.bool true) w := by
  simp only [binOp]
  simp [run_equal_slice_nil w t e none 0 0 h]
/-- The reader behind a take. -/
theorem take_end {base b k : Nat} {ys : List Nat} {e : Int} {w w1 : World} {A : Option Addr} {c : Nat} {v : Value} (hB : Blk w b 128 #[.slice A ys.length c, .int .i64 e]) (hS : IsBy w A c ys) (hP : ∀ a, A = some a → P a.block) (hk : k ≤ ys.length) (hb : base ≤ b) (hb1 : Below w.heap.size w w1) (hv : v = .slice (restA A c k) (ys.length - k) (c - k)) :
    IsRd P b (ys.drop k) e (w1.setCell ⟨b, 0, none⟩ v) ∧ Kr base b w (w1.setCell ⟨b, 0, none⟩ v) := by
  subst hv
  have hB1 := hB.below hb1 hB.lt
  have hk2 : Kr base b w1 (w1.setCell ⟨b, 0, none⟩ (.slice (restA A c k) (ys.length - k) (c - k))) := Kr.set hb 0 _
  have hd := ((hS.drop hk).below hb1)
  refine ⟨⟨restA A c k, c - k, ?_, hd.kr hB1 hk2, restA_block hP⟩, (Kr.of_below hb1 (by have := hB.lt; omega)).trans hk2⟩
  rw [List.length_drop]
  exact hB1.set_ 0 _
set_option maxRecDepth 100000 in
set_option maxHeartbeats 1000000 in
theorem clonen_any (A : Option Addr) (c : Nat) (ys : List Nat) (w : World) (h : IsBy w A c ys) (hy : ys.length ≤ 1000000000) :
    Calls Tryd.prog 100 #[.slice A ys.length c] w fun e w' => ∃ A' c', e = .returned (.slice A' ys.length c') ∧ IsBy w' A' c' ys ∧ Below w.heap.size w w' ∧ ∀ a, A' = some a → a.block < w'.heap.size := by
  obtain ⟨i0, hi0, hz0, hz1, hz2⟩ := info_parts info_byte
  cases A with
  | none =>
    have hc := h.2.2.1 rfl
    have h1 := h.1
    subst hc
    have : ys = [] := List.eq_nil_of_length_eq_zero (by omega)
    subst this
    have hnil := fun W => run_eql_none_nil (P := Tryd.prog) Tryd.underlying22 W
    rw [show ([] : List Nat).length = 0 from rfl]
    go_enter Tryd.func100, Tryd.ntmps100
    go_wp2_with fail
    go_ret
    exact ⟨none, 0, rfl, h, Below.refl _ _, fun a e => by cases e⟩
  | some a =>
    have hadd : ∀ (j : Nat) u, ((zb ys).map enc8)[j]? = some u → (w.alloc (.cells #[] 5)).cell? (a.add j) = some u := fun j u hu => by
      have hj : 0 < ys.length := by
        have := (List.getElem?_eq_some_iff.1 hu).1
        rw [List.length_map, List.length_map] at this; omega
      obtain ⟨g, off, e, hg, hc⟩ := h.2.2.2 (by rw [List.length_map, List.length_map]; exact hj)
      cases e
      have e : (⟨g, off, none⟩ : Addr).add j = ⟨g, off + j, none⟩ := by unfold Addr.add; split <;> simp_all
      rw [e]; exact (World.cell?_alloc_lt _ _ _ hg).trans (hc j u hu)
    have HADD := Lib.hid hadd; clear hadd
    have own0 := World.ownsRow_lit (base := w.heap.size) (e := 5) (size := 1) w #[] 0 (Nat.le_refl _) (by decide) rfl
    have hb0 := (Below.refl w.heap.size w).alloc (Nat.le_refl _) (.cells #[] 5)
    have hnil := fun W => run_eql_some_nil (P := Tryd.prog) Tryd.underlying22 a ys.length c W
    have hlen : ((zb ys).map enc8).length = ys.length * 1 := by simp
    have HL := Lib.hid hlen; clear hlen
    go_enter Tryd.func100, Tryd.ntmps100
    go_wp2_with (at_builtin; refine wpList_append_own _ rfl _ _ 22 rfl w.heap.size 5 i0 (.int .u8 0) 1 1 Tryd.underlying22 hi0 hz0 hz1 hz2 rfl (by decide) _ _ _ rfl own0 a ys.length c ((zb ys).map enc8) rfl HL.out HADD.out (by intro u hu; obtain ⟨x, _, rfl⟩ := List.mem_map.1 hu; rfl) (by unfold maxLen; omega) (by omega) (by simp) ?_)
    intro v5 w3 hown' hgrow hnn
    have hbe3 := hb0.grown hgrow (by simp) (fun q hq => (own0.lt q hq).1)
    have hown2 : w3.ownsRow w.heap.size 5 1 v5 ys.length ((zb ys).map enc8) := by simpa using hown'
    obtain ⟨A5, c5, rfl, h6, h7, h8, _⟩ := row_of_own hown2
    go_wp2_with fail
    go_ret
    refine ⟨A5, c5, rfl, ⟨h6, h7, fun e => ?_, h8⟩, hbe3, fun a e => ?_⟩
    · subst e
      rcases hown2.2 with ⟨e, _⟩ | ⟨g, cap, cur, e, _⟩
      · injection e with _ _ e
      · cases e
    · subst e
      exact (hown2.lt a.block rfl).2
set_option maxRecDepth 100000 in
set_option maxHeartbeats 1000000 in
theorem take_rd (base b k : Nat) (ys : List Nat) (e : Int) (w : World) (h : IsRd P b ys e w) (hk : k ≤ ys.length) (hy : ys.length ≤ 1000000000) (hb : base ≤ b) :
    Calls Tryd.prog 106 #[ptr b, .int .i64 k] w fun x w' => ∃ A1 c1, x = .returned (.slice A1 (ys.take k).length c1) ∧ IsBy w' A1 c1 (ys.take k) ∧ IsRd P b (ys.drop k) e w' ∧ Kr base b w w' := by
  obtain ⟨A, c, hB, hS, hP⟩ := h
  have hc1 := hS.1
  have hc2 := hS.2.1
  have htl : (ys.take k).length = k := by rw [List.length_take]; omega
  have HC := hideC (clonen_any A c (ys.take k) w (hS.take k) (by omega))
  rw [htl] at HC
  have HTL := Lib.hid htl
  clear htl
  have r0 := hB.cell 0
  unfold maxLen at hc2
  have hrest : restA A c k = if c = k then A else A.map (·.add k) := rfl
  have HREST := Lib.hid hrest; clear hrest
  go_enter Tryd.func106, Tryd.ntmps106
  go_wp2_with fail
  refine HC.out.mono ?_
  rintro x w1 ⟨A1, c1, rfl, hS1, hb1, _⟩
  have hB1 := hB.below hb1 hB.lt
  have r0 := hB1.cell 0
  have f0 := hB1.frozen 0
  go_wp2_with fail
  all_goals
    rename_i h
    go_ret
    have hE := take_end (base := base) (k := k) hB hS hP hk hb hb1 (v := _) rfl
    rw [HREST.out] at hE
  · rw [if_pos h, h, Nat.sub_self] at hE
    exact ⟨A1, c1, rfl, hS1.kr hB1 (Kr.set (Nat.le_refl b) 0 _), hE⟩
  · rw [if_neg h] at hE
    exact ⟨A1, c1, rfl, hS1.kr hB1 (Kr.set (Nat.le_refl b) 0 _), hE⟩
/-- The number at the front, (0, 0) where there is none. -/
def nres (l : List Nat) : Nat × Nat := (num 0 0 l).getD (0, 0)
set_option maxRecDepth 100000 in
set_option maxHeartbeats 1000000 in
theorem number_rd (b : Nat) (ys : List Nat) (e : Int) (w : World) (h : IsRd P b ys e w) (hl : ∀ y ∈ ys, y < 256) (hy : ys.length ≤ 1000000000) :
    Calls Tryd.prog 105 #[ptr b] w fun x w' => x = .returned (.tuple #[u64 (nres ys).1, .int .i64 ((nres ys).2 : Int)]) ∧ w = w' := by
  obtain ⟨A, c, hB, hS, hP⟩ := h
  have r0 := hB.cell 0
  obtain ⟨R, hR⟩ : ∃ R, R = nres ys := ⟨_, rfl⟩
  rw [← hR]
  have HR := Lib.hid hR; clear hR
  go_enter Tryd.func105, Tryd.ntmps105
  go_wp2_with fail
  go_loop [4, 12] (fun v i => ∃ k u : Nat, k ≤ ys.length ∧ i = .int .i64 k ∧ v = u64 u ∧ u < 18446744073709551616 ∧ Hid (num 0 0 ys = num u k (ys.drop k))) (fun _ i => ys.length - (intOf i).toNat)
  case atStart => exact ⟨0, 0, Nat.zero_le _, rfl, rfl, by omega, Lib.hid rfl⟩
  case round =>
    obtain ⟨k, u, hk, rfl, rfl, hu, HN⟩ := hrel
    by_cases hlt : k < ys.length
    · obtain ⟨g, off, rfl, hg, hc⟩ := hS.cell hlt
      have hb : ys[k] < 256 := hl _ (List.getElem_mem hlt)
      have hdrop : ys.drop k = ys[k] :: ys.drop (k + 1) := List.drop_eq_getElem_cons hlt
      have hn := HN.out
      rw [hdrop, num] at hn
      have HN := Lib.hid hn
      clear hn hdrop
      generalize ys[k] = y at *
      have e1 : bits .and .u8 (y : Int) 127 = (y : Int) % 128 := by
        rw [show (127 : Int) = ((127 : Nat) : Int) from rfl, u8_and_nat y 127 hb (by decide), and127]; rfl
      by_cases hbad : (k = 0 ∧ y = 128) ∨ 144115188075855871 < u
      · have hn := HN.out
        rw [if_pos hbad] at hn
        have hr : R = (0, 0) := by rw [HR.out, nres, hn]; rfl
        subst hr
        by_cases hb1 : k = 0 ∧ y = 128
        · have h0 : ((k : Int) == 0) = true := by simp [hb1.1]
          have h8 : ((y : Int) == 128) = true := by simp [hb1.2]
          clear hbad hb1 hn
          go_wp2_with fail
          go_ret2
          exact ⟨rfl, rfl⟩
        · have h2 : (144115188075855871 : Int) < (u : Int) := by omega
          by_cases hk0 : k = 0
          · have h0 : ((k : Int) == 0) = true := by simp [hk0]
            have h8 : ((y : Int) == 128) = false := by simp; omega
            clear hbad hb1 hn hk0
            go_wp2_with fail
            go_ret2
            exact ⟨rfl, rfl⟩
          · have h0 : ((k : Int) == 0) = false := by simp; omega
            clear hbad hb1 hn hk0
            go_wp2_with fail
            go_ret2
            exact ⟨rfl, rfl⟩
      · have hu2 : u ≤ 144115188075855871 := by omega
        have e2 : IntKind.u64.wrap ((u : Int) * 2 ^ 7) = ((u * 128 : Nat) : Int) := by
          rw [show ((u : Int) * 2 ^ 7) = ((u * 128 : Nat) : Int) by omega]
          exact u64_wrap_nat _ (by omega)
        have e3 : bits .or .u64 ((u : Int) * 128) ((y : Int) % 128) = ((u * 128 + y % 128 : Nat) : Int) := by
          rw [show ((u : Int) * 128) = ((u * 128 : Nat) : Int) by omega, show ((y : Int) % 128) = ((y % 128 : Nat) : Int) by omega, u64_or_nat _ _ (by omega) (by omega)]
          congr 1
          have := Nat.two_pow_add_eq_or_of_lt (i := 7) (b := y % 128) (by omega) u
          rw [show u * 128 = 2 ^ 7 * u by omega, this]
        have hn := HN.out
        rw [if_neg hbad] at hn
        have HN := Lib.hid hn
        clear hn
        have hu3 : (u : Int) ≤ 144115188075855871 := by omega
        have hpre : (((k : Int) == 0) = true ∧ ((y : Int) == 128) = false) ∨ ((k : Int) == 0) = false := by
          by_cases hk0 : k = 0
          · exact .inl ⟨by simp [hk0], by simp; omega⟩
          · exact .inr (by simp; omega)
        clear hbad
        by_cases hy8 : y < 128
        · have hn := HN.out
          rw [if_pos hy8] at hn
          have hr : R = (u * 128 + y % 128, k + 1) := by rw [HR.out, nres, hn]; rfl
          subst hr
          have hy9 : (y : Int) < 128 := by omega
          clear hn
          rcases hpre with ⟨h0, h8⟩ | h0
          · go_wp2_with fail
            go_ret2
            exact ⟨rfl, rfl⟩
          · go_wp2_with fail
            go_ret2
            exact ⟨rfl, rfl⟩
        · have hn := HN.out
          rw [if_neg hy8] at hn
          have HN := Lib.hid hn
          clear hn
          rcases hpre with ⟨h0, h8⟩ | h0
          · go_wp2_with fail
            go_round
            case rel => exact ⟨k + 1, u * 128 + y % 128, by omega, by go_num, rfl, by omega, HN⟩
            case measure => simp [intOf]; omega
          · go_wp2_with fail
            go_round
            case rel => exact ⟨k + 1, u * 128 + y % 128, by omega, by go_num, rfl, by omega, HN⟩
            case measure => simp [intOf]; omega
    · obtain rfl : k = ys.length := by omega
      have hn := HN.out
      rw [List.drop_length, num] at hn
      have hr : R = (0, 0) := by rw [HR.out, nres, hn]; rfl
      subst hr
      go_wp2_with fail
      go_ret2
      exact ⟨rfl, rfl⟩
end Go.Proofs.YtjlcnbfkblmoeaaDoor
