import Derived.Test.YtjlcnbfkblmoeaaDoorRead6
import Derived.Test.YtjlcnbfkblmoeaaDoorLaw
namespace Go.Proofs.YtjlcnbfkblmoeaaDoor
open Go.RowKit

/-! The reference's bytes of a small matrix. -/
/-- A row of our own that holds these bytes. -/
abbrev OwnB (W : World) (base : Nat) (v : Value) (l : List Nat) : Prop := W.ownsRow base 5 1 v l.length ((zb l).map enc8)
set_option maxRecDepth 100000 in
set_option maxHeartbeats 1000000 in
theorem put_small (v : Nat) (w : World) (hv : v < 128) :
    Calls Tryd.prog 83 #[u64 v] w fun e w' => ∃ c, e = .returned (.slice (some ⟨w.heap.size, 0, none⟩) 1 c) ∧ OwnB w' w.heap.size (.slice (some ⟨w.heap.size, 0, none⟩) 1 c) [v] ∧ Below w.heap.size w w' := by
  have h1 : ¬ (128 : Int) ≤ (v : Int) := by omega
  have h2 : (v : Int) % 128 = (v : Int) := by omega
  go_enter Tryd.func83, Tryd.ntmps83
  go_wp2_with fail
  have own0 := World.ownsRow_lit (base := w.heap.size) (e := 5) (size := 1) w #[.int .u8 (v : Int)] 1 (Nat.le_refl _) (by decide) rfl
  have hb0 := (Below.refl w.heap.size w).alloc (Nat.le_refl _) (.cells #[.int .u8 (v : Int)] 5)
  go_loop [0, 3] (fun a b => a = u64 v ∧ b = .slice (some ⟨w.heap.size, 0, none⟩) 1 1) (fun _ _ => 0)
  case atStart => exact ⟨rfl, rfl⟩
  case round =>
    obtain ⟨rfl, rfl⟩ := hrel
    go_wp2_with fail
    go_ret
    exact ⟨1, rfl, by simpa [OwnB] using own0, hb0⟩
set_option maxRecDepth 100000 in
set_option maxHeartbeats 2000000 in
theorem setBytes_small (A : Option Addr) (c : Nat) (xs : List Nat) (w : World) (hr : Row w A (xs.map i64)) (hx : ∀ x ∈ xs, x < 8) (hl : xs.length ≤ 100) :
    Calls Tryd.prog 102 #[.slice A xs.length c] w fun e w' => Below w.heap.size w w' ∧ ((xs = [] ∧ e = .returned (.slice none 0 0)) ∨ (xs ≠ [] ∧ e = .returned (.slice (some ⟨w.heap.size, 0, none⟩) 1 1) ∧ Blk w' w.heap.size 5 #[enc8 (setOf (xs.map Int.ofNat) : Int)])) := by
  have hcell : ∀ k (hk : k < xs.length), ∃ g off, A = some ⟨g, off, none⟩ ∧ g < w.heap.size ∧ w.cell? ⟨g, off + k, none⟩ = some (i64 xs[k]) := fun k hk => by
    obtain ⟨g, off, hA, hg, hc⟩ := hr (by rw [List.length_map]; omega)
    exact ⟨g, off, hA, hg, hc k _ (by rw [List.getElem?_map, List.getElem?_eq_getElem hk]; rfl)⟩
  have HC := Lib.hid hcell
  clear hcell hr
  have hmk := fun W => (show (Instr.makeSlice 22 (.int .i64 1) (.int .i64 1)).run Tryd.prog W = _ from make_run (P := Tryd.prog) 22 5 _ 1 Tryd.underlying22 info_byte rfl 1 (by omega) (by omega) W)
  go_enter Tryd.func102, Tryd.ntmps102
  go_wp2_with fail
  go_loop [3, 11] (fun t i => ∃ (k : Nat) (T : Int), k ≤ xs.length ∧ i = .int .i64 k ∧ t = .int .i64 T ∧ -1 ≤ T ∧ T < 8 ∧ (0 < k → 0 ≤ T) ∧ (k = 0 → T = -1)) (fun _ i => xs.length - (intOf i).toNat)
  case atStart => exact ⟨0, -1, Nat.zero_le _, rfl, rfl, by omega, by omega, by omega, fun _ => rfl⟩
  case round =>
    obtain ⟨k, T, hk, rfl, rfl, h1, h2, h3, h4⟩ := hrel
    by_cases hlt : k < xs.length
    · obtain ⟨g, off, rfl, hg, hc⟩ := HC.out k hlt
      have hb := hx _ (List.getElem_mem hlt)
      have H4 := Lib.hid h4
      clear h3 h4 hx
      generalize xs[k] = y at *
      by_cases ht : T < (y : Int)
      · go_wp2
        exact ⟨⟨k + 1, y, by omega, by go_num, rfl, by omega, by omega, fun _ => by omega, fun h => by omega⟩, by simp [intOf]; omega⟩
      · go_wp2
        exact ⟨⟨k + 1, T, by omega, by go_num, rfl, by omega, by omega, fun _ => by omega, fun h => by omega⟩, by simp [intOf]; omega⟩
    · obtain rfl : k = xs.length := by omega
      by_cases h0 : xs.length = 0
      · have hT := h4 h0
        subst hT
        have hnil : xs = [] := List.eq_nil_of_length_eq_zero h0
        have HNIL := Lib.hid hnil
        clear h0 h3 h4 hx hnil
        go_wp2_with fail
        go_ret
        exact ⟨Below.refl _ _, .inl ⟨HNIL.out, rfl⟩⟩
      · have hT : 0 ≤ T := h3 (by omega)
        have hT2 : ¬ T < 0 := by omega
        have hT8 : T / 8 + 1 = 1 := by omega
        have hne : xs ≠ [] := fun e => h0 (by rw [e]; rfl)
        have HNE := Lib.hid hne
        have HX := Lib.hid hx
        clear h0 h3 h4 hne hx
        go_wp2_with fail
        have hg0 := Blk.new w 5 (zeros (.int .u8 0) 1)
        have hb0 := (Below.refl w.heap.size w).alloc (Nat.le_refl _) (.cells (zeros (.int .u8 0) 1) 5)
        have hz1 : zeros (.int .u8 0) 1 = #[enc8 (setOf (([] : List Nat).map Int.ofNat) : Int)] := rfl
        rw [hz1] at hg0
        clear hmk hz1
        go_loopw [28] (fun i wr => ∃ k : Nat, k ≤ xs.length ∧ i = .int .i64 k ∧ Blk wr w.heap.size 5 #[enc8 (setOf ((xs.take k).map Int.ofNat) : Int)] ∧ Below w.heap.size w wr) (fun i _ => xs.length - (intOf i).toNat)
        case atStart => exact ⟨0, Nat.zero_le _, rfl, hg0, hb0⟩
        case round =>
          obtain ⟨k, hk, rfl, hb, hbel⟩ := hrel
          by_cases hlt : k < xs.length
          · obtain ⟨g, off, rfl, hg, hc⟩ := HC.out k hlt
            have hc1 := onB hbel hc
            have h8 := HX.out _ (List.getElem_mem hlt)
            have hN : setOf ((xs.take (k + 1)).map Int.ofNat) = setOf ((xs.take k).map Int.ofNat) ||| 2 ^ xs[k] := by
              rw [List.take_succ_eq_append_getElem hlt, List.map_append, List.map_cons, List.map_nil, setOf_snoc, setStep, if_pos ⟨Int.natCast_nonneg _, by show ((xs[k] : Nat) : Int) ≤ 4095; omega⟩]
              rfl
            have hlt2 : setOf ((xs.take k).map Int.ofNat) < 256 := by
              apply Nat.lt_pow_two_of_testBit (n := 8)
              intro j hj
              rw [testBit_setOf, decide_eq_false_iff_not]
              rintro ⟨_, hm⟩
              obtain ⟨y, hy, e⟩ := List.mem_map.1 hm
              have := HX.out y (List.mem_of_mem_take hy)
              have : y = j := Int.ofNat.inj e
              omega
            have HN := Lib.hid hN
            clear hN hc
            generalize setOf ((xs.take k).map Int.ofNat) = N at *
            generalize xs[k] = y at *
            have hp2 : 2 ^ y < 256 := Nat.lt_of_lt_of_le (Nat.pow_lt_pow_right (by omega) h8) (by omega)
            have hw2 : IntKind.u8.wrap ((2 : Int) ^ y) = ((2 ^ y : Nat) : Int) := by
              have e : ((2 : Int) ^ y) = ((2 ^ y : Nat) : Int) := by simp
              rw [e]
              exact Int.emod_eq_of_lt (Int.natCast_nonneg _) (Int.ofNat_lt.2 hp2)
            have hor := u8_or_nat N (2 ^ y) hlt2 hp2
            generalize 2 ^ y = p at *
            have q1 : (y : Int) / 8 = 0 := by omega
            have q2 : (y : Int) % 8 = (y : Int) := by omega
            have cb := hb.cell 0
            have fb := hb.frozen 0
            clear hb0 hg0
            go_wp2_with fail
            have hb2 := hb.set_ 0 (enc8 ((N ||| p : Nat) : Int))
            exact ⟨⟨k + 1, by omega, by go_num, by rw [HN.out]; exact hb2, hbel.setCell (Nat.le_refl _) _⟩, by simp [intOf]; omega⟩
          · obtain rfl : k = xs.length := by omega
            rw [List.take_length] at hb
            clear hb0 hg0
            go_wp2_with fail
            go_ret
            exact ⟨hbel, .inr ⟨HNE.out, rfl, hb⟩⟩
/-- A row of bytes behind another: one append. -/
theorem app_bytes {w : World} {ops : Array Oper} {rest : List Oper} {o : Oper} {a : Act} {Q : Exit → Act → World → Prop} (hgd : o.guard = none) (s x : Operand)
    (ho : o.op = .call { callee := .builtin .append, args := #[s, x], argTypes := #[22, 22] }) (base : Nat) (v : Value) (ys : List Nat) (hs : a.eval s = v) (hown : OwnB w base v ys) (A : Option Addr) (c : Nat) (zs : List Nat) (hx : a.eval x = .slice A zs.length c)
    (hcur : (A = none ∧ zs = [] ∧ c = 0) ∨ ∃ g, A = some ⟨g, 0, none⟩ ∧ ∀ (j : Nat) u, ((zb zs).map enc8)[j]? = some u → w.cell? ⟨g, j, none⟩ = some u) (hbase : base ≤ w.heap.size) (hlen : ys.length + zs.length ≤ 1000000)
    (h : ∀ v' w', OwnB w' base v' (ys ++ zs) → w.grownBy w' v.ownBlock → wpList Tryd.prog ops Q rest (a.put o.dst v') w') : wpList Tryd.prog ops Q (o :: rest) a w := by
  obtain ⟨i0, hi0, hz0, hz1, hz2⟩ := info_parts info_byte
  rcases hcur with ⟨rfl, rfl, rfl⟩ | ⟨g, rfl, hc⟩
  · refine wpList_append_own_none hgd s x 22 ho base 5 i0 1 Tryd.underlying22 hi0 v ys.length _ hs hown hx ?_
    exact h v w (by rw [List.append_nil]; exact hown) (World.grownBy.refl _ _)
  · refine wpList_append_own _ hgd s x 22 ho base 5 i0 (.int .u8 0) 1 1 Tryd.underlying22 hi0 hz0 hz1 hz2 rfl (by decide) v ys.length _ hs hown ⟨g, 0, none⟩ zs.length c ((zb zs).map enc8) hx (by simp) (fun j u hu => ?_) (by intro u hu; obtain ⟨b, _, rfl⟩ := List.mem_map.1 hu; rfl) (by unfold maxLen; omega) (by omega) hbase fun v' w' h1 h2 _ => h v' w' ?_ h2
    · have e9 : (⟨g, 0, none⟩ : Addr).add j = ⟨g, j, none⟩ := by unfold Addr.add; split <;> simp_all
      rw [e9]; exact hc j u hu
    · unfold OwnB zb
      rw [List.length_append, List.map_append, List.map_append]
      exact h1
theorem own_cells {W : World} {base : Nat} {g c : Nat} {l : List Nat} (h : OwnB W base (.slice (some ⟨g, 0, none⟩) l.length c) l) : ∀ (j : Nat) u, ((zb l).map enc8)[j]? = some u → W.cell? ⟨g, j, none⟩ = some u := fun j u hu => by
  have hj : j < l.length := by have := (List.getElem?_eq_some_iff.1 hu).1; simpa using this
  exact (World.ownsRow.cellAt (size := 1) (n := l.length) h j (by omega)).trans hu
set_option maxRecDepth 100000 in
set_option maxHeartbeats 2000000 in
theorem putBytes_small (A : Option Addr) (c : Nat) (zs : List Nat) (w : World) (hcur : (A = none ∧ zs = [] ∧ c = 0) ∨ ∃ g, A = some ⟨g, 0, none⟩ ∧ g < w.heap.size ∧ ∀ (j : Nat) u, ((zb zs).map enc8)[j]? = some u → w.cell? ⟨g, j, none⟩ = some u) (hl : zs.length < 100) :
    Calls Tryd.prog 101 #[.slice A zs.length c] w fun e w' => ∃ v, e = .returned v ∧ OwnB w' w.heap.size v (zs.length :: zs) ∧ Below w.heap.size w w' := by
  have HP := hideC (put_small zs.length w (by omega))
  go_enter Tryd.func101, Tryd.ntmps101
  go_wp2_with fail; (with_reducible refine (HP.out).mono ?_); rintro e w1 ⟨c1, rfl, hown, hb1⟩
  go_wp2_with (at_builtin; refine app_bytes rfl _ _ rfl w.heap.size _ [zs.length] rfl hown A c zs rfl (hcur.imp id fun ⟨g, h1, h2, h3⟩ => ⟨g, h1, fun j u hu => onB hb1 (h3 j u hu)⟩) hb1.size (by simp; omega) ?_)
  intro v' w3 hown' hgrow
  go_wp2_with fail
  go_ret
  exact ⟨_, rfl, hown', hb1.grown hgrow hb1.size (fun q hq => (hown.lt q hq).1)⟩
theorem setOf_zero {xs : List Nat} (hx : ∀ x ∈ xs, x < 8) (h : xs ≠ []) : setOf (xs.map Int.ofNat) ≠ 0 := by
  obtain ⟨x, l, rfl⟩ := List.exists_cons_of_ne_nil h
  intro e
  have h1 := testBit_setOf ((x :: l).map Int.ofNat) x
  have h8 := hx x (List.mem_cons_self ..)
  rw [e, Nat.zero_testBit] at h1
  have := h1.symm
  rw [decide_eq_false_iff_not] at this
  exact this ⟨by omega, by simp⟩
set_option maxRecDepth 100000 in
set_option maxHeartbeats 2000000 in
theorem putSet_small (A : Option Addr) (c : Nat) (xs : List Nat) (w : World) (hr : Row w A (xs.map i64)) (hx : ∀ x ∈ xs, x < 8) (hl : xs.length ≤ 100) :
    Calls Tryd.prog 84 #[.slice A xs.length c] w fun e w' => ∃ v, e = .returned v ∧ OwnB w' w.heap.size v (sb (setOf (xs.map Int.ofNat))) ∧ Below w.heap.size w w' := by
  have HS := hideC (setBytes_small A c xs w hr hx hl)
  have HX := Lib.hid hx
  clear hx
  go_enter Tryd.func84, Tryd.ntmps84
  go_wp2_with fail; (with_reducible refine (HS.out).mono ?_); rintro e w1 ⟨hb1, hcase⟩
  rcases hcase with ⟨h0, rfl⟩ | ⟨h0, rfl, hblk⟩
  · have HP := hideC (show Calls Tryd.prog 101 #[.slice none 0 0] w1 _ from putBytes_small none 0 [] w1 (.inl ⟨rfl, rfl, rfl⟩) (by simp))
    have hsb : sb (setOf (xs.map Int.ofNat)) = [0] := by rw [h0]; rfl
    have HSB := Lib.hid hsb
    clear h0 hsb
    go_wp2_with fail; (with_reducible refine (HP.out).mono ?_); rintro e w2 ⟨v, rfl, hown, hb2⟩
    go_wp2_with fail
    go_ret
    exact ⟨v, rfl, by rw [HSB.out]; exact hown.mono hb1.size, hb1.trans (hb2.mono hb1.size)⟩
  · have hne := setOf_zero HX.out h0
    obtain ⟨N, hN⟩ : ∃ N, N = setOf (xs.map Int.ofNat) := ⟨_, rfl⟩
    rw [← hN] at hblk hne
    have hsb : sb (setOf (xs.map Int.ofNat)) = [1, N] := by rw [← hN, sb, if_neg hne]
    have HSB := Lib.hid hsb
    have HP := hideC (show Calls Tryd.prog 101 #[.slice (some ⟨w.heap.size, 0, none⟩) 1 1] w1 _ from putBytes_small (some ⟨w.heap.size, 0, none⟩) 1 [N] w1 (.inr ⟨w.heap.size, rfl, hblk.lt, fun j u hu => by
      rw [hblk.cell j]
      rcases j with _ | j
      · simpa using hu
      · simp at hu⟩) (by simp))
    clear h0 hsb hne hN
    go_wp2_with fail; (with_reducible refine (HP.out).mono ?_); rintro e w2 ⟨v, rfl, hown, hb2⟩
    go_wp2_with fail
    go_ret
    exact ⟨v, rfl, by rw [HSB.out]; exact hown.mono hb1.size, hb1.trans (hb2.mono hb1.size)⟩
end Go.Proofs.YtjlcnbfkblmoeaaDoor
