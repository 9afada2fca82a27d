import Derived.Test.YtjlcnbfkblmoeaaDoorRead4
namespace Go.Proofs.YtjlcnbfkblmoeaaDoor
open Go.RowKit
variable {P : Nat → Prop}

set_option maxRecDepth 100000 in
set_option maxHeartbeats 1000000 in
theorem newReader_any (A : Option Addr) (c : Nat) (ys : List Nat) (w : World) (h : IsBy w A c ys) (hy : ys.length ≤ 1000000000) :
    Calls Tryd.prog 85 #[.slice A ys.length c] w fun x w' => ∃ b, x = .returned (ptr b) ∧ w.heap.size ≤ b ∧ IsRd (fun g => g < w'.heap.size) b ys 0 w' ∧ Below w.heap.size w w' := by
  have HC := hideC (clonen_any A c ys w h hy)
  go_enter Tryd.func85, Tryd.ntmps85
  go_wp2_with fail; (with_reducible refine (HC.out).mono ?_); rintro x w1 ⟨A1, c1, rfl, hS, hb, hlt⟩
  go_wp2_with fail
  go_ret
  have hb2 := (Below.refl w1.heap.size w1).alloc (Nat.le_refl _) (.cells #[.slice A1 ys.length c1, .int .i64 0] 128)
  exact ⟨w1.heap.size, rfl, hb.size, ⟨A1, c1, Blk.new _ _ _, hS.below hb2, fun a ha => Nat.lt_of_lt_of_le (hlt a ha) hb2.size⟩, hb.trans (hb2.mono hb.size)⟩
set_option maxRecDepth 100000 in
set_option maxHeartbeats 1000000 in
theorem err_rd (b : Nat) (ys : List Nat) (f : Int) (w : World) (h : IsRd P b ys f w) :
    Calls Tryd.prog 111 #[ptr b] w fun x w' => x = .returned (.int .i64 f) ∧ w = w' := by
  obtain ⟨A, c, hB, hS, hP⟩ := h
  have r1 := hB.cell 1
  go_enter Tryd.func111, Tryd.ntmps111
  go_wp2_with fail
  go_ret
  exact ⟨rfl, rfl⟩
set_option maxRecDepth 100000 in
set_option maxHeartbeats 1000000 in
theorem end_no (b : Nat) (ys : List Nat) (f : Int) (w : World) (h : IsRd P b ys f w) (hf : f ≠ 0) :
    Calls Tryd.prog 89 #[ptr b] w fun x w' => x = .returned (.int .i64 f) ∧ w = w' := by
  have HO := hideC (ok_no b ys f w h hf)
  have HE := hideC (err_rd b ys f w h)
  clear hf
  go_enter Tryd.func89, Tryd.ntmps89
  go_wp2_with fail; (with_reducible refine (HO.out).mono ?_); rintro x w1 ⟨rfl, rfl⟩
  go_wp2_with fail; (with_reducible refine (HE.out).mono ?_); rintro x w1 ⟨rfl, rfl⟩
  go_wp2_with fail
  go_ret
  exact ⟨rfl, rfl⟩
set_option maxRecDepth 100000 in
set_option maxHeartbeats 1000000 in
theorem end_yes (b : Nat) (ys : List Nat) (w : World) (h : IsRd P b ys 0 w) :
    Calls Tryd.prog 89 #[ptr b] w fun x w' => x = .returned (.int .i64 (if ys = [] then 0 else 6)) ∧ w = w' := by
  have HO := hideC (ok_yes b ys w h)
  have HE := hideC (err_rd b ys 0 w h)
  obtain ⟨A, c, hB, hS, hP⟩ := h
  have r0 := hB.cell 0
  by_cases h0 : ys = []
  · rw [if_pos h0]
    have hd : ¬ 0 < ys.length := by rw [h0]; simp
    clear h0
    go_enter Tryd.func89, Tryd.ntmps89
    go_wp2_with fail; (with_reducible refine (HO.out).mono ?_); rintro x w1 ⟨rfl, rfl⟩
    go_wp2_with fail; (with_reducible refine (HE.out).mono ?_); rintro x w1 ⟨rfl, rfl⟩
    go_wp2_with fail
    go_ret
    exact ⟨rfl, rfl⟩
  · rw [if_neg h0]
    have hd : 0 < ys.length := List.length_pos_iff.2 h0
    clear h0
    go_enter Tryd.func89, Tryd.ntmps89
    go_wp2_with fail; (with_reducible refine (HO.out).mono ?_); rintro x w1 ⟨rfl, rfl⟩
    go_wp2_with fail
    go_ret
    exact ⟨rfl, rfl⟩
/-- What the reader of sets leaves. -/
def SPost (P : Nat → Prop) (base b : Nat) (most : Int) (ys : List Nat) (w : World) (x : Ending) (w' : World) : Prop :=
  Kr base b w w' ∧ ((∃ N y r, rS most ys = some (N, y) ∧ x = .returned (.agg #[r]) ∧ IsSet w' r N ∧ IsRd P b y 0 w') ∨ (rS most ys = none ∧ x = .returned (.agg #[.slice none 0 0]) ∧ ∃ y f, f ≠ 0 ∧ IsRd P b y f w'))
set_option maxRecDepth 100000 in
set_option maxHeartbeats 1000000 in
theorem set_no (b : Nat) (ys : List Nat) (f most : Int) (w : World) (h : IsRd P b ys f w) (hf : f ≠ 0) :
    Calls Tryd.prog 88 #[ptr b, .int .i64 most] w fun x w' => x = .returned (.agg #[.slice none 0 0]) ∧ Below w.heap.size w w' := by
  go_enter Tryd.func88, Tryd.ntmps88
  go_wp2_with fail
  refine absC1 fun W0 hX hb0 hz => ?_
  have HO := hideC (ok_no b ys f W0 (h.below hb0) hf)
  have x0 := hX.cell 0
  have f0 := hX.frozen 0
  clear hf hz
  go_wp2_with fail; (with_reducible refine (HO.out).mono ?_); rintro x w1 ⟨rfl, rfl⟩
  go_wp2_with fail
  have cX := (hX.set_ 0 (.slice none 0 0)).cell 0
  exact bodyPost_ret (v := .agg #[.slice none 0 0]) (by simp [results, Tryd.results88, go_sem, cX]) rfl ⟨rfl, hb0.setCell (by simp) _⟩
theorem But.later {r : Option Nat} {w W : World} (h : But r w W) {p : Addr} (hp : w.heap.size ≤ p.block) (v : Value) : But r w (W.setCell p v) := ⟨by simpa [World.setCell] using h.1, fun g hg hne => (Below.heap_setCell W p v g (by omega)).trans (h.2 g hg hne)⟩
theorem Kr.later {base b : Nat} {w W : World} (h : Kr base b w W) (hb : base ≤ w.heap.size) {p : Addr} (hp : w.heap.size ≤ p.block) (v : Value) : Kr base b w (W.setCell p v) := ⟨h.1.setCell (p := p) (by omega) v, h.2.later hp v⟩
/-- Bytes stay when a set's block is written. -/
theorem IsBy.far {W : World} {X : Nat} {A A' : Option Addr} {n c c' : Nat} {t : TypeId} {ys : List Nat} (h : IsBy W A c ys) (hX : Blk W X t #[.slice A' n c']) (v : Value) : IsBy (W.setCell ⟨X, 0, none⟩ v) A c ys := by
  refine ⟨h.1, h.2.1, h.2.2.1, fun hp => ?_⟩
  have hp' : 0 < ys.length := by rwa [List.length_map, List.length_map] at hp
  obtain ⟨g, off, hA, hg, hc⟩ := h.2.2.2 hp
  have hne : g ≠ X := by
    rintro rfl
    have := hc 0 _ (zb_get hp')
    rw [hX.cell] at this
    rcases off with _ | n
    · simp at this
    · simp at this
  exact ⟨g, off, hA, by simpa [World.setCell] using hg, fun k u hu => (World.cell?_of_block (a := ⟨g, off + k, none⟩) (Below.heap_setCell W ⟨X, 0, none⟩ v g hne)).trans (hc k u hu)⟩
theorem IsRd.far {b X : Nat} {ys : List Nat} {e : Int} {W : World} {A' : Option Addr} {n c' : Nat} {t : TypeId} (h : IsRd P b ys e W) (hX : Blk W X t #[.slice A' n c']) (hne : b ≠ X) (v : Value) : IsRd P b ys e (W.setCell ⟨X, 0, none⟩ v) := by
  obtain ⟨A, c, h1, h2, h3⟩ := h
  exact ⟨A, c, h1.far (p := ⟨X, 0, none⟩) hne v, h2.far hX v, h3⟩
/-- The reader is set back, with an error. -/
theorem set_back {base b X : Nat} {ys : List Nat} {f : Int} {w W : World} {A : Option Addr} {c : Nat} {l v : Value} (hR : Blk w b 128 #[.slice A ys.length c, .int .i64 0]) (hS : IsBy w A c ys) (hP : ∀ a, A = some a → P a.block) (hbs : base ≤ b) (hk : Kr base b w W) (hB : Blk W b 128 #[l, .int .i64 0]) (hX : w.heap.size ≤ X) :
    IsRd P b ys f (((W.setCell ⟨b, 1, none⟩ (.int .i64 f)).setCell ⟨b, 0, none⟩ (.slice A ys.length c)).setCell ⟨X, 0, none⟩ v) ∧ Kr base b w (((W.setCell ⟨b, 1, none⟩ (.int .i64 f)).setCell ⟨b, 0, none⟩ (.slice A ys.length c)).setCell ⟨X, 0, none⟩ v) := by
  have k1 := hk.trans (Kr.set (w := W) hbs 1 (.int .i64 f))
  have k2 := k1.trans (Kr.set (w := W.setCell ⟨b, 1, none⟩ (.int .i64 f)) hbs 0 (.slice A ys.length c))
  have k3 := k2.later (p := ⟨X, 0, none⟩) (by have := hR.lt; omega) hX v
  have hne : b ≠ X := by have := hR.lt; omega
  exact ⟨⟨A, c, ((hB.set_ 1 (.int .i64 f)).set_ 0 (.slice A ys.length c)).far (p := ⟨X, 0, none⟩) hne v, hS.kr hR k3, hP⟩, k3⟩
set_option maxRecDepth 100000 in
set_option maxHeartbeats 4000000 in
theorem set_rd (base b : Nat) (most : Int) (ys : List Nat) (w : World) (h : IsRd P b ys 0 w) (hl : ∀ y ∈ ys, y < 256) (hy : ys.length ≤ 1000000000) (hb : base ≤ b) :
    Calls Tryd.prog 88 #[ptr b, .int .i64 most] w (SPost P base b most ys w) := by
  go_enter Tryd.func88, Tryd.ntmps88
  go_wp2_with fail
  refine absC1 fun W0 hX hb0 hz => ?_
  have hbs : base ≤ w.heap.size := by have := h.lt; omega
  have k0 : Kr base b w W0 := Kr.of_below hb0 hbs
  have h0 := h.below hb0
  have HO := hideC (ok_yes b ys W0 h0)
  have HB := hideC (bytes_rd base b ys W0 h0 hl hy hb)
  obtain ⟨A, c, hRw, hSw, hPw⟩ := h
  have hR0 := hRw.below hb0 hRw.lt
  have r0 := hR0.cell 0
  have hneX : w.heap.size ≠ b := by have := hRw.lt; omega
  clear hz
  go_wp2_with fail; (with_reducible refine (HO.out).mono ?_); rintro x w1 ⟨rfl, rfl⟩
  go_wp2_with fail; (with_reducible refine (HB.out).mono ?_); rintro x w1 ⟨k1, hcase⟩
  have kw1 := k0.trans k1
  have hX1 := k1.2.blk hX (fun e => hneX (by cases e; rfl))
  rcases hcase with ⟨p, y, A1, c1, hr, rfl, hS1, hrd1⟩ | ⟨hr, rfl, f, hf, hrd1⟩
  · have he := rB_enc hl (by omega) hr
    have HR := hideC (read_bits A1 c1 p w1 hS1 he.2.2.1 he.2.1)
    have hrs : rS most ys = if fine p = true ∧ (p = [] ∨ ((bytesNat p).log2 : Int) ≤ most) then some (bytesNat p, y) else none := by rw [rS, hr]
    have hp0 : fine p = true → (bytesNat p = 0 ↔ p = []) := fun hf => ⟨fun e => by
      by_cases h : p = []
      · exact h
      · exact absurd e (bytesNat_log he.2.2.1 hf h).1, fun e => by rw [e]; rfl⟩
    obtain ⟨N, hN⟩ : ∃ N, N = bytesNat p := ⟨_, rfl⟩
    rw [← hN] at hrs hp0 HR
    have HRS := Lib.hid hrs
    have HP0 := Lib.hid hp0
    clear hrs hr hN hp0 he
    go_wp2_with fail; (with_reducible refine (HR.out).mono ?_); rintro x w2 ⟨hb2, hcase⟩
    have kw2 := kw1.trans (Kr.of_below hb2 (Nat.le_trans hbs kw1.size))
    have hX2 := hX1.below hb2 hX1.lt
    have hrd2 := hrd1.below hb2
    clear HR
    rcases hcase with ⟨hf, r, rfl, hset⟩ | ⟨hf, rfl⟩
    · obtain ⟨A2, c2, rfl, _⟩ := id hset
      go_wp2_with fail
      refine absC1 fun W3 hY hb3 hz3 => ?_
      have kw3 := kw2.trans (Kr.of_below hb3 (Nat.le_trans hbs kw2.size))
      have hX3 := hX2.below hb3 hX2.lt
      have hrd3 := hrd2.below hb3
      have hset3 := hset.below hb3
      have HO3 := hideC (ok_yes b y W3 hrd3)
      have y0 := hY.cell 0
      have HF := Lib.hid hf
      clear hz3 hX2 hX1 hX hset k0 h0 r0 hR0 hb0 kw1 kw2 k1 hb2 hb3 hrd1 hrd2 hf
      by_cases hN0 : N = 0
      · have hpn := (HP0.out HF.out).1 hN0
        have hrs : rS most ys = some (N, y) := by rw [HRS.out, if_pos ⟨HF.out, .inl hpn⟩]
        have HRS := Lib.hid hrs
        clear hpn hrs
        subst hN0
        have HG := hideC (greatest_no (.slice A2 (nw 0) c2) W3 hset3)
        go_wp2_with fail; (with_reducible refine (HO3.out).mono ?_); rintro x w4 ⟨rfl, rfl⟩
        go_wp2_with fail; (with_reducible refine (HG.out).mono ?_); rintro x w4 ⟨rfl, hb4⟩
        have kw4 := kw3.trans (Kr.of_below hb4 (Nat.le_trans hbs kw3.size))
        have hY4 := hY.below hb4 hY.lt
        have hX4 := hX3.below hb4 hX3.lt
        have y0 := hY4.cell 0
        have x0 := hX4.cell 0
        have g0 := hX4.frozen 0
        go_wp2_with fail
        have cX := (hX4.set_ 0 (.slice A2 (nw 0) c2)).cell 0
        exact bodyPost_ret (v := .agg #[.slice A2 (nw 0) c2]) (by simp [results, Tryd.results88, go_sem, cX]) rfl ⟨kw4.later hbs (Nat.le_refl _) _, .inl ⟨0, y, _, HRS.out, rfl, (hset3.below hb4).keep (KeepW.setCell (p := ⟨w.heap.size, 0, none⟩) hX4 (by decide) _), (hrd3.below hb4).far hX4 hneX.symm _⟩⟩
      · have hpn : p ≠ [] := fun e => hN0 ((HP0.out HF.out).2 e)
        have HG := hideC (greatest_yes (.slice A2 (nw N) c2) N W3 hset3 hN0)
        by_cases hgt : (N.log2 : Int) ≤ most
        · have hrs : rS most ys = some (N, y) := by rw [HRS.out, if_pos ⟨HF.out, .inr hgt⟩]
          have HRS := Lib.hid hrs
          have hgt2 : ¬ most < (N.log2 : Int) := by omega
          clear hrs hpn hN0 hgt
          go_wp2_with fail; (with_reducible refine (HO3.out).mono ?_); rintro x w4 ⟨rfl, rfl⟩
          go_wp2_with fail; (with_reducible refine (HG.out).mono ?_); rintro x w4 ⟨rfl, hb4⟩
          have kw4 := kw3.trans (Kr.of_below hb4 (Nat.le_trans hbs kw3.size))
          have hY4 := hY.below hb4 hY.lt
          have hX4 := hX3.below hb4 hX3.lt
          have y0 := hY4.cell 0
          have x0 := hX4.cell 0
          have g0 := hX4.frozen 0
          go_wp2_with fail
          have cX := (hX4.set_ 0 (.slice A2 (nw N) c2)).cell 0
          exact bodyPost_ret (v := .agg #[.slice A2 (nw N) c2]) (by simp [results, Tryd.results88, go_sem, cX]) rfl ⟨kw4.later hbs (Nat.le_refl _) _, .inl ⟨N, y, _, HRS.out, rfl, (hset3.below hb4).keep (KeepW.setCell (p := ⟨w.heap.size, 0, none⟩) hX4 (by decide) _), (hrd3.below hb4).far hX4 hneX.symm _⟩⟩
        · have hrs : rS most ys = none := by rw [HRS.out, if_neg (by rintro ⟨_, h | h⟩; exact hpn h; exact hgt h)]
          have HRS := Lib.hid hrs
          have hgt2 : most < (N.log2 : Int) := by omega
          clear hrs hpn hN0 hgt
          go_wp2_with fail; (with_reducible refine (HO3.out).mono ?_); rintro x w4 ⟨rfl, rfl⟩
          go_wp2_with fail; (with_reducible refine (HG.out).mono ?_); rintro x w4 ⟨rfl, hb4⟩
          have kw4 := kw3.trans (Kr.of_below hb4 (Nat.le_trans hbs kw3.size))
          have hX4 := hX3.below hb4 hX3.lt
          obtain ⟨A5, c5, hR4, _⟩ := hrd3.below hb4
          have x0 := hX4.cell 0
          have g0 := hX4.frozen 0
          have s1 := hR4.frozen 1
          have s0 := (hR4.set_ 1 (.int .i64 2)).frozen 0
          have hXb := (hX4.far (p := ⟨b, 1, none⟩) hneX (.int .i64 2)).far (p := ⟨b, 0, none⟩) hneX (.slice A ys.length c)
          have g1 := hXb.frozen 0
          have s2 := hR4.cell 1
          have s3 := (hR4.set_ 1 (.int .i64 2)).cell 0
          have g2 := hXb.cell 0
          go_wp2_with fail
          have cX := (hXb.set_ 0 (.slice none 0 0)).cell 0
          obtain ⟨z1, z2⟩ := set_back (f := 2) (v := .slice none 0 0) hRw hSw hPw hb kw4 hR4 (Nat.le_refl _)
          exact bodyPost_ret (v := .agg #[.slice none 0 0]) (by simp [results, Tryd.results88, go_sem, cX]) rfl ⟨z2, .inr ⟨HRS.out, rfl, ys, 2, by decide, z1⟩⟩
    · go_wp2_with fail
      refine absC1 fun W3 hY hb3 hz3 => ?_
      have kw3 := kw2.trans (Kr.of_below hb3 (Nat.le_trans hbs kw2.size))
      have hX3 := hX2.below hb3 hX2.lt
      have hrd3 := hrd2.below hb3
      have HO3 := hideC (ok_yes b y W3 hrd3)
      have HG := hideC (greatest_no (.slice none 0 0) W3 (IsSet.empty _))
      have y0 := hY.cell 0
      have hrs : rS most ys = none := by rw [HRS.out, if_neg (by rw [hf]; rintro ⟨h, _⟩; cases h)]
      have HRS := Lib.hid hrs
      clear hz3 hX2 hX1 hX k0 h0 r0 hR0 hb0 kw1 kw2 k1 hb2 hb3 hrd1 hrd2 hf hrs
      go_wp2_with fail; (with_reducible refine (HO3.out).mono ?_); rintro x w4 ⟨rfl, rfl⟩
      go_wp2_with fail; (with_reducible refine (HG.out).mono ?_); rintro x w4 ⟨rfl, hb4⟩
      have kw4 := kw3.trans (Kr.of_below hb4 (Nat.le_trans hbs kw3.size))
      have hX4 := hX3.below hb4 hX3.lt
      obtain ⟨A5, c5, hR4, _⟩ := hrd3.below hb4
      have x0 := hX4.cell 0
      have g0 := hX4.frozen 0
      have s1 := hR4.frozen 1
      have s0 := (hR4.set_ 1 (.int .i64 6)).frozen 0
      have hXb := (hX4.far (p := ⟨b, 1, none⟩) hneX (.int .i64 6)).far (p := ⟨b, 0, none⟩) hneX (.slice A ys.length c)
      have g1 := hXb.frozen 0
      have s2 := hR4.cell 1
      have s3 := (hR4.set_ 1 (.int .i64 6)).cell 0
      have g2 := hXb.cell 0
      go_wp2_with fail
      have cX := (hXb.set_ 0 (.slice none 0 0)).cell 0
      obtain ⟨z1, z2⟩ := set_back (f := 6) (v := .slice none 0 0) hRw hSw hPw hb kw4 hR4 (Nat.le_refl _)
      exact bodyPost_ret (v := .agg #[.slice none 0 0]) (by simp [results, Tryd.results88, go_sem, cX]) rfl ⟨z2, .inr ⟨HRS.out, rfl, ys, 6, by decide, z1⟩⟩
  · have hrs : rS most ys = none := by rw [rS, hr]
    have HR := hideC (show Calls Tryd.prog 108 #[.slice none 0 0] w1 _ from read_bits none 0 [] w1 ⟨by simp, by simp [maxLen], fun _ => rfl, fun h => by simp at h⟩ (fun y hy => by simp at hy) (by simp))
    go_wp2_with fail; (with_reducible refine (HR.out).mono ?_); rintro x w2 ⟨hb2, hcase⟩
    have kw2 := kw1.trans (Kr.of_below hb2 (Nat.le_trans hbs kw1.size))
    have hX2 := hX1.below hb2 hX1.lt
    have hrd2 := hrd1.below hb2
    rcases hcase with ⟨hff, r, rfl, hset⟩ | ⟨hff, _⟩
    · obtain ⟨A2, c2, rfl, _⟩ := id hset
      go_wp2_with fail
      refine absC1 fun W3 hY hb3 hz3 => ?_
      have kw3 := kw2.trans (Kr.of_below hb3 (Nat.le_trans hbs kw2.size))
      have hX3 := hX2.below hb3 hX2.lt
      have hrd3 := hrd2.below hb3
      have HO3 := hideC (ok_no b ys f W3 hrd3 hf)
      have x0 := hX3.cell 0
      have g0 := hX3.frozen 0
      have HRS := Lib.hid hrs
      have HFF := Lib.hid hf
      clear hz3 hX2 hX1 hX hset k0 h0 r0 hR0 hb0 kw1 kw2 k1 hb2 hb3 hrd1 hrd2 hf hrs hff hr
      go_wp2_with fail; (with_reducible refine (HO3.out).mono ?_); rintro x w4 ⟨rfl, rfl⟩
      go_wp2_with fail
      have cX := (hX3.set_ 0 (.slice none 0 0)).cell 0
      exact bodyPost_ret (v := .agg #[.slice none 0 0]) (by simp [results, Tryd.results88, go_sem, cX]) rfl ⟨kw3.later hbs (Nat.le_refl _) _, .inr ⟨HRS.out, rfl, ys, f, HFF.out, hrd3.far hX3 hneX.symm _⟩⟩
    · exact absurd hff (by decide)
end Go.Proofs.YtjlcnbfkblmoeaaDoor
