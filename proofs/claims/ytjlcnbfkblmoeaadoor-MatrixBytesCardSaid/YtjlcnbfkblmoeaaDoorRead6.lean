import Derived.Test.YtjlcnbfkblmoeaaDoorRead5
namespace Go.Proofs.YtjlcnbfkblmoeaaDoor
open Go.RowKit
variable {P : Nat → Prop}

/-! The reader in either state: some bytes left, or an error. -/
def Good (P : Nat → Prop) (b : Nat) (t : Option (List Nat)) (W : World) : Prop := match t with
  | some z => IsRd P b z 0 W ∧ (∀ y ∈ z, y < 256) ∧ z.length ≤ 1000000000
  | none => ∃ z f, f ≠ 0 ∧ IsRd P b z f W
theorem Good.below {b : Nat} {t : Option (List Nat)} {W W' : World} (h : Good P b t W) (hb : Below W.heap.size W W') : Good P b t W' := by
  cases t with
  | none => obtain ⟨z, f, h1, h2⟩ := h; exact ⟨z, f, h1, h2.below hb⟩
  | some z => obtain ⟨h1, h2⟩ := h; exact ⟨h1.below hb, h2⟩
theorem Good.lt {b : Nat} {t : Option (List Nat)} {W : World} (h : Good P b t W) : b < W.heap.size := by
  cases t with
  | none => obtain ⟨z, f, h1, h2⟩ := h; exact h2.lt
  | some z => obtain ⟨h1, h2⟩ := h; exact h1.lt
theorem Good.blk {b : Nat} {t : Option (List Nat)} {W : World} (h : Good P b t W) : ∃ cs, Blk W b 128 cs := by
  cases t with
  | none => obtain ⟨z, f, h1, A, c, h2, _⟩ := h; exact ⟨_, h2⟩
  | some z => obtain ⟨⟨A, c, h2, _⟩, _⟩ := h; exact ⟨_, h2⟩
def nextN (t : Option (List Nat)) : Nat × Option (List Nat) := match t with
  | none => (0, none)
  | some z => match rN 256 z with
    | none => (0, none)
    | some (v, y) => (v, some y)
def nextS (most : Int) (t : Option (List Nat)) : Nat × Option (List Nat) := match t with
  | none => (0, none)
  | some z => match rS most z with
    | none => (0, none)
    | some (v, y) => (v, some y)
def rowsT (most : Int) : Nat → Option (List Nat) → List Nat × Option (List Nat)
  | 0, t => ([], t)
  | k + 1, t => ((rowsT most k t).1 ++ [(nextS most (rowsT most k t).2).1], (nextS most (rowsT most k t).2).2)
theorem rowsT_len (most : Int) : ∀ (k : Nat) (t : Option (List Nat)), (rowsT most k t).1.length = k
  | 0, _ => rfl
  | k + 1, t => by rw [rowsT]; simp [rowsT_len most k t]
theorem rowsT_cons (most : Int) : ∀ (k : Nat) (t : Option (List Nat)), rowsT most (k + 1) t = ((nextS most t).1 :: (rowsT most k (nextS most t).2).1, (rowsT most k (nextS most t).2).2)
  | 0, t => by simp [rowsT]
  | k + 1, t => by
    have ih := rowsT_cons most k t
    rw [rowsT, ih]
    simp only [rowsT, List.cons_append]
theorem rowsT_none (most : Int) : ∀ k, (rowsT most k none).2 = none
  | 0 => rfl
  | k + 1 => by rw [rowsT, rowsT_none most k]; rfl
theorem rSs_rowsT (most : Int) : ∀ (n : Nat) (z : List Nat), rSs most n z = match (rowsT most n (some z)).2 with
    | none => none
    | some y => some ((rowsT most n (some z)).1, y)
  | 0, z => rfl
  | n + 1, z => by
    rw [rowsT_cons, rSs]
    cases hs : rS most z with
    | none =>
      have : nextS most (some z) = (0, none) := by simp [nextS, hs]
      rw [this]
      dsimp only
      rw [rowsT_none]
    | some q =>
      obtain ⟨N, y⟩ := q
      have : nextS most (some z) = (N, some y) := by simp [nextS, hs]
      rw [this]
      dsimp only
      rw [rSs_rowsT most n y]
      cases (rowsT most n (some y)).2 <;> rfl
/-- What is read of all bytes. -/
def rAll (ys : List Nat) : List Nat × Option (List Nat) := rowsT (((nextN (nextN (some ys)).2).1 : Int) - 1) (nextN (some ys)).1 (nextN (nextN (some ys)).2).2
theorem rM_all (ys : List Nat) : rM ys = match (rAll ys).2 with
    | none => none
    | some y => some (((nextN (nextN (some ys)).2).1, (rAll ys).1), y) := by
  unfold rM rAll
  cases h1 : rN 256 ys with
  | none =>
    have e1 : nextN (some ys) = (0, none) := by simp [nextN, h1]
    rw [e1]; rfl
  | some q =>
    obtain ⟨n, a⟩ := q
    have e1 : nextN (some ys) = (n, some a) := by simp [nextN, h1]
    rw [e1]
    dsimp only
    cases h2 : rN 256 a with
    | none =>
      have e2 : nextN (some a) = (0, none) := by simp [nextN, h2]
      rw [e2]
      dsimp only
      rw [rowsT_none]
    | some q =>
      obtain ⟨C, z⟩ := q
      have e2 : nextN (some a) = (C, some z) := by simp [nextN, h2]
      rw [e2]
      dsimp only
      rw [rSs_rowsT]
      cases (rowsT ((C : Int) - 1) n (some z)).2 <;> rfl
theorem rN_fit {most : Nat} {l : List Nat} {v : Nat} {y : List Nat} (h : rN most l = some (v, y)) : v ≤ most ∧ y.length ≤ l.length := by
  unfold rN at h
  cases hn : num 0 0 l with
  | none => rw [hn] at h; cases h
  | some p =>
    obtain ⟨u, n⟩ := p
    rw [hn] at h
    dsimp only at h
    split at h
    · rename_i hle; cases h; exact ⟨hle, by rw [List.length_drop]; omega⟩
    · cases h
theorem rS_fit {most : Int} {l : List Nat} {v : Nat} {y : List Nat} (h : rS most l = some (v, y)) : y.length ≤ l.length := by
  unfold rS rB at h
  cases hn : num 0 0 l with
  | none => rw [hn] at h; cases h
  | some p =>
    obtain ⟨u, n⟩ := p
    rw [hn] at h
    dsimp only at h
    by_cases hc : u ≤ 512 ∧ u ≤ l.length - n
    · rw [if_pos hc] at h
      dsimp only at h
      split at h
      · cases h; rw [List.length_drop, List.length_drop]; omega
      · cases h
    · rw [if_neg hc] at h; cases h
theorem nextN_le (t : Option (List Nat)) : (nextN t).1 ≤ 256 := by
  cases t with
  | none => exact Nat.zero_le _
  | some z =>
    cases h : rN 256 z with
    | none =>
      have e : nextN (some z) = (0, none) := by simp [nextN, h]
      rw [e]; exact Nat.zero_le _
    | some q =>
      obtain ⟨v, y⟩ := q
      have e : nextN (some z) = (v, some y) := by simp [nextN, h]
      rw [e]; exact (rN_fit h).1
theorem npost_good {base b : Nat} {ys : List Nat} {w : World} {x : Ending} {w' : World} (hl : ∀ y ∈ ys, y < 256) (hy : ys.length ≤ 1000000000) (h : NPost P base b 256 ys .i64 w x w') : Kr base b w w' ∧ x = .returned (.int .i64 (nextN (some ys)).1) ∧ Good P b (nextN (some ys)).2 w' := by
  obtain ⟨hk, ⟨v, y, hr, rfl, hrd⟩ | ⟨hr, rfl, f, hf, hrd⟩⟩ := h
  · have e : nextN (some ys) = (v, some y) := by simp [nextN, hr]
    rw [e]
    exact ⟨hk, rfl, hrd, (rN_enc hl (by omega) hr).2.2, Nat.le_trans (rN_fit hr).2 hy⟩
  · have e : nextN (some ys) = (0, none) := by simp [nextN, hr]
    rw [e]
    exact ⟨hk, rfl, ys, f, hf, hrd⟩
theorem number_good (base b : Nat) (t : Option (List Nat)) (w : World) (h : Good P b t w) (hb : base ≤ b) :
    Calls Tryd.prog 87 #[ptr b, .int .i64 256] w fun x w' => Kr base b w w' ∧ x = .returned (.int .i64 (nextN t).1) ∧ Good P b (nextN t).2 w' := by
  cases t with
  | none =>
    obtain ⟨z, f, hf, hrd⟩ := h
    refine (number_no b z f w hrd hf).mono ?_
    rintro x w' ⟨rfl, rfl⟩
    exact ⟨Kr.refl _ _ _, rfl, z, f, hf, hrd⟩
  | some z =>
    obtain ⟨h1, h2, h3⟩ := h
    exact (number256_rd base b z w h1 h2 h3 hb).mono fun x w' hp => npost_good h2 h3 hp
theorem set_good (base b : Nat) (most : Int) (t : Option (List Nat)) (w : World) (h : Good P b t w) (hb : base ≤ b) :
    Calls Tryd.prog 88 #[ptr b, .int .i64 most] w fun x w' => Kr base b w w' ∧ ∃ r, x = .returned (.agg #[r]) ∧ IsSet w' r (nextS most t).1 ∧ Good P b (nextS most t).2 w' := by
  have hlt := h.lt
  cases t with
  | none =>
    obtain ⟨z, f, hf, hrd⟩ := h
    refine (set_no b z f most w hrd hf).mono ?_
    rintro x w' ⟨rfl, hb'⟩
    exact ⟨Kr.of_below hb' (by omega), _, rfl, IsSet.empty _, z, f, hf, hrd.below hb'⟩
  | some z =>
    obtain ⟨h1, h2, h3⟩ := h
    refine (set_rd base b most z w h1 h2 h3 hb).mono ?_
    rintro x w' ⟨hk, ⟨N, y, r, hr, rfl, hset, hrd⟩ | ⟨hr, rfl, y, f, hf, hrd⟩⟩
    · have e : nextS most (some z) = (N, some y) := by simp [nextS, hr]
      rw [e]
      exact ⟨hk, r, rfl, hset, hrd, (rS_enc h2 hr).2, Nat.le_trans (rS_fit hr) h3⟩
    · have e : nextS most (some z) = (0, none) := by simp [nextS, hr]
      rw [e]
      exact ⟨hk, _, rfl, IsSet.empty _, y, f, hf, hrd⟩
theorem end_good (b : Nat) (t : Option (List Nat)) (w : World) (h : Good P b t w) :
    Calls Tryd.prog 89 #[ptr b] w fun x w' => w = w' ∧ ∃ f, x = .returned (.int .i64 f) ∧ (f != 0) = !decide (t = some []) := by
  cases t with
  | none =>
    obtain ⟨z, f, hf, hrd⟩ := h
    refine (end_no b z f w hrd hf).mono ?_
    rintro x w' ⟨rfl, rfl⟩
    exact ⟨rfl, f, rfl, by simp [hf]⟩
  | some z =>
    refine (end_yes b z w h.1).mono ?_
    rintro x w' ⟨rfl, rfl⟩
    refine ⟨rfl, _, rfl, ?_⟩
    by_cases hz : z = []
    · simp [hz]
    · simp [hz]
theorem IsRd.under {b B : Nat} {ys : List Nat} {e : Int} {W V : World} (h : IsRd P b ys e W) (hB : Below B W V) (hb : b < B) (hP : ∀ g, P g → g < B) : IsRd P b ys e V := by
  obtain ⟨A, c, h1, h2, h3⟩ := h
  refine ⟨A, c, h1.below hB hb, ⟨h2.1, h2.2.1, h2.2.2.1, fun hp => ?_⟩, h3⟩
  obtain ⟨g, off, hA, hg, hc⟩ := h2.2.2.2 hp
  have hgB := hP g (h3 _ hA)
  exact ⟨g, off, hA, Nat.lt_of_lt_of_le hg hB.size, fun k u hu => (hB.cell (p := ⟨g, off + k, none⟩) hgB).trans (hc k u hu)⟩
theorem Good.under {b B : Nat} {t : Option (List Nat)} {W V : World} (h : Good P b t W) (hB : Below B W V) (hb : b < B) (hP : ∀ g, P g → g < B) : Good P b t V := by
  cases t with
  | none => obtain ⟨z, f, h1, h2⟩ := h; exact ⟨z, f, h1, h2.under hB hb hP⟩
  | some z => obtain ⟨h1, h2⟩ := h; exact ⟨h1.under hB hb hP, h2⟩
/-- What Read leaves. -/
def ReadM (w : World) (ys : List Nat) (x : Ending) (w' : World) : Prop :=
  Below w.heap.size w w' ∧ ((∃ q C Ns, rM ys = some ((C, Ns), []) ∧ x = pair (ptr q) 0 ∧ IsMat w' q C Ns) ∨ ((∀ y, rM ys ≠ some (y, [])) ∧ x = pair (.pointer none) 6))
set_option maxRecDepth 100000 in
set_option maxHeartbeats 4000000 in
theorem mread_any (A : Option Addr) (c : Nat) (ys : List Nat) (w : World) (h : IsBy w A c ys) (hl : ∀ y ∈ ys, y < 256) (hy : ys.length ≤ 1000000000) :
    Calls Tryd.prog 56 #[.slice A ys.length c] w (ReadM w ys) := by
  obtain ⟨i0, hi0, hz0, hz1, hz2⟩ := info_parts info_set
  have HN := hideC (newReader_any A c ys w h hy)
  go_enter Tryd.func56, Tryd.ntmps56
  go_wp2_with fail; (with_reducible refine (HN.out).mono ?_); rintro x w1 ⟨b, rfl, hbw, hrd1, hb1⟩
  have HC := hideC (show Calls Tryd.prog 86 #[ptr b, .int .i64 256] w1 _ from (count_rd w.heap.size b 256 ys w1 hrd1 hl hy hbw (by omega)).mono fun x w' hp => npost_good hl hy hp)
  have hn1 := nextN_le (some ys)
  have HM := Lib.hid (rM_all ys)
  obtain ⟨R, hR⟩ : ∃ R, R = rAll ys := ⟨_, rfl⟩
  have hR2 := hR
  unfold rAll at hR2
  rw [← hR] at HM
  have HR := Lib.hid hR2
  clear hR hR2
  obtain ⟨n, hn⟩ : ∃ n, n = (nextN (some ys)).1 := ⟨_, rfl⟩
  obtain ⟨t1, ht1⟩ : ∃ t, t = (nextN (some ys)).2 := ⟨_, rfl⟩
  rw [← hn] at HC HR hn1
  rw [← ht1] at HC HM HR
  clear hn ht1
  go_wp2_with fail; (with_reducible refine (HC.out).mono ?_); rintro x w2 ⟨k2, rfl, hg2⟩
  have HNu := hideC (number_good w.heap.size b t1 w2 hg2 hbw)
  have hD := nextN_le t1
  obtain ⟨D, hDe⟩ : ∃ D, D = (nextN t1).1 := ⟨_, rfl⟩
  obtain ⟨t2, ht2⟩ : ∃ t, t = (nextN t1).2 := ⟨_, rfl⟩
  rw [← hDe] at HNu HM HR hD
  rw [← ht2] at HNu HR
  clear hDe ht2
  go_wp2_with fail; (with_reducible refine (HNu.out).mono ?_); rintro x wq ⟨k3, rfl, hg3⟩
  have hbel3 := hb1.trans (k2.1.trans k3.1)
  have hw1q : w1.heap.size ≤ wq.heap.size := Nat.le_trans k2.size k3.size
  have hsz3 := hbel3.size
  clear hg2 hrd1 HC HNu k2 k3 hb1 h
  go_wp2_with fail
  have hq0 := Blk.new wq 86 #[.int .i64 (D : Int), .slice none 0 0]
  have hbq := (Below.refl wq.heap.size wq).alloc (Nat.le_refl _) (.cells #[.int .i64 (D : Int), .slice none 0 0] 86)
  have hg0 := hg3.below hbq
  have hqb : wq.heap.size ≠ b := by have := hg3.lt; omega
  have hbq2 : b < wq.heap.size := hg3.lt
  clear hg3
  go_loopw [16] (fun i wr => ∃ k : Nat, k ≤ n ∧ i = .int .i64 k ∧ (∃ rv vs, Bld wq.heap.size wq.heap.size D (rowsT ((D : Int) - 1) k t2).1 wr rv vs) ∧ Good (fun g => g < w1.heap.size) b (rowsT ((D : Int) - 1) k t2).2 wr ∧ Below w.heap.size w wr) (fun i _ => n - (intOf i).toNat)
  case atStart => exact ⟨0, Nat.zero_le _, rfl, ⟨_, _, Bld.start _ _ _ _ hq0⟩, hg0, hbel3.trans (hbq.mono hsz3)⟩
  case round =>
    obtain ⟨k, hk, rfl, ⟨rv, vs, hbld⟩, hg, hbel⟩ := hrel
    have hrl := rowsT_len ((D : Int) - 1) k t2
    by_cases hlt : k < n
    · have HSU := Lib.hid (show rowsT ((D : Int) - 1) (k + 1) t2 = _ from rfl)
      have HS := hideC (set_good w.heap.size b ((D : Int) - 1) _ wr.drew (hg.below (Below.refl _ _).drew) hbw)
      have q0 := hbld.1.cell 0
      have q1 := hbld.1.cell 1
      have n1 := hbld.ne
      have hD1 := i64w (x := (D : Int) - 1) (by omega)
      go_wp2_with fail
      refine wp_spine (fun V => V.cell? ⟨wq.heap.size, 0, none⟩ = some (.int .i64 (D : Int)) ∧ V.cell? ⟨wq.heap.size, 1, none⟩ = some rv) [0, 1, 2, 3, 4, 5, 6, 7, 8, 9, 10] [11, 12, 13, 14, 15, 16] (by kernel_rfl) (by kernel_rfl) ?_
      iterate 11 (refine wpE_op (v := ?_) rfl rfl (fun W hW => ?_) ?_; rotate_left; (have x1 := hW.1; have x2 := hW.2; go_simp; first | done | with_reducible rfl); simp only [Act.put, List.setIfInBounds_toArray, List.set_cons_zero, List.set_cons_succ])
      refine wpE_nil ⟨fun h => (by cases h), wpSp_op rfl ⟨q0, q1⟩ ?_⟩
      go_wp2_with fail
      (with_reducible refine (HS.out).mono ?_); rintro x w4 ⟨k4, r, rfl, hset, hg4⟩
      have kk := (Kr.of_below (b := b) (Below.refl wr.heap.size wr).drew hbel.size).trans k4
      obtain ⟨cs, hbb⟩ := hg.blk
      obtain ⟨N, hN⟩ : ∃ N, N = (nextS ((D : Int) - 1) (rowsT ((D : Int) - 1) k t2).2).1 := ⟨_, rfl⟩
      have hbld4 := hbld.but2 kk.2 (fun e => hqb (by cases e; rfl)) (fun g hg' e => by
        obtain ⟨cs', hcs⟩ := own_kind hbld.2.1 g hg'
        cases e
        exact hbb.ne_ hcs (by decide) rfl) (KeepW.of_but kk.2 hbb (by decide))
      rw [← hN] at hset
      have HN := Lib.hid hN
      clear hN hbld hbb q0 q1 n1 hg HS k4 hg0
      have n4 := hbld4.ne
      obtain ⟨A4, c4, rfl, _⟩ := id hset
      have hbel4 := hbel.trans kk.1
      have hsz4 := hbel4.size
      go_wp2_with fail
      refine nxt_op rfl ⟨hbld4.1.cell 0, hbld4.1.cell 1⟩ ?_
      go_wp2_with fail
      have hb6 := (Below.refl w4.heap.size w4).alloc (Nat.le_refl _) (.cells #[.slice A4 (nw N) c4] 65)
      have hbld6 := hbld4.below hb6
      have hset6 := hset.keep (KeepW.alloc _ (.cells #[.slice A4 (nw N) c4] 65))
      have hg6 := hg4.below hb6
      have hsz3' : wq.heap.size ≤ w4.heap.size := by have := hbld4.1.lt; omega
      refine nxt_op rfl ⟨hbld6.1.cell 0, hbld6.1.cell 1⟩ ?_
      go_wp2_with (at_builtin; refine wpList_append_own _ rfl _ _ 62 rfl (wq.heap.size) 65 i0 (.agg #[.slice none 0 0]) 1 24 Tryd.underlying62 hi0 hz0 hz1 hz2 rfl (by decide) _ _ _ rfl (hbld6.2.1) ⟨w4.heap.size, 0, none⟩ 1 1 [.slice A4 (nw N) c4] rfl rfl (cell_one_new _ _ _) (by simp [Value.oneCell']) (by unfold maxLen; omega) (by omega) (by simp; omega) ?_; intro v' w3 hown' hgrow _)
      obtain ⟨g5, cap5, rfl⟩ := ownsRow_succ hown'
      have hB5 := hbld6.1.grown hgrow hbld6.ne
      have z0 := hB5.cell 0
      have z1 := hB5.cell 1
      have f1 := hB5.frozen 1
      obtain ⟨hbl7, _⟩ := hbld6.push hset6 rfl rfl hown' hgrow
      have hlow : Below wq.heap.size (w4.alloc (.cells #[.slice A4 (nw N) c4] 65)) (w3.setCell ⟨wq.heap.size, 1, none⟩ (.slice (some ⟨g5, 0, none⟩) ((rowsT ((D : Int) - 1) k t2).1.length + 1) cap5)) :=
        ((Below.refl _ _).grown hgrow (by simp; omega) (fun q hq => (hbld6.2.1.lt q hq).1)).setCell (p := ⟨wq.heap.size, 1, none⟩) (Nat.le_refl _) _
      have hg7 := hg6.under hlow hbq2 (fun g hg => Nat.lt_of_lt_of_le hg hw1q)
      have hbel7 := (hbel4.trans (hb6.mono hsz4)).trans (hlow.mono hsz3)
      rw [hrl] at hbl7 hg7 hbel7
      refine nxt_op rfl ⟨z0, z1⟩ ?_
      go_wp2_with fail
      refine nxt_op rfl ⟨z0, z1⟩ ?_
      go_wp2_with fail
      refine nxt_op rfl ⟨z0, z1⟩ ?_
      go_wp2_with fail
      refine nxt_nil ?_
      go_wp2_with fail
      have e1 : (rowsT ((D : Int) - 1) (k + 1) t2).1 = (rowsT ((D : Int) - 1) k t2).1 ++ [N] := by rw [rowsT, ← HN.out]
      have e2 : (rowsT ((D : Int) - 1) (k + 1) t2).2 = (nextS ((D : Int) - 1) (rowsT ((D : Int) - 1) k t2).2).2 := rfl
      rw [← e1] at hbl7
      rw [← e2] at hg7
      exact ⟨⟨k + 1, by omega, by go_num, ⟨_, _, hbl7⟩, hg7, hbel7⟩, by simp [intOf]; omega⟩
    · obtain rfl : k = n := by omega
      have HE := hideC (end_good b _ wr hg)
      have hbm := hbld.mat (by omega) (by rw [hrl]; omega)
      rw [← HR.out] at hbm
      rw [← HR.out] at HE
      clear hg hbld
      go_wp2_with fail; (with_reducible refine (HE.out).mono ?_); rintro x w5 ⟨rfl, f, rfl, hf⟩
      by_cases hz : R.2 = some []
      · rw [decide_eq_true hz] at hf
        have hm := HM.out
        rw [hz] at hm
        have HM2 := Lib.hid hm
        clear hz hm
        go_wp2_with fail
        go_ret2
        exact ⟨hbel, .inl ⟨_, _, _, HM2.out, rfl, hbm⟩⟩
      · rw [decide_eq_false hz] at hf
        have hno : ∀ y, rM ys ≠ some (y, []) := fun y e => by
          rw [HM.out] at e
          cases h2 : R.2 with
          | none => rw [h2] at e; cases e
          | some x =>
            rw [h2] at e
            cases e
            exact hz h2
        clear hz
        go_wp2_with fail
        go_ret2
        exact ⟨hbel, .inr ⟨hno, rfl⟩⟩
end Go.Proofs.YtjlcnbfkblmoeaaDoor
