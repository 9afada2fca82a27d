import Derived.Test.YtjlcnbfkblmoeaaDoorRead2
namespace Go.Proofs.YtjlcnbfkblmoeaaDoor
open Go.RowKit
variable {P : Nat → Prop}

set_option maxRecDepth 100000 in
set_option maxHeartbeats 1000000 in
theorem ok_yes (b : Nat) (ys : List Nat) (w : World) (h : IsRd P b ys 0 w) :
    Calls Tryd.prog 103 #[ptr b] w fun x w' => x = .returned (.bool true) ∧ w = w' := by
  obtain ⟨A, c, hB, hS, hP⟩ := h
  have r1 := hB.cell 1
  go_enter Tryd.func103, Tryd.ntmps103
  go_wp2_with fail
  go_ret
  exact ⟨rfl, rfl⟩
set_option maxRecDepth 100000 in
set_option maxHeartbeats 1000000 in
theorem ok_no (b : Nat) (ys : List Nat) (f : Int) (w : World) (h : IsRd P b ys f w) (hf : f ≠ 0) :
    Calls Tryd.prog 103 #[ptr b] w fun x w' => x = .returned (.bool false) ∧ w = w' := by
  obtain ⟨A, c, hB, hS, hP⟩ := h
  have r1 := hB.cell 1
  have e1 : (f == 0) = false := by simp [hf]
  clear hf
  go_enter Tryd.func103, Tryd.ntmps103
  go_wp2_with fail
  go_ret
  exact ⟨rfl, rfl⟩
set_option maxRecDepth 100000 in
set_option maxHeartbeats 1000000 in
theorem fail_rd (base b : Nat) (ys : List Nat) (f : Int) (w : World) (h : IsRd P b ys 0 w) (hb : base ≤ b) :
    Calls Tryd.prog 117 #[ptr b, .int .i64 f] w fun x w' => x = .returned (.tuple #[]) ∧ IsRd P b ys f w' ∧ Kr base b w w' := by
  have HO := hideC (ok_yes b ys w h)
  obtain ⟨A, c, hB, hS, hP⟩ := h
  have f1 := hB.frozen 1
  have r1 := hB.cell 1
  go_enter Tryd.func117, Tryd.ntmps117
  go_wp2_with fail
  with_reducible refine HO.out.mono ?_
  rintro x w1 ⟨rfl, rfl⟩
  go_wp2_with fail
  go_end0
  have hk : Kr base b w (w.setCell ⟨b, 1, none⟩ (.int .i64 f)) := Kr.set hb 1 _
  exact ⟨rfl, ⟨A, c, hB.set_ 1 _, hS.kr hB hk, hP⟩, hk⟩
set_option maxRecDepth 100000 in
set_option maxHeartbeats 1000000 in
theorem refuse_no (b : Nat) (f : Int) (w : World) :
    Calls Tryd.prog 104 #[ptr b, .bool false, .int .i64 f] w fun x w' => x = .returned (.bool true) ∧ w = w' := by
  go_enter Tryd.func104, Tryd.ntmps104
  go_wp2_with fail
  go_ret
  exact ⟨rfl, rfl⟩
set_option maxRecDepth 100000 in
set_option maxHeartbeats 1000000 in
theorem refuse_yes (base b : Nat) (ys : List Nat) (f : Int) (w : World) (h : IsRd P b ys 0 w) (hb : base ≤ b) :
    Calls Tryd.prog 104 #[ptr b, .bool true, .int .i64 f] w fun x w' => x = .returned (.bool false) ∧ IsRd P b ys f w' ∧ Kr base b w w' := by
  have HF := hideC (fail_rd base b ys f w h hb)
  go_enter Tryd.func104, Tryd.ntmps104
  go_wp2_with fail
  with_reducible refine HF.out.mono ?_
  rintro x w1 ⟨rfl, hr, hk⟩
  go_wp2_with fail
  go_ret
  exact ⟨rfl, hr, hk⟩
/-- What the readers of numbers leave. -/
def NPost (P : Nat → Prop) (base b most : Nat) (ys : List Nat) (kd : IntKind) (w : World) (x : Ending) (w' : World) : Prop :=
  Kr base b w w' ∧ ((∃ v y, rN most ys = some (v, y) ∧ x = .returned (.int kd v) ∧ IsRd P b y 0 w') ∨ (rN most ys = none ∧ x = .returned (.int kd 0) ∧ ∃ f, f ≠ 0 ∧ IsRd P b ys f w'))
theorem nres_none {l : List Nat} (h : num 0 0 l = none) : nres l = (0, 0) := by rw [nres, h]; rfl
theorem nres_some {l : List Nat} {u n : Nat} (h : num 0 0 l = some (u, n)) : nres l = (u, n) := by rw [nres, h]; rfl
set_option maxRecDepth 100000 in
set_option maxHeartbeats 2000000 in
theorem count_rd (base b most : Nat) (ys : List Nat) (w : World) (h : IsRd P b ys 0 w) (hl : ∀ y ∈ ys, y < 256) (hy : ys.length ≤ 1000000000) (hb : base ≤ b) (hm : most ≤ 1000) :
    Calls Tryd.prog 86 #[ptr b, .int .i64 most] w (NPost P base b most ys .i64 w) := by
  have HO := hideC (ok_yes b ys w h)
  have HN := hideC (number_rd b ys 0 w h hl hy)
  have HQ := hideC (fun f W => refuse_no b f W)
  have HY := hideC (fun f => refuse_yes base b ys f w h hb)
  have hmz : decide ((most : Int) < 0) = false := by simp
  cases hn : num 0 0 ys with
  | none =>
    rw [nres_none hn] at HN
    have hrn : rN most ys = none := by rw [rN, hn]
    clear hn
    go_enter Tryd.func86, Tryd.ntmps86
    go_wp2_with fail
    with_reducible refine HO.out.mono ?_
    rintro x w1 ⟨rfl, rfl⟩
    go_wp2_with fail
    with_reducible refine (HQ.out _ _).mono ?_
    rintro x w1 ⟨rfl, rfl⟩
    go_wp2_with fail
    with_reducible refine HN.out.mono ?_
    rintro x w1 ⟨rfl, rfl⟩
    go_wp2_with fail
    with_reducible refine (HY.out _).mono ?_
    rintro x w1 ⟨rfl, hr, hk⟩
    go_wp2_with fail
    go_ret
    exact ⟨hk, .inr ⟨hrn, rfl, 6, by decide, hr⟩⟩
  | some q =>
    obtain ⟨u, n⟩ := q
    rw [nres_some hn] at HN
    have hln := num_len _ _ _ _ _ hn
    have hrn : rN most ys = if u ≤ most then some (u, ys.drop n) else none := by rw [rN, hn]
    have HT := hideC (take_rd base b n ys 0 w h (by omega) hy hb)
    have HRN := Lib.hid hrn
    have hn0 : ((n : Int) == 0) = false := by simp; omega
    have hwm := u64_wrap_nat most (by omega)
    clear hn hrn
    by_cases hum : u ≤ most
    · have hum2 : decide (most < u) = false := by simp; omega
      have hwu := i64w (x := (u : Int)) (by omega)
      go_enter Tryd.func86, Tryd.ntmps86
      go_wp2_with fail
      with_reducible refine HO.out.mono ?_
      rintro x w1 ⟨rfl, rfl⟩
      go_wp2_with fail
      with_reducible refine (HQ.out _ _).mono ?_
      rintro x w1 ⟨rfl, rfl⟩
      go_wp2_with fail
      with_reducible refine HN.out.mono ?_
      rintro x w1 ⟨rfl, rfl⟩
      go_wp2_with fail
      with_reducible refine (HQ.out _ _).mono ?_
      rintro x w1 ⟨rfl, rfl⟩
      go_wp2_with fail
      with_reducible refine (HQ.out _ _).mono ?_
      rintro x w1 ⟨rfl, rfl⟩
      go_wp2_with fail
      with_reducible refine HT.out.mono ?_
      rintro x w1 ⟨A1, c1, rfl, _, hr, hk⟩
      go_wp2_with fail
      go_ret
      exact ⟨hk, .inl ⟨u, ys.drop n, by rw [HRN.out, if_pos hum], rfl, hr⟩⟩
    · have hum2 : decide (most < u) = true := by simp; omega
      go_enter Tryd.func86, Tryd.ntmps86
      go_wp2_with fail
      with_reducible refine HO.out.mono ?_
      rintro x w1 ⟨rfl, rfl⟩
      go_wp2_with fail
      with_reducible refine (HQ.out _ _).mono ?_
      rintro x w1 ⟨rfl, rfl⟩
      go_wp2_with fail
      with_reducible refine HN.out.mono ?_
      rintro x w1 ⟨rfl, rfl⟩
      go_wp2_with fail
      with_reducible refine (HQ.out _ _).mono ?_
      rintro x w1 ⟨rfl, rfl⟩
      go_wp2_with fail
      with_reducible refine (HY.out _).mono ?_
      rintro x w1 ⟨rfl, hr, hk⟩
      go_wp2_with fail
      go_ret
      exact ⟨hk, .inr ⟨by rw [HRN.out, if_neg hum], rfl, 3, by decide, hr⟩⟩
set_option maxRecDepth 100000 in
set_option maxHeartbeats 2000000 in
theorem uint_rd (base b most : Nat) (ys : List Nat) (w : World) (h : IsRd P b ys 0 w) (hl : ∀ y ∈ ys, y < 256) (hy : ys.length ≤ 1000000000) (hb : base ≤ b) :
    Calls Tryd.prog 107 #[ptr b, u64 most] w (NPost P base b most ys .u64 w) := by
  have HO := hideC (ok_yes b ys w h)
  have HN := hideC (number_rd b ys 0 w h hl hy)
  have HQ := hideC (fun f W => refuse_no b f W)
  have HY := hideC (fun f => refuse_yes base b ys f w h hb)
  cases hn : num 0 0 ys with
  | none =>
    rw [nres_none hn] at HN
    have hrn : rN most ys = none := by rw [rN, hn]
    clear hn
    go_enter Tryd.func107, Tryd.ntmps107
    go_wp2_with fail; (with_reducible refine (HO.out).mono ?_); rintro x w1 ⟨rfl, rfl⟩
    go_wp2_with fail; (with_reducible refine (HN.out).mono ?_); rintro x w1 ⟨rfl, rfl⟩
    go_wp2_with fail; (with_reducible refine (HY.out _).mono ?_); rintro x w1 ⟨rfl, hr, hk⟩
    go_wp2_with fail
    go_ret
    exact ⟨hk, .inr ⟨hrn, rfl, 6, by decide, hr⟩⟩
  | some q =>
    obtain ⟨u, n⟩ := q
    rw [nres_some hn] at HN
    have hln := num_len _ _ _ _ _ hn
    have hrn : rN most ys = if u ≤ most then some (u, ys.drop n) else none := by rw [rN, hn]
    have HT := hideC (take_rd base b n ys 0 w h (by omega) hy hb)
    have HRN := Lib.hid hrn
    have hn0 : ((n : Int) == 0) = false := by simp; omega
    clear hn hrn
    by_cases hum : u ≤ most
    · have hum2 : decide (most < u) = false := by simp; omega
      go_enter Tryd.func107, Tryd.ntmps107
      go_wp2_with fail; (with_reducible refine (HO.out).mono ?_); rintro x w1 ⟨rfl, rfl⟩
      go_wp2_with fail; (with_reducible refine (HN.out).mono ?_); rintro x w1 ⟨rfl, rfl⟩
      go_wp2_with fail; (with_reducible refine (HQ.out _ _).mono ?_); rintro x w1 ⟨rfl, rfl⟩
      go_wp2_with fail; (with_reducible refine (HQ.out _ _).mono ?_); rintro x w1 ⟨rfl, rfl⟩
      go_wp2_with fail; (with_reducible refine (HT.out).mono ?_); rintro x w1 ⟨A1, c1, rfl, _, hr, hk⟩
      go_wp2_with fail
      go_ret
      exact ⟨hk, .inl ⟨u, ys.drop n, by rw [HRN.out, if_pos hum], rfl, hr⟩⟩
    · have hum2 : decide (most < u) = true := by simp; omega
      go_enter Tryd.func107, Tryd.ntmps107
      go_wp2_with fail; (with_reducible refine (HO.out).mono ?_); rintro x w1 ⟨rfl, rfl⟩
      go_wp2_with fail; (with_reducible refine (HN.out).mono ?_); rintro x w1 ⟨rfl, rfl⟩
      go_wp2_with fail; (with_reducible refine (HQ.out _ _).mono ?_); rintro x w1 ⟨rfl, rfl⟩
      go_wp2_with fail; (with_reducible refine (HY.out _).mono ?_); rintro x w1 ⟨rfl, hr, hk⟩
      go_wp2_with fail
      go_ret
      exact ⟨hk, .inr ⟨by rw [HRN.out, if_neg hum], rfl, 2, by decide, hr⟩⟩
set_option maxRecDepth 100000 in
set_option maxHeartbeats 2000000 in
theorem number256_rd (base b : Nat) (ys : List Nat) (w : World) (h : IsRd P b ys 0 w) (hl : ∀ y ∈ ys, y < 256) (hy : ys.length ≤ 1000000000) (hb : base ≤ b) :
    Calls Tryd.prog 87 #[ptr b, .int .i64 256] w (NPost P base b 256 ys .i64 w) := by
  have HO := hideC (ok_yes b ys w h)
  have HQ := hideC (fun f W => refuse_no b f W)
  have HU := hideC (show Calls Tryd.prog 107 #[ptr b, .int .u64 256] w (NPost P base b 256 ys .u64 w) from uint_rd base b 256 ys w h hl hy hb)
  go_enter Tryd.func87, Tryd.ntmps87
  go_wp2_with fail; (with_reducible refine (HO.out).mono ?_); rintro x w1 ⟨rfl, rfl⟩
  go_wp2_with fail; (with_reducible refine (HQ.out _ _).mono ?_); rintro x w1 ⟨rfl, rfl⟩
  go_wp2_with fail; (with_reducible refine (HU.out).mono ?_); rintro x w1 ⟨hk, ⟨u, y, hr, rfl, hrd⟩ | ⟨hr, rfl, f, hf, hrd⟩⟩
  · have hu : u ≤ 256 := (rN_enc hl (by omega) hr).2.1
    have hwu := i64w (x := (u : Int)) (by omega)
    go_wp2_with fail
    go_ret
    exact ⟨hk, .inl ⟨u, y, hr, rfl, hrd⟩⟩
  · go_wp2_with fail
    go_ret
    exact ⟨hk, .inr ⟨hr, rfl, f, hf, hrd⟩⟩
set_option maxRecDepth 100000 in
set_option maxHeartbeats 2000000 in
theorem number_no (b : Nat) (ys : List Nat) (f : Int) (w : World) (h : IsRd P b ys f w) (hf : f ≠ 0) :
    Calls Tryd.prog 87 #[ptr b, .int .i64 256] w fun x w' => x = .returned (.int .i64 0) ∧ w = w' := by
  have HO := hideC (ok_no b ys f w h hf)
  clear hf
  go_enter Tryd.func87, Tryd.ntmps87
  go_wp2_with fail; (with_reducible refine (HO.out).mono ?_); rintro x w1 ⟨rfl, rfl⟩
  go_wp2_with fail
  go_ret
  exact ⟨rfl, rfl⟩
/-- What the reader of byte strings leaves. -/
def BPost (P : Nat → Prop) (base b : Nat) (ys : List Nat) (w : World) (x : Ending) (w' : World) : Prop :=
  Kr base b w w' ∧ ((∃ p y A c, rB 512 ys = some (p, y) ∧ x = .returned (.slice A p.length c) ∧ IsBy w' A c p ∧ IsRd P b y 0 w') ∨ (rB 512 ys = none ∧ x = .returned (.slice none 0 0) ∧ ∃ f, f ≠ 0 ∧ IsRd P b ys f w'))
set_option maxRecDepth 100000 in
set_option maxHeartbeats 4000000 in
theorem bytes_rd (base b : Nat) (ys : List Nat) (w : World) (h : IsRd P b ys 0 w) (hl : ∀ y ∈ ys, y < 256) (hy : ys.length ≤ 1000000000) (hb : base ≤ b) :
    Calls Tryd.prog 109 #[ptr b, .int .i64 512] w (BPost P base b ys w) := by
  have HO := hideC (ok_yes b ys w h)
  have HN := hideC (number_rd b ys 0 w h hl hy)
  have HQ := hideC (fun f W => refuse_no b f W)
  have HY := hideC (fun f => refuse_yes base b ys f w h hb)
  have r0 : ∃ A c, w.cell? ⟨b, 0, none⟩ = some (.slice A ys.length c) := by obtain ⟨A, c, hB, _⟩ := h; exact ⟨A, c, hB.cell 0⟩
  obtain ⟨A, c, r0⟩ := r0
  cases hn : num 0 0 ys with
  | none =>
    rw [nres_none hn] at HN
    have hrn : rB 512 ys = none := by rw [rB, hn]
    clear hn
    go_enter Tryd.func109, Tryd.ntmps109
    go_wp2_with fail; (with_reducible refine (HO.out).mono ?_); rintro x w1 ⟨rfl, rfl⟩
    go_wp2_with fail; (with_reducible refine (HQ.out _ _).mono ?_); rintro x w1 ⟨rfl, rfl⟩
    go_wp2_with fail; (with_reducible refine (HN.out).mono ?_); rintro x w1 ⟨rfl, rfl⟩
    go_wp2_with fail; (with_reducible refine (HY.out _).mono ?_); rintro x w1 ⟨rfl, hr, hk⟩
    go_wp2_with fail
    go_ret
    exact ⟨hk, .inr ⟨hrn, rfl, 6, by decide, hr⟩⟩
  | some q =>
    obtain ⟨u, n⟩ := q
    rw [nres_some hn] at HN
    have hln := num_len _ _ _ _ _ hn
    have hrn : rB 512 ys = if u ≤ 512 ∧ u ≤ ys.length - n then some ((ys.drop n).take u, (ys.drop n).drop u) else none := by rw [rB, hn]
    have HT := hideC (take_rd base b n ys 0 w h (by omega) hy hb)
    have HRN := Lib.hid hrn
    have hn0 : ((n : Int) == 0) = false := by simp; omega
    have hlz : IntKind.u64.wrap ((ys.length : Int) - (n : Int)) = ((ys.length - n : Nat) : Int) := by
      rw [show ((ys.length : Int) - (n : Int)) = ((ys.length - n : Nat) : Int) by omega]
      exact u64_wrap_nat _ (by omega)
    have hlq := i64w (x := (ys.length : Int) - (n : Int)) (by omega)
    clear hn hrn
    by_cases hum : u ≤ 512
    · have hum2 : decide ((512 : Int) < (u : Int)) = false := by simp; omega
      have hwu := i64w (x := (u : Int)) (by omega)
      by_cases hul : u ≤ ys.length - n
      · have hul2 : decide (ys.length - n < u) = false := by simp; omega
        go_enter Tryd.func109, Tryd.ntmps109
        go_wp2_with fail; (with_reducible refine (HO.out).mono ?_); rintro x w1 ⟨rfl, rfl⟩
        go_wp2_with fail; (with_reducible refine (HQ.out _ _).mono ?_); rintro x w1 ⟨rfl, rfl⟩
        go_wp2_with fail; (with_reducible refine (HN.out).mono ?_); rintro x w1 ⟨rfl, rfl⟩
        go_wp2_with fail; (with_reducible refine (HQ.out _ _).mono ?_); rintro x w1 ⟨rfl, rfl⟩
        go_wp2_with fail; (with_reducible refine (HQ.out _ _).mono ?_); rintro x w1 ⟨rfl, rfl⟩
        go_wp2_with fail; (with_reducible refine (HQ.out _ _).mono ?_); rintro x w1 ⟨rfl, rfl⟩
        go_wp2_with fail; (with_reducible refine (HT.out).mono ?_); rintro x w1 ⟨A1, c1, rfl, _, hr, hk⟩
        have HT2 := hideC (take_rd base b u (ys.drop n) 0 w1 hr (by rw [List.length_drop]; omega) (by rw [List.length_drop]; omega) hb)
        go_wp2_with fail; (with_reducible refine (HT2.out).mono ?_); rintro x w2 ⟨A2, c2, rfl, hS2, hr2, hk2⟩
        go_wp2_with fail
        go_ret
        have hlen : ((ys.drop n).take u).length = u := by rw [List.length_take, List.length_drop]; omega
        exact ⟨hk.trans hk2, .inl ⟨_, _, A2, c2, by rw [HRN.out, if_pos ⟨hum, hul⟩], by rw [hlen]; rfl, hS2, hr2⟩⟩
      · have hul2 : decide (ys.length - n < u) = true := by simp; omega
        go_enter Tryd.func109, Tryd.ntmps109
        go_wp2_with fail; (with_reducible refine (HO.out).mono ?_); rintro x w1 ⟨rfl, rfl⟩
        go_wp2_with fail; (with_reducible refine (HQ.out _ _).mono ?_); rintro x w1 ⟨rfl, rfl⟩
        go_wp2_with fail; (with_reducible refine (HN.out).mono ?_); rintro x w1 ⟨rfl, rfl⟩
        go_wp2_with fail; (with_reducible refine (HQ.out _ _).mono ?_); rintro x w1 ⟨rfl, rfl⟩
        go_wp2_with fail; (with_reducible refine (HQ.out _ _).mono ?_); rintro x w1 ⟨rfl, rfl⟩
        go_wp2_with fail; (with_reducible refine (HY.out _).mono ?_); rintro x w1 ⟨rfl, hr, hk⟩
        go_wp2_with fail
        go_ret
        exact ⟨hk, .inr ⟨by rw [HRN.out, if_neg fun h => hul h.2], rfl, 6, by decide, hr⟩⟩
    · have hum2 : decide ((512 : Int) < (u : Int)) = true := by simp; omega
      go_enter Tryd.func109, Tryd.ntmps109
      go_wp2_with fail; (with_reducible refine (HO.out).mono ?_); rintro x w1 ⟨rfl, rfl⟩
      go_wp2_with fail; (with_reducible refine (HQ.out _ _).mono ?_); rintro x w1 ⟨rfl, rfl⟩
      go_wp2_with fail; (with_reducible refine (HN.out).mono ?_); rintro x w1 ⟨rfl, rfl⟩
      go_wp2_with fail; (with_reducible refine (HQ.out _ _).mono ?_); rintro x w1 ⟨rfl, rfl⟩
      go_wp2_with fail; (with_reducible refine (HY.out _).mono ?_); rintro x w1 ⟨rfl, hr, hk⟩
      go_wp2_with fail
      go_ret
      exact ⟨hk, .inr ⟨by rw [HRN.out, if_neg fun h => hum h.1], rfl, 3, by decide, hr⟩⟩
end Go.Proofs.YtjlcnbfkblmoeaaDoor
