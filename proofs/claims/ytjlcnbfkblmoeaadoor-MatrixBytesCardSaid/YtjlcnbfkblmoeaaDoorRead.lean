import Derived.Test.YtjlcnbfkblmoeaaDoorWire
namespace Go.Proofs.YtjlcnbfkblmoeaaDoor
open Go.RowKit

/-! Plain: the reader of numbers, byte strings, sets, matrices; bytes are numbers below 256. -/
/-- A number at the front, and how many bytes it has. -/
def num : Nat → Nat → List Nat → Option (Nat × Nat)
  | _, _, [] => none
  | v, k, b :: l => if (k = 0 ∧ b = 128) ∨ 144115188075855871 < v then none else if b < 128 then some (v * 128 + b % 128, k + 1) else num (v * 128 + b % 128) (k + 1) l
theorem num_ext : ∀ (l : List Nat) (v k : Nat) (z : List Nat) (r : Nat × Nat), num v k l = some r → num v k (l ++ z) = some r
  | [], _, _, _, _, h => by simp [num] at h
  | b :: l, v, k, z, r, h => by
    rw [num] at h
    rw [List.cons_append, num]
    split at h
    · cases h
    · rename_i h1
      rw [if_neg h1]
      split at h
      · rename_i h2; rw [if_pos h2]; exact h
      · rename_i h2; rw [if_neg h2]; exact num_ext l _ _ z r h
theorem num_len : ∀ (l : List Nat) (v k u n : Nat), num v k l = some (u, n) → k < n ∧ n ≤ k + l.length
  | [], _, _, _, _, h => by simp [num] at h
  | b :: l, v, k, u, n, h => by
    rw [num] at h
    split at h
    · cases h
    · split at h
      · cases h; simp
      · have := num_len l _ _ _ _ h
        simp; omega
theorem num_ge : ∀ (l : List Nat) (v k u n : Nat), num v k l = some (u, n) → v * 128 ≤ u
  | [], _, _, _, _, h => by simp [num] at h
  | b :: l, v, k, u, n, h => by
    rw [num] at h
    split at h
    · cases h
    · split at h
      · cases h; omega
      · have := num_ge l _ _ _ _ h
        omega
theorem num_lt : ∀ (l : List Nat) (v k u n : Nat), num v k l = some (u, n) → u < 18446744073709551616
  | [], _, _, _, _, h => by simp [num] at h
  | b :: l, v, k, u, n, h => by
    rw [num] at h
    split at h
    · cases h
    · split at h
      · cases h; omega
      · exact num_lt l _ _ _ _ h
/-- Bytes as the walk has them. -/
abbrev zb (l : List Nat) : List Int := l.map fun (b : Nat) => (b : Int)
theorem encN_small {v : Nat} (h : v < 128) : encN v = [(v : Int)] := by
  have e1 : v / 128 = 0 := by omega
  have e2 : v % 128 = v := by omega
  unfold encN
  rw [e1, grps_zero, e2]; rfl
theorem encN_two {v : Nat} (h : 128 ≤ v) (h2 : v < 16384) : encN v = [((v / 128 + 128 : Nat) : Int), ((v % 128 : Nat) : Int)] := by
  have e1 : v / 128 / 128 = 0 := by omega
  have e2 : v / 128 % 128 = v / 128 := by omega
  unfold encN
  rw [grps, if_neg (by omega), e1, grps_zero, e2]; rfl
theorem num_enc {l : List Nat} (hl : ∀ b ∈ l, b < 256) {u n : Nat} (h : num 0 0 l = some (u, n)) (hu : u ≤ 512) : zb (l.take n) = encN u := by
  cases l with
  | nil => simp [num] at h
  | cons b l =>
    have hb := hl b (List.mem_cons_self ..)
    rw [num] at h
    split at h
    · cases h
    · rename_i h1
      split at h
      · rename_i h2
        cases h
        rw [show 0 * 128 + b % 128 = b by omega, encN_small h2]
        simp
      · rename_i h2
        have hb1 : b ≠ 128 := fun e => h1 (.inl ⟨rfl, e⟩)
        cases l with
        | nil => simp [num] at h
        | cons c l =>
          have hc := hl c (by simp)
          rw [num] at h
          split at h
          · cases h
          · split at h
            · rename_i h4
              cases h
              rw [encN_two (by omega) (by omega)]
              simp
              omega
            · have := num_ge l _ _ _ _ h
              omega
theorem num_small {v : Nat} (h : v < 128) (z : List Nat) : num 0 0 (v :: z) = some (v, 1) := by
  rw [num, if_neg (by omega), if_pos h]; simp; omega

/-- A number up to most, and what is left. -/
def rN (most : Nat) (l : List Nat) : Option (Nat × List Nat) := match num 0 0 l with
  | none => none
  | some (v, n) => if v ≤ most then some (v, l.drop n) else none
/-- A byte string. -/
def rB (most : Nat) (l : List Nat) : Option (List Nat × List Nat) := match num 0 0 l with
  | none => none
  | some (v, n) => if v ≤ most ∧ v ≤ l.length - n then some ((l.drop n).take v, (l.drop n).drop v) else none
def bytesNat : List Nat → Nat
  | [] => 0
  | b :: l => b + 256 * bytesNat l
/-- Do these bytes make a set? -/
def fine (l : List Nat) : Bool := l.getLast? != some 0
def rS (most : Int) (l : List Nat) : Option (Nat × List Nat) := match rB 512 l with
  | none => none
  | some (p, z) => if fine p = true ∧ (p = [] ∨ ((bytesNat p).log2 : Int) ≤ most) then some (bytesNat p, z) else none
def rSs (most : Int) : Nat → List Nat → Option (List Nat × List Nat)
  | 0, l => some ([], l)
  | n + 1, l => match rS most l with
    | none => none
    | some (N, z) => match rSs most n z with
      | none => none
      | some (Ns, y) => some (N :: Ns, y)
/-- A matrix, and what is left. -/
def rM (l : List Nat) : Option ((Nat × List Nat) × List Nat) := match rN 256 l with
  | none => none
  | some (n, y) => match rN 256 y with
    | none => none
    | some (C, z) => match rSs ((C : Int) - 1) n z with
      | none => none
      | some (Ns, x) => some ((C, Ns), x)

theorem rN_ext {most : Nat} {l z : List Nat} {v : Nat} {y : List Nat} (h : rN most l = some (v, y)) : rN most (l ++ z) = some (v, y ++ z) := by
  unfold rN at h ⊢
  cases hn : num 0 0 l with
  | none => rw [hn] at h; cases h
  | some p =>
    obtain ⟨u, n⟩ := p
    rw [hn] at h
    rw [num_ext l 0 0 z _ hn]
    have := num_len l _ _ _ _ hn
    dsimp only at h ⊢
    split at h
    · rename_i hm
      cases h
      rw [if_pos hm, List.drop_append_of_le_length (by omega)]
    · cases h
theorem rB_ext {most : Nat} {l z p y : List Nat} (h : rB most l = some (p, y)) : rB most (l ++ z) = some (p, y ++ z) := by
  unfold rB at h ⊢
  cases hn : num 0 0 l with
  | none => rw [hn] at h; cases h
  | some q =>
    obtain ⟨u, n⟩ := q
    rw [hn] at h
    rw [num_ext l 0 0 z _ hn]
    have := num_len l _ _ _ _ hn
    dsimp only at h ⊢
    split at h
    · rename_i hm
      cases h
      rw [if_pos ⟨hm.1, by rw [List.length_append]; omega⟩, List.drop_append_of_le_length (by omega), List.take_append_of_le_length (by rw [List.length_drop]; omega), List.drop_append_of_le_length (by rw [List.length_drop]; omega)]
    · cases h
theorem rS_ext {most : Int} {l z : List Nat} {N : Nat} {y : List Nat} (h : rS most l = some (N, y)) : rS most (l ++ z) = some (N, y ++ z) := by
  unfold rS at h ⊢
  cases hb : rB 512 l with
  | none => rw [hb] at h; cases h
  | some q =>
    obtain ⟨p, x⟩ := q
    rw [hb] at h
    rw [rB_ext hb]
    dsimp only at h ⊢
    split at h
    · rename_i hm; cases h; rw [if_pos hm]
    · cases h
theorem rSs_ext {most : Int} {z : List Nat} : ∀ (n : Nat) {l : List Nat} {Ns y : List Nat}, rSs most n l = some (Ns, y) → rSs most n (l ++ z) = some (Ns, y ++ z)
  | 0, l, Ns, y, h => by cases h; rfl
  | n + 1, l, Ns, y, h => by
    rw [rSs] at h ⊢
    cases hs : rS most l with
    | none => rw [hs] at h; cases h
    | some q =>
      obtain ⟨N, x⟩ := q
      rw [hs] at h
      rw [rS_ext hs]
      dsimp only at h ⊢
      cases hr : rSs most n x with
      | none => rw [hr] at h; cases h
      | some q2 =>
        obtain ⟨Ms, x2⟩ := q2
        rw [hr] at h
        rw [rSs_ext n hr]
        cases h; rfl
theorem rM_ext {l z : List Nat} {x : Nat × List Nat} {y : List Nat} (h : rM l = some (x, y)) : rM (l ++ z) = some (x, y ++ z) := by
  unfold rM at h ⊢
  cases h1 : rN 256 l with
  | none => rw [h1] at h; cases h
  | some q =>
    obtain ⟨n, a⟩ := q
    rw [h1] at h
    rw [rN_ext h1]
    dsimp only at h ⊢
    cases h2 : rN 256 a with
    | none => rw [h2] at h; cases h
    | some q =>
      obtain ⟨C, b⟩ := q
      rw [h2] at h
      rw [rN_ext h2]
      dsimp only at h ⊢
      cases h3 : rSs ((C : Int) - 1) n b with
      | none => rw [h3] at h; cases h
      | some q =>
        obtain ⟨Ns, c⟩ := q
        rw [h3] at h
        rw [rSs_ext n h3]
        cases h; rfl

/-! What is read is the encoding. -/
theorem zb_drop (l : List Nat) (n : Nat) : zb (l.take n) ++ zb (l.drop n) = zb l := by rw [← List.map_append, List.take_append_drop]
theorem mem_drop {l : List Nat} {n : Nat} (h : ∀ b ∈ l, b < 256) : ∀ b ∈ l.drop n, b < 256 := fun b hb => h b (List.mem_of_mem_drop hb)
theorem mem_take {l : List Nat} {n : Nat} (h : ∀ b ∈ l, b < 256) : ∀ b ∈ l.take n, b < 256 := fun b hb => h b (List.mem_of_mem_take hb)
theorem rN_enc {most : Nat} {l : List Nat} (hl : ∀ b ∈ l, b < 256) (hm : most ≤ 512) {v : Nat} {y : List Nat} (h : rN most l = some (v, y)) : zb l = encN v ++ zb y ∧ v ≤ most ∧ ∀ b ∈ y, b < 256 := by
  unfold rN at h
  cases hn : num 0 0 l with
  | none => rw [hn] at h; cases h
  | some p =>
    obtain ⟨u, n⟩ := p
    rw [hn] at h
    dsimp only at h
    split at h
    · rename_i hle
      cases h
      exact ⟨by rw [← num_enc hl hn (by omega), zb_drop], hle, mem_drop hl⟩
    · cases h
theorem rB_enc {most : Nat} {l : List Nat} (hl : ∀ b ∈ l, b < 256) (hm : most ≤ 512) {p y : List Nat} (h : rB most l = some (p, y)) : zb l = encB (zb p) ++ zb y ∧ p.length ≤ most ∧ (∀ b ∈ p, b < 256) ∧ ∀ b ∈ y, b < 256 := by
  unfold rB at h
  cases hn : num 0 0 l with
  | none => rw [hn] at h; cases h
  | some q =>
    obtain ⟨u, n⟩ := q
    rw [hn] at h
    dsimp only at h
    split at h
    · rename_i hle
      cases h
      have hlen : ((l.drop n).take u).length = u := by rw [List.length_take, List.length_drop]; omega
      refine ⟨?_, by omega, mem_take (mem_drop hl), mem_drop (mem_drop hl)⟩
      rw [encB, List.length_map, hlen, ← num_enc hl hn (by omega), List.append_assoc, zb_drop, zb_drop]
    · cases h
theorem bytesNat_lt : ∀ (l : List Nat), (∀ b ∈ l, b < 256) → bytesNat l < 2 ^ (8 * l.length)
  | [], _ => by simp [bytesNat]
  | b :: l, h => by
    have hb := h b (List.mem_cons_self ..)
    have ih := bytesNat_lt l fun c hc => h c (List.mem_cons_of_mem _ hc)
    rw [bytesNat, List.length_cons, show 8 * (l.length + 1) = 8 * l.length + 8 by omega, Nat.pow_add]
    omega
theorem bytesNat_snoc : ∀ (l : List Nat) (b : Nat), bytesNat (l ++ [b]) = bytesNat l + b * 2 ^ (8 * l.length)
  | [], b => by simp [bytesNat]
  | c :: l, b => by
    rw [List.cons_append, bytesNat, bytesNat, bytesNat_snoc l b, List.length_cons, show 8 * (l.length + 1) = 8 * l.length + 8 by omega, Nat.pow_add, Nat.mul_add]
    have : 256 * (b * 2 ^ (8 * l.length)) = b * (2 ^ (8 * l.length) * 2 ^ 8) := by
      rw [← Nat.mul_assoc, Nat.mul_comm 256 b, Nat.mul_assoc, Nat.mul_comm 256]
    omega
theorem bytesNat_or (l : List Nat) (b : Nat) (h : ∀ c ∈ l, c < 256) : bytesNat (l ++ [b]) = bytesNat l ||| b <<< (8 * l.length) := by
  rw [bytesNat_snoc, Nat.or_comm, Nat.shiftLeft_eq, Nat.mul_comm b, ← Nat.two_pow_add_eq_or_of_lt (bytesNat_lt l h), Nat.add_comm]
theorem byteN_bytes : ∀ (l : List Nat), (∀ b ∈ l, b < 256) → ∀ k, byteN (bytesNat l) k = l.getD k 0
  | [], _, k => by simp [bytesNat, byteN]
  | b :: l, h, 0 => by
    have hb := h b (List.mem_cons_self ..)
    unfold byteN
    rw [bytesNat]
    simp
    omega
  | b :: l, h, k + 1 => by
    have hb := h b (List.mem_cons_self ..)
    have ih := byteN_bytes l (fun c hc => h c (List.mem_cons_of_mem _ hc)) k
    unfold byteN at ih ⊢
    rw [bytesNat, show 8 * (k + 1) = 8 + 8 * k by omega, Nat.shiftRight_add, show (b + 256 * bytesNat l) >>> 8 = bytesNat l by rw [Nat.shiftRight_eq_div_pow]; omega, ih]
    simp
theorem fine_last {l : List Nat} (h : fine l = true) (h0 : l ≠ []) : l.getD (l.length - 1) 0 ≠ 0 := by
  unfold fine at h
  rw [List.getLast?_eq_getElem?] at h
  have hl : l.length - 1 < l.length := by have := List.length_pos_iff.2 h0; omega
  rw [List.getElem?_eq_getElem hl] at h
  rw [List.getD_eq_getElem?_getD, List.getElem?_eq_getElem hl]
  simpa using h
/-- The size of what fine bytes give. -/
theorem bytesNat_log {l : List Nat} (hl : ∀ b ∈ l, b < 256) (h : fine l = true) (h0 : l ≠ []) : bytesNat l ≠ 0 ∧ (bytesNat l).log2 / 8 + 1 = l.length := by
  have hp := List.length_pos_iff.2 h0
  have hlast := fine_last h h0
  have hb := byteN_bytes l hl (l.length - 1)
  have hlt := bytesNat_lt l hl
  have hne : bytesNat l ≠ 0 := by
    intro e
    rw [e] at hb
    simp [byteN] at hb
    exact hlast (by simpa using hb.symm)
  refine ⟨hne, ?_⟩
  have h1 : (bytesNat l).log2 < 8 * l.length := (Nat.log2_lt hne).2 hlt
  have h2 : 8 * (l.length - 1) ≤ (bytesNat l).log2 := by
    rcases Nat.lt_or_ge (bytesNat l).log2 (8 * (l.length - 1)) with h3 | h3
    · have h4 := (Nat.log2_lt hne).1 h3
      exfalso
      apply hlast
      rw [← hb, byteN, Nat.shiftRight_eq_div_pow, Nat.div_eq_of_lt h4]
    · exact h3
  omega
theorem setBytes_bytes {l : List Nat} (hl : ∀ b ∈ l, b < 256) (h : fine l = true) : setBytes (bytesNat l) = zb l := by
  by_cases h0 : l = []
  · subst h0; rfl
  · obtain ⟨hne, hlog⟩ := bytesNat_log hl h h0
    rw [setBytes, if_neg hne, hlog]
    apply List.ext_getElem
    · simp
    · intro i h1 h2
      have hi : i < l.length := by simpa using h2
      simp only [List.getElem_map, List.getElem_range]
      rw [byteN_bytes l hl, List.getD_eq_getElem?_getD, List.getElem?_eq_getElem hi]; rfl
theorem rS_enc {most : Int} {l : List Nat} (hl : ∀ b ∈ l, b < 256) {N : Nat} {y : List Nat} (h : rS most l = some (N, y)) : zb l = encB (setBytes N) ++ zb y ∧ ∀ b ∈ y, b < 256 := by
  unfold rS at h
  cases hb : rB 512 l with
  | none => rw [hb] at h; cases h
  | some q =>
    obtain ⟨p, x⟩ := q
    rw [hb] at h
    obtain ⟨h1, h2, h3, h4⟩ := rB_enc hl (by omega) hb
    dsimp only at h
    split at h
    · rename_i hm; cases h
      exact ⟨by rw [setBytes_bytes h3 hm.1]; exact h1, h4⟩
    · cases h
theorem rSs_enc {most : Int} : ∀ (n : Nat) {l : List Nat} {Ns y : List Nat}, (∀ b ∈ l, b < 256) → rSs most n l = some (Ns, y) → zb l = (Ns.map fun N => encB (setBytes N)).flatten ++ zb y ∧ Ns.length = n
  | 0, l, Ns, y, hl, h => by cases h; simp
  | n + 1, l, Ns, y, hl, h => by
    rw [rSs] at h
    cases hs : rS most l with
    | none => rw [hs] at h; cases h
    | some q =>
      obtain ⟨N, x⟩ := q
      rw [hs] at h
      obtain ⟨h1, h2⟩ := rS_enc hl hs
      dsimp only at h
      cases hr : rSs most n x with
      | none => rw [hr] at h; cases h
      | some q2 =>
        obtain ⟨Ms, x2⟩ := q2
        rw [hr] at h
        obtain ⟨h3, h4⟩ := rSs_enc n h2 hr
        cases h
        exact ⟨by rw [h1, h3]; simp, by simp [h4]⟩
theorem rM_enc {l : List Nat} (hl : ∀ b ∈ l, b < 256) {C : Nat} {Ns y : List Nat} (h : rM l = some ((C, Ns), y)) : zb l = mbytes C Ns Ns.length ++ zb y ∧ C ≤ 256 ∧ Ns.length ≤ 256 := by
  unfold rM at h
  cases h1 : rN 256 l with
  | none => rw [h1] at h; cases h
  | some q =>
    obtain ⟨n, a⟩ := q
    rw [h1] at h
    obtain ⟨e1, m1, l1⟩ := rN_enc hl (by omega) h1
    dsimp only at h
    cases h2 : rN 256 a with
    | none => rw [h2] at h; cases h
    | some q =>
      obtain ⟨D, b⟩ := q
      rw [h2] at h
      obtain ⟨e2, m2, l2⟩ := rN_enc l1 (by omega) h2
      dsimp only at h
      cases h3 : rSs ((D : Int) - 1) n b with
      | none => rw [h3] at h; cases h
      | some q =>
        obtain ⟨Ms, c⟩ := q
        rw [h3] at h
        obtain ⟨e3, e4⟩ := rSs_enc n l2 h3
        cases h
        refine ⟨?_, m2, by omega⟩
        rw [e1, e2, e3, mbytes, List.take_length, e4]; simp

/-! Small matrices are read back. -/
def sb (N : Nat) : List Nat := if N = 0 then [0] else [1, N]
/-- A small matrix's bytes. -/
def mb (C : Nat) (Ns : List Nat) : List Nat := Ns.length :: C :: (Ns.map sb).flatten
theorem sb_bytes {N : Nat} (h : N < 256) : encB (setBytes N) = zb (sb N) := by
  unfold setBytes sb
  by_cases h0 : N = 0
  · subst h0; simp [encB, encN_small]
  · have hl : N.log2 < 8 := (Nat.log2_lt h0).2 (by omega)
    rw [if_neg h0, if_neg h0, show N.log2 / 8 + 1 = 1 by omega]
    simp [encB, encN_small, byteN]
    omega
theorem mb_bytes {C : Nat} {Ns : List Nat} (hC : C < 128) (hR : Ns.length < 128) (h : ∀ N ∈ Ns, N < 256) : mbytes C Ns Ns.length = zb (mb C Ns) := by
  have : ∀ (Ms : List Nat), (∀ N ∈ Ms, N < 256) → (Ms.map fun N => encB (setBytes N)).flatten = zb (Ms.map sb).flatten := by
    intro Ms
    induction Ms with
    | nil => intro _; rfl
    | cons N Ms ih =>
      intro hM
      rw [List.map_cons, List.flatten_cons, ih fun M hM' => hM M (List.mem_cons_of_mem _ hM'), sb_bytes (hM N (List.mem_cons_self ..))]
      simp
  rw [mbytes, List.take_length, this Ns h, encN_small hR, encN_small hC]; rfl
theorem mb_lt {C : Nat} {Ns : List Nat} (hC : C < 128) (hR : Ns.length < 128) (h : ∀ N ∈ Ns, N < 256) : ∀ b ∈ mb C Ns, b < 256 := by
  intro b hb
  unfold mb at hb
  rcases List.mem_cons.1 hb with rfl | hb
  · omega
  rcases List.mem_cons.1 hb with rfl | hb
  · omega
  obtain ⟨p, hp, hb⟩ := List.mem_flatten.1 hb
  obtain ⟨N, hN, rfl⟩ := List.mem_map.1 hp
  have := h N hN
  unfold sb at hb
  split at hb
  · simp at hb; omega
  · simp at hb; omega
theorem rS_sb {N C : Nat} (hC : C ≤ 8) (h : N < 2 ^ C) (z : List Nat) : rS ((C : Int) - 1) (sb N ++ z) = some (N, z) := by
  have h256 : 2 ^ C ≤ 2 ^ 8 := Nat.pow_le_pow_right (by omega) hC
  unfold rS rB sb
  by_cases h0 : N = 0
  · subst h0
    rw [if_pos rfl, List.cons_append, num_small (by omega)]
    simp [fine, bytesNat]
  · have hl : N.log2 < C := (Nat.log2_lt h0).2 h
    rw [if_neg h0, List.cons_append, num_small (by omega)]
    simp [fine, bytesNat, h0]
    omega
theorem rSs_sb {C : Nat} (hC : C ≤ 8) : ∀ (Ns : List Nat) (z : List Nat), (∀ N ∈ Ns, N < 2 ^ C) → rSs ((C : Int) - 1) Ns.length ((Ns.map sb).flatten ++ z) = some (Ns, z)
  | [], z, _ => rfl
  | N :: Ns, z, h => by
    rw [List.length_cons, rSs, List.map_cons, List.flatten_cons, List.append_assoc, rS_sb hC (h N (List.mem_cons_self ..))]
    dsimp only
    rw [rSs_sb hC Ns z fun M hM => h M (List.mem_cons_of_mem _ hM)]
theorem rM_mb {C : Nat} {Ns : List Nat} (hC : C ≤ 8) (hR : Ns.length < 128) (h : ∀ N ∈ Ns, N < 2 ^ C) : rM (mb C Ns) = some ((C, Ns), []) := by
  unfold rM mb rN
  rw [num_small hR]
  dsimp only
  rw [if_pos (by omega)]
  dsimp only
  rw [List.drop_one, List.tail_cons, num_small (by omega)]
  dsimp only
  rw [if_pos (by omega)]
  dsimp only
  rw [List.drop_one, List.tail_cons]
  have := rSs_sb hC Ns [] h
  rw [List.append_nil] at this
  rw [this]
/-- No proper beginning is a matrix. -/
theorem rM_cut {l : List Nat} {x : Nat × List Nat} (h : rM l = some (x, [])) {k : Nat} (hk : k < l.length) (y : Nat × List Nat) : rM (l.take k) ≠ some (y, []) := by
  intro e
  have := rM_ext (z := l.drop k) e
  rw [List.take_append_drop, h] at this
  injection this with this
  injection this with _ hd
  rw [List.nil_append] at hd
  have hd := congrArg List.length hd
  rw [List.length_drop, List.length_nil] at hd
  omega
end Go.Proofs.YtjlcnbfkblmoeaaDoor
