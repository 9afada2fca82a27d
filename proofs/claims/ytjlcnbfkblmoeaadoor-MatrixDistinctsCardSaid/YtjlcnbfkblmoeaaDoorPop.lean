/-
  The sum of the bits of a word of 64 bits, as math/bits.OnesCount64 reckons it. Plain Lean.
-/
namespace Go.Proofs.YtjlcnbfkblmoeaaDoor

/-- How many bits of x below n are set. -/
def pc (n x : Nat) : Nat := (List.range n).countP fun i => x.testBit i

theorem and_lane (k d r c s : Nat) (hd : d < 2 ^ k) (hc : c < 2 ^ k) : (d + 2 ^ k * r) &&& (c + 2 ^ k * s) = (d &&& c) + 2 ^ k * (r &&& s) := by
  apply Nat.eq_of_testBit_eq; intro i
  have h : d &&& c < 2 ^ k := Nat.lt_of_le_of_lt Nat.and_le_left hd
  rw [Nat.testBit_and, Nat.add_comm d, Nat.add_comm c, Nat.add_comm (d &&& c), Nat.testBit_two_pow_mul_add _ hd, Nat.testBit_two_pow_mul_add _ hc, Nat.testBit_two_pow_mul_add _ h]
  split <;> simp

/-- n bytes c. -/
def mask (c : Nat) : Nat → Nat
  | 0 => 0
  | n + 1 => c + 256 * mask c n

def f1 (n x : Nat) : Nat := ((x / 2) &&& mask 0x55 n) + (x &&& mask 0x55 n)
def f2 (n x : Nat) : Nat := ((x / 4) &&& mask 0x33 n) + (x &&& mask 0x33 n)
def f3 (n x : Nat) : Nat := (x / 16 + x) &&& mask 0x0f n

theorem and_mask (d r c n : Nat) (hd : d < 256) (hc : c < 256) : (d + 256 * r) &&& mask c (n + 1) = (d &&& c) + 256 * (r &&& mask c n) := and_lane 8 d r c (mask c n) hd hc

theorem b1 : ∀ d < 256, ∀ t < 2, (d / 2 + 128 * t) &&& 0x55 = (d / 2) &&& 0x55 := by decide +kernel
theorem b2 : ∀ d < 256, ∀ t < 4, (d / 4 + 64 * t) &&& 0x33 = (d / 4) &&& 0x33 := by decide +kernel
def byte1 (d : Nat) : Nat := ((d / 2) &&& 0x55) + (d &&& 0x55)
def byte2 (d : Nat) : Nat := ((d / 4) &&& 0x33) + (d &&& 0x33)
def byte3 (d : Nat) : Nat := (d / 16 + d) &&& 0x0f
theorem byte1_lt : ∀ d < 256, byte1 d < 256 := by decide +kernel
theorem byte2_le : ∀ d < 256, byte2 (byte1 d) / 16 ≤ 4 ∧ byte2 (byte1 d) % 16 ≤ 4 := by decide +kernel
theorem b3 : ∀ q < 5, ∀ p < 5, ∀ t < 5, (((16 * q + p) / 16 + (16 * q + p) + 16 * t) &&& 0x0f) = p + q := by decide +kernel
theorem byte_pc : ∀ d < 256, byte2 (byte1 d) / 16 + byte2 (byte1 d) % 16 = pc 8 d := by decide +kernel

theorem f1_step (n d r : Nat) (hd : d < 256) : f1 (n + 1) (d + 256 * r) = byte1 d + 256 * f1 n r := by
  unfold f1 byte1
  have e : (d + 256 * r) / 2 = (d / 2 + 128 * (r % 2)) + 256 * (r / 2) := by omega
  rw [e, and_mask _ _ _ _ (by omega) (by decide), and_mask _ _ _ _ hd (by decide), b1 d hd (r % 2) (by omega)]
  omega
theorem f2_step (n d r : Nat) (hd : d < 256) : f2 (n + 1) (d + 256 * r) = byte2 d + 256 * f2 n r := by
  unfold f2 byte2
  have e : (d + 256 * r) / 4 = (d / 4 + 64 * (r % 4)) + 256 * (r / 4) := by omega
  rw [e, and_mask _ _ _ _ (by omega) (by decide), and_mask _ _ _ _ hd (by decide), b2 d hd (r % 4) (by omega)]
  omega
/-- x reckoned byte by byte. -/
def lanes (n x : Nat) : Nat := f2 n (f1 n x)
theorem lanes_step (n d r : Nat) (hd : d < 256) : lanes (n + 1) (d + 256 * r) = byte2 (byte1 d) + 256 * lanes n r := by
  unfold lanes; rw [f1_step n d r hd, f2_step n _ _ (byte1_lt d hd)]
theorem lanes_mod (n x : Nat) : lanes n x % 16 ≤ 4 := by
  cases n with
  | zero => simp [lanes, f2, mask]
  | succ n =>
    have e : x = x % 256 + 256 * (x / 256) := by omega
    rw [e, lanes_step n _ _ (by omega)]
    have := byte2_le (x % 256) (by omega)
    omega
theorem f3_step (n d r : Nat) (hd : d < 256) : f3 (n + 1) (lanes (n + 1) (d + 256 * r)) = pc 8 d + 256 * f3 n (lanes n r) := by
  rw [lanes_step n d r hd]
  have h := byte2_le d hd
  have hm := lanes_mod n r
  have hp := byte_pc d hd
  generalize byte2 (byte1 d) = y at h hp
  generalize lanes n r = z at hm
  unfold f3
  have e : (y + 256 * z) / 16 + (y + 256 * z) = (y / 16 + y + 16 * (z % 16)) + 256 * (z / 16 + z) := by omega
  rw [e, and_mask _ _ _ _ (by omega) (by decide)]
  have := b3 (y / 16) (by omega) (y % 16) (by omega) (z % 16) (by omega)
  rw [show 16 * (y / 16) + y % 16 = y by omega] at this
  rw [this]; omega

/-- The sums of the bytes' bits, byte by byte. -/
def sums : Nat → Nat → Nat
  | 0, _ => 0
  | n + 1, x => pc 8 (x % 256) + 256 * sums n (x / 256)
theorem f3_sums (n : Nat) : ∀ x, f3 n (lanes n x) = sums n x := by
  induction n with
  | zero => intro x; simp [f3, sums, mask]
  | succ n ih =>
    intro x
    have e : x = x % 256 + 256 * (x / 256) := by omega
    rw [sums, ← ih, ← f3_step n _ _ (by omega), ← e]

theorem pc_le (n x : Nat) : pc n x ≤ n := by unfold pc; exact Nat.le_trans List.countP_le_length (by simp)
theorem pc_add (a b x : Nat) : pc (a + b) x = pc a x + pc b (x / 2 ^ a) := by
  unfold pc
  rw [List.range_add, List.countP_append, List.countP_map]
  congr 1
  apply List.countP_congr
  intro i _
  simp [Nat.testBit_div_two_pow, Nat.add_comm]
theorem pc8_mod (x : Nat) : pc 8 (x % 256) = pc 8 x := by
  unfold pc
  apply List.countP_congr
  intro i hi
  have : i < 8 := List.mem_range.1 hi
  rw [show (256 : Nat) = 2 ^ 8 by decide, Nat.testBit_mod_two_pow]
  simp [this]
theorem sum8 (p0 p1 p2 p3 p4 p5 p6 p7 : Nat) (h0 : p0 ≤ 8) (h1 : p1 ≤ 8) (h2 : p2 ≤ 8) (h3 : p3 ≤ 8) (h4 : p4 ≤ 8) (h5 : p5 ≤ 8) (h6 : p6 ≤ 8) (h7 : p7 ≤ 8)
    (y z1 z2 z3 : Nat) (hy : y = p0 + 256 * (p1 + 256 * (p2 + 256 * (p3 + 256 * (p4 + 256 * (p5 + 256 * (p6 + 256 * p7))))))) (e1 : z1 = y + y / 256) (e2 : z2 = z1 + z1 / 65536) (e3 : z3 = z2 + z2 / 4294967296) :
    z3 % 128 = p0 + p1 + p2 + p3 + p4 + p5 + p6 + p7 := by
  have dv : ∀ a b n : Nat, a < 256 → n = a + 256 * b → n / 256 = b := fun a b n h e => by omega
  have dd : ∀ n : Nat, n / 65536 = n / 256 / 256 := fun n => by rw [Nat.div_div_eq_div_mul]
  have dq : ∀ n : Nat, n / 4294967296 = n / 256 / 256 / 256 / 256 := fun n => by simp only [Nat.div_div_eq_div_mul]
  obtain ⟨r6, g6⟩ : ∃ r, r = p6 + 256 * p7 := ⟨_, rfl⟩
  obtain ⟨r5, g5⟩ : ∃ r, r = p5 + 256 * r6 := ⟨_, rfl⟩
  obtain ⟨r4, g4⟩ : ∃ r, r = p4 + 256 * r5 := ⟨_, rfl⟩
  obtain ⟨r3, g3⟩ : ∃ r, r = p3 + 256 * r4 := ⟨_, rfl⟩
  obtain ⟨r2, g2⟩ : ∃ r, r = p2 + 256 * r3 := ⟨_, rfl⟩
  obtain ⟨r1, g1⟩ : ∃ r, r = p1 + 256 * r2 := ⟨_, rfl⟩
  rw [← g6, ← g5, ← g4, ← g3, ← g2, ← g1] at hy
  rw [dv p0 r1 y (by omega) hy] at e1
  have q0 : z1 = (p0 + p1) + 256 * (r1 + r2) := by omega
  have q1 : r1 + r2 = (p1 + p2) + 256 * (r2 + r3) := by omega
  have q2 : r2 + r3 = (p2 + p3) + 256 * (r3 + r4) := by omega
  have q3 : r3 + r4 = (p3 + p4) + 256 * (r4 + r5) := by omega
  have q4 : r4 + r5 = (p4 + p5) + 256 * (r5 + r6) := by omega
  have q5 : r5 + r6 = (p5 + p6) + 256 * (r6 + p7) := by omega
  have q6 : r6 + p7 = (p6 + p7) + 256 * p7 := by omega
  rw [dd, dv _ _ z1 (by omega) q0, dv _ _ _ (by omega) q1] at e2
  have t0 : z2 = (p0 + p1 + p2 + p3) + 256 * ((r1 + r2) + (r3 + r4)) := by omega
  have t1 : (r1 + r2) + (r3 + r4) = (p1 + p2 + p3 + p4) + 256 * ((r2 + r3) + (r4 + r5)) := by omega
  have t2 : (r2 + r3) + (r4 + r5) = (p2 + p3 + p4 + p5) + 256 * ((r3 + r4) + (r5 + r6)) := by omega
  have t3 : (r3 + r4) + (r5 + r6) = (p3 + p4 + p5 + p6) + 256 * ((r4 + r5) + (r6 + p7)) := by omega
  have t4 : (r4 + r5) + (r6 + p7) = (p4 + p5 + p6 + p7) + 256 * ((r5 + r6) + p7) := by omega
  rw [dq, dv _ _ z2 (by omega) t0, dv _ _ _ (by omega) t1, dv _ _ _ (by omega) t2, dv _ _ _ (by omega) t3] at e3
  clear dv dd dq q0 q1 q2 q3 q4 q5 q6 t1 t2 t3 e1 e2 hy g1 g2 g3 g4 g5 g6
  omega
theorem ones_sum (x z1 z2 z3 : Nat) (_hx : x < 2 ^ 64) (e1 : z1 = sums 8 x + sums 8 x / 256) (e2 : z2 = z1 + z1 / 65536) (e3 : z3 = z2 + z2 / 4294967296) : z3 % 128 = pc 64 x := by
  have h := sum8 _ _ _ _ _ _ _ _ (pc_le 8 (x % 256)) (pc_le 8 (x / 256 % 256)) (pc_le 8 (x / 256 / 256 % 256)) (pc_le 8 (x / 256 / 256 / 256 % 256)) (pc_le 8 (x / 256 / 256 / 256 / 256 % 256)) (pc_le 8 (x / 256 / 256 / 256 / 256 / 256 % 256)) (pc_le 8 (x / 256 / 256 / 256 / 256 / 256 / 256 % 256)) (pc_le 8 (x / 256 / 256 / 256 / 256 / 256 / 256 / 256 % 256)) (sums 8 x) z1 z2 z3 (by simp [sums]) e1 e2 e3
  rw [h]
  have s : ∀ n x, pc (8 + n) x = pc 8 (x % 256) + pc n (x / 256) := fun n x => by rw [pc_add, pc8_mod]
  rw [show (64 : Nat) = 8 + (8 + (8 + (8 + (8 + (8 + (8 + (8 + 0))))))) by rfl, s, s, s, s, s, s, s, s]
  simp [pc]; omega
theorem sums_lt (x : Nat) : sums 8 x ≤ 578721382704613384 := by
  have h : ∀ n x, sums n x ≤ 8 * mask 1 n := by
    intro n
    induction n with
    | zero => intro x; simp [sums, mask]
    | succ n ih => intro x; have := ih (x / 256); have := pc_le 8 (x % 256); simp only [sums, mask]; omega
  exact h 8 x
end Go.Proofs.YtjlcnbfkblmoeaaDoor
