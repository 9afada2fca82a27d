import Derived.Test.YtjlcnbfkblmoeaaDoorCmp
import Derived.Test.YtjlcnbfkblmoeaaDoorPop
namespace Go.Proofs.YtjlcnbfkblmoeaaDoor
open Go.RowKit
theorem u64_wrap_nat (n : Nat) (h : n < 2 ^ 64) : IntKind.u64.wrap (n : Int) = (n : Int) := by rw [IntKind.wrap_u64]; omega
theorem f1_form (x : Nat) (hx : x < 2 ^ 64) : IntKind.u64.wrap (bits .and .u64 ((x : Int) / 2) 6148914691236517205 + bits .and .u64 (x : Int) 6148914691236517205) = (f1 8 x : Int) := by
  have e : ((x : Int) / 2) = ((x / 2 : Nat) : Int) := by omega
  have m : (6148914691236517205 : Int) = ((6148914691236517205 : Nat) : Int) := rfl
  rw [e, m, u64_and_nat _ _ (by omega) (by decide), u64_and_nat _ _ (by omega) (by decide), ← Int.natCast_add, u64_wrap_nat]
  · rfl
  · have h1 : (x / 2) &&& 6148914691236517205 ≤ 6148914691236517205 := Nat.and_le_right
    have h2 : x &&& 6148914691236517205 ≤ 6148914691236517205 := Nat.and_le_right
    omega
theorem f2_form (x : Nat) (hx : x < 2 ^ 64) : IntKind.u64.wrap (bits .and .u64 ((x : Int) / 4) 3689348814741910323 + bits .and .u64 (x : Int) 3689348814741910323) = (f2 8 x : Int) := by
  have e : ((x : Int) / 4) = ((x / 4 : Nat) : Int) := by omega
  have m : (3689348814741910323 : Int) = ((3689348814741910323 : Nat) : Int) := rfl
  rw [e, m, u64_and_nat _ _ (by omega) (by decide), u64_and_nat _ _ (by omega) (by decide), ← Int.natCast_add, u64_wrap_nat]
  · rfl
  · have h1 : (x / 4) &&& 3689348814741910323 ≤ 3689348814741910323 := Nat.and_le_right
    have h2 : x &&& 3689348814741910323 ≤ 3689348814741910323 := Nat.and_le_right
    omega
theorem f1_le (x : Nat) : f1 8 x ≤ 12297829382473034410 := by
  have h1 : (x / 2) &&& mask 0x55 8 ≤ mask 0x55 8 := Nat.and_le_right
  have h2 : x &&& mask 0x55 8 ≤ mask 0x55 8 := Nat.and_le_right
  have e : mask 0x55 8 = 6148914691236517205 := by decide
  unfold f1; omega
theorem f2_le (x : Nat) : f2 8 x ≤ 7378697629483820646 := by
  have h1 : (x / 4) &&& mask 0x33 8 ≤ mask 0x33 8 := Nat.and_le_right
  have h2 : x &&& mask 0x33 8 ≤ mask 0x33 8 := Nat.and_le_right
  have e : mask 0x33 8 = 3689348814741910323 := by decide
  unfold f2; omega
theorem f3_form (x : Nat) (hx : x ≤ 7378697629483820646) : bits .and .u64 (IntKind.u64.wrap ((x : Int) / 16 + x)) 1085102592571150095 = (f3 8 x : Int) := by
  have e : ((x : Int) / 16 + x) = ((x / 16 + x : Nat) : Int) := by omega
  have m : (1085102592571150095 : Int) = ((1085102592571150095 : Nat) : Int) := rfl
  rw [e, u64_wrap_nat _ (by omega), m, u64_and_nat _ _ (by omega) (by decide)]
  rfl
theorem add_form (x k : Nat) (_hk : 0 < k) (h : x + x / k < 2 ^ 64) : IntKind.u64.wrap ((x : Int) + x / (k : Int)) = ((x + x / k : Nat) : Int) := by
  have e : ((x : Int) + x / (k : Int)) = ((x + x / k : Nat) : Int) := by rw [Int.natCast_add, Int.natCast_ediv]
  rw [e, u64_wrap_nat _ h]
theorem low_form (z : Nat) (hz : z < 2 ^ 63) : bits .and .i64 (wrap64 (z : Int)) 127 = ((z % 128 : Nat) : Int) := by
  have e : wrap64 (z : Int) = (z : Int) := IntWalk.wrap64_in _ ⟨by omega, by omega⟩
  have hx : (BitVec.ofInt 64 (z : Int)).toNat = z := by rw [BitVec.ofInt_natCast, BitVec.toNat_ofNat]; exact Nat.mod_eq_of_lt (by omega)
  rw [e]
  show IntKind.i64.wrap ((BitVec.ofInt 64 (z : Int) &&& BitVec.ofInt 64 127).toNat : Int) = _
  rw [BitVec.toNat_and, hx, show (BitVec.ofInt 64 127).toNat = 2 ^ 7 - 1 by decide, Nat.and_two_pow_sub_one_eq_mod, IntKind.wrap_i64]
  omega
set_option maxRecDepth 100000 in
set_option maxHeartbeats 400000 in
theorem ones_core (x a b y z1 z2 z3 : Nat) (r : Int) (w : World)
    (h1 : IntKind.u64.wrap (bits .and .u64 ((x : Int) / 2) 6148914691236517205 + bits .and .u64 (x : Int) 6148914691236517205) = (a : Int))
    (h2 : IntKind.u64.wrap (bits .and .u64 ((a : Int) / 4) 3689348814741910323 + bits .and .u64 (a : Int) 3689348814741910323) = (b : Int))
    (h3 : bits .and .u64 (IntKind.u64.wrap ((b : Int) / 16 + b)) 1085102592571150095 = (y : Int))
    (h4 : IntKind.u64.wrap ((y : Int) + y / 256) = (z1 : Int)) (h5 : IntKind.u64.wrap ((z1 : Int) + z1 / 65536) = (z2 : Int)) (h6 : IntKind.u64.wrap ((z2 : Int) + z2 / 4294967296) = (z3 : Int))
    (h7 : bits .and .i64 (wrap64 (z3 : Int)) 127 = r) :
    Calls Tryd.prog 95 #[.int .u64 x] w fun e w' => e = .returned (.int .i64 r) ∧ w = w' := by
  go_enter Tryd.func95, Tryd.ntmps95
  go_wp2
  go_ret
  exact ⟨rfl, rfl⟩
theorem ones_any (x : Nat) (w : World) (hx : x < 2 ^ 64) :
    Calls Tryd.prog 95 #[.int .u64 x] w fun e w' => e = .returned (.int .i64 (pc 64 x)) ∧ w = w' := by
  have l1 := f1_le x
  have l2 := f2_le (f1 8 x)
  have l3 := sums_lt x
  have e3 : f3 8 (f2 8 (f1 8 x)) = sums 8 x := f3_sums 8 x
  generalize hz1 : sums 8 x + sums 8 x / 256 = z1 
  obtain ⟨z2, hz2⟩ : ∃ z2, z2 = z1 + z1 / 65536 := ⟨_, rfl⟩
  obtain ⟨z3, hz3⟩ : ∃ z3, z3 = z2 + z2 / 4294967296 := ⟨_, rfl⟩
  rw [← ones_sum x z1 z2 z3 hx hz1.symm hz2 hz3]
  refine ones_core x _ _ (sums 8 x) z1 z2 z3 _ w (f1_form x hx) (f2_form _ (by omega)) ?_ ?_ ?_ ?_ (low_form _ (by omega))
  · rw [f3_form _ l2, e3]
  · rw [← hz1]; exact add_form _ 256 (by omega) (by omega)
  · rw [hz2]; exact add_form _ 65536 (by omega) (by omega)
  · rw [hz3]; exact add_form _ 4294967296 (by omega) (by omega)
end Go.Proofs.YtjlcnbfkblmoeaaDoor
