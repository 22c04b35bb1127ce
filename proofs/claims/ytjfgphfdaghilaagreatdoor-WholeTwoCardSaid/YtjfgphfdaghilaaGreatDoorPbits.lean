/-
  Plain arithmetic of bits.
-/
import Derived.Test.YtjfgphfdaghilaaGreatDoorEngA
import Derived.Laws.Bits128
namespace Go.Nx
open Go

theorem and_mask64 (n : Int) (j : Nat) (hj : j < 64) : bits .and .i64 n (2 ^ j - 1 : Nat) = n % 2 ^ j := by
  have hm : (2 ^ j - 1 : Nat) < 2 ^ 64 := Nat.lt_of_le_of_lt (Nat.sub_le _ _) (Nat.pow_lt_pow_right (by decide) hj)
  have hp : 2 ^ j ≤ 2 ^ 63 := Nat.pow_le_pow_right (by decide) (by omega)
  have key : (BitVec.ofInt 64 n &&& BitVec.ofInt 64 ((2 ^ j - 1 : Nat) : Int)).toNat = (n % ((2 ^ 64 : Nat) : Int)).toNat % 2 ^ j := by
    rw [BitVec.toNat_and, BitVec.toNat_ofInt, BitVec.ofInt_natCast, BitVec.toNat_ofNat, Nat.mod_eq_of_lt hm, Nat.and_two_pow_sub_one_eq_mod]
  show IntKind.i64.wrap ((BitVec.ofInt 64 n &&& BitVec.ofInt 64 ((2 ^ j - 1 : Nat) : Int)).toNat : Nat) = n % 2 ^ j
  rw [key, IntKind.wrap_i64]
  have h1 : (0 : Int) < 2 ^ j := Int.pow_pos (by decide)
  have h2 : ((2 : Int) ^ j) = ((2 ^ j : Nat) : Int) := by simp
  have hd : (2 ^ j : Nat) ∣ 2 ^ 64 := Nat.pow_dvd_pow 2 (by omega)
  have h3 : ((((n % ((2 ^ 64 : Nat) : Int)).toNat % 2 ^ j : Nat)) : Int) = n % 2 ^ j := by
    rw [Int.natCast_emod, Int.toNat_of_nonneg (Int.emod_nonneg _ (by decide)), ← h2, h2, Int.emod_emod_of_dvd _ (by exact_mod_cast hd)]
  rw [h3]
  have h4 := Int.emod_nonneg n (Int.ne_of_gt h1)
  have h5 := Int.emod_lt_of_pos n h1
  have h6 : (2 : Int) ^ j ≤ 9223372036854775808 := by rw [h2]; exact Int.ofNat_le.2 (Nat.le_trans hp (by decide))
  omega
theorem or_join64 (x y : Int) (i : Nat) (hi : i < 63) (hx : x % 2 ^ i = 0) (hx0 : 0 ≤ x) (hx1 : x < 2 ^ 63) (hy0 : 0 ≤ y) (hy : y < 2 ^ i) : bits .or .i64 y x = y + x := by
  have e : bits .or .i64 y x = bits .or .i64 x y := by
    show IntKind.i64.wrap ((BitVec.ofInt 64 y ||| BitVec.ofInt 64 x).toNat : Nat) = IntKind.i64.wrap ((BitVec.ofInt 64 x ||| BitVec.ofInt 64 y).toNat : Nat)
    rw [BitVec.or_comm]
  have hp : (2 : Int) ^ i ≤ 2 ^ 63 := by
    have h2 : ((2 : Int) ^ i) = ((2 ^ i : Nat) : Int) := by simp
    rw [h2]; exact Int.ofNat_le.2 (Nat.le_trans (Nat.pow_le_pow_right (n := 2) (by decide) (show i ≤ 63 by omega)) (by decide))
  rw [e, bits_join .i64 63 (by decide) (fun n h0 h1 => by rw [IntKind.wrap_i64]; omega) i x y hx0 hx hx1 hy0 hy (by omega)]
  omega
theorem shlv64 (x : Int) (j : Nat) (hj : j < 64) (h0 : 0 ≤ x) (h1 : x * 2 ^ j < 2 ^ 63) : shlv .i64 x j = x * 2 ^ j := by
  unfold shlv
  have e : min (j : Int).toNat IntKind.i64.bits = j := by
    show min (j : Int).toNat 64 = j
    rw [Int.toNat_natCast]; omega
  rw [e, IntKind.wrap_i64]
  have hp : (0 : Int) < 2 ^ j := Int.pow_pos (by decide)
  have := Int.mul_nonneg h0 (Int.le_of_lt hp)
  generalize x * 2 ^ j = z at *
  omega
theorem shrv64 (x : Int) (j : Nat) (hj : j < 64) : shrv .i64 x j = x / 2 ^ j := by
  unfold shrv
  have e : min (j : Int).toNat IntKind.i64.bits = j := by
    show min (j : Int).toNat 64 = j
    rw [Int.toNat_natCast]; omega
  rw [e, Int.fdiv_eq_ediv_of_nonneg _ (Int.le_of_lt (Int.pow_pos (by decide)))]

end Go.Nx
