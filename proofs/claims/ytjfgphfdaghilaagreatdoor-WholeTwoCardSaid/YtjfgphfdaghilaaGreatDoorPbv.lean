/-
  Plain arithmetic of bits: numbers of fixed width as rows of bits.
-/
import Derived.Test.YtjfgphfdaghilaaGreatDoorEngA
import Derived.Laws.Bits128
namespace Go.Nx
open Go

def u8 (v : BitVec 8) : Int := (v.toNat : Int)
def u32 (v : BitVec 32) : Int := (v.toNat : Int)
def i64 (v : BitVec 64) : Int := v.toInt

theorem wrap_u8 (n : Int) : IntKind.u8.wrap n = u8 (BitVec.ofInt 8 n) := by
  rw [IntKind.wrap_u8, u8, BitVec.toNat_ofInt]
  omega
theorem wrap_u32 (n : Int) : IntKind.u32.wrap n = u32 (BitVec.ofInt 32 n) := by
  rw [IntKind.wrap_u32, u32, BitVec.toNat_ofInt]
  omega
theorem wrap_i64 (n : Int) : IntKind.i64.wrap n = i64 (BitVec.ofInt 64 n) := by
  rw [IntKind.wrap_i64, i64, BitVec.toInt_ofInt]
  rw [Int.bmod_def]
  split <;> omega

def bvop (op : BinOp) {n : Nat} (a b : BitVec n) : BitVec n := match op with
  | .and => a &&& b
  | .or => a ||| b
  | .xor => a ^^^ b
  | _ => a &&& ~~~b
theorem wrapv_u8 (v : BitVec 8) : IntKind.u8.wrap (v.toNat : Int) = u8 v := by rw [wrap_u8, BitVec.ofInt_natCast]; simp
theorem wrapv_u32 (v : BitVec 32) : IntKind.u32.wrap (v.toNat : Int) = u32 v := by rw [wrap_u32, BitVec.ofInt_natCast]; simp
theorem wrapv_i64 (v : BitVec 64) : IntKind.i64.wrap (v.toNat : Int) = i64 v := by rw [wrap_i64, BitVec.ofInt_natCast]; simp
theorem bits_u8 (op : BinOp) (x y : Int) : bits op .u8 x y = u8 (bvop op (BitVec.ofInt 8 x) (BitVec.ofInt 8 y)) := by cases op <;> exact wrapv_u8 _
theorem bits_u32 (op : BinOp) (x y : Int) : bits op .u32 x y = u32 (bvop op (BitVec.ofInt 32 x) (BitVec.ofInt 32 y)) := by cases op <;> exact wrapv_u32 _
theorem bits_i64 (op : BinOp) (x y : Int) : bits op .i64 x y = i64 (bvop op (BitVec.ofInt 64 x) (BitVec.ofInt 64 y)) := by cases op <;> exact wrapv_i64 _
theorem bvop_and {n : Nat} (a b : BitVec n) : bvop .and a b = a &&& b := rfl
theorem bvop_or {n : Nat} (a b : BitVec n) : bvop .or a b = a ||| b := rfl
theorem bvop_xor {n : Nat} (a b : BitVec n) : bvop .xor a b = a ^^^ b := rfl

theorem ofInt_u8_8 (v : BitVec 8) : BitVec.ofInt 8 (u8 v) = v := by simp [u8]
theorem ofInt_u8 (n : Nat) (v : BitVec 8) : BitVec.ofInt n (u8 v) = v.setWidth n := by
  apply BitVec.eq_of_toNat_eq; simp [u8]
theorem ofInt_u32 (n : Nat) (v : BitVec 32) : BitVec.ofInt n (u32 v) = v.setWidth n := by
  apply BitVec.eq_of_toNat_eq; simp [u32]
theorem ofInt_i64_64 (v : BitVec 64) : BitVec.ofInt 64 (i64 v) = v := by simp [i64]
theorem ofInt_i64 (n : Nat) (v : BitVec 64) (h : n ≤ 64) : BitVec.ofInt n (i64 v) = v.setWidth n := by
  apply BitVec.eq_of_toNat_eq
  rw [BitVec.toNat_ofInt, BitVec.toNat_setWidth, i64, BitVec.toInt_eq_toNat_bmod, Int.bmod_def]
  have hd : ((2 ^ n : Nat) : Int) ∣ ((2 ^ 64 : Nat) : Int) := by exact_mod_cast Nat.pow_dvd_pow 2 h
  split
  · rw [Int.emod_emod_of_dvd _ hd, ← Int.natCast_emod, Int.toNat_natCast]
  · have e : ((v.toNat : Int) % ((2 ^ 64 : Nat) : Int) - ((2 ^ 64 : Nat) : Int)) % ((2 ^ n : Nat) : Int) = (v.toNat : Int) % ((2 ^ n : Nat) : Int) := by
      rw [Int.sub_emod, Int.emod_emod_of_dvd _ hd, Int.emod_eq_zero_of_dvd hd]
      simp
    rw [e, ← Int.natCast_emod, Int.toNat_natCast]

theorem shl_u32 (x : Int) (j : Nat) (hj : j ≤ 32) : shlv .u32 x (j : Int) = u32 (BitVec.ofInt 32 x <<< j) := by
  have e : min (j : Int).toNat IntKind.u32.bits = j := by
    show min (j : Int).toNat 32 = j
    rw [Int.toNat_natCast]; omega
  unfold shlv
  rw [e, wrap_u32]
  congr 1
  apply BitVec.eq_of_toNat_eq
  rw [BitVec.toNat_shiftLeft, BitVec.toNat_ofInt, BitVec.toNat_ofInt, Nat.shiftLeft_eq]
  have h0 : ((2 ^ 32 : Nat) : Int) = 4294967296 := rfl
  have hp : ((2 ^ j : Nat) : Int) = 2 ^ j := by simp
  have h1 : ((x % ((2 ^ 32 : Nat) : Int)).toNat : Int) = x % ((2 ^ 32 : Nat) : Int) := Int.toNat_of_nonneg (Int.emod_nonneg _ (by decide))
  apply Int.ofNat.inj
  show ((x * 2 ^ j % ((2 ^ 32 : Nat) : Int)).toNat : Int) = (((x % ((2 ^ 32 : Nat) : Int)).toNat * 2 ^ j % 2 ^ 32 : Nat) : Int)
  rw [Int.toNat_of_nonneg (Int.emod_nonneg _ (by decide)), Int.natCast_emod, Int.natCast_mul, h1, hp]
  rw [Int.mul_emod x, Int.mul_emod (x % ((2 ^ 32 : Nat) : Int)) (2 ^ j), Int.emod_emod]
theorem shl_i64 (x : Int) (j : Nat) (hj : j ≤ 64) : shlv .i64 x (j : Int) = i64 (BitVec.ofInt 64 x <<< j) := by
  have e : min (j : Int).toNat IntKind.i64.bits = j := by
    show min (j : Int).toNat 64 = j
    rw [Int.toNat_natCast]; omega
  unfold shlv
  rw [e, wrap_i64]
  congr 1
  apply BitVec.eq_of_toNat_eq
  rw [BitVec.toNat_shiftLeft, BitVec.toNat_ofInt, BitVec.toNat_ofInt, Nat.shiftLeft_eq]
  have hp : ((2 ^ j : Nat) : Int) = 2 ^ j := by simp
  have h1 : ((x % ((2 ^ 64 : Nat) : Int)).toNat : Int) = x % ((2 ^ 64 : Nat) : Int) := Int.toNat_of_nonneg (Int.emod_nonneg _ (by decide))
  apply Int.ofNat.inj
  show ((x * 2 ^ j % ((2 ^ 64 : Nat) : Int)).toNat : Int) = (((x % ((2 ^ 64 : Nat) : Int)).toNat * 2 ^ j % 2 ^ 64 : Nat) : Int)
  rw [Int.toNat_of_nonneg (Int.emod_nonneg _ (by decide)), Int.natCast_emod, Int.natCast_mul, h1, hp]
  rw [Int.mul_emod x, Int.mul_emod (x % ((2 ^ 64 : Nat) : Int)) (2 ^ j), Int.emod_emod]
theorem shr_u32 (v : BitVec 32) (j : Nat) (hj : j ≤ 32) : shrv .u32 (u32 v) (j : Int) = u32 (v >>> j) := by
  have e : min (j : Int).toNat IntKind.u32.bits = j := by
    show min (j : Int).toNat 32 = j
    rw [Int.toNat_natCast]; omega
  unfold shrv
  rw [e, Int.fdiv_eq_ediv_of_nonneg _ (Int.le_of_lt (Int.pow_pos (by decide))), u32, u32, BitVec.toNat_ushiftRight, Nat.shiftRight_eq_div_pow]
  simp
theorem shr_u8 (v : BitVec 8) (j : Nat) (hj : j ≤ 8) : shrv .u8 (u8 v) (j : Int) = u8 (v >>> j) := by
  have e : min (j : Int).toNat IntKind.u8.bits = j := by
    show min (j : Int).toNat 8 = j
    rw [Int.toNat_natCast]; omega
  unfold shrv
  rw [e, Int.fdiv_eq_ediv_of_nonneg _ (Int.le_of_lt (Int.pow_pos (by decide))), u8, u8, BitVec.toNat_ushiftRight, Nat.shiftRight_eq_div_pow]
  simp
theorem shr_i64 (v : BitVec 64) (j : Nat) (hj : j ≤ 64) : shrv .i64 (i64 v) (j : Int) = i64 (v.sshiftRight j) := by
  have e : min (j : Int).toNat IntKind.i64.bits = j := by
    show min (j : Int).toNat 64 = j
    rw [Int.toNat_natCast]; omega
  unfold shrv
  rw [e, Int.fdiv_eq_ediv_of_nonneg _ (Int.le_of_lt (Int.pow_pos (by decide))), i64, i64, BitVec.toInt_sshiftRight, Int.shiftRight_eq_div_pow]
  simp
theorem u8_inj {v w : BitVec 8} : u8 v = u8 w ↔ v = w := by
  unfold u8
  exact ⟨fun h => BitVec.eq_of_toNat_eq (Int.ofNat.inj h), fun h => by rw [h]⟩
theorem u32_inj {v w : BitVec 32} : u32 v = u32 w ↔ v = w := by
  unfold u32
  exact ⟨fun h => BitVec.eq_of_toNat_eq (Int.ofNat.inj h), fun h => by rw [h]⟩
theorem i64_inj {v w : BitVec 64} : i64 v = i64 w ↔ v = w := by
  unfold i64
  exact ⟨fun h => BitVec.eq_of_toInt_eq h, fun h => by rw [h]⟩
theorem fit_u8 {n : Int} (h0 : 0 ≤ n) (h1 : n < 256) : n = u8 (BitVec.ofInt 8 n) := by rw [← wrap_u8, IntKind.wrap_u8]; omega
theorem fit_u32 {n : Int} (h0 : 0 ≤ n) (h1 : n < 4294967296) : n = u32 (BitVec.ofInt 32 n) := by rw [← wrap_u32, IntKind.wrap_u32]; omega
theorem fit_i64 {n : Int} (h0 : -9223372036854775808 ≤ n) (h1 : n < 9223372036854775808) : n = i64 (BitVec.ofInt 64 n) := by rw [← wrap_i64, IntKind.wrap_i64]; omega

end Go.Nx
