/-
  Numbers of a place, taken apart and put together again: plain arithmetic.
-/
import Derived.Test.YthjdlanmfiofdaaDoorPkC
import Derived.Test.YthjdlanmfiofdaaDoorPbits
import Derived.Test.YthjdlanmfiofdaaDoorPbv
namespace Go.Proofs.YthjdlanmfiofdaaDoor.hd
open Go Go.Nx Go.Proofs.YthjdlanmfiofdaaDoor.pk

def oI (a b : Int) : Int := bits .or .i64 a b
def aI (a b : Int) : Int := bits .and .i64 a b
noncomputable def nb0 (p : Int) : Int := aI p 15
noncomputable def nb1 (p : Int) : Int := shrv .i64 p 4
noncomputable def nb3 (s o : Int) : Int := oI (aI (shrv .i64 s 4) 7) (shlv .i64 o 3)
noncomputable def nb4 (s : Int) : Int := aI (shrv .i64 s 8) 15
noncomputable def nb5 (s t : Int) : Int := oI (aI (shrv .i64 s 12) 3) (shlv .i64 t 2)
theorem aI_15 (n : Int) : aI n 15 = n % 16 := and_mask64 n 4 (by decide)
theorem aI_7 (n : Int) : aI n 7 = n % 8 := and_mask64 n 3 (by decide)
theorem aI_3 (n : Int) : aI n 3 = n % 4 := and_mask64 n 2 (by decide)
theorem aI_1 (n : Int) : aI n 1 = n % 2 := and_mask64 n 1 (by decide)
theorem sh_4 (n : Int) : shrv .i64 n 4 = n / 16 := shrv64 n 4 (by decide)
theorem sh_8 (n : Int) : shrv .i64 n 8 = n / 256 := shrv64 n 8 (by decide)
theorem sh_12 (n : Int) : shrv .i64 n 12 = n / 4096 := shrv64 n 12 (by decide)
theorem sh_3 (n : Int) : shrv .i64 n 3 = n / 8 := shrv64 n 3 (by decide)
theorem sh_2 (n : Int) : shrv .i64 n 2 = n / 4 := shrv64 n 2 (by decide)
theorem sh_1 (n : Int) : shrv .i64 n 1 = n / 2 := shrv64 n 1 (by decide)
theorem sh_7 (n : Int) : shrv .i64 n 7 = n / 128 := shrv64 n 7 (by decide)
theorem sl_of (x : Int) (j : Nat) (hj : j < 20) (h0 : 0 ≤ x) (h1 : x < 65536) : shlv .i64 x j = x * 2 ^ j := by
  refine shlv64 x j (by omega) h0 ?_
  have : (2 : Int) ^ j ≤ 2 ^ 20 := by
    have h2 : ((2 : Int) ^ j) = ((2 ^ j : Nat) : Int) := by simp
    rw [h2]; exact Int.ofNat_le.2 (Nat.le_trans (Nat.pow_le_pow_right (n := 2) (by decide) (show j ≤ 20 by omega)) (by decide))
  calc x * 2 ^ j ≤ x * 2 ^ 20 := Int.mul_le_mul_of_nonneg_left this h0
    _ < 2 ^ 63 := by omega
/-- Two parts of a number that do not meet. -/
theorem or_parts (y x : Int) (i : Nat) (hi : i < 20) (hy0 : 0 ≤ y) (hy : y < 2 ^ i) (hx0 : 0 ≤ x) (hx : x < 65536) : oI y (shlv .i64 x i) = y + x * 2 ^ i := by
  rw [sl_of x i hi hx0 hx]
  have hp : (0 : Int) < 2 ^ i := Int.pow_pos (by decide)
  refine or_join64 (x * 2 ^ i) y i (by omega) (Int.mul_emod_left _ _) (Int.mul_nonneg hx0 (Int.le_of_lt hp)) ?_ hy0 hy
  have : (2 : Int) ^ i ≤ 2 ^ 20 := by
    have h2 : ((2 : Int) ^ i) = ((2 ^ i : Nat) : Int) := by simp
    rw [h2]; exact Int.ofNat_le.2 (Nat.le_trans (Nat.pow_le_pow_right (n := 2) (by decide) (show i ≤ 20 by omega)) (by decide))
  calc x * 2 ^ i ≤ x * 2 ^ 20 := Int.mul_le_mul_of_nonneg_left this hx0
    _ < 2 ^ 63 := by omega
theorem or1 (y x : Int) (hy0 : 0 ≤ y) (hy : y < 2) (hx0 : 0 ≤ x) (hx : x < 65536) : oI y (shlv .i64 x 1) = y + x * 2 := or_parts y x 1 (by decide) hy0 hy hx0 hx
theorem or2 (y x : Int) (hy0 : 0 ≤ y) (hy : y < 4) (hx0 : 0 ≤ x) (hx : x < 65536) : oI y (shlv .i64 x 2) = y + x * 4 := or_parts y x 2 (by decide) hy0 hy hx0 hx
theorem or3 (y x : Int) (hy0 : 0 ≤ y) (hy : y < 8) (hx0 : 0 ≤ x) (hx : x < 65536) : oI y (shlv .i64 x 3) = y + x * 8 := or_parts y x 3 (by decide) hy0 hy hx0 hx
theorem or4 (y x : Int) (hy0 : 0 ≤ y) (hy : y < 16) (hx0 : 0 ≤ x) (hx : x < 65536) : oI y (shlv .i64 x 4) = y + x * 16 := or_parts y x 4 (by decide) hy0 hy hx0 hx
theorem or7 (y x : Int) (hy0 : 0 ≤ y) (hy : y < 128) (hx0 : 0 ≤ x) (hx : x < 65536) : oI y (shlv .i64 x 7) = y + x * 128 := or_parts y x 7 (by decide) hy0 hy hx0 hx
theorem or8 (y x : Int) (hy0 : 0 ≤ y) (hy : y < 256) (hx0 : 0 ≤ x) (hx : x < 65536) : oI y (shlv .i64 x 8) = y + x * 256 := or_parts y x 8 (by decide) hy0 hy hx0 hx
theorem or12 (y x : Int) (hy0 : 0 ≤ y) (hy : y < 4096) (hx0 : 0 ≤ x) (hx : x < 65536) : oI y (shlv .i64 x 12) = y + x * 4096 := or_parts y x 12 (by decide) hy0 hy hx0 hx
theorem nb3_eq (s o : Int) (h : 0 ≤ o ∧ o < 2) : nb3 s o = s / 16 % 8 + o * 8 := by
  unfold nb3
  rw [sh_4, aI_7]
  exact or3 _ _ (by omega) (by omega) h.1 (by omega)
theorem nb5_eq (s t : Int) (h : 0 ≤ t ∧ t < 4) : nb5 s t = s / 4096 % 4 + t * 4 := by
  unfold nb5
  rw [sh_12, aI_3]
  exact or2 _ _ (by omega) (by omega) h.1 (by omega)
theorem nb4_eq (s : Int) : nb4 s = s / 256 % 16 := by unfold nb4; rw [sh_8, aI_15]
/-- A page's number of two numbers. -/
noncomputable def pageOf (x y : Int) : Int := oI x (shlv .i64 y 4)
theorem page_back (p : Int) (h : 0 ≤ p ∧ p < 256) : pageOf (p % 16) (p / 16 % 16) = p := by
  unfold pageOf
  rw [or4 _ _ (by omega) (by omega) (by omega) (by omega)]
  omega
/-- A part's number of four numbers. -/
noncomputable def subOf (a b c d : Int) : Int := oI (oI (oI a (shlv .i64 (aI b 7) 4)) (shlv .i64 c 8)) (shlv .i64 (aI d 3) 12)
theorem sub_back (s o t : Int) (h : 0 ≤ s ∧ s < 16384 ∧ s / 128 % 2 = 0) : subOf (s % 16) (s / 16 % 8 + o * 8) (s / 256 % 16) (s / 4096 % 4 + t * 4) = s := by
  unfold subOf
  rw [aI_7, aI_3, or4 _ _ (by omega) (by omega) (by omega) (by omega), or8 _ _ (by omega) (by omega) (by omega) (by omega), or12 _ _ (by omega) (by omega) (by omega) (by omega)]
  omega
theorem get_all16 : ∀ n < 16, get (put (Int.ofNat n)) = some n := by decide +kernel
theorem flip_16 : ∀ n < 16, ∀ j < 8, get (x8 (put (Int.ofNat n)) (shlv .u8 1 (Int.ofNat j))) = some n := by decide +kernel
theorem flip2_16 : ∀ n < 16, ∀ j < 8, getB (x8 (x8 (put (Int.ofNat n)) (shlv .u8 1 (Int.ofNat j))) (shlv .u8 1 (Int.ofNat ((j + 1) % 8)))) = false := by decide +kernel
theorem put_nat (n : Int) : ∃ m : Nat, m < 16 ∧ put n = put (Int.ofNat m) ∧ n % 16 = (m : Int) := by
  refine ⟨(n % 16).toNat, by omega, ?_, by omega⟩
  have e : Int.ofNat (n % 16).toNat = n % 16 := by show (((n % 16).toNat : Nat) : Int) = n % 16; omega
  rw [e, put_16]
theorem get_put (n : Int) : get (put n) = some (n % 16).toNat := by
  obtain ⟨m, hm, e, e2⟩ := put_nat n
  rw [e, get_all16 m hm, e2, Int.toNat_natCast]
theorem getN_put (n : Int) : getN (put n) = n % 16 := by unfold getN; rw [get_put]; show ((n % 16).toNat : Int) = _; omega
theorem getB_put (n : Int) : getB (put n) = true := by unfold getB; rw [get_put]; rfl
/-- One bit turned: it is mended. -/
theorem get_flip (n j : Int) (h : 0 ≤ j ∧ j < 8) : get (x8 (put n) (shlv .u8 1 j)) = some (n % 16).toNat := by
  obtain ⟨m, hm, e, e2⟩ := put_nat n
  obtain ⟨i, rfl⟩ : ∃ i : Nat, j = Int.ofNat i := ⟨j.toNat, by show j = ((j.toNat : Nat) : Int); omega⟩
  have hi : i < 8 := by have := h.2; simp at this; omega
  rw [e, flip_16 m hm i hi, e2, Int.toNat_natCast]
theorem getB_flip2 (n j : Int) (h : 0 ≤ j ∧ j < 8) : getB (x8 (x8 (put n) (shlv .u8 1 j)) (shlv .u8 1 ((j + 1) % 8))) = false := by
  obtain ⟨m, hm, e, e2⟩ := put_nat n
  obtain ⟨i, rfl⟩ : ∃ i : Nat, j = Int.ofNat i := ⟨j.toNat, by show j = ((j.toNat : Nat) : Int); omega⟩
  have hi : i < 8 := by have := h.2; simp at this; omega
  rw [e]
  exact flip2_16 m hm i hi
/-- What of a number is in a mask of fourteen bits. -/
theorem and_and (x a b : Int) : aI (aI x a) b = aI x (aI a b) := by
  unfold aI
  rw [bits_i64, bits_i64, bits_i64, bits_i64]
  rw [ofInt_i64_64, ofInt_i64_64]
  simp only [bvop_and, BitVec.and_assoc]
theorem any_all2 : ∀ a < 128, ∀ b < 128, aI (Int.ofNat (128 * a + b)) 16255 = Int.ofNat ((128 * a + b) % 128 + (128 * a + b) / 256 * 256) := by decide +kernel
theorem any_all (n : Nat) (h : n < 16384) : aI (Int.ofNat n) 16255 = Int.ofNat (n % 128 + n / 256 * 256) := by
  have := any_all2 (n / 128) (by omega) (n % 128) (by omega)
  rwa [show 128 * (n / 128) + n % 128 = n by omega] at this
theorem any_eq (x : Int) : aI x 16255 = x % 128 + x % 16384 / 256 * 256 := by
  have e : aI x 16255 = aI (aI x 16383) 16255 := by rw [and_and]; rfl
  have e2 : aI x 16383 = x % 16384 := and_mask64 x 14 (by decide)
  rw [e, e2]
  have := any_all (x % 16384).toNat (by omega)
  have e3 : Int.ofNat (x % 16384).toNat = x % 16384 := by show (((x % 16384).toNat : Nat) : Int) = x % 16384; omega
  rw [e3] at this
  rw [this]
  show ((((x % 16384).toNat % 128 + (x % 16384).toNat / 256 * 256 : Nat)) : Int) = _
  omega
theorem any_in (x : Int) : 0 ≤ aI x 16255 ∧ aI x 16255 < 16384 ∧ aI x 16255 / 128 % 2 = 0 := by rw [any_eq]; omega
end Go.Proofs.YthjdlanmfiofdaaDoor.hd
