/-
  A header's flags as a number, a place that may be: plain facts.
-/
import Derived.Test.YthjdlanmfiofdaaDoorHdD
namespace Go.Proofs.YthjdlanmfiofdaaDoor.hd
open Go Go.Nx Go.Proofs.YthjdlanmfiofdaaDoor.pk

theorem fl_in : ∀ c0 c1 c2 c3 c4 c5 c6 c7 c8 c9 c10 : Bool, 0 ≤ flN c0 c1 c2 c3 c4 c5 c6 c7 c8 c9 c10 ∧ flN c0 c1 c2 c3 c4 c5 c6 c7 c8 c9 c10 < 2048 := by decide +kernel
theorem fl_bits : ∀ c0 c1 c2 c3 c4 c5 c6 c7 c8 c9 c10 : Bool, (List.range 11).map (fun k => ckOf (flN c0 c1 c2 c3 c4 c5 c6 c7 c8 c9 c10) (Int.ofNat k)) = [c0, c1, c2, c3, c4, c5, c6, c7, c8, c9, c10] := by decide +kernel
theorem fl_back (f : Int) (h : 0 ≤ f ∧ f < 2048) : flOf (f % 2) (f / 2 % 4) (f / 8 % 16) (f / 128 % 16) = f := by
  unfold flOf
  rw [or1 _ _ (by omega) (by omega) (by omega) (by omega), or3 _ _ (by omega) (by omega) (by omega) (by omega), or7 _ _ (by omega) (by omega) (by omega) (by omega)]
  omega
theorem bits_andNot (x y : Int) : bits .andNot .i64 x y = i64 (BitVec.ofInt 64 x &&& ~~~ BitVec.ofInt 64 y) := bits_i64 .andNot x y
theorem andNot_iff (x : Int) (hx : -9223372036854775808 ≤ x ∧ x < 9223372036854775808) : bits .andNot .i64 x 16255 = 0 ↔ 0 ≤ x ∧ x ≤ 16255 ∧ x / 128 % 2 = 0 := by
  have hz : (0 : Int) = i64 0#64 := by decide
  have key : bits .andNot .i64 x 16255 = 0 ↔ aI x 16255 = x := by
    rw [bits_andNot, hz, i64_inj]
    have e : aI x 16255 = i64 (BitVec.ofInt 64 x &&& BitVec.ofInt 64 16255) := bits_i64 .and x 16255
    rw [e]
    have e3 : (i64 (BitVec.ofInt 64 x &&& BitVec.ofInt 64 16255) = x) = (i64 (BitVec.ofInt 64 x &&& BitVec.ofInt 64 16255) = i64 (BitVec.ofInt 64 x)) := by rw [← fit_i64 hx.1 hx.2]
    rw [e3, i64_inj]
    generalize BitVec.ofInt 64 x = v
    generalize BitVec.ofInt 64 16255 = w
    constructor
    · intro h
      have : v = (v &&& w) ||| (v &&& ~~~w) := by
        ext i hi
        simp only [BitVec.getElem_or, BitVec.getElem_and, BitVec.getElem_not]
        cases v[i] <;> cases w[i] <;> rfl
      rw [h] at this
      rw [BitVec.or_zero] at this
      exact this.symm
    · intro h
      rw [← h]
      ext i hi
      simp only [BitVec.getElem_and, BitVec.getElem_not, BitVec.getElem_zero]
      cases v[i] <;> cases w[i] <;> rfl
  rw [key, any_eq]
  omega
theorem aI_128 (x : Int) : aI x 128 = x / 128 % 2 * 128 := by
  have h : ∀ n < 256, aI (Int.ofNat n) 128 = Int.ofNat (n / 128 % 2 * 128) := by decide +kernel
  have e : aI x 128 = aI (aI x 255) 128 := by rw [and_and]; rfl
  have e2 : aI x 255 = x % 256 := and_mask64 x 8 (by decide)
  rw [e, e2]
  have := h (x % 256).toNat (by omega)
  have e3 : Int.ofNat (x % 256).toNat = x % 256 := by show (((x % 256).toNat : Nat) : Int) = x % 256; omega
  rw [e3] at this
  rw [this]
  show ((((x % 256).toNat / 128 % 2 * 128 : Nat)) : Int) = _
  omega
end Go.Proofs.YthjdlanmfiofdaaDoor.hd
