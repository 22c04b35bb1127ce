/-
  The remote control: a page's number is none, or from 100 to 899.
-/
import Derived.Test.YtnhadghddkgjdaaRemC
import Derived.Test.YtnhadghddkgjdaaPbits
namespace Go.Proofs.Ytnhadghddkgjdaa.rem
open Go Go.Nx

theorem nib_all : ∀ a < 10, ∀ b < 10, shrv .i64 (bits .or .i64 (shlv .i64 (Int.ofNat a) 4) (Int.ofNat b)) 4 = Int.ofNat a ∧ bits .and .i64 (bits .or .i64 (shlv .i64 (Int.ofNat a) 4) (Int.ofNat b)) 15 = Int.ofNat b := by decide +kernel
theorem n9_range {x : Int} (h0 : 0 ≤ x) : 0 ≤ n9 x ∧ n9 x ≤ 9 := by
  unfold n9
  by_cases c : 9 < x
  · rw [decide_eq_true c]; exact ⟨(by decide : (0 : Int) ≤ 9), Int.le_refl 9⟩
  · rw [decide_eq_false c]; exact ⟨h0, (by omega : x ≤ 9)⟩
theorem and15 (x : Int) : 0 ≤ bits .and .i64 x 15 := by
  rw [show bits .and .i64 x 15 = x % 16 from and_mask64 x 4 (by decide)]
  omega
theorem pg_parts (p : Int) : ∃ a b : Nat, a < 10 ∧ b < 10 ∧ shrv .i64 (pg p) 4 = (a : Int) ∧ bits .and .i64 (pg p) 15 = (b : Int) := by
  have h1 := n9_range (and15 (shrv .i64 p 4))
  have h2 := n9_range (and15 p)
  refine ⟨(n9 (bits .and .i64 (shrv .i64 p 4) 15)).toNat, (n9 (bits .and .i64 p 15)).toNat, by omega, by omega, ?_⟩
  unfold pg
  generalize n9 (bits .and .i64 (shrv .i64 p 4) 15) = a at *
  generalize n9 (bits .and .i64 p 15) = b at *
  have ha : a = Int.ofNat a.toNat := by show a = ((a.toNat : Nat) : Int); omega
  have hb : b = Int.ofNat b.toNat := by show b = ((b.toNat : Nat) : Int); omega
  have h := nib_all a.toNat (by omega) b.toNat (by omega)
  rw [← ha, ← hb] at h
  exact ⟨h.1.trans ha, h.2.trans hb⟩
theorem numF_range (m p : Int) : numF m p = 0 ∨ (100 ≤ numF m p ∧ numF m p ≤ 899) := by
  obtain ⟨a, b, ha, hb, e1, e2⟩ := pg_parts p
  unfold numF raw
  rw [e1, e2]
  by_cases c1 : m ≥ 1
  · rw [decide_eq_true c1]
    by_cases c8 : m ≤ 8
    · rw [decide_eq_true c8]
      have w1 : IntKind.i64.wrap (100 * m) = 100 * m := by rw [IntKind.wrap_i64]; omega
      have w2 : IntKind.i64.wrap (10 * (a : Int)) = 10 * a := by rw [IntKind.wrap_i64]; omega
      have w3 : IntKind.i64.wrap (100 * m + 10 * (a : Int)) = 100 * m + 10 * a := by rw [IntKind.wrap_i64]; omega
      have w4 : IntKind.i64.wrap (100 * m + 10 * (a : Int) + b) = 100 * m + 10 * a + b := by rw [IntKind.wrap_i64]; omega
      rw [w1, w2, w3, w4]
      cases decide (pg p < 0) <;> cases decide ((a : Int) ≥ 10) <;> cases decide ((b : Int) ≥ 10) <;> simp <;> omega
    · rw [decide_eq_false c8]
      left; rfl
  · rw [decide_eq_false c1]
    left; rfl
end Go.Proofs.Ytnhadghddkgjdaa.rem
