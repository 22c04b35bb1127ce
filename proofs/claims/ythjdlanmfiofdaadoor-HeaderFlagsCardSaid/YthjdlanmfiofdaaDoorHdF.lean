/-
  A header's flags as a number, a place that may be: plain facts.
-/
import Derived.Test.YthjdlanmfiofdaaDoorHdQ
namespace Go.Proofs.YthjdlanmfiofdaaDoor.hd
open Go Go.Nx Go.Proofs.YthjdlanmfiofdaaDoor.pk

theorem fl_in : ∀ c0 c1 c2 c3 c4 c5 c6 c7 c8 c9 c10 : Bool, 0 ≤ flN c0 c1 c2 c3 c4 c5 c6 c7 c8 c9 c10 ∧ flN c0 c1 c2 c3 c4 c5 c6 c7 c8 c9 c10 < 2048 := by decide +kernel
theorem fl_bits : ∀ c0 c1 c2 c3 c4 c5 c6 c7 c8 c9 c10 : Bool, (List.range 11).map (fun k => ckOf (flN c0 c1 c2 c3 c4 c5 c6 c7 c8 c9 c10) (Int.ofNat k)) = [c0, c1, c2, c3, c4, c5, c6, c7, c8, c9, c10] := by decide +kernel
theorem fl_back (f : Int) (h : 0 ≤ f ∧ f < 2048) : flOf (f % 2) (f / 2 % 4) (f / 8 % 16) (f / 128 % 16) = f := by
  unfold flOf
  rw [or1 _ _ (by omega) (by omega) (by omega) (by omega), or3 _ _ (by omega) (by omega) (by omega) (by omega), or7 _ _ (by omega) (by omega) (by omega) (by omega)]
  omega
end Go.Proofs.YthjdlanmfiofdaaDoor.hd
