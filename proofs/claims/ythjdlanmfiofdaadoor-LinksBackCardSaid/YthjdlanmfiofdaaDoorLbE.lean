/-
  LinksBack: plain facts of what is read.
-/
import Derived.Test.YthjdlanmfiofdaaDoorLbD
namespace Go.Proofs.YthjdlanmfiofdaaDoor.lb
open Go Go.Nx Go.Proofs.YthjdlanmfiofdaaDoor.pk Go.Proofs.YthjdlanmfiofdaaDoor.ln Go.Proofs.YthjdlanmfiofdaaDoor.hd

theorem wrap8_in (n : Int) : 1 ≤ wrap8 n ∧ wrap8 n ≤ 8 := by
  unfold wrap8
  rw [IntKind.wrap_i64]
  omega
theorem mL_in (l : List Int) (j : Nat) : 1 ≤ mL l j ∧ mL l j ≤ 8 := by
  unfold mL
  rw [aI_7, IntKind.wrap_i64]
  omega
theorem pL_in (l : List Int) (j : Nat) : 0 ≤ pL l j ∧ pL l j < 256 := by
  have e : pL l j = shrv .i64 (wn l j) 3 % 2 ^ 8 := and_mask64 _ 8 (by decide)
  rw [e]
  omega
theorem fairL (l : List Int) (j : Nat) : fairB (mL l j) (pL l j) (sL l j) = true := fair_any _ _ _ (mL_in l j) (pL_in l j)
theorem xM_in (mg m : Int) : 0 ≤ xM mg m ∧ xM mg m < 8 := by
  have e : xM mg m = bits .xor .i64 mg m % 8 := and_mask64 _ 3 (by decide)
  rw [e]
  omega
theorem mag_all : ∀ g < 8, ∀ m < 8, magOf (bits .xor .i64 (aI (Int.ofNat g + 1) 7) (xM (Int.ofNat g + 1) (Int.ofNat m + 1))) = Int.ofNat m + 1 := by decide +kernel
theorem mag_back (mg m : Int) (hg : 1 ≤ mg ∧ mg ≤ 8) (hm : 1 ≤ m ∧ m ≤ 8) : magOf (bits .xor .i64 (aI mg 7) (xM mg m)) = m := by
  have := mag_all (mg - 1).toNat (by omega) (m - 1).toNat (by omega)
  have e1 : Int.ofNat (mg - 1).toNat + 1 = mg := by show (((mg - 1).toNat : Nat) : Int) + 1 = mg; omega
  have e2 : Int.ofNat (m - 1).toNat + 1 = m := by show (((m - 1).toNat : Nat) : Int) + 1 = m; omega
  rwa [e1, e2] at this
/-- A coded byte, turned once: the number that it was; turned twice: none. -/
theorem tlk_once (bs : List Int) (a : Int) (q : Nat) (n : Int) (hq : q < 36) (h : (q : Int) ≠ a) : get (tlk bs a (3 + q) (put n)) = some (n % 16).toNat := by
  unfold tlk
  rw [dT (show 3 ≤ 3 + q by omega), dT (show 3 + q < 39 by omega), show 3 + q - 3 = q by omega]
  have : ((q : Int) == a) = false := by simpa using h
  rw [this]
  have hk := kOf_in bs q
  show get (x8 (put n) (shlv .u8 1 (u1 (kOf bs q)))) = _
  rw [u1_in _ hk]
  exact get_flip n _ hk
theorem tlk_twice (bs : List Int) (a : Int) (q : Nat) (n : Int) (hq : q < 36) (h : (q : Int) = a) : getB (tlk bs a (3 + q) (put n)) = false := by
  unfold tlk
  rw [dT (show 3 ≤ 3 + q by omega), dT (show 3 + q < 39 by omega), show 3 + q - 3 = q by omega]
  have : ((q : Int) == a) = true := by simpa using h
  rw [this]
  have hk := kOf_in bs q
  show getB (x8 (x8 (put n) (shlv .u8 1 (u1 (kOf bs q)))) (shlv .u8 1 (u2 (kOf bs q)))) = _
  rw [u1_in _ hk, u2_eq _ hk]
  exact getB_flip2 n _ hk
theorem getN_tlk (bs : List Int) (a : Int) (q : Nat) (n : Int) (hq : q < 36) (h : (q : Int) ≠ a) : getN (tlk bs a (3 + q) (put n)) = n % 16 := by
  unfold getN
  rw [tlk_once bs a q n hq h]
  show (((n % 16).toNat : Nat) : Int) = n % 16
  omega
theorem getB_tlk (bs : List Int) (a : Int) (q : Nat) (n : Int) (hq : q < 36) : getB (tlk bs a (3 + q) (put n)) = !decide ((q : Int) = a) := by
  by_cases h : (q : Int) = a
  · rw [dT h]; exact tlk_twice bs a q n hq h
  · rw [dF h]
    unfold getB
    rw [tlk_once bs a q n hq h]
    rfl
/-- What six coded bytes say. -/
theorem grp_say {ds : List Int} {mg m p s : Int} {k : Nat} (hg : 1 ≤ mg ∧ mg ≤ 8) (hm : 1 ≤ m ∧ m ≤ 8) (hp : 0 ≤ p ∧ p < 256) (hs : 0 ≤ s ∧ s < 16384 ∧ s / 128 % 2 = 0)
    (h0 : G ds (6 * k) = aI p 15 % 16) (h1 : G ds (6 * k + 1) = shrv .i64 p 4 % 16) (h2 : G ds (6 * k + 2) = aI s 15 % 16) (h3 : G ds (6 * k + 3) = nb3 s (aI (xM mg m) 1) % 16) (h4 : G ds (6 * k + 4) = nb4 s % 16) (h5 : G ds (6 * k + 5) = nb5 s (shrv .i64 (xM mg m) 1) % 16) :
    lkM mg ds k = m ∧ lkP ds k = p ∧ lkS ds k = s := by
  have hx := xM_in mg m
  have hb := mag_back mg m hg hm
  generalize xM mg m = M at *
  have e3 : nb3 s (aI M 1) % 16 = s / 16 % 8 + M % 2 * 8 := by
    rw [aI_1, nb3_eq _ _ (by omega)]; omega
  have e5 : nb5 s (shrv .i64 M 1) % 16 = s / 4096 % 4 + M / 2 * 4 := by
    rw [sh_1, nb5_eq _ _ (by omega)]; omega
  refine ⟨?_, ?_, ?_⟩
  · unfold lkM
    rw [h3, h5, e3, e5, sh_3, sh_2, show (s / 16 % 8 + M % 2 * 8) / 8 = M % 2 by omega, show (s / 4096 % 4 + M / 2 * 4) / 4 = M / 2 by omega, or1 _ _ (by omega) (by omega) (by omega) (by omega), show M % 2 + M / 2 * 2 = M by omega]
    exact hb
  · unfold lkP
    rw [h0, h1, aI_15, sh_4, show p % 16 % 16 = p % 16 by omega]
    exact page_back p hp
  · unfold lkS
    rw [h2, h3, h4, h5, e3, e5, aI_15, nb4_eq, show s % 16 % 16 = s % 16 by omega, show s / 256 % 16 % 16 = s / 256 % 16 by omega]
    exact sub_back s _ _ hs
theorem all_not (q : Nat) (k : Int) (a : Int) (hq : (q : Int) = 6 * k) (ha : 0 ≤ a ∧ a < 36) : (!decide (((q : Nat) : Int) = a) && (!decide (((q + 1 : Nat) : Int) = a) && (!decide (((q + 2 : Nat) : Int) = a) && (!decide (((q + 3 : Nat) : Int) = a) && (!decide (((q + 4 : Nat) : Int) = a) && (!decide (((q + 5 : Nat) : Int) = a) && true)))))) = !decide (k = a / 6) := by
  have := ha.1
  by_cases h : k = a / 6
  · rw [dT h]
    have h6 : a = (q : Int) ∨ a = ((q + 1 : Nat) : Int) ∨ a = ((q + 2 : Nat) : Int) ∨ a = ((q + 3 : Nat) : Int) ∨ a = ((q + 4 : Nat) : Int) ∨ a = ((q + 5 : Nat) : Int) := by omega
    rcases h6 with h | h | h | h | h | h <;> rw [dT h.symm] <;> simp only [Bool.not_true, Bool.false_and, Bool.and_false]
  · rw [dF h, dF (by omega), dF (by omega), dF (by omega), dF (by omega), dF (by omega), dF (by omega)]
    rfl
noncomputable def lstL (l bs : List Int) (mg a : Int) : List Int := [adr0 mg 27, adr1 27, put 0, tlk bs a 3 (put (aI (pL l 0) 15)), tlk bs a 4 (put (shrv .i64 (pL l 0) 4)), tlk bs a 5 (put (aI (sL l 0) 15)), tlk bs a 6 (put (nb3 (sL l 0) (aI (xM mg (mL l 0)) 1))), tlk bs a 7 (put (nb4 (sL l 0))), tlk bs a 8 (put (nb5 (sL l 0) (shrv .i64 (xM mg (mL l 0)) 1))), tlk bs a 9 (put (aI (pL l 1) 15)), tlk bs a 10 (put (shrv .i64 (pL l 1) 4)), tlk bs a 11 (put (aI (sL l 1) 15)), tlk bs a 12 (put (nb3 (sL l 1) (aI (xM mg (mL l 1)) 1))), tlk bs a 13 (put (nb4 (sL l 1))), tlk bs a 14 (put (nb5 (sL l 1) (shrv .i64 (xM mg (mL l 1)) 1))), tlk bs a 15 (put (aI (pL l 2) 15)), tlk bs a 16 (put (shrv .i64 (pL l 2) 4)), tlk bs a 17 (put (aI (sL l 2) 15)), tlk bs a 18 (put (nb3 (sL l 2) (aI (xM mg (mL l 2)) 1))), tlk bs a 19 (put (nb4 (sL l 2))), tlk bs a 20 (put (nb5 (sL l 2) (shrv .i64 (xM mg (mL l 2)) 1))), tlk bs a 21 (put (aI (pL l 3) 15)), tlk bs a 22 (put (shrv .i64 (pL l 3) 4)), tlk bs a 23 (put (aI (sL l 3) 15)), tlk bs a 24 (put (nb3 (sL l 3) (aI (xM mg (mL l 3)) 1))), tlk bs a 25 (put (nb4 (sL l 3))), tlk bs a 26 (put (nb5 (sL l 3) (shrv .i64 (xM mg (mL l 3)) 1))), tlk bs a 27 (put (aI (pL l 4) 15)), tlk bs a 28 (put (shrv .i64 (pL l 4) 4)), tlk bs a 29 (put (aI (sL l 4) 15)), tlk bs a 30 (put (nb3 (sL l 4) (aI (xM mg (mL l 4)) 1))), tlk bs a 31 (put (nb4 (sL l 4))), tlk bs a 32 (put (nb5 (sL l 4) (shrv .i64 (xM mg (mL l 4)) 1))), tlk bs a 33 (put (aI (pL l 5) 15)), tlk bs a 34 (put (shrv .i64 (pL l 5) 4)), tlk bs a 35 (put (aI (sL l 5) 15)), tlk bs a 36 (put (nb3 (sL l 5) (aI (xM mg (mL l 5)) 1))), tlk bs a 37 (put (nb4 (sL l 5))), tlk bs a 38 (put (nb5 (sL l 5) (shrv .i64 (xM mg (mL l 5)) 1))), tlk bs a 39 (put 5), tlk bs a 40 0, tlk bs a 41 0]
theorem rdL_eq (l bs : List Int) (mg a : Int) : rdL l bs mg a = lstL l bs mg a := rfl
theorem sL_in (l : List Int) (j : Nat) : 0 ≤ sL l j ∧ sL l j < 16384 ∧ sL l j / 128 % 2 = 0 := any_in _
noncomputable def ds6 (l bs : List Int) (mg a : Int) : List Int := dsL (lstL l bs mg a)
theorem all_0 (l bs : List Int) (mg a : Int) (ha : 0 ≤ a ∧ a < 36) : ALLg (ds6 l bs mg a) 0 = !decide ((0 : Int) = a / 6) := by
  show (getB (tlk bs a (3 + 0) (put _)) && (getB (tlk bs a (3 + 1) (put _)) && (getB (tlk bs a (3 + 2) (put _)) && (getB (tlk bs a (3 + 3) (put _)) && (getB (tlk bs a (3 + 4) (put _)) && (getB (tlk bs a (3 + 5) (put _)) && true)))))) = _
  rw [getB_tlk bs a 0 _ (by decide), getB_tlk bs a 1 _ (by decide), getB_tlk bs a 2 _ (by decide), getB_tlk bs a 3 _ (by decide), getB_tlk bs a 4 _ (by decide), getB_tlk bs a 5 _ (by decide)]
  exact all_not (0 : Nat) 0 a rfl ha
theorem say_0 (l bs : List Int) (mg a : Int) (hg : 1 ≤ mg ∧ mg ≤ 8) (h : (0 : Int) ≠ a / 6) : lkM mg (ds6 l bs mg a) 0 = mL l 0 ∧ lkP (ds6 l bs mg a) 0 = pL l 0 ∧ lkS (ds6 l bs mg a) 0 = sL l 0 :=
  grp_say (k := 0) hg (mL_in l 0) (pL_in l 0) (sL_in l 0)
    (show getN (tlk bs a (3 + 0) (put (aI (pL l 0) 15))) = _ from getN_tlk bs a 0 _ (by decide) (by omega))
    (show getN (tlk bs a (3 + 1) (put (shrv .i64 (pL l 0) 4))) = _ from getN_tlk bs a 1 _ (by decide) (by omega))
    (show getN (tlk bs a (3 + 2) (put (aI (sL l 0) 15))) = _ from getN_tlk bs a 2 _ (by decide) (by omega))
    (show getN (tlk bs a (3 + 3) (put (nb3 (sL l 0) (aI (xM mg (mL l 0)) 1)))) = _ from getN_tlk bs a 3 _ (by decide) (by omega))
    (show getN (tlk bs a (3 + 4) (put (nb4 (sL l 0)))) = _ from getN_tlk bs a 4 _ (by decide) (by omega))
    (show getN (tlk bs a (3 + 5) (put (nb5 (sL l 0) (shrv .i64 (xM mg (mL l 0)) 1)))) = _ from getN_tlk bs a 5 _ (by decide) (by omega))
theorem all_1 (l bs : List Int) (mg a : Int) (ha : 0 ≤ a ∧ a < 36) : ALLg (ds6 l bs mg a) 1 = !decide ((1 : Int) = a / 6) := by
  show (getB (tlk bs a (3 + 6) (put _)) && (getB (tlk bs a (3 + 7) (put _)) && (getB (tlk bs a (3 + 8) (put _)) && (getB (tlk bs a (3 + 9) (put _)) && (getB (tlk bs a (3 + 10) (put _)) && (getB (tlk bs a (3 + 11) (put _)) && true)))))) = _
  rw [getB_tlk bs a 6 _ (by decide), getB_tlk bs a 7 _ (by decide), getB_tlk bs a 8 _ (by decide), getB_tlk bs a 9 _ (by decide), getB_tlk bs a 10 _ (by decide), getB_tlk bs a 11 _ (by decide)]
  exact all_not (6 : Nat) 1 a rfl ha
theorem say_1 (l bs : List Int) (mg a : Int) (hg : 1 ≤ mg ∧ mg ≤ 8) (h : (1 : Int) ≠ a / 6) : lkM mg (ds6 l bs mg a) 1 = mL l 1 ∧ lkP (ds6 l bs mg a) 1 = pL l 1 ∧ lkS (ds6 l bs mg a) 1 = sL l 1 :=
  grp_say (k := 1) hg (mL_in l 1) (pL_in l 1) (sL_in l 1)
    (show getN (tlk bs a (3 + 6) (put (aI (pL l 1) 15))) = _ from getN_tlk bs a 6 _ (by decide) (by omega))
    (show getN (tlk bs a (3 + 7) (put (shrv .i64 (pL l 1) 4))) = _ from getN_tlk bs a 7 _ (by decide) (by omega))
    (show getN (tlk bs a (3 + 8) (put (aI (sL l 1) 15))) = _ from getN_tlk bs a 8 _ (by decide) (by omega))
    (show getN (tlk bs a (3 + 9) (put (nb3 (sL l 1) (aI (xM mg (mL l 1)) 1)))) = _ from getN_tlk bs a 9 _ (by decide) (by omega))
    (show getN (tlk bs a (3 + 10) (put (nb4 (sL l 1)))) = _ from getN_tlk bs a 10 _ (by decide) (by omega))
    (show getN (tlk bs a (3 + 11) (put (nb5 (sL l 1) (shrv .i64 (xM mg (mL l 1)) 1)))) = _ from getN_tlk bs a 11 _ (by decide) (by omega))
theorem all_2 (l bs : List Int) (mg a : Int) (ha : 0 ≤ a ∧ a < 36) : ALLg (ds6 l bs mg a) 2 = !decide ((2 : Int) = a / 6) := by
  show (getB (tlk bs a (3 + 12) (put _)) && (getB (tlk bs a (3 + 13) (put _)) && (getB (tlk bs a (3 + 14) (put _)) && (getB (tlk bs a (3 + 15) (put _)) && (getB (tlk bs a (3 + 16) (put _)) && (getB (tlk bs a (3 + 17) (put _)) && true)))))) = _
  rw [getB_tlk bs a 12 _ (by decide), getB_tlk bs a 13 _ (by decide), getB_tlk bs a 14 _ (by decide), getB_tlk bs a 15 _ (by decide), getB_tlk bs a 16 _ (by decide), getB_tlk bs a 17 _ (by decide)]
  exact all_not (12 : Nat) 2 a rfl ha
theorem say_2 (l bs : List Int) (mg a : Int) (hg : 1 ≤ mg ∧ mg ≤ 8) (h : (2 : Int) ≠ a / 6) : lkM mg (ds6 l bs mg a) 2 = mL l 2 ∧ lkP (ds6 l bs mg a) 2 = pL l 2 ∧ lkS (ds6 l bs mg a) 2 = sL l 2 :=
  grp_say (k := 2) hg (mL_in l 2) (pL_in l 2) (sL_in l 2)
    (show getN (tlk bs a (3 + 12) (put (aI (pL l 2) 15))) = _ from getN_tlk bs a 12 _ (by decide) (by omega))
    (show getN (tlk bs a (3 + 13) (put (shrv .i64 (pL l 2) 4))) = _ from getN_tlk bs a 13 _ (by decide) (by omega))
    (show getN (tlk bs a (3 + 14) (put (aI (sL l 2) 15))) = _ from getN_tlk bs a 14 _ (by decide) (by omega))
    (show getN (tlk bs a (3 + 15) (put (nb3 (sL l 2) (aI (xM mg (mL l 2)) 1)))) = _ from getN_tlk bs a 15 _ (by decide) (by omega))
    (show getN (tlk bs a (3 + 16) (put (nb4 (sL l 2)))) = _ from getN_tlk bs a 16 _ (by decide) (by omega))
    (show getN (tlk bs a (3 + 17) (put (nb5 (sL l 2) (shrv .i64 (xM mg (mL l 2)) 1)))) = _ from getN_tlk bs a 17 _ (by decide) (by omega))
theorem all_3 (l bs : List Int) (mg a : Int) (ha : 0 ≤ a ∧ a < 36) : ALLg (ds6 l bs mg a) 3 = !decide ((3 : Int) = a / 6) := by
  show (getB (tlk bs a (3 + 18) (put _)) && (getB (tlk bs a (3 + 19) (put _)) && (getB (tlk bs a (3 + 20) (put _)) && (getB (tlk bs a (3 + 21) (put _)) && (getB (tlk bs a (3 + 22) (put _)) && (getB (tlk bs a (3 + 23) (put _)) && true)))))) = _
  rw [getB_tlk bs a 18 _ (by decide), getB_tlk bs a 19 _ (by decide), getB_tlk bs a 20 _ (by decide), getB_tlk bs a 21 _ (by decide), getB_tlk bs a 22 _ (by decide), getB_tlk bs a 23 _ (by decide)]
  exact all_not (18 : Nat) 3 a rfl ha
theorem say_3 (l bs : List Int) (mg a : Int) (hg : 1 ≤ mg ∧ mg ≤ 8) (h : (3 : Int) ≠ a / 6) : lkM mg (ds6 l bs mg a) 3 = mL l 3 ∧ lkP (ds6 l bs mg a) 3 = pL l 3 ∧ lkS (ds6 l bs mg a) 3 = sL l 3 :=
  grp_say (k := 3) hg (mL_in l 3) (pL_in l 3) (sL_in l 3)
    (show getN (tlk bs a (3 + 18) (put (aI (pL l 3) 15))) = _ from getN_tlk bs a 18 _ (by decide) (by omega))
    (show getN (tlk bs a (3 + 19) (put (shrv .i64 (pL l 3) 4))) = _ from getN_tlk bs a 19 _ (by decide) (by omega))
    (show getN (tlk bs a (3 + 20) (put (aI (sL l 3) 15))) = _ from getN_tlk bs a 20 _ (by decide) (by omega))
    (show getN (tlk bs a (3 + 21) (put (nb3 (sL l 3) (aI (xM mg (mL l 3)) 1)))) = _ from getN_tlk bs a 21 _ (by decide) (by omega))
    (show getN (tlk bs a (3 + 22) (put (nb4 (sL l 3)))) = _ from getN_tlk bs a 22 _ (by decide) (by omega))
    (show getN (tlk bs a (3 + 23) (put (nb5 (sL l 3) (shrv .i64 (xM mg (mL l 3)) 1)))) = _ from getN_tlk bs a 23 _ (by decide) (by omega))
theorem all_4 (l bs : List Int) (mg a : Int) (ha : 0 ≤ a ∧ a < 36) : ALLg (ds6 l bs mg a) 4 = !decide ((4 : Int) = a / 6) := by
  show (getB (tlk bs a (3 + 24) (put _)) && (getB (tlk bs a (3 + 25) (put _)) && (getB (tlk bs a (3 + 26) (put _)) && (getB (tlk bs a (3 + 27) (put _)) && (getB (tlk bs a (3 + 28) (put _)) && (getB (tlk bs a (3 + 29) (put _)) && true)))))) = _
  rw [getB_tlk bs a 24 _ (by decide), getB_tlk bs a 25 _ (by decide), getB_tlk bs a 26 _ (by decide), getB_tlk bs a 27 _ (by decide), getB_tlk bs a 28 _ (by decide), getB_tlk bs a 29 _ (by decide)]
  exact all_not (24 : Nat) 4 a rfl ha
theorem say_4 (l bs : List Int) (mg a : Int) (hg : 1 ≤ mg ∧ mg ≤ 8) (h : (4 : Int) ≠ a / 6) : lkM mg (ds6 l bs mg a) 4 = mL l 4 ∧ lkP (ds6 l bs mg a) 4 = pL l 4 ∧ lkS (ds6 l bs mg a) 4 = sL l 4 :=
  grp_say (k := 4) hg (mL_in l 4) (pL_in l 4) (sL_in l 4)
    (show getN (tlk bs a (3 + 24) (put (aI (pL l 4) 15))) = _ from getN_tlk bs a 24 _ (by decide) (by omega))
    (show getN (tlk bs a (3 + 25) (put (shrv .i64 (pL l 4) 4))) = _ from getN_tlk bs a 25 _ (by decide) (by omega))
    (show getN (tlk bs a (3 + 26) (put (aI (sL l 4) 15))) = _ from getN_tlk bs a 26 _ (by decide) (by omega))
    (show getN (tlk bs a (3 + 27) (put (nb3 (sL l 4) (aI (xM mg (mL l 4)) 1)))) = _ from getN_tlk bs a 27 _ (by decide) (by omega))
    (show getN (tlk bs a (3 + 28) (put (nb4 (sL l 4)))) = _ from getN_tlk bs a 28 _ (by decide) (by omega))
    (show getN (tlk bs a (3 + 29) (put (nb5 (sL l 4) (shrv .i64 (xM mg (mL l 4)) 1)))) = _ from getN_tlk bs a 29 _ (by decide) (by omega))
theorem all_5 (l bs : List Int) (mg a : Int) (ha : 0 ≤ a ∧ a < 36) : ALLg (ds6 l bs mg a) 5 = !decide ((5 : Int) = a / 6) := by
  show (getB (tlk bs a (3 + 30) (put _)) && (getB (tlk bs a (3 + 31) (put _)) && (getB (tlk bs a (3 + 32) (put _)) && (getB (tlk bs a (3 + 33) (put _)) && (getB (tlk bs a (3 + 34) (put _)) && (getB (tlk bs a (3 + 35) (put _)) && true)))))) = _
  rw [getB_tlk bs a 30 _ (by decide), getB_tlk bs a 31 _ (by decide), getB_tlk bs a 32 _ (by decide), getB_tlk bs a 33 _ (by decide), getB_tlk bs a 34 _ (by decide), getB_tlk bs a 35 _ (by decide)]
  exact all_not (30 : Nat) 5 a rfl ha
theorem say_5 (l bs : List Int) (mg a : Int) (hg : 1 ≤ mg ∧ mg ≤ 8) (h : (5 : Int) ≠ a / 6) : lkM mg (ds6 l bs mg a) 5 = mL l 5 ∧ lkP (ds6 l bs mg a) 5 = pL l 5 ∧ lkS (ds6 l bs mg a) 5 = sL l 5 :=
  grp_say (k := 5) hg (mL_in l 5) (pL_in l 5) (sL_in l 5)
    (show getN (tlk bs a (3 + 30) (put (aI (pL l 5) 15))) = _ from getN_tlk bs a 30 _ (by decide) (by omega))
    (show getN (tlk bs a (3 + 31) (put (shrv .i64 (pL l 5) 4))) = _ from getN_tlk bs a 31 _ (by decide) (by omega))
    (show getN (tlk bs a (3 + 32) (put (aI (sL l 5) 15))) = _ from getN_tlk bs a 32 _ (by decide) (by omega))
    (show getN (tlk bs a (3 + 33) (put (nb3 (sL l 5) (aI (xM mg (mL l 5)) 1)))) = _ from getN_tlk bs a 33 _ (by decide) (by omega))
    (show getN (tlk bs a (3 + 34) (put (nb4 (sL l 5)))) = _ from getN_tlk bs a 34 _ (by decide) (by omega))
    (show getN (tlk bs a (3 + 35) (put (nb5 (sL l 5) (shrv .i64 (xM mg (mL l 5)) 1)))) = _ from getN_tlk bs a 35 _ (by decide) (by omega))
end Go.Proofs.YthjdlanmfiofdaaDoor.lb
