/-
  HeaderBack: plain facts of what is read.
-/
import Derived.Test.YthjdlanmfiofdaaDoorHdL
import Derived.Test.YthjdlanmfiofdaaDoorHdF
namespace Go.Proofs.YthjdlanmfiofdaaDoor.hd
open Go Go.Nx Go.Proofs.YthjdlanmfiofdaaDoor.pk Go.Proofs.YthjdlanmfiofdaaDoor.ln

theorem adr_all : ∀ m < 8, ∀ r < 32, get (adr0 (Int.ofNat m + 1) (Int.ofNat r)) ≠ none ∧ get (adr1 (Int.ofNat r)) ≠ none ∧ magOf (getN (adr0 (Int.ofNat m + 1) (Int.ofNat r))) = Int.ofNat m + 1 ∧ rowOf (getN (adr0 (Int.ofNat m + 1) (Int.ofNat r))) (getN (adr1 (Int.ofNat r))) = Int.ofNat r := by decide +kernel
theorem adr_of {M r : Int} (h : 1 ≤ M ∧ M ≤ 8 ∧ 0 ≤ r ∧ r ≤ 31) : magOf (getN (adr0 M r)) = M ∧ rowOf (getN (adr0 M r)) (getN (adr1 r)) = r := by
  have := adr_all (M - 1).toNat (by omega) r.toNat (by omega)
  have e1 : Int.ofNat (M - 1).toNat + 1 = M := by show (((M - 1).toNat : Nat) : Int) + 1 = M; omega
  have e2 : Int.ofNat r.toNat = r := by show ((r.toNat : Nat) : Int) = r; omega
  rw [e1, e2] at this
  exact this.2.2
theorem mgN_in (n : Int) : 1 ≤ mgN n ∧ mgN n ≤ 8 := by
  unfold mgN
  rw [IntKind.wrap_i64]
  omega
theorem fair_any (mg pg x : Int) (hm : 1 ≤ mg ∧ mg ≤ 8) (hp : 0 ≤ pg ∧ pg < 256) : fairB mg pg (aI x 16255) = true := by
  have h := any_in x
  have h2 := (andNot_iff (aI x 16255) ⟨by omega, by omega⟩).2 ⟨h.1, by have := any_eq x; omega, h.2.2⟩
  unfold fairB
  rw [dT (show mg ≥ 1 by omega), dT hm.2, dT (show pg ≥ 0 by omega), dT (show pg ≤ 255 by omega), h2]
  rfl
/-- A coded byte, turned, is the number that it was. -/
theorem get_turn (n b : Int) : get (bit8 (put n) b) = some (n % 16).toNat := get_flip n _ (u64_7 b)
theorem get_tbk (bs : List Int) (k : Nat) (n : Int) : get (tbk bs k (put n)) = some (n % 16).toNat := by
  unfold tbk
  cases (decide (k < 10) && decide (k < bs.length)) with
  | false => exact get_put n
  | true =>
    cases (aI (bs.getD k 0) 8 == 0) with
    | false => exact get_put n
    | true => exact get_turn n _
theorem getN_tbk (bs : List Int) (k : Nat) (n : Int) : getN (tbk bs k (put n)) = n % 16 := by
  unfold getN
  rw [get_tbk]
  show (((n % 16).toNat : Nat) : Int) = n % 16
  omega
theorem getB_tbk (bs : List Int) (k : Nat) (n : Int) : getB (tbk bs k (put n)) = true := by
  unfold getB
  rw [get_tbk]
  rfl
theorem tbk_id (bs : List Int) (k : Nat) (h : 10 ≤ k) (x : Int) : tbk bs k x = x := by
  unfold tbk
  rw [dF (show ¬ k < 10 by omega), Bool.false_and]
  rfl
theorem mapF_append (g : Nat → Int → Int) : ∀ (k : Nat) (xs ys : List Int), mapF g 0 k (xs ++ ys) = mapF g 0 k xs ++ mapF g 0 (k + xs.length) ys
  | _, [], _ => rfl
  | k, x :: xs, ys => by
    show _ :: mapF g 0 (k + 1) (xs ++ ys) = _ :: (mapF g 0 (k + 1) xs ++ _)
    rw [mapF_append g (k + 1) xs ys, show k + 1 + xs.length = k + (xs.length + 1) by omega]
    rfl
theorem mapF_id (g : Nat → Int → Int) : ∀ (k : Nat) (xs : List Int), (∀ j, k ≤ j → ∀ x, g j x = x) → mapF g 0 k xs = xs
  | _, [], _ => rfl
  | k, x :: xs, h => by
    show (bif Nat.blt k 0 then x else g k x) :: mapF g 0 (k + 1) xs = _
    rw [mapF_id g (k + 1) xs fun j hj => h j (by omega), blt_f (by omega), h k (Nat.le_refl _)]
    rfl
theorem fill_T (ds : List Int) (f : Nat) : ∀ (k : Nat) (xs T : List Int), xs.length = T.length → (∀ j, ds.getD (f + k + j) 0 = T.getD j 0) → fillP ds f 0 k xs = T
  | _, [], [], _, _ => rfl
  | _, [], _ :: _, h, _ => by simp at h
  | _, _ :: _, [], h, _ => by simp at h
  | k, x :: xs, y :: T, h, hd => by
    show (match Nat.blt k 0 with | true => x | false => ds.getD (f + k) 0) :: fillP ds f 0 (k + 1) xs = _
    rw [fill_T ds f (k + 1) xs T (by simpa using h) (fun j => by rw [show f + (k + 1) + j = f + k + (j + 1) by omega, hd (j + 1)]; rfl), blt_f (by omega)]
    have := hd 0
    rw [Nat.add_zero] at this
    show ds.getD (f + k) 0 :: T = _
    rw [this]
    rfl
/-- The ten coded bytes of a header, as they are turned. -/
noncomputable def tens (mg pg sb F : Int) (bs : List Int) : List Int := [tbk bs 0 (adr0 mg 0), tbk bs 1 (adr1 0), tbk bs 2 (put (aI pg 15)), tbk bs 3 (put (shrv .i64 pg 4)), tbk bs 4 (put (aI sb 15)), tbk bs 5 (put (nb3 sb (aI F 1))), tbk bs 6 (put (nb4 sb)), tbk bs 7 (put (nb5 sb (aI (shrv .i64 F 1) 3))), tbk bs 8 (put (aI (shrv .i64 F 3) 15)), tbk bs 9 (put (aI (shrv .i64 F 7) 15))]
noncomputable def eights (pg sb F : Int) (bs : List Int) : List Int := [tbk bs 2 (put (aI pg 15)), tbk bs 3 (put (shrv .i64 pg 4)), tbk bs 4 (put (aI sb 15)), tbk bs 5 (put (nb3 sb (aI F 1))), tbk bs 6 (put (nb4 sb)), tbk bs 7 (put (nb5 sb (aI (shrv .i64 F 1) 3))), tbk bs 8 (put (aI (shrv .i64 F 3) 15)), tbk bs 9 (put (aI (shrv .i64 F 7) 15))]
theorem trn_eq (mg pg sb f : Int) (T bs : List Int) : trnB mg pg sb f T bs = tens mg pg sb (flF f) bs ++ T := by
  have e : lstB mg pg sb f T = [adr0 mg 0, adr1 0, put (aI pg 15), put (shrv .i64 pg 4), put (aI sb 15), put (nb3 sb (aI (flF f) 1)), put (nb4 sb), put (nb5 sb (aI (shrv .i64 (flF f) 1) 3)), put (aI (shrv .i64 (flF f) 3) 15), put (aI (shrv .i64 (flF f) 7) 15)] ++ T := rfl
  unfold trnB
  rw [e, show (0 : Int).toNat = 0 from rfl, mapF_append, mapF_id (tbk bs) (0 + _) T fun j hj x => tbk_id bs j (by simpa using hj) x]
  rfl
theorem flF_bits (f : Int) : ckOf (flF f) 0 = ckOf f 0 ∧ ckOf (flF f) 1 = ckOf f 1 ∧ ckOf (flF f) 2 = ckOf f 2 ∧ ckOf (flF f) 3 = ckOf f 3 ∧ ckOf (flF f) 4 = ckOf f 4 ∧ ckOf (flF f) 5 = ckOf f 5 ∧ ckOf (flF f) 6 = ckOf f 6 ∧ ckOf (flF f) 7 = ckOf f 7 ∧ ckOf (flF f) 8 = ckOf f 8 ∧ ckOf (flF f) 9 = ckOf f 9 ∧ ckOf (flF f) 10 = ckOf f 10 := by
  have h : [ckOf (flF f) 0, ckOf (flF f) 1, ckOf (flF f) 2, ckOf (flF f) 3, ckOf (flF f) 4, ckOf (flF f) 5, ckOf (flF f) 6, ckOf (flF f) 7, ckOf (flF f) 8, ckOf (flF f) 9, ckOf (flF f) 10] = [ckOf f 0, ckOf f 1, ckOf f 2, ckOf f 3, ckOf f 4, ckOf f 5, ckOf f 6, ckOf f 7, ckOf f 8, ckOf f 9, ckOf f 10] := fl_bits (ckOf f 0) (ckOf f 1) (ckOf f 2) (ckOf f 3) (ckOf f 4) (ckOf f 5) (ckOf f 6) (ckOf f 7) (ckOf f 8) (ckOf f 9) (ckOf f 10)
  simpa only [List.cons.injEq, and_true] using h
/-- What eight coded bytes say. -/
theorem eights_say (pg sb F : Int) (bs T : List Int) (hp : 0 ≤ pg ∧ pg < 256) (hs : 0 ≤ sb ∧ sb < 16384 ∧ sb / 128 % 2 = 0) (hF : 0 ≤ F ∧ F < 2048) :
    pageOf (G (eights pg sb F bs ++ T) 0) (G (eights pg sb F bs ++ T) 1) = pg ∧ subOf (G (eights pg sb F bs ++ T) 2) (G (eights pg sb F bs ++ T) 3) (G (eights pg sb F bs ++ T) 4) (G (eights pg sb F bs ++ T) 5) = sb ∧ FL (eights pg sb F bs ++ T) = F := by
  have g0 : G (eights pg sb F bs ++ T) 0 = pg % 16 := by
    show getN (tbk bs 2 (put (aI pg 15))) = _
    rw [getN_tbk, aI_15]; omega
  have g1 : G (eights pg sb F bs ++ T) 1 = pg / 16 % 16 := by
    show getN (tbk bs 3 (put (shrv .i64 pg 4))) = _
    rw [getN_tbk, sh_4]
  have g2 : G (eights pg sb F bs ++ T) 2 = sb % 16 := by
    show getN (tbk bs 4 (put (aI sb 15))) = _
    rw [getN_tbk, aI_15]; omega
  have g3 : G (eights pg sb F bs ++ T) 3 = sb / 16 % 8 + F % 2 * 8 := by
    show getN (tbk bs 5 (put (nb3 sb (aI F 1)))) = _
    rw [getN_tbk, aI_1, nb3_eq _ _ (by omega)]; omega
  have g4 : G (eights pg sb F bs ++ T) 4 = sb / 256 % 16 := by
    show getN (tbk bs 6 (put (nb4 sb))) = _
    rw [getN_tbk, nb4_eq]; omega
  have g5 : G (eights pg sb F bs ++ T) 5 = sb / 4096 % 4 + F / 2 % 4 * 4 := by
    show getN (tbk bs 7 (put (nb5 sb (aI (shrv .i64 F 1) 3)))) = _
    rw [getN_tbk, sh_1, aI_3, nb5_eq _ _ (by omega)]; omega
  have g6 : G (eights pg sb F bs ++ T) 6 = F / 8 % 16 := by
    show getN (tbk bs 8 (put (aI (shrv .i64 F 3) 15))) = _
    rw [getN_tbk, sh_3, aI_15]; omega
  have g7 : G (eights pg sb F bs ++ T) 7 = F / 128 % 16 := by
    show getN (tbk bs 9 (put (aI (shrv .i64 F 7) 15))) = _
    rw [getN_tbk, sh_7, aI_15]; omega
  refine ⟨?_, ?_, ?_⟩
  · rw [g0, g1]; exact page_back pg hp
  · rw [g2, g3, g4, g5]; exact sub_back sb _ _ hs
  · unfold FL
    rw [g3, g5, g6, g7, sh_3, sh_2, show (sb / 16 % 8 + F % 2 * 8) / 8 = F % 2 by omega, show (sb / 4096 % 4 + F / 2 % 4 * 4) / 4 = F / 2 % 4 by omega]
    exact fl_back F hF
theorem optE_in {a b c : Bool} {K : Int → Prop} (h : K (optN a b c)) : optE a 0 fun o => optE b o fun o => optE c o fun o => K o := by
  cases a <;> cases b <;> cases c <;> exact h
end Go.Proofs.YthjdlanmfiofdaaDoor.hd
