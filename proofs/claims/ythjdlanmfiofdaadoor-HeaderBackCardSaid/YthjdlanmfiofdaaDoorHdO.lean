/-
  HeaderBack: the law.
-/
import Derived.Test.YthjdlanmfiofdaaDoorHdM
import Derived.Test.YthjdlanmfiofdaaDoorEng24
namespace Go.Proofs.YthjdlanmfiofdaaDoor.hd
open Go Go.Nx Go.Proofs.YthjdlanmfiofdaaDoor.pk Go.Proofs.YthjdlanmfiofdaaDoor.ln

def isT (o : Out) : Prop := o.res = .v (.c (.b true))
theorem box_holds {t : Tr Out} {R : Out → Prop} (h : Box (t.run R)) : Holds t R := ⟨h.out⟩
theorem adr0_put (mg : Int) : ∃ n, adr0 mg 0 = put n := ⟨_, rfl⟩
theorem tens_rd (mg pg sb F : Int) (bs T : List Int) (hm : 1 ≤ mg ∧ mg ≤ 8) : getB ((tens mg pg sb F bs ++ T).getD 0 0) = true ∧ getB ((tens mg pg sb F bs ++ T).getD 1 0) = true ∧ rowOf (getN ((tens mg pg sb F bs ++ T).getD 0 0)) (getN ((tens mg pg sb F bs ++ T).getD 1 0)) = 0 ∧ magOf (getN ((tens mg pg sb F bs ++ T).getD 0 0)) = mg := by
  have a := adr_of (M := mg) (r := 0) ⟨hm.1, hm.2, by decide, by decide⟩
  have n0 : getN (tbk bs 0 (adr0 mg 0)) = getN (adr0 mg 0) := by
    unfold adr0
    rw [getN_tbk, getN_put]
  have n1 : getN (tbk bs 1 (adr1 0)) = getN (adr1 0) := by
    unfold adr1
    rw [getN_tbk, getN_put]
  refine ⟨?_, ?_, ?_, ?_⟩
  · show getB (tbk bs 0 (adr0 mg 0)) = true
    unfold adr0
    exact getB_tbk _ _ _
  · show getB (tbk bs 1 (adr1 0)) = true
    unfold adr1
    exact getB_tbk _ _ _
  · show rowOf (getN (tbk bs 0 (adr0 mg 0))) (getN (tbk bs 1 (adr1 0))) = 0
    rw [n0, n1]
    exact a.2
  · show magOf (getN (tbk bs 0 (adr0 mg 0))) = mg
    rw [n0]
    exact a.1
theorem all_eights (pg sb F : Int) (bs T : List Int) : (B8 (eights pg sb F bs ++ T)).all getB = true := by
  show (_ && (_ && (_ && (_ && (_ && (_ && (_ && (_ && true)))))))) = true
  have h : ∀ k n, getB (tbk bs k (put n)) = true := fun k n => getB_tbk bs k n
  show (getB (tbk bs 2 (put _)) && (getB (tbk bs 3 (put _)) && (getB (tbk bs 4 (put _)) && (getB (tbk bs 5 (put _)) && (getB (tbk bs 6 (put _)) && (getB (tbk bs 7 (put _)) && (getB (tbk bs 8 (put _)) && (getB (tbk bs 9 (put _)) && true)))))))) = true
  rw [h, h, h, h, h, h, h, h]
  rfl
theorem getD_app (a b : List Int) (j : Nat) : (a ++ b).getD (a.length + j) 0 = b.getD j 0 := by
  rw [List.getD_eq_getElem?_getD, List.getD_eq_getElem?_getD, List.getElem?_append_right (Nat.le_add_right _ _), Nat.add_sub_cancel_left]
theorem T32_eq (pg sb F : Int) (bs T : List Int) (hT : T.length = 32) : T32 (eights pg sb F bs ++ T) = T := by
  unfold T32
  refine fill_T _ 8 0 _ T (by rw [List.length_replicate]; exact hT.symm) fun j => ?_
  rw [show 8 + 0 + j = (eights pg sb F bs).length + j by rfl, getD_app]
theorem body_in {mg pg f x : Int} {T bs : List Int} (hm : 1 ≤ mg ∧ mg ≤ 8) (hp : 0 ≤ pg ∧ pg < 256) (hT : T.length = 32) : bodyB mg pg (aI x 16255) f T bs isT := by
  have hs := any_in x
  have hf := fair_any mg pg x hm hp
  generalize aI x 16255 = sb at *
  have hq : qB pg sb f T = 42 := by
    unfold qB
    rw [hbL_len, hT]
  have hl : (lstB mg pg sb f T).length = 42 := by
    show (hb pg sb (flF f) ++ T).length + 1 + 1 = 42
    rw [hbL_len, hT]
  have ht : trnB mg pg sb f T bs = tens mg pg sb (flF f) bs ++ T := trn_eq mg pg sb f T bs
  have htl : (trnB mg pg sb f T bs).length = 42 := by
    rw [ht, List.length_append, hT]
    rfl
  have hr : rdB mg pg sb f T bs = tens mg pg sb (flF f) bs ++ T := by
    unfold rdB
    rw [List.drop_zero, hq, ht, List.take_of_length_le (by rw [← ht, htl]; exact Nat.le_refl _)]
  have hd : (tens mg pg sb (flF f) bs ++ T).drop 2 = eights pg sb (flF f) bs ++ T := rfl
  have hdl : (eights pg sb (flF f) bs ++ T).length = 40 := by
    rw [List.length_append, hT]
    rfl
  have hds : dsB (tens mg pg sb (flF f) bs ++ T) = eights pg sb (flF f) bs ++ T := by
    unfold dsB
    rw [hd, List.drop_zero, List.take_length]
  have rd := tens_rd mg pg sb (flF f) bs T hm
  have hF := fl_in (ckOf f 0) (ckOf f 1) (ckOf f 2) (ckOf f 3) (ckOf f 4) (ckOf f 5) (ckOf f 6) (ckOf f 7) (ckOf f 8) (ckOf f 9) (ckOf f 10)
  have es := eights_say pg sb (flF f) bs T hp hs hF
  obtain ⟨k0, k1, k2, k3, k4, k5, k6, k7, k8, k9, k10⟩ := flF_bits f
  unfold bodyB
  refine ⟨⟨hf, hT⟩, selF (by rw [hq]; rfl) ⟨⟨hl, hq, by decide, by decide⟩, selT (dT (by rw [hq, htl]; exact Nat.le_refl _)) ?_⟩⟩
  rw [hr]
  refine ⟨⟨by rw [← ht]; exact htl, rd.1, rd.2.1, rd.2.2.1⟩, ?_⟩
  rw [hd, hds]
  refine selT (dT (by omega)) ⟨⟨rfl, hdl, all_eights pg sb (flF f) bs T⟩, ?_⟩
  refine optE_in ?_
  unfold leafB
  rw [hds]
  refine ⟨?_, ⟨?_, ?_⟩, rfl⟩
  · unfold hdC
    rw [rd.2.2.2, es.1, es.2.1, es.2.2, k0, k1, k2, k3, k4, k5, k6, k7, k8, k9, k10]
  · rw [T32_eq pg sb (flF f) bs T hT, List.drop_zero, ← hT, List.take_length]
  · rw [T32_eq pg sb (flF f) bs T hT, List.drop_zero, ← hT, List.take_length]
    omega
theorem hback_true (n1 n2 n3 f : Int) (T bs : List Int) : Box ((t_hback [.c (.i .i64 n1), .c (.i .i64 n2), .c (.i .i64 n3), .c (.i .i64 f), .c (.l .u8 T), .c (.l .i64 bs)] []).run isT) := by
  refine Box.of_eq (hback_tree n1 n2 n3 f T bs isT) ?_
  by_cases hT : T.length = 32
  · exact selF (by simp [bne, hT]) ⟨⟨by decide, by decide⟩, ⟨by decide, by decide⟩, body_in (mgN_in n1) ⟨by omega, by omega⟩ hT⟩
  · exact selT (by rw [bne_iff_ne]; omega) rfl
def shsHB : List Sh := [.i .i64, .i .i64, .i .i64, .i .i64, .row .u8, .row .i64]
theorem hback_law (xs : List NV) (h : R2 ShOk shsHB xs) : Holds (t_hback xs []) fun o => o.res = .v (.c (.b true)) := by
  cases h with
  | cons h1 h =>
    cases h with
    | cons h2 h =>
      cases h with
      | cons h3 h =>
        cases h with
        | cons h4 h =>
          cases h with
          | cons h5 h =>
            cases h with
            | cons h6 h =>
              cases h
              cases h1 with
              | @i _ n1 _ =>
                cases h2 with
                | @i _ n2 _ =>
                  cases h3 with
                  | @i _ n3 _ =>
                    cases h4 with
                    | @i _ n4 _ =>
                      cases h5 with
                      | @row _ ds _ =>
                        cases h6 with
                        | @row _ bs _ => exact box_holds (R := isT) (hback_true n1 n2 n3 n4 ds bs)
end Go.Proofs.YthjdlanmfiofdaaDoor.hd
