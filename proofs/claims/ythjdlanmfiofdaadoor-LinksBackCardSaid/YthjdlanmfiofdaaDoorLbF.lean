/-
  LinksBack: the law.
-/
import Derived.Test.YthjdlanmfiofdaaDoorLbE
import Derived.Test.YthjdlanmfiofdaaDoorEng24
namespace Go.Proofs.YthjdlanmfiofdaaDoor.lb
open Go Go.Nx Go.Proofs.YthjdlanmfiofdaaDoor.pk Go.Proofs.YthjdlanmfiofdaaDoor.ln Go.Proofs.YthjdlanmfiofdaaDoor.hd

def isT (o : Out) : Prop := o.res = .v (.c (.b true))
theorem box_holds {t : Tr Out} {R : Out → Prop} (h : Box (t.run R)) : Holds t R := ⟨h.out⟩
theorem alike_of {W X : List (List Sc)} {a : Int} {j : Nat} {b : Bool} {x y z m p s : Int} (hb : b = !decide ((j : Int) = a / 6)) (h : (j : Int) ≠ a / 6 → x = m ∧ y = p ∧ z = s)
    (hX : X.getD j [] = [Sc.i (bif b then x else 0), Sc.i (bif b then y else 0), Sc.i (bif b then z else 0)]) (hW : W.getD j [] = [Sc.i m, Sc.i p, Sc.i s]) : alike W X a j := by
  intro c hc
  unfold vR
  rw [hX, hW, hb]
  by_cases hj : (j : Int) = a / 6
  · rw [dT hj]
    have : c = 0 ∨ c = 1 ∨ c = 2 := by omega
    rcases this with rfl | rfl | rfl <;> rfl
  · obtain ⟨rfl, rfl, rfl⟩ := h hj
    rw [dF hj]
    have : c = 0 ∨ c = 1 ∨ c = 2 := by omega
    rcases this with rfl | rfl | rfl <;> rfl
theorem rd_facts (l bs : List Int) (mg a : Int) (hg : 1 ≤ mg ∧ mg ≤ 8) : getB ((lstL l bs mg a).getD 0 0) = true ∧ getB ((lstL l bs mg a).getD 1 0) = true ∧ rowOf (getN ((lstL l bs mg a).getD 0 0)) (getN ((lstL l bs mg a).getD 1 0)) = 27 ∧ magOf (getN ((lstL l bs mg a).getD 0 0)) = mg ∧ getB (((lstL l bs mg a).drop 2).getD 0 0) = true ∧ getN (((lstL l bs mg a).drop 2).getD 0 0) = 0 := by
  have h := adr_of (M := mg) (r := 27) ⟨hg.1, hg.2, by decide, by decide⟩
  refine ⟨?_, ?_, ?_, ?_, ?_, ?_⟩
  · show getB (adr0 mg 27) = true
    unfold adr0
    exact getB_put _
  · show getB (adr1 27) = true
    unfold adr1
    exact getB_put _
  · exact h.2
  · exact h.1
  · show getB (put 0) = true
    exact getB_put 0
  · show getN (put 0) = 0
    rw [getN_put]
    rfl
theorem body_in {l bs : List Int} {mg a : Int} (hg : 1 ≤ mg ∧ mg ≤ 8) (ha : 0 ≤ a ∧ a < 36) : bodyL l bs mg a isT := by
  have rd := rd_facts l bs mg a hg
  unfold bodyL
  rw [rdL_eq]
  refine ⟨⟨⟨hg.1, hg.2, by decide, by decide, by decide, by decide⟩, fairL l 0, fairL l 1, fairL l 2, fairL l 3, fairL l 4, fairL l 5⟩, ⟨rfl, rfl, by decide, by decide⟩, ⟨rfl, rd.1, rd.2.1, rd.2.2.1, rd.2.2.2.2.1⟩, ⟨rfl, rd.2.2.2.2.2, by show 36 ≤ 39; decide, by show 39 < 1000; decide⟩, ⟨rfl, rfl, by decide, by decide, ha.1, ha.2, fun j _ hj => ?_⟩, rfl⟩
  rw [rd.2.2.2.1]
  have h6 : j = 0 ∨ j = 1 ∨ j = 2 ∨ j = 3 ∨ j = 4 ∨ j = 5 := by omega
  rcases h6 with rfl | rfl | rfl | rfl | rfl | rfl
  · exact alike_of (all_0 l bs mg a ha) (fun h => say_0 l bs mg a hg h) rfl rfl
  · exact alike_of (all_1 l bs mg a ha) (fun h => say_1 l bs mg a hg h) rfl rfl
  · exact alike_of (all_2 l bs mg a ha) (fun h => say_2 l bs mg a hg h) rfl rfl
  · exact alike_of (all_3 l bs mg a ha) (fun h => say_3 l bs mg a hg h) rfl rfl
  · exact alike_of (all_4 l bs mg a ha) (fun h => say_4 l bs mg a hg h) rfl rfl
  · exact alike_of (all_5 l bs mg a ha) (fun h => say_5 l bs mg a hg h) rfl rfl
theorem lback_true (n a : Int) (l bs : List Int) : Box ((t_lback [.c (.i .i64 n), .c (.l .i64 l), .c (.l .i64 bs), .c (.i .i64 a)] []).run isT) := by
  refine Box.of_eq (lback_tree n a l bs isT) ?_
  by_cases hl : l.length = 6
  · exact selF (by simp [bne, hl]) ⟨⟨by decide, by decide⟩, ⟨by decide, by decide⟩, selT (dT (by omega)) (selT (dT (by omega)) ⟨⟨by decide, by decide⟩, selT (dT (by omega)) (selT (dT (by omega)) ⟨⟨by decide, by decide⟩, selT (dT (by omega)) (selT (dT (by omega)) ⟨⟨by decide, by decide⟩, selT (dT (by omega)) (selT (dT (by omega)) ⟨⟨by decide, by decide⟩, selT (dT (by omega)) (selT (dT (by omega)) ⟨⟨by decide, by decide⟩, selT (dT (by omega)) (selT (dT (by omega)) ⟨⟨by decide, by decide⟩, body_in (wrap8_in n) ⟨by omega, by omega⟩⟩)⟩)⟩)⟩)⟩)⟩)⟩
  · exact selT (by rw [bne_iff_ne]; omega) rfl
def shsLB : List Sh := [.i .i64, .row .i64, .row .i64, .i .i64]
theorem lback_law (xs : List NV) (h : R2 ShOk shsLB xs) : Holds (t_lback xs []) fun o => o.res = .v (.c (.b true)) := by
  cases h with
  | cons h1 h =>
    cases h with
    | cons h2 h =>
      cases h with
      | cons h3 h =>
        cases h with
        | cons h4 h =>
          cases h
          cases h1 with
          | @i _ n1 _ =>
            cases h2 with
            | @row _ l _ =>
              cases h3 with
              | @row _ bs _ =>
                cases h4 with
                | @i _ n4 _ => exact box_holds (R := isT) (lback_true n1 n4 l bs)
end Go.Proofs.YthjdlanmfiofdaaDoor.lb
