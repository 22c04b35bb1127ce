/-
  Packets: the law PacketKinds.
-/
import Derived.Test.YtjjkbnipokpmcaaDoorPkO
namespace Go.Proofs.YtjjkbnipokpmcaaDoor.pk
open Go Go.Nx

noncomputable def xB (C bit : Int) : Int := x8 (put C) (one (ix bit))
noncomputable def rw2 (M r : Int) : Int := rowOf (getN (adr0 M r)) (getN (adr1 r))
def noE (r : Int) (R : Out → Prop) : Prop := sel (kindF r == 0) (sel (r == 25) (R (oB false)) (sel (r == 31) (R (oB false)) (R (oB false)))) (sel (decide (r < 26)) (R (oB false)) (R (oB false)))
noncomputable def kindsE (M r C bit : Int) (R : Out → Prop) : Prop :=
  sel (getB (adr0 M r) && getB (adr1 r))
    (sel (decide (kindF (rw2 M r) = 0)) (sel (kindF r == 0) (sel (r == 25) (R (oB true)) (sel (r == 31) (R (oB true)) (R (oB false)))) (sel (decide (r < 26)) (R (oB false)) (R (oB false))))
      (sel (decide (rw2 M r ≥ 26))
        (sel (getB (xB C bit)) (sel (kindF r == 0) (sel (r == 25) (R (oB false)) (sel (r == 31) (R (oB false)) (R (oB false)))) (sel (decide (r < 26)) (sel (getN (xB C bit) == 0) (R (oB (((39 : Nat) : Int) == 40))) (R (oB false))) (sel (getN (xB C bit) == C) (R (oB (kindF (rw2 M r) == kindF r))) (R (oB false))))) (noE r R))
        (sel (kindF r == 0) (sel (r == 25) (R (oB false)) (sel (r == 31) (R (oB false)) (R (oB false)))) (sel (decide (r < 26)) (R (oB (((40 : Nat) : Int) == 40))) (sel (0 == C) (R (oB false)) (R (oB false)))))))
    (noE r R)
def must16 : Prop := 0 < (16 : Int) ∧ (16 : Int) < 4611686018427387904
theorem kinds_tree (mag row code bit : Int) (R : Out → Prop) : (t_kinds [.c (.i .i64 mag), .c (.i .i64 row), .c (.i .i64 code), .c (.i .i64 bit)] []).run R =
    (must8 ∧ (must32 ∧ (must16 ∧ ((0 ≤ code % 16 ∧ code % 16 < 16) ∧ sel (decide (0 ≤ ix bit)) (((1 ≤ mM mag ∧ mM mag ≤ 8 ∧ 0 ≤ row % 32 ∧ row % 32 ≤ 31) ∧ (xB (code % 16) bit :: 77 :: List.replicate 38 0).length = 40) ∧ kindsE (mM mag) (row % 32) (code % 16) bit R) False)))) := by kernel_rfl
theorem kind_zero {r : Int} (h : 0 ≤ r ∧ r ≤ 31) (hk : kindF r = 0) : r = 25 ∨ r = 31 := by
  unfold kindF at hk
  by_cases c0 : r = 0
  · rw [dT c0] at hk
    have hk : (1 : Int) = 0 := hk
    omega
  · rw [dF c0] at hk
    by_cases c1 : r ≤ 24
    · rw [dT c1, dT (by omega : r ≥ 1)] at hk
      have hk : (2 : Int) = 0 := hk
      omega
    · rw [dF c1, Bool.and_false] at hk
      by_cases c2 : r ≥ 26 ∧ r ≤ 30
      · rw [dT c2.1, dT c2.2] at hk
        have hk : r - 23 = 0 := hk
        omega
      · omega
theorem kinds_in {M r code bit : Int} (hM : 1 ≤ M ∧ M ≤ 8) (hr : 0 ≤ r ∧ r ≤ 31) : kindsE M r (code % 16) bit fun o => o.res = .v (.c (.b true)) := by
  obtain ⟨a1, a2, -, a4⟩ := adr_of (M := M) (r := r) ⟨hM.1, hM.2, hr.1, hr.2⟩
  have e : rw2 M r = r := a4
  have g : get (xB (code % 16) bit) = some (code % 16).toNat := by
    unfold xB
    rw [flip1]
    have e1 : Int.ofNat (code % 16).toNat = code % 16 := by show (((code % 16).toNat : Nat) : Int) = _; omega
    rw [← get_all (code % 16).toNat (by omega), e1]
  have g1 : getB (xB (code % 16) bit) = true := by unfold getB; rw [g]; rfl
  have g2 : getN (xB (code % 16) bit) = code % 16 := by
    unfold getN
    rw [g]
    show (((code % 16).toNat : Nat) : Int) = _
    omega
  unfold kindsE
  rw [e, a1, a2, g1, g2]
  refine selT rfl ?_
  by_cases hk : kindF r = 0
  · refine selT (dT hk) (selT (by rw [beq_iff_eq]; exact hk) ?_)
    rcases kind_zero hr hk with rfl | rfl
    · exact selT rfl rfl
    · exact selF rfl (selT rfl rfl)
  · have hk' : (kindF r == 0) = false := by rw [beq_eq_false_iff_ne]; exact hk
    refine selF (dF hk) (sel_by (fun h => selT rfl (selF hk' (selF (dF (by omega)) (selT (beq_self_eq_true _) ?_)))) fun h => selF hk' (selT (dT (by omega)) rfl))
    show NS.v (.c (.b (kindF r == kindF r))) = _
    rw [beq_self_eq_true]
theorem kinds_true (mag row code bit : Int) : Box ((t_kinds [.c (.i .i64 mag), .c (.i .i64 row), .c (.i .i64 code), .c (.i .i64 bit)] []).run fun o => o.res = .v (.c (.b true))) := by
  refine Box.of_eq (kinds_tree mag row code bit _) ?_
  have hm := mM_in mag
  exact ⟨⟨by decide, by decide⟩, ⟨by decide, by decide⟩, ⟨by decide, by decide⟩, ⟨by omega, by omega⟩, selT (dT (by rw [ix_eq]; omega)) ⟨⟨⟨hm.1, hm.2, by omega, by omega⟩, rfl⟩, kinds_in hm ⟨by omega, by omega⟩⟩⟩
def shsKinds : List Sh := [.i .i64, .i .i64, .i .i64, .i .i64]
theorem kinds_law (xs : List NV) (h : R2 ShOk shsKinds xs) : Holds (t_kinds xs []) fun o => o.res = .v (.c (.b true)) := by
  cases h with
  | cons h1 h =>
    cases h with
    | cons h2 h =>
      cases h with
      | cons h3 h =>
        cases h with
        | cons h4 h =>
          cases h
          cases h1 with
          | @i _ n1 _ =>
            cases h2 with
            | @i _ n2 _ =>
              cases h3 with
              | @i _ n3 _ =>
                cases h4 with
                | @i _ n4 _ => exact Box.holds (kinds_true n1 n2 n3 n4)
end Go.Proofs.YtjjkbnipokpmcaaDoor.pk
