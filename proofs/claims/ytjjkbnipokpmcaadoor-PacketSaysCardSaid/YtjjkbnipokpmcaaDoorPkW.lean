/-
  Packets: the law PacketSays: the law.
-/
import Derived.Test.YtjjkbnipokpmcaaDoorPkV
namespace Go.Proofs.YtjjkbnipokpmcaaDoor.pk
open Go Go.Nx

def isT : Out → Prop := fun o => o.res = .v (.c (.b true))
theorem LL_eq (l : List Int) : LL l = l := by unfold LL; rw [List.drop_zero, List.take_length]
theorem same_e {bs l : List Int} {code : Option Int} {X : Prop} (hl : l.length ≤ 1000000) (hX : X) : sameE bs l code X isT := by
  unfold sameE
  rw [LL_eq]
  refine selT (dT (by omega)) (selT (dT (by omega)) (selT (beq_self_eq_true _) (selT (beq_self_eq_true _) (selT (beq_self_eq_true _) ?_))))
  cases code with
  | none => exact ⟨hl, selF (by rw [beq_self_eq_true]; rfl) hX⟩
  | some c => exact selT (beq_self_eq_true _) ⟨hl, selF (by rw [beq_self_eq_true]; rfl) hX⟩
theorem SE_in {bs : List Int} {X : Prop} (h60 : bs.length ≤ 60) (hX : X) (j : Nat) : SE bs X isT j := by
  unfold SE
  split
  · exact ⟨by decide, hX⟩
  · exact ⟨by decide, hX⟩
  · exact ⟨by decide, hX⟩
  · exact same_e (by simp; omega) hX
  · exact ⟨by decide, hX⟩
  · exact same_e (by simp; omega) hX
theorem q_all : ∀ m < 8, ∀ r < 32, (0 ≤ q0 (Int.ofNat m + 1) (Int.ofNat r) ∧ q0 (Int.ofNat m + 1) (Int.ofNat r) < 16) ∧ (0 ≤ q1 (Int.ofNat r) ∧ q1 (Int.ofNat r) < 16) ∧ put (q0 (Int.ofNat m + 1) (Int.ofNat r)) = adr0 (Int.ofNat m + 1) (Int.ofNat r) := by decide +kernel
theorem pack_in {mag row : Int} {ds : List Int} (h : 1 ≤ mag ∧ mag ≤ 8 ∧ 0 ≤ row ∧ row ≤ 31) (h40 : ds.length = 40) : packE mag row ds isT := by
  have hq := q_all (mag - 1).toNat (by omega) row.toNat (by omega)
  have e1 : Int.ofNat (mag - 1).toNat + 1 = mag := by show (((mag - 1).toNat : Nat) : Int) + 1 = mag; omega
  have e2 : Int.ofNat row.toNat = row := by show ((row.toNat : Nat) : Int) = row; omega
  rw [e1, e2] at hq
  unfold packE
  rw [bytes1]
  refine ⟨hq.1, hq.2.1, selT (dT (by omega)) (selT (dT (by omega)) (selT (dT (by simp; omega)) (selT (dT (by simp; omega)) ⟨?_, ?_⟩)))⟩
  · unfold PA
    rw [List.drop_zero, List.length_take]
    simp; omega
  · have e : PA mag row ds = PQ mag row ds := by
      unfold PA PQ
      rw [hq.2.2]
      rfl
    show NS.v (.c (.b (PA mag row ds == PQ mag row ds))) = _
    rw [e, beq_self_eq_true]
theorem ok_in {row : Int} {X : Prop} (hX : X) : okE row X isT := by
  unfold okE
  exact selF (by simp [bne]) hX
theorem want_in {bs ds : List Int} {mag row : Int} {j c : Nat} (h60 : bs.length ≤ 60) (hc : cb mag row ds = c) : wantE bs mag row ds isT j c := by
  unfold cb at hc
  unfold wantE
  cases hk : okMR mag row with
  | false =>
    rw [if_pos hk] at hc
    subst hc
    have F : SE bs (FE mag row ds isT 0 0) isT j := SE_in h60 (ok_in rfl) j
    have hk' := of_decide_eq_false hk
    refine sel_by (fun _ => F) fun h1 => sel_by (fun _ => F) fun h2 => sel_by (fun _ => F) fun h3 => sel_by (fun _ => F) fun h4 => ?_
    exact (hk' ⟨by omega, by omega, by omega, by omega⟩).elim
  | true =>
    rw [if_neg (by rw [hk]; decide)] at hc
    have hk' := of_decide_eq_true hk
    refine selF (dF (by omega)) (selF (dF (by omega)) (selF (dF (by omega)) (selF (dF (by omega)) ?_)))
    by_cases h40 : ds.length = 40
    · rw [if_neg (by omega)] at hc
      subst hc
      exact selF (by simp [bne, h40]) (SE_in h60 (ok_in (pack_in hk' h40)) j)
    · rw [if_pos h40] at hc
      subst hc
      exact selT (by rw [bne_iff_ne]; omega) (SE_in h60 (ok_in rfl) j)
theorem says_in {bs ds : List Int} {mag row : Int} {j c : Nat} (hj : cls bs = j) (hc : cb mag row ds = c) : saysE bs mag row ds isT j c := by
  unfold saysE
  refine sel_by (fun _ => rfl) fun h1 => sel_by (fun _ => rfl) fun h2 => ⟨hj, hj, hc, want_in (by omega) hc⟩
theorem cls_le (bs : List Int) : cls bs = 0 ∨ cls bs = 1 ∨ cls bs = 2 ∨ cls bs = 3 ∨ cls bs = 4 ∨ cls bs = 5 := by
  unfold cls
  repeat' split
  all_goals simp
theorem cb_le (mag row : Int) (ds : List Int) : cb mag row ds = 0 ∨ cb mag row ds = 1 ∨ cb mag row ds = 2 := by
  unfold cb
  repeat' split
  all_goals simp
/-- One of several trees, by what came in. -/
theorem Known_pick {P : Program} {gl : List Nat} {f : FuncId} {ι : Type} {T : ι → Con} (h : ∀ i, Known P gl f (T i)) (p : List NV → List Reg → ι) (i0 : ι) : Known P gl f fun args regs => T (p args regs) args regs :=
  ⟨(h i0).goes, fun args regs R hR => (h (p args regs)).sound args regs R hR⟩
noncomputable def pickS : List NV → List Reg → Nat × Nat
  | [.c (.l _ bs), .c (.i _ mag), .c (.i _ row), .c (.l _ ds)], _ => (cls bs, cb mag row ds)
  | _, _ => (0, 0)
noncomputable def tSays : Con := fun args regs => t_says (pickS args regs).1 (pickS args regs).2 args regs
theorem kSays : Known Tryd.prog GL 3 tSays := Known_pick (T := fun i : Nat × Nat => t_says i.1 i.2) (fun i => k_says i.1 i.2) pickS (0, 0)
theorem says_run (bs ds : List Int) (mag row : Int) {j c : Nat} (hj : cls bs = j) (hc : cb mag row ds = c) (h : Box ((t_says j c [.c (.l .u8 bs), .c (.i .i64 mag), .c (.i .i64 row), .c (.l .u8 ds)] []).run isT)) : Box ((tSays [.c (.l .u8 bs), .c (.i .i64 mag), .c (.i .i64 row), .c (.l .u8 ds)] []).run isT) := by
  have e : tSays [.c (.l .u8 bs), .c (.i .i64 mag), .c (.i .i64 row), .c (.l .u8 ds)] [] = t_says j c [.c (.l .u8 bs), .c (.i .i64 mag), .c (.i .i64 row), .c (.l .u8 ds)] [] := by
    show t_says (cls bs) (cb mag row ds) _ _ = _
    rw [hj, hc]
  rw [e]
  exact h
theorem says_true (bs ds : List Int) (mag row : Int) : Box ((tSays [.c (.l .u8 bs), .c (.i .i64 mag), .c (.i .i64 row), .c (.l .u8 ds)] []).run isT) := by
  rcases cls_le bs with hj | hj | hj | hj | hj | hj <;> rcases cb_le mag row ds with hc | hc | hc <;> refine says_run bs ds mag row hj hc ?_
  · exact Box.of_eq (says_0_0 bs ds mag row isT) (says_in hj hc)
  · exact Box.of_eq (says_0_1 bs ds mag row isT) (says_in hj hc)
  · exact Box.of_eq (says_0_2 bs ds mag row isT) (says_in hj hc)
  · exact Box.of_eq (says_1_0 bs ds mag row isT) (says_in hj hc)
  · exact Box.of_eq (says_1_1 bs ds mag row isT) (says_in hj hc)
  · exact Box.of_eq (says_1_2 bs ds mag row isT) (says_in hj hc)
  · exact Box.of_eq (says_2_0 bs ds mag row isT) (says_in hj hc)
  · exact Box.of_eq (says_2_1 bs ds mag row isT) (says_in hj hc)
  · exact Box.of_eq (says_2_2 bs ds mag row isT) (says_in hj hc)
  · exact Box.of_eq (says_3_0 bs ds mag row isT) (says_in hj hc)
  · exact Box.of_eq (says_3_1 bs ds mag row isT) (says_in hj hc)
  · exact Box.of_eq (says_3_2 bs ds mag row isT) (says_in hj hc)
  · exact Box.of_eq (says_4_0 bs ds mag row isT) (says_in hj hc)
  · exact Box.of_eq (says_4_1 bs ds mag row isT) (says_in hj hc)
  · exact Box.of_eq (says_4_2 bs ds mag row isT) (says_in hj hc)
  · exact Box.of_eq (says_5_0 bs ds mag row isT) (says_in hj hc)
  · exact Box.of_eq (says_5_1 bs ds mag row isT) (says_in hj hc)
  · exact Box.of_eq (says_5_2 bs ds mag row isT) (says_in hj hc)
def shsSays : List Sh := [.row .u8, .i .i64, .i .i64, .row .u8]
theorem says_law (xs : List NV) (h : R2 ShOk shsSays xs) : Holds (tSays xs []) fun o => o.res = .v (.c (.b true)) := by
  cases h with
  | cons h1 h =>
    cases h with
    | cons h2 h =>
      cases h with
      | cons h3 h =>
        cases h with
        | cons h4 h =>
          cases h
          cases h1 with
          | @row _ bs _ =>
            cases h2 with
            | @i _ n2 _ =>
              cases h3 with
              | @i _ n3 _ =>
                cases h4 with
                | @row _ ds _ => exact Box.holds (says_true bs ds n2 n3)
end Go.Proofs.YtjjkbnipokpmcaaDoor.pk
