/-
  Packets: the law PacketUnlike.
-/
import Derived.Test.YtjjkbnipokpmcaaDoorPkJ
namespace Go.Proofs.YtjjkbnipokpmcaaDoor.pk
open Go Go.Nx

theorem kg_num : Known Tryd.prog GL 17 num.tNumV := known_gl num.kNumV
noncomputable def c_first : FuncId → Option Con := conOf [(8, tRead), (13, tKind), (12, t_is)]
theorem kc_first : ∀ f T, c_first f = some T → Known Tryd.prog GL f T := (Knowns.cons kRead (.cons kg_kind (.cons k_is .nil))).get
noncomputable def t_first : Con := fun args regs => nfun Tryd.prog GL c_first [] Tryd.f7 args regs
theorem k_first : Known Tryd.prog GL 7 t_first := known_inl Tryd.func7 rfl (by kernel_rfl) mixed kc_first (by kernel_rfl)
theorem first_tree (R : Out → Prop) : (t_first [] []).run R = R (oB true) := by kernel_rfl
noncomputable def tYes : Con := fun args regs => match args, regs with
  | [], [] => .ret (oB true)
  | _, _ => .fail
set_option maxRecDepth 100000 in
theorem kYes : Known Tryd.prog GL 7 tYes := by
  refine k_first.less fun args regs R h => Box.out ?_
  unfold tYes at h
  split at h
  case h_2 => exact h.elim
  exact Box.of_eq (first_tree R) h
/-- Bytes that there are. -/
noncomputable def tBytesM : Con := fun args regs => match args, regs with
  | [.c (.i .i64 mag), .c (.i .i64 row), .c (.l .u8 ds)], [] => .must ((1 ≤ mag ∧ mag ≤ 8 ∧ 0 ≤ row ∧ row ≤ 31) ∧ ds.length = 40) (.ret (oBy mag row ds))
  | _, _ => .fail
theorem bytesM_in {mag row : Int} {ds : List Int} {R : Out → Prop} (h1 : (1 ≤ mag ∧ mag ≤ 8 ∧ 0 ≤ row ∧ row ≤ 31) ∧ ds.length = 40) (h : R (oBy mag row ds)) : (tBytes [.c (.i .i64 mag), .c (.i .i64 row), .c (.l .u8 ds)] []).run R :=
  selT (dT h1.1) (selT (dT h1.2) h)
set_option maxRecDepth 100000 in
theorem kBytesM : Known Tryd.prog GL 10 tBytesM := by
  refine kBytes.less fun args regs R h => ?_
  unfold tBytesM at h
  split at h
  case h_2 => exact h.elim
  exact bytesM_in h.1 h.2
noncomputable def c_unlike : FuncId → Option Con := conOf [(17, num.tNumV), (10, tBytesM), (15, tSame), (7, tYes)]
theorem kc_unlike : ∀ f T, c_unlike f = some T → Known Tryd.prog GL f T := (Knowns.cons kg_num (.cons kBytesM (.cons kg_same (.cons kYes .nil)))).get
noncomputable def t_unlike : Con := fun args regs => nfun Tryd.prog GL c_unlike [] Tryd.f6 args regs
theorem k_unlike : Known Tryd.prog GL 6 t_unlike := known_inl Tryd.func6 rfl (by kernel_rfl) mixed kc_unlike (by kernel_rfl)
noncomputable def L1 (M r : Int) (ds : List Int) : List Int := List.take (2 + ds.length) (List.drop 0 (adr0 M r :: adr1 r :: ds))
noncomputable def L3 (M r : Int) (ds : List Int) : List Int := List.take (2 + ds.length - (2 : Int).toNat) (List.drop (0 + (2 : Int).toNat) (adr0 M r :: adr1 r :: ds))
noncomputable def tailE (M r A b : Int) (ds es : List Int) (same : Bool) (R : Out → Prop) : Prop :=
  sel (((2 + ds.length : Nat) : Int) == 42) (sel (((2 + es.length : Nat) : Int) == 42) (sel (decide (0 + (2 + ds.length) ≤ (adr0 M r :: adr1 r :: ds).length)) (sel (decide (0 + (2 + es.length) ≤ (adr0 A b :: adr1 b :: es).length))
    ((L1 M r ds).length ≤ 1000000 ∧ sel ((L1 M r ds == L1 A b es) == same) (sel (decide (2 ≤ ((2 + ds.length : Nat) : Int))) (sel (decide (0 + (2 : Int).toNat + (2 + ds.length - (2 : Int).toNat) ≤ (adr0 M r :: adr1 r :: ds).length))
      ((L3 M r ds).length ≤ 1000000 ∧ R (oB (L3 M r ds == ds))) False) False) (R (oB false))) False) False) (R (oB false))) (R (oB false))
def mM (n : Int) : Int := IntKind.i64.wrap (n % 8 + 1)
def must8 : Prop := 0 < (8 : Int) ∧ (8 : Int) < 4611686018427387904
def must32 : Prop := 0 < (32 : Int) ∧ (32 : Int) < 4611686018427387904
theorem unlike_tree (mag row a b : Int) (ds es : List Int) (R : Out → Prop) : (t_unlike [.c (.i .i64 mag), .c (.i .i64 row), .c (.i .i64 a), .c (.i .i64 b), .c (.l .u8 ds), .c (.l .u8 es)] []).run R =
    sel ((ds.length : Int) != 40) (R (oB true)) (sel ((es.length : Int) != 40) (R (oB true)) (must8 ∧ (must32 ∧ (must8 ∧ (must32 ∧
      (((1 ≤ mM mag ∧ mM mag ≤ 8 ∧ 0 ≤ row % 32 ∧ row % 32 ≤ 31) ∧ ds.length = 40) ∧ (((1 ≤ mM a ∧ mM a ≤ 8 ∧ 0 ≤ b % 32 ∧ b % 32 ≤ 31) ∧ es.length = 40) ∧
        sel (mM mag == mM a) (sel (row % 32 == b % 32) (ds.length ≤ 1000000 ∧ tailE (mM mag) (row % 32) (mM a) (b % 32) ds es (ds == es) R) (tailE (mM mag) (row % 32) (mM a) (b % 32) ds es false R)) (tailE (mM mag) (row % 32) (mM a) (b % 32) ds es false R)))))))) := by kernel_rfl
theorem adr_all : ∀ m < 8, ∀ r < 32, getB (adr0 (Int.ofNat m + 1) (Int.ofNat r)) = true ∧ getB (adr1 (Int.ofNat r)) = true ∧ magOf (getN (adr0 (Int.ofNat m + 1) (Int.ofNat r))) = Int.ofNat m + 1 ∧ rowOf (getN (adr0 (Int.ofNat m + 1) (Int.ofNat r))) (getN (adr1 (Int.ofNat r))) = Int.ofNat r := by decide +kernel
theorem adr_of {M r : Int} (h : 1 ≤ M ∧ M ≤ 8 ∧ 0 ≤ r ∧ r ≤ 31) : getB (adr0 M r) = true ∧ getB (adr1 r) = true ∧ magOf (getN (adr0 M r)) = M ∧ rowOf (getN (adr0 M r)) (getN (adr1 r)) = r := by
  have := adr_all (M - 1).toNat (by omega) r.toNat (by omega)
  have e1 : Int.ofNat (M - 1).toNat + 1 = M := by show (((M - 1).toNat : Nat) : Int) + 1 = M; omega
  have e2 : Int.ofNat r.toNat = r := by show ((r.toNat : Nat) : Int) = r; omega
  rwa [e1, e2] at this
theorem mM_in (n : Int) : 1 ≤ mM n ∧ mM n ≤ 8 := by
  unfold mM
  rw [IntKind.wrap_i64]
  omega
theorem L1_eq (M r : Int) (ds : List Int) : L1 M r ds = adr0 M r :: adr1 r :: ds := by
  unfold L1
  rw [List.drop_zero, List.take_of_length_le (by simp; omega)]
theorem L3_eq (M r : Int) (ds : List Int) : L3 M r ds = ds := by
  have e2 : (2 : Int).toNat = 2 := rfl
  unfold L3
  rw [e2]
  show List.take (2 + ds.length - 2) ds = ds
  rw [List.take_of_length_le (by omega)]
theorem tail_in {M r A b : Int} {ds es : List Int} {same : Bool} (h1 : ds.length = 40) (h2 : es.length = 40) (h : (L1 M r ds == L1 A b es) = same) : tailE M r A b ds es same fun o => o.res = .v (.c (.b true)) := by
  have e2 : (2 : Int).toNat = 2 := rfl
  unfold tailE
  rw [h, L3_eq, e2]
  refine selT (by rw [beq_iff_eq]; omega) (selT (by rw [beq_iff_eq]; omega) (selT (dT (by simp; omega)) (selT (dT (by simp; omega)) ⟨by rw [L1_eq]; simp; omega, selT (beq_self_eq_true _) (selT (dT (by omega)) (selT (dT (by simp; omega)) ⟨by omega, ?_⟩))⟩)))
  show NS.v (.c (.b (ds == ds))) = _
  rw [beq_self_eq_true]
theorem unlike_true (mag row a b : Int) (ds es : List Int) : Box ((t_unlike [.c (.i .i64 mag), .c (.i .i64 row), .c (.i .i64 a), .c (.i .i64 b), .c (.l .u8 ds), .c (.l .u8 es)] []).run fun o => o.res = .v (.c (.b true))) := by
  refine Box.of_eq (unlike_tree mag row a b ds es _) ?_
  by_cases h1 : ds.length = 40
  · by_cases h2 : es.length = 40
    · have hm := mM_in mag
      have ha := mM_in a
      refine selF (by simp [bne, h1]) (selF (by simp [bne, h2]) ⟨⟨by decide, by decide⟩, ⟨by decide, by decide⟩, ⟨by decide, by decide⟩, ⟨by decide, by decide⟩, ⟨⟨hm.1, hm.2, by omega, by omega⟩, h1⟩, ⟨⟨ha.1, ha.2, by omega, by omega⟩, h2⟩, ?_⟩)
      have x1 := adr_of (M := mM mag) (r := row % 32) ⟨hm.1, hm.2, by omega, by omega⟩
      have x2 := adr_of (M := mM a) (r := b % 32) ⟨ha.1, ha.2, by omega, by omega⟩
      have ne : (mM mag ≠ mM a ∨ row % 32 ≠ b % 32) → (L1 (mM mag) (row % 32) ds == L1 (mM a) (b % 32) es) = false := by
        intro hn
        rw [L1_eq, L1_eq, beq_eq_false_iff_ne]
        intro e
        simp only [List.cons.injEq] at e
        obtain ⟨q1, q2, -⟩ := e
        rw [q1] at x1
        have r1 := x1.2.2.1
        have r2 := x1.2.2.2
        rw [q2] at r2
        rw [x2.2.2.1] at r1
        rw [x2.2.2.2] at r2
        rcases hn with h | h
        · exact h r1.symm
        · exact h r2.symm
      cases c1 : (mM mag == mM a) with
      | false => exact tail_in h1 h2 (ne (.inl (by rwa [beq_eq_false_iff_ne] at c1)))
      | true =>
        cases c2 : (row % 32 == b % 32) with
        | false => exact tail_in h1 h2 (ne (.inr (by rwa [beq_eq_false_iff_ne] at c2)))
        | true =>
          refine ⟨by omega, tail_in h1 h2 ?_⟩
          rw [beq_iff_eq] at c1 c2
          rw [L1_eq, L1_eq, c1, c2]
          simp
    · exact selF (by simp [bne, h1]) (selT (by rw [bne_iff_ne]; omega) rfl)
  · exact selT (by rw [bne_iff_ne]; omega) rfl
theorem Box.holds {t : Tr Out} {R : Out → Prop} (h : Box (t.run R)) : Holds t R := ⟨h.out⟩
def shsUnlike : List Sh := [.i .i64, .i .i64, .i .i64, .i .i64, .row .u8, .row .u8]
theorem unlike_law (xs : List NV) (h : R2 ShOk shsUnlike xs) : Holds (t_unlike xs []) fun o => o.res = .v (.c (.b true)) := by
  cases h with
  | cons h1 h =>
    cases h with
    | cons h2 h =>
      cases h with
      | cons h3 h =>
        cases h with
        | cons h4 h =>
          cases h with
          | cons h5 h =>
            cases h with
            | cons h6 h =>
              cases h
              cases h1 with
              | @i _ n1 _ =>
                cases h2 with
                | @i _ n2 _ =>
                  cases h3 with
                  | @i _ n3 _ =>
                    cases h4 with
                    | @i _ n4 _ =>
                      cases h5 with
                      | @row _ ds _ =>
                        cases h6 with
                        | @row _ es _ => exact Box.holds (unlike_true n1 n2 n3 n4 ds es)
end Go.Proofs.YtjjkbnipokpmcaaDoor.pk
