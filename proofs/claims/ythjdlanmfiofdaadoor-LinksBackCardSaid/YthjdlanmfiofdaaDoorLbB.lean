/-
  LinksBack: the loop that turns bits.
-/
import Derived.Test.YthjdlanmfiofdaaDoorLbA
namespace Go.Proofs.YthjdlanmfiofdaaDoor.lb
open Go Go.Nx Go.Proofs.YthjdlanmfiofdaaDoor.pk Go.Proofs.YthjdlanmfiofdaaDoor.ln Go.Proofs.YthjdlanmfiofdaaDoor.hd

noncomputable abbrev fLBack := Tryd.f4
noncomputable def XLT : Cx := { P := Tryd.prog, con := fun _ => Option.none, glob := GL, m := 0, loops := [] }
noncomputable def rW (W : List (List Sc)) : Option Reg := some ⟨3, 25, .recs [.i .i64, .i .i64, .i .i64] W⟩
noncomputable def sLT (W : List (List Sc)) (bs : List Int) (at1 : Int) (ok : Bool) (A : List Int) (qa : Nat) (i : Int) : St := { fr := frame 148 [(2, .v (.c (.l .i64 bs))), (3, .v (.c (.i .i64 at1))), (9, .v (.c (.b ok))), (10, .v (.c (.p 0 0 0))), (13, .v (.c (.h 1 0 qa))), (15, .v (.c (.i .i64 i)))], rg := [rW W, some ⟨1, 5, .ints .u8 A⟩] }
noncomputable def dLT (W : List (List Sc)) (at1 : Int) (ok : Bool) (A : List Int) (qa : Nat) : St := { fr := frame 148 [(3, .v (.c (.i .i64 at1))), (9, .v (.c (.b ok))), (10, .v (.c (.p 0 0 0))), (13, .v (.c (.h 1 0 qa)))], rg := [rW W, some ⟨1, 5, .ints .u8 A⟩] }
noncomputable def P3 (i : Int) : Int := IntKind.i64.wrap (3 + i)
noncomputable def chk (i : Int) (qa : Nat) (A : List Int) (u : Int) (X : Prop) : Prop := sel (decide (0 ≤ P3 i)) (sel (decide (P3 i < (qa : Int))) (sel (decide (0 + (P3 i).toNat < A.length)) (sel (decide (0 ≤ u)) (sel (decide (0 ≤ P3 i)) (sel (decide (P3 i < (qa : Int))) (sel (decide (0 + (P3 i).toNat < A.length)) X False) False) False) False) False) False) False
noncomputable def u1 (k : Int) : Int := IntKind.u64.wrap k
noncomputable def u2 (k : Int) : Int := IntKind.u64.wrap (aI (IntKind.i64.wrap (k + 1)) 7)
noncomputable def A1 (A : List Int) (i u : Int) : List Int := setI A (0 + (P3 i).toNat) (x8 (A.getD (0 + (P3 i).toNat) 0) (shlv .u8 1 u)) 0
noncomputable def nxtE (W : List (List Sc)) (bs : List Int) (at1 : Int) (ok : Bool) (A : List Int) (qa : Nat) (i : Int) (R : RO → Prop) (k : Int) : Prop :=
  chk i qa A (u1 k) (sel (i == at1) (chk i qa (A1 A i (u1 k)) (u2 k) (R (.next (sLT W bs at1 ok (A1 (A1 A i (u1 k)) i (u2 k)) qa (IntKind.i64.wrap (i + 1)))))) (R (.next (sLT W bs at1 ok (A1 A i (u1 k)) qa (IntKind.i64.wrap (i + 1))))))
theorem round_lt (W : List (List Sc)) (bs : List Int) (at1 : Int) (ok : Bool) (A : List Int) (qa : Nat) (i : Int) (R : RO → Prop) : (roundT XLT 2 [2, 3, 9, 10, 13, 15] [3, 9, 10, 13] (bodyLoop fLBack 2) (sLT W bs at1 ok A qa i)).run R =
    sel (decide (i < 36)) (sel (decide (i < (bs.length : Int))) (sel (decide (0 ≤ i)) (sel (decide (i < (bs.length : Int))) (sel (decide (i.toNat < bs.length)) (nxtE W bs at1 ok A qa i R (aI (bs.getD i.toNat 0) 7)) False) False) False) (nxtE W bs at1 ok A qa i R 0)) (R (.done .normal (dLT W at1 ok A qa))) := by kernel_rfl
noncomputable def kOf (bs : List Int) (j : Nat) : Int := bif decide (j < bs.length) then aI (bs.getD j 0) 7 else 0
/-- A byte of the links, as it is turned. -/
noncomputable def tlk (bs : List Int) (at1 : Int) (p : Nat) (x : Int) : Int :=
  bif decide (3 ≤ p) && decide (p < 39) then (bif ((p - 3 : Nat) : Int) == at1 then x8 (x8 x (shlv .u8 1 (u1 (kOf bs (p - 3))))) (shlv .u8 1 (u2 (kOf bs (p - 3)))) else x8 x (shlv .u8 1 (u1 (kOf bs (p - 3))))) else x
noncomputable def pLT : List Pat := pats 148 [(2, .l .i64), (3, .i .i64), (9, .b), (10, .p 0 0 0), (13, .h 1 0), (15, .i .i64)]
def rLT : List RPat := [.recs 3 25 [.i .i64, .i .i64, .i .i64], .ints 1 5 .u8]
noncomputable def lLT : List Leaf × List (List Leaf) → Tr (NExit × St) := fun x => match x with
  | ([.l bs, .i at1, .b ok, .n qa, .i i], [[.r W], [.l A]]) => .must (A.length = 42 ∧ qa = 42 ∧ 0 ≤ i ∧ i ≤ 36) (.ret (.normal, dLT W at1 ok (mapF (tlk bs at1) (3 + i.toNat) 0 A) qa))
  | _ => .fail
def muLT : List Leaf × List (List Leaf) → Nat := fun x => match x with
  | ([.l _, .i _, .b _, .n _, .i i], _) => (36 - i).toNat
  | _ => 0
theorem u1_in (k : Int) (h : 0 ≤ k ∧ k < 8) : u1 k = k := by
  unfold u1
  rw [IntKind.wrap_u64]
  omega
theorem kOf_in (bs : List Int) (j : Nat) : 0 ≤ kOf bs j ∧ kOf bs j < 8 := by
  unfold kOf
  cases decide (j < bs.length) with
  | false => show 0 ≤ (0 : Int) ∧ (0 : Int) < 8; decide
  | true =>
    show 0 ≤ aI (bs.getD j 0) 7 ∧ aI (bs.getD j 0) 7 < 8
    rw [aI_7]
    omega
theorem u2_eq (k : Int) (h : 0 ≤ k ∧ k < 8) : u2 k = (k + 1) % 8 := by
  unfold u2
  have := h.1
  rw [aI_7, IntKind.wrap_i64, IntKind.wrap_u64]
  omega
theorem P3_eq (i : Int) (h : 0 ≤ i ∧ i < 1000) : P3 i = 3 + i := by
  unfold P3
  rw [IntKind.wrap_i64]
  omega
theorem chk_in {i : Int} {qa : Nat} {A : List Int} {u : Int} {X : Prop} (h : 0 ≤ i ∧ i < 36) (hq : qa = 42) (hA : A.length = 42) (hu : 0 ≤ u) (hX : X) : chk i qa A u X := by
  unfold chk
  rw [P3_eq i (by omega)]
  exact selT (dT (by omega)) (selT (dT (by omega)) (selT (dT (by omega)) (selT (dT hu) (selT (dT (by omega)) (selT (dT (by omega)) (selT (dT (by omega)) hX))))))
theorem A1_eq (A : List Int) (i u : Int) (h : 0 ≤ i ∧ i < 36) : A1 A i u = A.set (3 + i.toNat) (x8 (A.getD (3 + i.toNat) 0) (shlv .u8 1 u)) := by
  unfold A1
  rw [setI_set, P3_eq i (by omega), show 0 + (3 + i).toNat = 3 + i.toNat by omega]
set_option maxRecDepth 100000 in
theorem loop_lt : LOk Tryd.prog GL 0 2 (bodyLoop fLBack 2) (sumP pLT rLT lLT) := by
  refine sumP_ok (X := XLT) con_none mixed (LAll.none (by kernel_rfl)) [2, 3, 9, 10, 13, 15] [3, 9, 10, 13] _ _ _ muLT ?_
  rintro ⟨a, b⟩ R h
  unfold lLT at h
  split at h
  case h_2 => exact h.elim
  rename_i bs at1 ok qa i W A he
  cases he
  have h1 := h.1
  have h2 : R (.normal, dLT W at1 ok (mapF (tlk bs at1) (3 + i.toNat) 0 A) qa) := h.2
  clear h
  obtain ⟨hA, rfl, hi0, hi⟩ := h1
  show (roundT XLT 2 [2, 3, 9, 10, 13, 15] [3, 9, 10, 13] (bodyLoop fLBack 2) (sLT W bs at1 ok A 42 i)).run _
  rw [round_lt]
  refine sel_by (fun hlt => ?_) fun hge => ?_
  · have w2 : IntKind.i64.wrap (i + 1) = i + 1 := by rw [IntKind.wrap_i64]; omega
    have et : 3 + (i + 1).toNat = 3 + i.toNat + 1 := by omega
    have go : ∀ A2 : List Int, A2.length = 42 → mapF (tlk bs at1) (3 + i.toNat + 1) 0 A2 = mapF (tlk bs at1) (3 + i.toNat) 0 A → ∃ y, sLT W bs at1 ok A2 42 (i + 1) = mkSt pLT rLT y ∧ muLT y < muLT ([.l bs, .i at1, .b ok, .n 42, .i i], [[.r W], [.l A]]) ∧ (lLT y).run R := by
      intro A2 hl hm
      refine ⟨([.l bs, .i at1, .b ok, .n 42, .i (i + 1)], [[.r W], [.l A2]]), rfl, by show (36 - (i + 1)).toNat < (36 - i).toNat; omega, ⟨hl, rfl, by omega, by omega⟩, ?_⟩
      show R (.normal, dLT W at1 ok (mapF (tlk bs at1) (3 + (i + 1).toNat) 0 A2) 42)
      rw [et, hm]
      exact h2
    have key : ∀ k, k = kOf bs i.toNat → nxtE W bs at1 ok A 42 i (fun o => match o with
      | .next s => ∃ b, s = mkSt pLT rLT b ∧ muLT b < muLT ([.l bs, .i at1, .b ok, .n 42, .i i], [[.r W], [.l A]]) ∧ (lLT b).run R
      | .done e s => R (e, s)) k := by
      intro k hk
      have hk8 : 0 ≤ k ∧ k < 8 := by rw [hk]; exact kOf_in bs i.toNat
      have e3 : 3 + i.toNat - 3 = i.toNat := by omega
      have ein : ((i.toNat : Nat) : Int) = i := by omega
      have ht : ∀ x, tlk bs at1 (3 + i.toNat) x = (bif i == at1 then x8 (x8 x (shlv .u8 1 (u1 k))) (shlv .u8 1 (u2 k)) else x8 x (shlv .u8 1 (u1 k))) := fun x => by
        unfold tlk
        rw [dT (show 3 ≤ 3 + i.toNat by omega), dT (show 3 + i.toNat < 39 by omega), e3, ein, hk]
        rfl
      have l1 : (A1 A i (u1 k)).length = 42 := by rw [A1_eq A i _ ⟨hi0, hlt⟩, List.length_set]; exact hA
      have l2 : (A1 (A1 A i (u1 k)) i (u2 k)).length = 42 := by rw [A1_eq _ i _ ⟨hi0, hlt⟩, List.length_set]; exact l1
      have hjA : 3 + i.toNat < A.length := by omega
      unfold nxtE
      rw [w2]
      refine chk_in ⟨hi0, hlt⟩ rfl hA (by rw [u1_in k hk8]; exact hk8.1) ?_
      cases hq : (i == at1) with
      | true =>
        refine selT rfl (chk_in ⟨hi0, hlt⟩ rfl l1 (by rw [u2_eq k hk8]; omega) (go _ l2 ?_))
        rw [A1_eq (A1 A i (u1 k)) i _ ⟨hi0, hlt⟩, A1_eq A i _ ⟨hi0, hlt⟩, List.set_set]
        refine mapF_set (tlk bs at1) (3 + i.toNat) _ 0 A (3 + i.toNat) (by omega) hjA ?_
        rw [ht, hq]
        have : (A.set (3 + i.toNat) (x8 (A.getD (3 + i.toNat) 0) (shlv .u8 1 (u1 k)))).getD (3 + i.toNat) 0 = x8 (A.getD (3 + i.toNat) 0) (shlv .u8 1 (u1 k)) := by
          rw [List.getD_eq_getElem?_getD, List.getElem?_set_self hjA]
          rfl
        rw [this]
        rfl
      | false =>
        refine selF rfl (go _ l1 ?_)
        rw [A1_eq A i _ ⟨hi0, hlt⟩]
        refine mapF_set (tlk bs at1) (3 + i.toNat) _ 0 A (3 + i.toNat) (by omega) hjA ?_
        rw [ht, hq]
        rfl
    refine sel_by (fun hb => ?_) fun hb => ?_
    · refine selT (dT hi0) (selT (dT hb) (selT (dT (by omega)) (key _ ?_)))
      unfold kOf
      rw [dT (show i.toNat < bs.length by omega)]
      rfl
    · refine key _ ?_
      unfold kOf
      rw [dF (show ¬ i.toNat < bs.length by omega)]
      rfl
  · have : mapF (tlk bs at1) (3 + i.toNat) 0 A = A := mapF_end (tlk bs at1) (3 + i.toNat) (fun k hk x => by
      unfold tlk
      rw [dF (show ¬ k < 39 by omega), Bool.and_false]
      rfl) 0 A
    rw [this] at h2
    exact h2
end Go.Proofs.YthjdlanmfiofdaaDoor.lb
