/-
  LinksBack: the loop that compares; the law's code.
-/
import Derived.Test.YthjdlanmfiofdaaDoorLbC
import Derived.Test.YthjdlanmfiofdaaDoorHdQ
namespace Go.Proofs.YthjdlanmfiofdaaDoor.lb
open Go Go.Nx Go.Proofs.YthjdlanmfiofdaaDoor.pk Go.Proofs.YthjdlanmfiofdaaDoor.ln Go.Proofs.YthjdlanmfiofdaaDoor.hd

noncomputable def c_l4 : FuncId → Option Con := conOf [(27, tSamePT)]
theorem kc_l4 : ∀ f T, c_l4 f = some T → Known Tryd.prog GL f T := (Knowns.cons kSamePT .nil).get
noncomputable def X_l4 : Cx := { P := Tryd.prog, con := c_l4, glob := GL, m := 0, loops := [] }
noncomputable def sL4 (W X : List (List Sc)) (a : Int) (ok : Bool) (i : Int) : St := { fr := frame 148 [(3, .v (.c (.i .i64 a))), (9, .v (.c (.b ok))), (10, .v (.c (.p 0 0 0))), (19, .v (.c (.p 1 0 0))), (21, .v (.c (.i .i64 i)))], rg := [rW W, rW X] }
noncomputable def dL4 (ok : Bool) : St := { fr := frame 148 [(9, .v (.c (.b ok)))], rg := [] }
def vR (X : List (List Sc)) (j c : Nat) : Int := ((X.getD j []).getD c (Sc.i 0)).n
noncomputable def inE (X : List (List Sc)) (i : Int) (K : Prop) : Prop := sel (decide (0 ≤ i)) (sel (decide (i < ((6 : Nat) : Int))) (sel (decide (0 + i.toNat < X.length)) K False) False) False
theorem round_l4 (W X : List (List Sc)) (a i : Int) (ok : Bool) (R : RO → Prop) : (roundT X_l4 4 [3, 9, 10, 19, 21] [8, 9] (bodyLoop fLBack 4) (sL4 W X a ok i)).run R =
    sel (decide (i < 6)) (inE W i (sel (i == IntKind.i64.wrap (a.tdiv 6))
      (inE X i ((vR X (0 + i.toNat) 0 = 0 ∧ vR X (0 + i.toNat) 1 = 0 ∧ vR X (0 + i.toNat) 2 = 0) ∧ R (.next (sL4 W X a ok (IntKind.i64.wrap (i + 1))))))
      (inE X i ((vR X (0 + i.toNat) 0 = vR W (0 + i.toNat) 0 ∧ vR X (0 + i.toNat) 1 = vR W (0 + i.toNat) 1 ∧ vR X (0 + i.toNat) 2 = vR W (0 + i.toNat) 2) ∧ R (.next (sL4 W X a ok (IntKind.i64.wrap (i + 1)))))))) (R (.done .normal (dL4 ok))) := by kernel_rfl
/-- What is read is what was sent, but for one. -/
def alike (W X : List (List Sc)) (a : Int) (j : Nat) : Prop := ∀ c, c < 3 → vR X j c = bif decide ((j : Int) = a / 6) then 0 else vR W j c
noncomputable def pL4 : List Pat := pats 148 [(3, .i .i64), (9, .b), (10, .p 0 0 0), (19, .p 1 0 0), (21, .i .i64)]
def rL4 : List RPat := [.recs 3 25 [.i .i64, .i .i64, .i .i64], .recs 3 25 [.i .i64, .i .i64, .i .i64]]
noncomputable def lL4 : List Leaf × List (List Leaf) → Tr (NExit × St) := fun x => match x with
  | ([.i a, .b ok, .i i], [[.r W], [.r X]]) => .must (W.length = 6 ∧ X.length = 6 ∧ 0 ≤ i ∧ i ≤ 6 ∧ 0 ≤ a ∧ a < 36 ∧ ∀ j : Nat, i ≤ (j : Int) → j < 6 → alike W X a j) (.ret (.normal, dL4 ok))
  | _ => .fail
def muL4 : List Leaf × List (List Leaf) → Nat := fun x => match x with
  | ([.i _, .b _, .i i], _) => (6 - i).toNat
  | _ => 0
set_option maxRecDepth 100000 in
theorem loop_l4 : LOk Tryd.prog GL 0 4 (bodyLoop fLBack 4) (sumP pL4 rL4 lL4) := by
  refine sumP_ok (X := X_l4) kc_l4 mixed (LAll.none (by kernel_rfl)) [3, 9, 10, 19, 21] [8, 9] _ _ _ muL4 ?_
  rintro ⟨p, q⟩ R h
  unfold lL4 at h
  split at h
  case h_2 => exact h.elim
  rename_i a ok i W X he
  cases he
  have h1 := h.1
  have h2 : R (.normal, dL4 ok) := h.2
  clear h
  obtain ⟨hW, hX, hi0, hi, ha0, ha, hall⟩ := h1
  show (roundT X_l4 4 [3, 9, 10, 19, 21] [8, 9] (bodyLoop fLBack 4) (sL4 W X a ok i)).run _
  rw [round_l4]
  refine sel_by (fun hlt => ?_) fun hge => h2
  have w2 : IntKind.i64.wrap (i + 1) = i + 1 := by rw [IntKind.wrap_i64]; omega
  have w3 : IntKind.i64.wrap (a.tdiv 6) = a / 6 := by rw [Int.tdiv_eq_ediv_of_nonneg ha0, IntKind.wrap_i64]; omega
  have hin : ∀ (Y : List (List Sc)) (K : Prop), Y.length = 6 → K → inE Y i K := fun Y K hY hK => selT (dT hi0) (selT (dT (by omega)) (selT (dT (by omega)) hK))
  have go : ∃ y, sL4 W X a ok (i + 1) = mkSt pL4 rL4 y ∧ muL4 y < muL4 ([.i a, .b ok, .i i], [[.r W], [.r X]]) ∧ (lL4 y).run R :=
    ⟨([.i a, .b ok, .i (i + 1)], [[.r W], [.r X]]), rfl, by show (6 - (i + 1)).toNat < (6 - i).toNat; omega, ⟨⟨hW, hX, by omega, by omega, ha0, ha, fun j hj => hall j (by omega)⟩, h2⟩⟩
  have hj := hall i.toNat (by omega) (by omega)
  have ein : ((i.toNat : Nat) : Int) = i := by omega
  unfold alike at hj
  rw [ein] at hj
  rw [w2, w3, Nat.zero_add]
  refine hin W _ hW ?_
  cases hq : (i == a / 6) with
  | true =>
    have hq' : i = a / 6 := by simpa using hq
    rw [dT hq'] at hj
    exact selT rfl (hin X _ hX ⟨⟨hj 0 (by decide), hj 1 (by decide), hj 2 (by decide)⟩, go⟩)
  | false =>
    have hq' : ¬ i = a / 6 := by simpa using hq
    rw [dF hq'] at hj
    exact selF rfl (hin X _ hX ⟨⟨hj 0 (by decide), hj 1 (by decide), hj 2 (by decide)⟩, go⟩)
noncomputable def c_lback : FuncId → Option Con := conOf [(26, num.tNumV), (14, t_first), (21, tLBs), (15, tReadL), (16, tLread)]
theorem kc_lback : ∀ f T, c_lback f = some T → Known Tryd.prog GL f T := (Knowns.cons (known_gl num.kNumV) (.cons k_first (.cons kLBs (.cons kReadL (.cons kLread .nil))))).get
noncomputable def X_lback : Cx := { P := Tryd.prog, con := c_lback, glob := GL, m := 0, loops := [] }
noncomputable def t_lback : Con := fun args regs => if regs.length = 0 then nfun Tryd.prog GL c_lback [(0, [0, 1, 2, 3, 9, 10, 11], unroll X_lback 0 [0, 1, 2, 3, 9, 10, 11] [0, 2, 3, 9, 10] (bodyLoop Tryd.f4 0) 7), (2, [2, 3, 9, 10, 13, 15], sumP pLT rLT lLT), (4, [3, 9, 10, 19, 21], sumP pL4 rL4 lL4)] Tryd.f4 args regs else .fail
theorem k_lback : Known Tryd.prog GL 4 t_lback := known_loops 0 Tryd.func4 rfl (by kernel_rfl) mixed kc_lback (LAll.three (i1 := 0) (i2 := 2) (i3 := 4) (b1 := bodyLoop Tryd.f4 0) (b2 := bodyLoop Tryd.f4 2) (b3 := bodyLoop Tryd.f4 4) (by kernel_rfl) rfl (by decide) (unroll_ok (X := X_lback) kc_lback mixed (LAll.none (by kernel_rfl)) [0, 1, 2, 3, 9, 10, 11] [0, 2, 3, 9, 10] 7) loop_lt loop_l4)

/-! ### what it comes to -/
def mustN (m : Int) : Prop := 0 < m ∧ m < 4611686018427387904
def wn (l : List Int) (j : Nat) : Int := l.getD j 0 % 1073741824
noncomputable def mL (l : List Int) (j : Nat) : Int := IntKind.i64.wrap (aI (wn l j) 7 + 1)
noncomputable def pL (l : List Int) (j : Nat) : Int := aI (shrv .i64 (wn l j) 3) 255
noncomputable def sL (l : List Int) (j : Nat) : Int := aI (shrv .i64 (wn l j) 11) 16255
noncomputable def WL (l : List Int) : List (List Sc) := [[Sc.i (mL l 0), Sc.i (pL l 0), Sc.i (sL l 0)], [Sc.i (mL l 1), Sc.i (pL l 1), Sc.i (sL l 1)], [Sc.i (mL l 2), Sc.i (pL l 2), Sc.i (sL l 2)], [Sc.i (mL l 3), Sc.i (pL l 3), Sc.i (sL l 3)], [Sc.i (mL l 4), Sc.i (pL l 4), Sc.i (sL l 4)], [Sc.i (mL l 5), Sc.i (pL l 5), Sc.i (sL l 5)]]
def idxE (l : List Int) (j : Nat) (K : Prop) : Prop := sel (decide ((j : Int) < (l.length : Int))) (sel (decide (j < l.length)) K False) False
noncomputable def LB (l : List Int) (mg : Int) : List Int := adr0 mg 27 :: adr1 27 :: lbN mg 0 5 (mL l 0) (pL l 0) (sL l 0) (mL l 1) (pL l 1) (sL l 1) (mL l 2) (pL l 2) (sL l 2) (mL l 3) (pL l 3) (sL l 3) (mL l 4) (pL l 4) (sL l 4) (mL l 5) (pL l 5) (sL l 5)
noncomputable def rdL (l bs : List Int) (mg a : Int) : List Int := List.take 42 (List.drop 0 (mapF (tlk bs a) (3 + (0 : Int).toNat) 0 (LB l mg)))
noncomputable def dsL (L : List Int) : List Int := List.take 39 (List.drop 0 ((L.drop 2).drop 1))
noncomputable def XL (m : Int) (ds : List Int) (r : Nat → Bool) : List (List Sc) := [[Sc.i (bif r 0 then lkM m ds 0 else 0), Sc.i (bif r 0 then lkP ds 0 else 0), Sc.i (bif r 0 then lkS ds 0 else 0)], [Sc.i (bif r 1 then lkM m ds 1 else 0), Sc.i (bif r 1 then lkP ds 1 else 0), Sc.i (bif r 1 then lkS ds 1 else 0)], [Sc.i (bif r 2 then lkM m ds 2 else 0), Sc.i (bif r 2 then lkP ds 2 else 0), Sc.i (bif r 2 then lkS ds 2 else 0)], [Sc.i (bif r 3 then lkM m ds 3 else 0), Sc.i (bif r 3 then lkP ds 3 else 0), Sc.i (bif r 3 then lkS ds 3 else 0)], [Sc.i (bif r 4 then lkM m ds 4 else 0), Sc.i (bif r 4 then lkP ds 4 else 0), Sc.i (bif r 4 then lkS ds 4 else 0)], [Sc.i (bif r 5 then lkM m ds 5 else 0), Sc.i (bif r 5 then lkP ds 5 else 0), Sc.i (bif r 5 then lkS ds 5 else 0)]]
noncomputable def wrap8 (n : Int) : Int := IntKind.i64.wrap (n % 8 + 1)
noncomputable def bodyL (l bs : List Int) (mg a : Int) (R : Out → Prop) : Prop :=
  ((1 ≤ mg ∧ mg ≤ 8 ∧ 0 ≤ (0 : Int) ∧ (0 : Int) ≤ 3 ∧ 0 ≤ (5 : Int) ∧ (5 : Int) ≤ 15) ∧ fairB (mL l 0) (pL l 0) (sL l 0) = true ∧ fairB (mL l 1) (pL l 1) (sL l 1) = true ∧ fairB (mL l 2) (pL l 2) (sL l 2) = true ∧ fairB (mL l 3) (pL l 3) (sL l 3) = true ∧ fairB (mL l 4) (pL l 4) (sL l 4) = true ∧ fairB (mL l 5) (pL l 5) (sL l 5) = true) ∧
  (((LB l mg).length = 42 ∧ 42 = (42 : Nat) ∧ 0 ≤ (0 : Int) ∧ (0 : Int) ≤ 36) ∧
   (((rdL l bs mg a).length = 42 ∧ getB ((rdL l bs mg a).getD 0 0) = true ∧ getB ((rdL l bs mg a).getD 1 0) = true ∧ rowOf (getN ((rdL l bs mg a).getD 0 0)) (getN ((rdL l bs mg a).getD 1 0)) = 27 ∧ getB (((rdL l bs mg a).drop 2).getD 0 0) = true) ∧
    ((4 = (4 : Int) ∧ getN (((rdL l bs mg a).drop 2).getD 0 0) = 0 ∧ 36 ≤ (dsL (rdL l bs mg a)).length ∧ (dsL (rdL l bs mg a)).length < 1000) ∧
     (((WL l).length = 6 ∧ (XL (magOf (getN ((rdL l bs mg a).getD 0 0))) (dsL (rdL l bs mg a)) (asF ([0, 1, 2, 3, 4, 5].map (ALLg (dsL (rdL l bs mg a)))))).length = 6 ∧ 0 ≤ (0 : Int) ∧ (0 : Int) ≤ 6 ∧ 0 ≤ a ∧ a < 36 ∧ ∀ j : Nat, (0 : Int) ≤ (j : Int) → j < 6 → alike (WL l) (XL (magOf (getN ((rdL l bs mg a).getD 0 0))) (dsL (rdL l bs mg a)) (asF ([0, 1, 2, 3, 4, 5].map (ALLg (dsL (rdL l bs mg a)))))) a j) ∧
      R (oB true)))))
theorem lback_tree (n a : Int) (l bs : List Int) (R : Out → Prop) : (t_lback [.c (.i .i64 n), .c (.l .i64 l), .c (.l .i64 bs), .c (.i .i64 a)] []).run R =
    sel ((l.length : Int) != 6) (R (oB true)) (mustN 8 ∧ (mustN 36 ∧ idxE l 0 (mustN 1073741824 ∧ idxE l 1 (mustN 1073741824 ∧ idxE l 2 (mustN 1073741824 ∧ idxE l 3 (mustN 1073741824 ∧ idxE l 4 (mustN 1073741824 ∧ idxE l 5 (mustN 1073741824 ∧ bodyL l bs (wrap8 n) (a % 36) R)))))))) := by kernel_rfl
end Go.Proofs.YthjdlanmfiofdaaDoor.lb
