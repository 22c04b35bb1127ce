/-
  HeaderFlags: the law.
-/
import Derived.Test.YthjdlanmfiofdaaDoorHdI1
import Derived.Test.YthjdlanmfiofdaaDoorHdI2
import Derived.Test.YthjdlanmfiofdaaDoorHdI3
import Derived.Test.YthjdlanmfiofdaaDoorHdI4
import Derived.Test.YthjdlanmfiofdaaDoorHdF
namespace Go.Proofs.YthjdlanmfiofdaaDoor.hd
open Go Go.Nx Go.Proofs.YthjdlanmfiofdaaDoor.pk Go.Proofs.YthjdlanmfiofdaaDoor.ln

def dI (a b : Int) : Int := bif a != b then 1 else 0
def dsum (F F2 : Int) : Int := dI (F % 2) (F2 % 2) + (dI (F / 2 % 4) (F2 / 2 % 4) + (dI (F / 8 % 16) (F2 / 8 % 16) + dI (F / 128 % 16) (F2 / 128 % 16)))
theorem cnt_same (x : Int) (xs ys : List Int) : cntL (x :: xs) (x :: ys) = cntL xs ys := by
  show (bif x != x then 1 else 0) + cntL xs ys = _
  rw [bne_self_eq_false]
  exact Int.zero_add _
theorem cnt_put (x y a b : Int) (xs ys : List Int) (h : x % 16 = y % 16 ↔ a = b) : cntL (put x :: xs) (put y :: ys) = dI a b + cntL xs ys := by
  show (bif put x != put y then 1 else 0) + cntL xs ys = _
  congr 1
  unfold dI
  by_cases e : a = b
  · have : put x = put y := by rw [← put_16 x, ← put_16 y, h.2 e]
    rw [this, e, bne_self_eq_false, bne_self_eq_false]
  · have : put x ≠ put y := fun hp => e (h.1 (by rw [← getN_put x, ← getN_put y, hp]))
    rw [bne_iff_ne.2 this, bne_iff_ne.2 e]
theorem cnt_eq (F F2 : Int) : cntL (lstF F) (lstF F2) = dsum F F2 := by
  have z : cntL Z32 Z32 = 0 := by decide
  show cntL (adr0 3 0 :: adr1 0 :: put (aI 69 15) :: put (shrv .i64 69 4) :: put (aI 4660 15) :: put (nb3 4660 (aI F 1)) :: put (nb4 4660) :: put (nb5 4660 (aI (shrv .i64 F 1) 3)) :: put (aI (shrv .i64 F 3) 15) :: put (aI (shrv .i64 F 7) 15) :: Z32)
    (adr0 3 0 :: adr1 0 :: put (aI 69 15) :: put (shrv .i64 69 4) :: put (aI 4660 15) :: put (nb3 4660 (aI F2 1)) :: put (nb4 4660) :: put (nb5 4660 (aI (shrv .i64 F2 1) 3)) :: put (aI (shrv .i64 F2 3) 15) :: put (aI (shrv .i64 F2 7) 15) :: Z32) = _
  rw [cnt_same, cnt_same, cnt_same, cnt_same, cnt_same]
  rw [cnt_put _ _ (F % 2) (F2 % 2) _ _ (by rw [aI_1, aI_1, nb3_eq _ _ (by omega), nb3_eq _ _ (by omega)]; omega), cnt_same]
  rw [cnt_put _ _ (F / 2 % 4) (F2 / 2 % 4) _ _ (by rw [sh_1, sh_1, aI_3, aI_3, nb5_eq _ _ (by omega), nb5_eq _ _ (by omega)]; omega)]
  rw [cnt_put _ _ (F / 8 % 16) (F2 / 8 % 16) _ _ (by rw [sh_3, sh_3, aI_15, aI_15]; omega)]
  rw [cnt_put _ _ (F / 128 % 16) (F2 / 128 % 16) _ _ (by rw [sh_7, sh_7, aI_15, aI_15]; omega), z, Int.add_zero]
  rfl
theorem plain_say (F : Int) (T : List Int) (hF : 0 ≤ F ∧ F < 2048) :
    pageOf (G (hb 69 4660 F ++ T) 0) (G (hb 69 4660 F ++ T) 1) = 69 ∧ subOf (G (hb 69 4660 F ++ T) 2) (G (hb 69 4660 F ++ T) 3) (G (hb 69 4660 F ++ T) 4) (G (hb 69 4660 F ++ T) 5) = 4660 ∧ FL (hb 69 4660 F ++ T) = F ∧ (B8 (hb 69 4660 F ++ T)).all getB = true := by
  have g0 : G (hb 69 4660 F ++ T) 0 = 69 % 16 := by
    show getN (put (aI 69 15)) = _
    rw [getN_put, aI_15]; omega
  have g1 : G (hb 69 4660 F ++ T) 1 = 69 / 16 % 16 := by
    show getN (put (shrv .i64 69 4)) = _
    rw [getN_put, sh_4]
  have g2 : G (hb 69 4660 F ++ T) 2 = 4660 % 16 := by
    show getN (put (aI 4660 15)) = _
    rw [getN_put, aI_15]; omega
  have g3 : G (hb 69 4660 F ++ T) 3 = 4660 / 16 % 8 + F % 2 * 8 := by
    show getN (put (nb3 4660 (aI F 1))) = _
    rw [getN_put, aI_1, nb3_eq _ _ (by omega)]; omega
  have g4 : G (hb 69 4660 F ++ T) 4 = 4660 / 256 % 16 := by
    show getN (put (nb4 4660)) = _
    rw [getN_put, nb4_eq]; omega
  have g5 : G (hb 69 4660 F ++ T) 5 = 4660 / 4096 % 4 + F / 2 % 4 * 4 := by
    show getN (put (nb5 4660 (aI (shrv .i64 F 1) 3))) = _
    rw [getN_put, sh_1, aI_3, nb5_eq _ _ (by omega)]; omega
  have g6 : G (hb 69 4660 F ++ T) 6 = F / 8 % 16 := by
    show getN (put (aI (shrv .i64 F 3) 15)) = _
    rw [getN_put, sh_3, aI_15]; omega
  have g7 : G (hb 69 4660 F ++ T) 7 = F / 128 % 16 := by
    show getN (put (aI (shrv .i64 F 7) 15)) = _
    rw [getN_put, sh_7, aI_15]; omega
  refine ⟨?_, ?_, ?_, ?_⟩
  · rw [g0, g1]; exact page_back 69 (by omega)
  · rw [g2, g3, g4, g5]; exact sub_back 4660 _ _ (by omega)
  · unfold FL
    rw [g3, g5, g6, g7, sh_3, sh_2, show (4660 / 16 % 8 + F % 2 * 8) / 8 = F % 2 by omega, show (4660 / 4096 % 4 + F / 2 % 4 * 4) / 4 = F / 2 % 4 by omega]
    exact fl_back F hF
  · show (getB (put (aI 69 15)) && (getB (put (shrv .i64 69 4)) && (getB (put (aI 4660 15)) && (getB (put (nb3 4660 (aI F 1))) && (getB (put (nb4 4660)) && (getB (put (nb5 4660 (aI (shrv .i64 F 1) 3))) && (getB (put (aI (shrv .i64 F 3) 15)) && (getB (put (aI (shrv .i64 F 7) 15)) && true)))))))) = true
    rw [getB_put, getB_put, getB_put, getB_put, getB_put, getB_put, getB_put, getB_put]
    rfl
theorem hdC_say (c0 c1 c2 c3 c4 c5 c6 c7 c8 c9 c10 : Bool) : hdC 3 (dsF (flN c0 c1 c2 c3 c4 c5 c6 c7 c8 c9 c10)) = [.i .i64 3, .i .i64 69, .i .i64 4660, .b c0, .b c1, .b c2, .b c3, .b c4, .b c5, .b c6, .b c7, .b c8, .b c9, .b c10, .i .i64 (optN c8 c9 c10)] := by
  have hF := fl_in c0 c1 c2 c3 c4 c5 c6 c7 c8 c9 c10
  have hb := fl_bits c0 c1 c2 c3 c4 c5 c6 c7 c8 c9 c10
  generalize flN c0 c1 c2 c3 c4 c5 c6 c7 c8 c9 c10 = F at *
  obtain ⟨e1, e2, e3, -⟩ := plain_say F Z32 hF
  have hb : [ckOf F 0, ckOf F 1, ckOf F 2, ckOf F 3, ckOf F 4, ckOf F 5, ckOf F 6, ckOf F 7, ckOf F 8, ckOf F 9, ckOf F 10] = [c0, c1, c2, c3, c4, c5, c6, c7, c8, c9, c10] := hb
  simp only [List.cons.injEq, and_true] at hb
  obtain ⟨k0, k1, k2, k3, k4, k5, k6, k7, k8, k9, k10⟩ := hb
  unfold hdC dsF
  rw [e1, e2, e3, k0, k1, k2, k3, k4, k5, k6, k7, k8, k9, k10]
theorem ck_same (f : Int) (j : Nat) : (ckT f j j == !ckOf f (j : Int)) = true := by
  unfold ckT
  rw [beq_self_eq_true]
  exact beq_self_eq_true _
theorem mustC_in (F F2 : Int) (hc : dsum F F2 = 1) : mustC (lstF F) (lstF F2) := ⟨rfl, rfl, rfl, rfl, rfl, rfl, by rw [cnt_eq F F2]; exact hc⟩
theorem goodE_in {m p s : Int} {K : Bool → Prop} (h : 1 ≤ m ∧ m ≤ 8 ∧ 0 ≤ p ∧ p ≤ 255 ∧ 0 ≤ s ∧ s ≤ 16255 ∧ s / 128 % 2 = 0) (hK : K true) : goodE m p s K := by
  refine ⟨dT h.1, dT h.2.1, dT h.2.2.1, dT h.2.2.2.1, dT h.2.2.2.2.1, dT h.2.2.2.2.2.1, ?_⟩
  have : (aI s 128 == 0) = true := by rw [aI_128, beq_iff_eq]; omega
  rw [this]
  exact hK
theorem chainD_in {p s : Int} {K : Bool → Prop} (h : ¬ (p ≤ 255 ∧ 0 ≤ s ∧ s ≤ 16255 ∧ s / 128 % 2 = 0)) (hK : K false) : chainD p s K := by
  refine sel_by (fun h4 => sel_by (fun h5 => sel_by (fun h6 => ?_) fun _ => hK) fun _ => hK) fun _ => hK
  have : (aI s 128 == 0) = false := by
    rw [aI_128, beq_eq_false_iff_ne]
    intro e
    exact h ⟨h4, h5, h6, by omega⟩
  rw [this]
  exact hK
theorem fair_iff (m p s : Int) (hs : -9223372036854775808 ≤ s ∧ s < 9223372036854775808) : fairB m p s = true ↔ (1 ≤ m ∧ m ≤ 8 ∧ 0 ≤ p ∧ p ≤ 255 ∧ 0 ≤ s ∧ s ≤ 16255 ∧ s / 128 % 2 = 0) := by
  unfold fairB
  simp only [Bool.and_eq_true, decide_eq_true_eq, beq_iff_eq]
  rw [andNot_iff s hs]
def isT (o : Out) : Prop := o.res = .v (.c (.b true))
theorem box_holds {t : Tr Out} {R : Out → Prop} (h : Box (t.run R)) : Holds t R := ⟨h.out⟩
theorem finE_in {X2 i : Bool} (h : X2 = true) : finE X2 i i isT := by
  unfold finE
  refine selT h ⟨⟨rfl, rfl, rfl⟩, selT (beq_self_eq_true i) rfl⟩
/-- One of several trees, by what came in. -/
theorem Known_pick {P : Program} {gl : List Nat} {f : FuncId} {ι : Type} {T : ι → Con} (h : ∀ i, Known P gl f (T i)) (p : List NV → List Reg → ι) (i0 : ι) : Known P gl f fun args regs => T (p args regs) args regs :=
  ⟨(h i0).goes, fun args regs R hR => (h (p args regs)).sound args regs R hR⟩
def pickF : List NV → List Reg → Nat × Int
  | [.c (.i _ f), .c (.i _ k), _], _ => ((k % 11).toNat, f)
  | _, _ => (0, 0)
noncomputable def tFlags : Con := fun args regs => t_flags (pickF args regs).1 (pickF args regs).2 args regs
theorem kFlags : Known Tryd.prog GL 7 tFlags := Known_pick (T := fun i : Nat × Int => t_flags i.1 i.2) (fun i => k_flags i.1 i.2) pickF (0, 0)
theorem flags_run (f k m p s : Int) {j : Nat} (hj : k % 11 = (j : Int)) (h : Box ((t_flags j f [.c (.i .i64 f), .c (.i .i64 k), .ag [.i .i64 m, .i .i64 p, .i .i64 s]] []).run isT)) : Box ((tFlags [.c (.i .i64 f), .c (.i .i64 k), .ag [.i .i64 m, .i .i64 p, .i .i64 s]] []).run isT) := by
  have e : tFlags [.c (.i .i64 f), .c (.i .i64 k), .ag [.i .i64 m, .i .i64 p, .i .i64 s]] [] = t_flags j f [.c (.i .i64 f), .c (.i .i64 k), .ag [.i .i64 m, .i .i64 p, .i .i64 s]] [] := by
    show t_flags (k % 11).toNat f _ _ = _
    rw [hj, Int.toNat_natCast]
  rw [e]
  exact h
/-- A road holds: so does the tree. -/
theorem box_follow {t : Tr Out} {R : Out → Prop} (bs : List (Option Bool)) (h : Box ((t.follow bs).run R)) : Box (t.run R) := ⟨Tr.follow_run t bs h.out⟩
theorem dsum_0 : ∀ c0 c1 c2 c3 c4 c5 c6 c7 c8 c9 c10 : Bool, dsum (flN c0 c1 c2 c3 c4 c5 c6 c7 c8 c9 c10) (flN (!c0) c1 c2 c3 c4 c5 c6 c7 c8 c9 c10) = 1 := by decide +kernel
theorem pre_0 (f : Int) : mustC (lstF (flN (ckOf f 0) (ckOf f 1) (ckOf f 2) (ckOf f 3) (ckOf f 4) (ckOf f 5) (ckOf f 6) (ckOf f 7) (ckOf f 8) (ckOf f 9) (ckOf f 10))) (lstF (flN (!ckOf f 0) (ckOf f 1) (ckOf f 2) (ckOf f 3) (ckOf f 4) (ckOf f 5) (ckOf f 6) (ckOf f 7) (ckOf f 8) (ckOf f 9) (ckOf f 10))) ∧ mustH (flN (!ckOf f 0) (ckOf f 1) (ckOf f 2) (ckOf f 3) (ckOf f 4) (ckOf f 5) (ckOf f 6) (ckOf f 7) (ckOf f 8) (ckOf f 9) (ckOf f 10)) f 0 :=
  ⟨mustC_in _ _ (dsum_0 (ckOf f 0) (ckOf f 1) (ckOf f 2) (ckOf f 3) (ckOf f 4) (ckOf f 5) (ckOf f 6) (ckOf f 7) (ckOf f 8) (ckOf f 9) (ckOf f 10)), rfl, rfl, (plain_say _ Z32 (fl_in (!ckOf f 0) (ckOf f 1) (ckOf f 2) (ckOf f 3) (ckOf f 4) (ckOf f 5) (ckOf f 6) (ckOf f 7) (ckOf f 8) (ckOf f 9) (ckOf f 10))).2.2.2, hdC_say (!ckOf f 0) (ckOf f 1) (ckOf f 2) (ckOf f 3) (ckOf f 4) (ckOf f 5) (ckOf f 6) (ckOf f 7) (ckOf f 8) (ckOf f 9) (ckOf f 10)⟩
theorem law_0 (f k m p s : Int) (hs : -9223372036854775808 ≤ s ∧ s < 9223372036854775808) (hk : k % 11 = 0) : Box ((t_flags 0 f [.c (.i .i64 f), .c (.i .i64 k), .ag [.i .i64 m, .i .i64 p, .i .i64 s]] []).run isT) := by
  cases hf : fairB m p s with
  | true =>
    exact box_follow roadT (Box.of_eq (flags_0_t f k m p s isT) ⟨⟨rfl, by decide, by decide, hk⟩, (pre_0 f).1, (pre_0 f).2, hf, goodE_in ((fair_iff m p s hs).1 hf) (finE_in (ck_same f 0))⟩)
  | false =>
    have hn : ¬ (1 ≤ m ∧ m ≤ 8 ∧ 0 ≤ p ∧ p ≤ 255 ∧ 0 ≤ s ∧ s ≤ 16255 ∧ s / 128 % 2 = 0) := fun h => by
      rw [(fair_iff m p s hs).2 h] at hf
      cases hf
    by_cases h1 : m ≥ 1
    · by_cases h2 : m ≤ 8
      · by_cases h3 : p ≥ 0
        · exact box_follow roadD (Box.of_eq (flags_0_D f k m p s isT) ⟨⟨rfl, by decide, by decide, hk⟩, (pre_0 f).1, (pre_0 f).2, hf, dT h1, dT h2, dT h3, chainD_in (fun h => hn ⟨h1, h2, h3, h⟩) (finE_in (ck_same f 0))⟩)
        · exact box_follow roadC (Box.of_eq (flags_0_C f k m p s isT) ⟨⟨rfl, by decide, by decide, hk⟩, (pre_0 f).1, (pre_0 f).2, hf, dT h1, dT h2, dF h3, finE_in (ck_same f 0)⟩)
      · exact box_follow roadB (Box.of_eq (flags_0_B f k m p s isT) ⟨⟨rfl, by decide, by decide, hk⟩, (pre_0 f).1, (pre_0 f).2, hf, dT h1, dF h2, finE_in (ck_same f 0)⟩)
    · exact box_follow roadA (Box.of_eq (flags_0_A f k m p s isT) ⟨⟨rfl, by decide, by decide, hk⟩, (pre_0 f).1, (pre_0 f).2, hf, dF h1, finE_in (ck_same f 0)⟩)
theorem dsum_1 : ∀ c0 c1 c2 c3 c4 c5 c6 c7 c8 c9 c10 : Bool, dsum (flN c0 c1 c2 c3 c4 c5 c6 c7 c8 c9 c10) (flN c0 (!c1) c2 c3 c4 c5 c6 c7 c8 c9 c10) = 1 := by decide +kernel
theorem pre_1 (f : Int) : mustC (lstF (flN (ckOf f 0) (ckOf f 1) (ckOf f 2) (ckOf f 3) (ckOf f 4) (ckOf f 5) (ckOf f 6) (ckOf f 7) (ckOf f 8) (ckOf f 9) (ckOf f 10))) (lstF (flN (ckOf f 0) (!ckOf f 1) (ckOf f 2) (ckOf f 3) (ckOf f 4) (ckOf f 5) (ckOf f 6) (ckOf f 7) (ckOf f 8) (ckOf f 9) (ckOf f 10))) ∧ mustH (flN (ckOf f 0) (!ckOf f 1) (ckOf f 2) (ckOf f 3) (ckOf f 4) (ckOf f 5) (ckOf f 6) (ckOf f 7) (ckOf f 8) (ckOf f 9) (ckOf f 10)) f 1 :=
  ⟨mustC_in _ _ (dsum_1 (ckOf f 0) (ckOf f 1) (ckOf f 2) (ckOf f 3) (ckOf f 4) (ckOf f 5) (ckOf f 6) (ckOf f 7) (ckOf f 8) (ckOf f 9) (ckOf f 10)), rfl, rfl, (plain_say _ Z32 (fl_in (ckOf f 0) (!ckOf f 1) (ckOf f 2) (ckOf f 3) (ckOf f 4) (ckOf f 5) (ckOf f 6) (ckOf f 7) (ckOf f 8) (ckOf f 9) (ckOf f 10))).2.2.2, hdC_say (ckOf f 0) (!ckOf f 1) (ckOf f 2) (ckOf f 3) (ckOf f 4) (ckOf f 5) (ckOf f 6) (ckOf f 7) (ckOf f 8) (ckOf f 9) (ckOf f 10)⟩
theorem law_1 (f k m p s : Int) (hs : -9223372036854775808 ≤ s ∧ s < 9223372036854775808) (hk : k % 11 = 1) : Box ((t_flags 1 f [.c (.i .i64 f), .c (.i .i64 k), .ag [.i .i64 m, .i .i64 p, .i .i64 s]] []).run isT) := by
  cases hf : fairB m p s with
  | true =>
    exact box_follow roadT (Box.of_eq (flags_1_t f k m p s isT) ⟨⟨rfl, by decide, by decide, hk⟩, (pre_1 f).1, (pre_1 f).2, hf, goodE_in ((fair_iff m p s hs).1 hf) (finE_in (ck_same f 1))⟩)
  | false =>
    have hn : ¬ (1 ≤ m ∧ m ≤ 8 ∧ 0 ≤ p ∧ p ≤ 255 ∧ 0 ≤ s ∧ s ≤ 16255 ∧ s / 128 % 2 = 0) := fun h => by
      rw [(fair_iff m p s hs).2 h] at hf
      cases hf
    by_cases h1 : m ≥ 1
    · by_cases h2 : m ≤ 8
      · by_cases h3 : p ≥ 0
        · exact box_follow roadD (Box.of_eq (flags_1_D f k m p s isT) ⟨⟨rfl, by decide, by decide, hk⟩, (pre_1 f).1, (pre_1 f).2, hf, dT h1, dT h2, dT h3, chainD_in (fun h => hn ⟨h1, h2, h3, h⟩) (finE_in (ck_same f 1))⟩)
        · exact box_follow roadC (Box.of_eq (flags_1_C f k m p s isT) ⟨⟨rfl, by decide, by decide, hk⟩, (pre_1 f).1, (pre_1 f).2, hf, dT h1, dT h2, dF h3, finE_in (ck_same f 1)⟩)
      · exact box_follow roadB (Box.of_eq (flags_1_B f k m p s isT) ⟨⟨rfl, by decide, by decide, hk⟩, (pre_1 f).1, (pre_1 f).2, hf, dT h1, dF h2, finE_in (ck_same f 1)⟩)
    · exact box_follow roadA (Box.of_eq (flags_1_A f k m p s isT) ⟨⟨rfl, by decide, by decide, hk⟩, (pre_1 f).1, (pre_1 f).2, hf, dF h1, finE_in (ck_same f 1)⟩)
theorem dsum_2 : ∀ c0 c1 c2 c3 c4 c5 c6 c7 c8 c9 c10 : Bool, dsum (flN c0 c1 c2 c3 c4 c5 c6 c7 c8 c9 c10) (flN c0 c1 (!c2) c3 c4 c5 c6 c7 c8 c9 c10) = 1 := by decide +kernel
theorem pre_2 (f : Int) : mustC (lstF (flN (ckOf f 0) (ckOf f 1) (ckOf f 2) (ckOf f 3) (ckOf f 4) (ckOf f 5) (ckOf f 6) (ckOf f 7) (ckOf f 8) (ckOf f 9) (ckOf f 10))) (lstF (flN (ckOf f 0) (ckOf f 1) (!ckOf f 2) (ckOf f 3) (ckOf f 4) (ckOf f 5) (ckOf f 6) (ckOf f 7) (ckOf f 8) (ckOf f 9) (ckOf f 10))) ∧ mustH (flN (ckOf f 0) (ckOf f 1) (!ckOf f 2) (ckOf f 3) (ckOf f 4) (ckOf f 5) (ckOf f 6) (ckOf f 7) (ckOf f 8) (ckOf f 9) (ckOf f 10)) f 2 :=
  ⟨mustC_in _ _ (dsum_2 (ckOf f 0) (ckOf f 1) (ckOf f 2) (ckOf f 3) (ckOf f 4) (ckOf f 5) (ckOf f 6) (ckOf f 7) (ckOf f 8) (ckOf f 9) (ckOf f 10)), rfl, rfl, (plain_say _ Z32 (fl_in (ckOf f 0) (ckOf f 1) (!ckOf f 2) (ckOf f 3) (ckOf f 4) (ckOf f 5) (ckOf f 6) (ckOf f 7) (ckOf f 8) (ckOf f 9) (ckOf f 10))).2.2.2, hdC_say (ckOf f 0) (ckOf f 1) (!ckOf f 2) (ckOf f 3) (ckOf f 4) (ckOf f 5) (ckOf f 6) (ckOf f 7) (ckOf f 8) (ckOf f 9) (ckOf f 10)⟩
theorem law_2 (f k m p s : Int) (hs : -9223372036854775808 ≤ s ∧ s < 9223372036854775808) (hk : k % 11 = 2) : Box ((t_flags 2 f [.c (.i .i64 f), .c (.i .i64 k), .ag [.i .i64 m, .i .i64 p, .i .i64 s]] []).run isT) := by
  cases hf : fairB m p s with
  | true =>
    exact box_follow roadT (Box.of_eq (flags_2_t f k m p s isT) ⟨⟨rfl, by decide, by decide, hk⟩, (pre_2 f).1, (pre_2 f).2, hf, goodE_in ((fair_iff m p s hs).1 hf) (finE_in (ck_same f 2))⟩)
  | false =>
    have hn : ¬ (1 ≤ m ∧ m ≤ 8 ∧ 0 ≤ p ∧ p ≤ 255 ∧ 0 ≤ s ∧ s ≤ 16255 ∧ s / 128 % 2 = 0) := fun h => by
      rw [(fair_iff m p s hs).2 h] at hf
      cases hf
    by_cases h1 : m ≥ 1
    · by_cases h2 : m ≤ 8
      · by_cases h3 : p ≥ 0
        · exact box_follow roadD (Box.of_eq (flags_2_D f k m p s isT) ⟨⟨rfl, by decide, by decide, hk⟩, (pre_2 f).1, (pre_2 f).2, hf, dT h1, dT h2, dT h3, chainD_in (fun h => hn ⟨h1, h2, h3, h⟩) (finE_in (ck_same f 2))⟩)
        · exact box_follow roadC (Box.of_eq (flags_2_C f k m p s isT) ⟨⟨rfl, by decide, by decide, hk⟩, (pre_2 f).1, (pre_2 f).2, hf, dT h1, dT h2, dF h3, finE_in (ck_same f 2)⟩)
      · exact box_follow roadB (Box.of_eq (flags_2_B f k m p s isT) ⟨⟨rfl, by decide, by decide, hk⟩, (pre_2 f).1, (pre_2 f).2, hf, dT h1, dF h2, finE_in (ck_same f 2)⟩)
    · exact box_follow roadA (Box.of_eq (flags_2_A f k m p s isT) ⟨⟨rfl, by decide, by decide, hk⟩, (pre_2 f).1, (pre_2 f).2, hf, dF h1, finE_in (ck_same f 2)⟩)
theorem dsum_3 : ∀ c0 c1 c2 c3 c4 c5 c6 c7 c8 c9 c10 : Bool, dsum (flN c0 c1 c2 c3 c4 c5 c6 c7 c8 c9 c10) (flN c0 c1 c2 (!c3) c4 c5 c6 c7 c8 c9 c10) = 1 := by decide +kernel
theorem pre_3 (f : Int) : mustC (lstF (flN (ckOf f 0) (ckOf f 1) (ckOf f 2) (ckOf f 3) (ckOf f 4) (ckOf f 5) (ckOf f 6) (ckOf f 7) (ckOf f 8) (ckOf f 9) (ckOf f 10))) (lstF (flN (ckOf f 0) (ckOf f 1) (ckOf f 2) (!ckOf f 3) (ckOf f 4) (ckOf f 5) (ckOf f 6) (ckOf f 7) (ckOf f 8) (ckOf f 9) (ckOf f 10))) ∧ mustH (flN (ckOf f 0) (ckOf f 1) (ckOf f 2) (!ckOf f 3) (ckOf f 4) (ckOf f 5) (ckOf f 6) (ckOf f 7) (ckOf f 8) (ckOf f 9) (ckOf f 10)) f 3 :=
  ⟨mustC_in _ _ (dsum_3 (ckOf f 0) (ckOf f 1) (ckOf f 2) (ckOf f 3) (ckOf f 4) (ckOf f 5) (ckOf f 6) (ckOf f 7) (ckOf f 8) (ckOf f 9) (ckOf f 10)), rfl, rfl, (plain_say _ Z32 (fl_in (ckOf f 0) (ckOf f 1) (ckOf f 2) (!ckOf f 3) (ckOf f 4) (ckOf f 5) (ckOf f 6) (ckOf f 7) (ckOf f 8) (ckOf f 9) (ckOf f 10))).2.2.2, hdC_say (ckOf f 0) (ckOf f 1) (ckOf f 2) (!ckOf f 3) (ckOf f 4) (ckOf f 5) (ckOf f 6) (ckOf f 7) (ckOf f 8) (ckOf f 9) (ckOf f 10)⟩
theorem law_3 (f k m p s : Int) (hs : -9223372036854775808 ≤ s ∧ s < 9223372036854775808) (hk : k % 11 = 3) : Box ((t_flags 3 f [.c (.i .i64 f), .c (.i .i64 k), .ag [.i .i64 m, .i .i64 p, .i .i64 s]] []).run isT) := by
  cases hf : fairB m p s with
  | true =>
    exact box_follow roadT (Box.of_eq (flags_3_t f k m p s isT) ⟨⟨rfl, by decide, by decide, hk⟩, (pre_3 f).1, (pre_3 f).2, hf, goodE_in ((fair_iff m p s hs).1 hf) (finE_in (ck_same f 3))⟩)
  | false =>
    have hn : ¬ (1 ≤ m ∧ m ≤ 8 ∧ 0 ≤ p ∧ p ≤ 255 ∧ 0 ≤ s ∧ s ≤ 16255 ∧ s / 128 % 2 = 0) := fun h => by
      rw [(fair_iff m p s hs).2 h] at hf
      cases hf
    by_cases h1 : m ≥ 1
    · by_cases h2 : m ≤ 8
      · by_cases h3 : p ≥ 0
        · exact box_follow roadD (Box.of_eq (flags_3_D f k m p s isT) ⟨⟨rfl, by decide, by decide, hk⟩, (pre_3 f).1, (pre_3 f).2, hf, dT h1, dT h2, dT h3, chainD_in (fun h => hn ⟨h1, h2, h3, h⟩) (finE_in (ck_same f 3))⟩)
        · exact box_follow roadC (Box.of_eq (flags_3_C f k m p s isT) ⟨⟨rfl, by decide, by decide, hk⟩, (pre_3 f).1, (pre_3 f).2, hf, dT h1, dT h2, dF h3, finE_in (ck_same f 3)⟩)
      · exact box_follow roadB (Box.of_eq (flags_3_B f k m p s isT) ⟨⟨rfl, by decide, by decide, hk⟩, (pre_3 f).1, (pre_3 f).2, hf, dT h1, dF h2, finE_in (ck_same f 3)⟩)
    · exact box_follow roadA (Box.of_eq (flags_3_A f k m p s isT) ⟨⟨rfl, by decide, by decide, hk⟩, (pre_3 f).1, (pre_3 f).2, hf, dF h1, finE_in (ck_same f 3)⟩)
theorem dsum_4 : ∀ c0 c1 c2 c3 c4 c5 c6 c7 c8 c9 c10 : Bool, dsum (flN c0 c1 c2 c3 c4 c5 c6 c7 c8 c9 c10) (flN c0 c1 c2 c3 (!c4) c5 c6 c7 c8 c9 c10) = 1 := by decide +kernel
theorem pre_4 (f : Int) : mustC (lstF (flN (ckOf f 0) (ckOf f 1) (ckOf f 2) (ckOf f 3) (ckOf f 4) (ckOf f 5) (ckOf f 6) (ckOf f 7) (ckOf f 8) (ckOf f 9) (ckOf f 10))) (lstF (flN (ckOf f 0) (ckOf f 1) (ckOf f 2) (ckOf f 3) (!ckOf f 4) (ckOf f 5) (ckOf f 6) (ckOf f 7) (ckOf f 8) (ckOf f 9) (ckOf f 10))) ∧ mustH (flN (ckOf f 0) (ckOf f 1) (ckOf f 2) (ckOf f 3) (!ckOf f 4) (ckOf f 5) (ckOf f 6) (ckOf f 7) (ckOf f 8) (ckOf f 9) (ckOf f 10)) f 4 :=
  ⟨mustC_in _ _ (dsum_4 (ckOf f 0) (ckOf f 1) (ckOf f 2) (ckOf f 3) (ckOf f 4) (ckOf f 5) (ckOf f 6) (ckOf f 7) (ckOf f 8) (ckOf f 9) (ckOf f 10)), rfl, rfl, (plain_say _ Z32 (fl_in (ckOf f 0) (ckOf f 1) (ckOf f 2) (ckOf f 3) (!ckOf f 4) (ckOf f 5) (ckOf f 6) (ckOf f 7) (ckOf f 8) (ckOf f 9) (ckOf f 10))).2.2.2, hdC_say (ckOf f 0) (ckOf f 1) (ckOf f 2) (ckOf f 3) (!ckOf f 4) (ckOf f 5) (ckOf f 6) (ckOf f 7) (ckOf f 8) (ckOf f 9) (ckOf f 10)⟩
theorem law_4 (f k m p s : Int) (hs : -9223372036854775808 ≤ s ∧ s < 9223372036854775808) (hk : k % 11 = 4) : Box ((t_flags 4 f [.c (.i .i64 f), .c (.i .i64 k), .ag [.i .i64 m, .i .i64 p, .i .i64 s]] []).run isT) := by
  cases hf : fairB m p s with
  | true =>
    exact box_follow roadT (Box.of_eq (flags_4_t f k m p s isT) ⟨⟨rfl, by decide, by decide, hk⟩, (pre_4 f).1, (pre_4 f).2, hf, goodE_in ((fair_iff m p s hs).1 hf) (finE_in (ck_same f 4))⟩)
  | false =>
    have hn : ¬ (1 ≤ m ∧ m ≤ 8 ∧ 0 ≤ p ∧ p ≤ 255 ∧ 0 ≤ s ∧ s ≤ 16255 ∧ s / 128 % 2 = 0) := fun h => by
      rw [(fair_iff m p s hs).2 h] at hf
      cases hf
    by_cases h1 : m ≥ 1
    · by_cases h2 : m ≤ 8
      · by_cases h3 : p ≥ 0
        · exact box_follow roadD (Box.of_eq (flags_4_D f k m p s isT) ⟨⟨rfl, by decide, by decide, hk⟩, (pre_4 f).1, (pre_4 f).2, hf, dT h1, dT h2, dT h3, chainD_in (fun h => hn ⟨h1, h2, h3, h⟩) (finE_in (ck_same f 4))⟩)
        · exact box_follow roadC (Box.of_eq (flags_4_C f k m p s isT) ⟨⟨rfl, by decide, by decide, hk⟩, (pre_4 f).1, (pre_4 f).2, hf, dT h1, dT h2, dF h3, finE_in (ck_same f 4)⟩)
      · exact box_follow roadB (Box.of_eq (flags_4_B f k m p s isT) ⟨⟨rfl, by decide, by decide, hk⟩, (pre_4 f).1, (pre_4 f).2, hf, dT h1, dF h2, finE_in (ck_same f 4)⟩)
    · exact box_follow roadA (Box.of_eq (flags_4_A f k m p s isT) ⟨⟨rfl, by decide, by decide, hk⟩, (pre_4 f).1, (pre_4 f).2, hf, dF h1, finE_in (ck_same f 4)⟩)
theorem dsum_5 : ∀ c0 c1 c2 c3 c4 c5 c6 c7 c8 c9 c10 : Bool, dsum (flN c0 c1 c2 c3 c4 c5 c6 c7 c8 c9 c10) (flN c0 c1 c2 c3 c4 (!c5) c6 c7 c8 c9 c10) = 1 := by decide +kernel
theorem pre_5 (f : Int) : mustC (lstF (flN (ckOf f 0) (ckOf f 1) (ckOf f 2) (ckOf f 3) (ckOf f 4) (ckOf f 5) (ckOf f 6) (ckOf f 7) (ckOf f 8) (ckOf f 9) (ckOf f 10))) (lstF (flN (ckOf f 0) (ckOf f 1) (ckOf f 2) (ckOf f 3) (ckOf f 4) (!ckOf f 5) (ckOf f 6) (ckOf f 7) (ckOf f 8) (ckOf f 9) (ckOf f 10))) ∧ mustH (flN (ckOf f 0) (ckOf f 1) (ckOf f 2) (ckOf f 3) (ckOf f 4) (!ckOf f 5) (ckOf f 6) (ckOf f 7) (ckOf f 8) (ckOf f 9) (ckOf f 10)) f 5 :=
  ⟨mustC_in _ _ (dsum_5 (ckOf f 0) (ckOf f 1) (ckOf f 2) (ckOf f 3) (ckOf f 4) (ckOf f 5) (ckOf f 6) (ckOf f 7) (ckOf f 8) (ckOf f 9) (ckOf f 10)), rfl, rfl, (plain_say _ Z32 (fl_in (ckOf f 0) (ckOf f 1) (ckOf f 2) (ckOf f 3) (ckOf f 4) (!ckOf f 5) (ckOf f 6) (ckOf f 7) (ckOf f 8) (ckOf f 9) (ckOf f 10))).2.2.2, hdC_say (ckOf f 0) (ckOf f 1) (ckOf f 2) (ckOf f 3) (ckOf f 4) (!ckOf f 5) (ckOf f 6) (ckOf f 7) (ckOf f 8) (ckOf f 9) (ckOf f 10)⟩
theorem law_5 (f k m p s : Int) (hs : -9223372036854775808 ≤ s ∧ s < 9223372036854775808) (hk : k % 11 = 5) : Box ((t_flags 5 f [.c (.i .i64 f), .c (.i .i64 k), .ag [.i .i64 m, .i .i64 p, .i .i64 s]] []).run isT) := by
  cases hf : fairB m p s with
  | true =>
    exact box_follow roadT (Box.of_eq (flags_5_t f k m p s isT) ⟨⟨rfl, by decide, by decide, hk⟩, (pre_5 f).1, (pre_5 f).2, hf, goodE_in ((fair_iff m p s hs).1 hf) (finE_in (ck_same f 5))⟩)
  | false =>
    have hn : ¬ (1 ≤ m ∧ m ≤ 8 ∧ 0 ≤ p ∧ p ≤ 255 ∧ 0 ≤ s ∧ s ≤ 16255 ∧ s / 128 % 2 = 0) := fun h => by
      rw [(fair_iff m p s hs).2 h] at hf
      cases hf
    by_cases h1 : m ≥ 1
    · by_cases h2 : m ≤ 8
      · by_cases h3 : p ≥ 0
        · exact box_follow roadD (Box.of_eq (flags_5_D f k m p s isT) ⟨⟨rfl, by decide, by decide, hk⟩, (pre_5 f).1, (pre_5 f).2, hf, dT h1, dT h2, dT h3, chainD_in (fun h => hn ⟨h1, h2, h3, h⟩) (finE_in (ck_same f 5))⟩)
        · exact box_follow roadC (Box.of_eq (flags_5_C f k m p s isT) ⟨⟨rfl, by decide, by decide, hk⟩, (pre_5 f).1, (pre_5 f).2, hf, dT h1, dT h2, dF h3, finE_in (ck_same f 5)⟩)
      · exact box_follow roadB (Box.of_eq (flags_5_B f k m p s isT) ⟨⟨rfl, by decide, by decide, hk⟩, (pre_5 f).1, (pre_5 f).2, hf, dT h1, dF h2, finE_in (ck_same f 5)⟩)
    · exact box_follow roadA (Box.of_eq (flags_5_A f k m p s isT) ⟨⟨rfl, by decide, by decide, hk⟩, (pre_5 f).1, (pre_5 f).2, hf, dF h1, finE_in (ck_same f 5)⟩)
theorem dsum_6 : ∀ c0 c1 c2 c3 c4 c5 c6 c7 c8 c9 c10 : Bool, dsum (flN c0 c1 c2 c3 c4 c5 c6 c7 c8 c9 c10) (flN c0 c1 c2 c3 c4 c5 (!c6) c7 c8 c9 c10) = 1 := by decide +kernel
theorem pre_6 (f : Int) : mustC (lstF (flN (ckOf f 0) (ckOf f 1) (ckOf f 2) (ckOf f 3) (ckOf f 4) (ckOf f 5) (ckOf f 6) (ckOf f 7) (ckOf f 8) (ckOf f 9) (ckOf f 10))) (lstF (flN (ckOf f 0) (ckOf f 1) (ckOf f 2) (ckOf f 3) (ckOf f 4) (ckOf f 5) (!ckOf f 6) (ckOf f 7) (ckOf f 8) (ckOf f 9) (ckOf f 10))) ∧ mustH (flN (ckOf f 0) (ckOf f 1) (ckOf f 2) (ckOf f 3) (ckOf f 4) (ckOf f 5) (!ckOf f 6) (ckOf f 7) (ckOf f 8) (ckOf f 9) (ckOf f 10)) f 6 :=
  ⟨mustC_in _ _ (dsum_6 (ckOf f 0) (ckOf f 1) (ckOf f 2) (ckOf f 3) (ckOf f 4) (ckOf f 5) (ckOf f 6) (ckOf f 7) (ckOf f 8) (ckOf f 9) (ckOf f 10)), rfl, rfl, (plain_say _ Z32 (fl_in (ckOf f 0) (ckOf f 1) (ckOf f 2) (ckOf f 3) (ckOf f 4) (ckOf f 5) (!ckOf f 6) (ckOf f 7) (ckOf f 8) (ckOf f 9) (ckOf f 10))).2.2.2, hdC_say (ckOf f 0) (ckOf f 1) (ckOf f 2) (ckOf f 3) (ckOf f 4) (ckOf f 5) (!ckOf f 6) (ckOf f 7) (ckOf f 8) (ckOf f 9) (ckOf f 10)⟩
theorem law_6 (f k m p s : Int) (hs : -9223372036854775808 ≤ s ∧ s < 9223372036854775808) (hk : k % 11 = 6) : Box ((t_flags 6 f [.c (.i .i64 f), .c (.i .i64 k), .ag [.i .i64 m, .i .i64 p, .i .i64 s]] []).run isT) := by
  cases hf : fairB m p s with
  | true =>
    exact box_follow roadT (Box.of_eq (flags_6_t f k m p s isT) ⟨⟨rfl, by decide, by decide, hk⟩, (pre_6 f).1, (pre_6 f).2, hf, goodE_in ((fair_iff m p s hs).1 hf) (finE_in (ck_same f 6))⟩)
  | false =>
    have hn : ¬ (1 ≤ m ∧ m ≤ 8 ∧ 0 ≤ p ∧ p ≤ 255 ∧ 0 ≤ s ∧ s ≤ 16255 ∧ s / 128 % 2 = 0) := fun h => by
      rw [(fair_iff m p s hs).2 h] at hf
      cases hf
    by_cases h1 : m ≥ 1
    · by_cases h2 : m ≤ 8
      · by_cases h3 : p ≥ 0
        · exact box_follow roadD (Box.of_eq (flags_6_D f k m p s isT) ⟨⟨rfl, by decide, by decide, hk⟩, (pre_6 f).1, (pre_6 f).2, hf, dT h1, dT h2, dT h3, chainD_in (fun h => hn ⟨h1, h2, h3, h⟩) (finE_in (ck_same f 6))⟩)
        · exact box_follow roadC (Box.of_eq (flags_6_C f k m p s isT) ⟨⟨rfl, by decide, by decide, hk⟩, (pre_6 f).1, (pre_6 f).2, hf, dT h1, dT h2, dF h3, finE_in (ck_same f 6)⟩)
      · exact box_follow roadB (Box.of_eq (flags_6_B f k m p s isT) ⟨⟨rfl, by decide, by decide, hk⟩, (pre_6 f).1, (pre_6 f).2, hf, dT h1, dF h2, finE_in (ck_same f 6)⟩)
    · exact box_follow roadA (Box.of_eq (flags_6_A f k m p s isT) ⟨⟨rfl, by decide, by decide, hk⟩, (pre_6 f).1, (pre_6 f).2, hf, dF h1, finE_in (ck_same f 6)⟩)
theorem dsum_7 : ∀ c0 c1 c2 c3 c4 c5 c6 c7 c8 c9 c10 : Bool, dsum (flN c0 c1 c2 c3 c4 c5 c6 c7 c8 c9 c10) (flN c0 c1 c2 c3 c4 c5 c6 (!c7) c8 c9 c10) = 1 := by decide +kernel
theorem pre_7 (f : Int) : mustC (lstF (flN (ckOf f 0) (ckOf f 1) (ckOf f 2) (ckOf f 3) (ckOf f 4) (ckOf f 5) (ckOf f 6) (ckOf f 7) (ckOf f 8) (ckOf f 9) (ckOf f 10))) (lstF (flN (ckOf f 0) (ckOf f 1) (ckOf f 2) (ckOf f 3) (ckOf f 4) (ckOf f 5) (ckOf f 6) (!ckOf f 7) (ckOf f 8) (ckOf f 9) (ckOf f 10))) ∧ mustH (flN (ckOf f 0) (ckOf f 1) (ckOf f 2) (ckOf f 3) (ckOf f 4) (ckOf f 5) (ckOf f 6) (!ckOf f 7) (ckOf f 8) (ckOf f 9) (ckOf f 10)) f 7 :=
  ⟨mustC_in _ _ (dsum_7 (ckOf f 0) (ckOf f 1) (ckOf f 2) (ckOf f 3) (ckOf f 4) (ckOf f 5) (ckOf f 6) (ckOf f 7) (ckOf f 8) (ckOf f 9) (ckOf f 10)), rfl, rfl, (plain_say _ Z32 (fl_in (ckOf f 0) (ckOf f 1) (ckOf f 2) (ckOf f 3) (ckOf f 4) (ckOf f 5) (ckOf f 6) (!ckOf f 7) (ckOf f 8) (ckOf f 9) (ckOf f 10))).2.2.2, hdC_say (ckOf f 0) (ckOf f 1) (ckOf f 2) (ckOf f 3) (ckOf f 4) (ckOf f 5) (ckOf f 6) (!ckOf f 7) (ckOf f 8) (ckOf f 9) (ckOf f 10)⟩
theorem law_7 (f k m p s : Int) (hs : -9223372036854775808 ≤ s ∧ s < 9223372036854775808) (hk : k % 11 = 7) : Box ((t_flags 7 f [.c (.i .i64 f), .c (.i .i64 k), .ag [.i .i64 m, .i .i64 p, .i .i64 s]] []).run isT) := by
  cases hf : fairB m p s with
  | true =>
    exact box_follow roadT (Box.of_eq (flags_7_t f k m p s isT) ⟨⟨rfl, by decide, by decide, hk⟩, (pre_7 f).1, (pre_7 f).2, hf, goodE_in ((fair_iff m p s hs).1 hf) (finE_in (ck_same f 7))⟩)
  | false =>
    have hn : ¬ (1 ≤ m ∧ m ≤ 8 ∧ 0 ≤ p ∧ p ≤ 255 ∧ 0 ≤ s ∧ s ≤ 16255 ∧ s / 128 % 2 = 0) := fun h => by
      rw [(fair_iff m p s hs).2 h] at hf
      cases hf
    by_cases h1 : m ≥ 1
    · by_cases h2 : m ≤ 8
      · by_cases h3 : p ≥ 0
        · exact box_follow roadD (Box.of_eq (flags_7_D f k m p s isT) ⟨⟨rfl, by decide, by decide, hk⟩, (pre_7 f).1, (pre_7 f).2, hf, dT h1, dT h2, dT h3, chainD_in (fun h => hn ⟨h1, h2, h3, h⟩) (finE_in (ck_same f 7))⟩)
        · exact box_follow roadC (Box.of_eq (flags_7_C f k m p s isT) ⟨⟨rfl, by decide, by decide, hk⟩, (pre_7 f).1, (pre_7 f).2, hf, dT h1, dT h2, dF h3, finE_in (ck_same f 7)⟩)
      · exact box_follow roadB (Box.of_eq (flags_7_B f k m p s isT) ⟨⟨rfl, by decide, by decide, hk⟩, (pre_7 f).1, (pre_7 f).2, hf, dT h1, dF h2, finE_in (ck_same f 7)⟩)
    · exact box_follow roadA (Box.of_eq (flags_7_A f k m p s isT) ⟨⟨rfl, by decide, by decide, hk⟩, (pre_7 f).1, (pre_7 f).2, hf, dF h1, finE_in (ck_same f 7)⟩)
theorem dsum_8 : ∀ c0 c1 c2 c3 c4 c5 c6 c7 c8 c9 c10 : Bool, dsum (flN c0 c1 c2 c3 c4 c5 c6 c7 c8 c9 c10) (flN c0 c1 c2 c3 c4 c5 c6 c7 (!c8) c9 c10) = 1 := by decide +kernel
theorem pre_8 (f : Int) : mustC (lstF (flN (ckOf f 0) (ckOf f 1) (ckOf f 2) (ckOf f 3) (ckOf f 4) (ckOf f 5) (ckOf f 6) (ckOf f 7) (ckOf f 8) (ckOf f 9) (ckOf f 10))) (lstF (flN (ckOf f 0) (ckOf f 1) (ckOf f 2) (ckOf f 3) (ckOf f 4) (ckOf f 5) (ckOf f 6) (ckOf f 7) (!ckOf f 8) (ckOf f 9) (ckOf f 10))) ∧ mustH (flN (ckOf f 0) (ckOf f 1) (ckOf f 2) (ckOf f 3) (ckOf f 4) (ckOf f 5) (ckOf f 6) (ckOf f 7) (!ckOf f 8) (ckOf f 9) (ckOf f 10)) f 8 :=
  ⟨mustC_in _ _ (dsum_8 (ckOf f 0) (ckOf f 1) (ckOf f 2) (ckOf f 3) (ckOf f 4) (ckOf f 5) (ckOf f 6) (ckOf f 7) (ckOf f 8) (ckOf f 9) (ckOf f 10)), rfl, rfl, (plain_say _ Z32 (fl_in (ckOf f 0) (ckOf f 1) (ckOf f 2) (ckOf f 3) (ckOf f 4) (ckOf f 5) (ckOf f 6) (ckOf f 7) (!ckOf f 8) (ckOf f 9) (ckOf f 10))).2.2.2, hdC_say (ckOf f 0) (ckOf f 1) (ckOf f 2) (ckOf f 3) (ckOf f 4) (ckOf f 5) (ckOf f 6) (ckOf f 7) (!ckOf f 8) (ckOf f 9) (ckOf f 10)⟩
theorem law_8 (f k m p s : Int) (hs : -9223372036854775808 ≤ s ∧ s < 9223372036854775808) (hk : k % 11 = 8) : Box ((t_flags 8 f [.c (.i .i64 f), .c (.i .i64 k), .ag [.i .i64 m, .i .i64 p, .i .i64 s]] []).run isT) := by
  cases hf : fairB m p s with
  | true =>
    exact box_follow roadT (Box.of_eq (flags_8_t f k m p s isT) ⟨⟨rfl, by decide, by decide, hk⟩, (pre_8 f).1, (pre_8 f).2, hf, goodE_in ((fair_iff m p s hs).1 hf) (finE_in (ck_same f 8))⟩)
  | false =>
    have hn : ¬ (1 ≤ m ∧ m ≤ 8 ∧ 0 ≤ p ∧ p ≤ 255 ∧ 0 ≤ s ∧ s ≤ 16255 ∧ s / 128 % 2 = 0) := fun h => by
      rw [(fair_iff m p s hs).2 h] at hf
      cases hf
    by_cases h1 : m ≥ 1
    · by_cases h2 : m ≤ 8
      · by_cases h3 : p ≥ 0
        · exact box_follow roadD (Box.of_eq (flags_8_D f k m p s isT) ⟨⟨rfl, by decide, by decide, hk⟩, (pre_8 f).1, (pre_8 f).2, hf, dT h1, dT h2, dT h3, chainD_in (fun h => hn ⟨h1, h2, h3, h⟩) (finE_in (ck_same f 8))⟩)
        · exact box_follow roadC (Box.of_eq (flags_8_C f k m p s isT) ⟨⟨rfl, by decide, by decide, hk⟩, (pre_8 f).1, (pre_8 f).2, hf, dT h1, dT h2, dF h3, finE_in (ck_same f 8)⟩)
      · exact box_follow roadB (Box.of_eq (flags_8_B f k m p s isT) ⟨⟨rfl, by decide, by decide, hk⟩, (pre_8 f).1, (pre_8 f).2, hf, dT h1, dF h2, finE_in (ck_same f 8)⟩)
    · exact box_follow roadA (Box.of_eq (flags_8_A f k m p s isT) ⟨⟨rfl, by decide, by decide, hk⟩, (pre_8 f).1, (pre_8 f).2, hf, dF h1, finE_in (ck_same f 8)⟩)
theorem dsum_9 : ∀ c0 c1 c2 c3 c4 c5 c6 c7 c8 c9 c10 : Bool, dsum (flN c0 c1 c2 c3 c4 c5 c6 c7 c8 c9 c10) (flN c0 c1 c2 c3 c4 c5 c6 c7 c8 (!c9) c10) = 1 := by decide +kernel
theorem pre_9 (f : Int) : mustC (lstF (flN (ckOf f 0) (ckOf f 1) (ckOf f 2) (ckOf f 3) (ckOf f 4) (ckOf f 5) (ckOf f 6) (ckOf f 7) (ckOf f 8) (ckOf f 9) (ckOf f 10))) (lstF (flN (ckOf f 0) (ckOf f 1) (ckOf f 2) (ckOf f 3) (ckOf f 4) (ckOf f 5) (ckOf f 6) (ckOf f 7) (ckOf f 8) (!ckOf f 9) (ckOf f 10))) ∧ mustH (flN (ckOf f 0) (ckOf f 1) (ckOf f 2) (ckOf f 3) (ckOf f 4) (ckOf f 5) (ckOf f 6) (ckOf f 7) (ckOf f 8) (!ckOf f 9) (ckOf f 10)) f 9 :=
  ⟨mustC_in _ _ (dsum_9 (ckOf f 0) (ckOf f 1) (ckOf f 2) (ckOf f 3) (ckOf f 4) (ckOf f 5) (ckOf f 6) (ckOf f 7) (ckOf f 8) (ckOf f 9) (ckOf f 10)), rfl, rfl, (plain_say _ Z32 (fl_in (ckOf f 0) (ckOf f 1) (ckOf f 2) (ckOf f 3) (ckOf f 4) (ckOf f 5) (ckOf f 6) (ckOf f 7) (ckOf f 8) (!ckOf f 9) (ckOf f 10))).2.2.2, hdC_say (ckOf f 0) (ckOf f 1) (ckOf f 2) (ckOf f 3) (ckOf f 4) (ckOf f 5) (ckOf f 6) (ckOf f 7) (ckOf f 8) (!ckOf f 9) (ckOf f 10)⟩
theorem law_9 (f k m p s : Int) (hs : -9223372036854775808 ≤ s ∧ s < 9223372036854775808) (hk : k % 11 = 9) : Box ((t_flags 9 f [.c (.i .i64 f), .c (.i .i64 k), .ag [.i .i64 m, .i .i64 p, .i .i64 s]] []).run isT) := by
  cases hf : fairB m p s with
  | true =>
    exact box_follow roadT (Box.of_eq (flags_9_t f k m p s isT) ⟨⟨rfl, by decide, by decide, hk⟩, (pre_9 f).1, (pre_9 f).2, hf, goodE_in ((fair_iff m p s hs).1 hf) (finE_in (ck_same f 9))⟩)
  | false =>
    have hn : ¬ (1 ≤ m ∧ m ≤ 8 ∧ 0 ≤ p ∧ p ≤ 255 ∧ 0 ≤ s ∧ s ≤ 16255 ∧ s / 128 % 2 = 0) := fun h => by
      rw [(fair_iff m p s hs).2 h] at hf
      cases hf
    by_cases h1 : m ≥ 1
    · by_cases h2 : m ≤ 8
      · by_cases h3 : p ≥ 0
        · exact box_follow roadD (Box.of_eq (flags_9_D f k m p s isT) ⟨⟨rfl, by decide, by decide, hk⟩, (pre_9 f).1, (pre_9 f).2, hf, dT h1, dT h2, dT h3, chainD_in (fun h => hn ⟨h1, h2, h3, h⟩) (finE_in (ck_same f 9))⟩)
        · exact box_follow roadC (Box.of_eq (flags_9_C f k m p s isT) ⟨⟨rfl, by decide, by decide, hk⟩, (pre_9 f).1, (pre_9 f).2, hf, dT h1, dT h2, dF h3, finE_in (ck_same f 9)⟩)
      · exact box_follow roadB (Box.of_eq (flags_9_B f k m p s isT) ⟨⟨rfl, by decide, by decide, hk⟩, (pre_9 f).1, (pre_9 f).2, hf, dT h1, dF h2, finE_in (ck_same f 9)⟩)
    · exact box_follow roadA (Box.of_eq (flags_9_A f k m p s isT) ⟨⟨rfl, by decide, by decide, hk⟩, (pre_9 f).1, (pre_9 f).2, hf, dF h1, finE_in (ck_same f 9)⟩)
theorem dsum_10 : ∀ c0 c1 c2 c3 c4 c5 c6 c7 c8 c9 c10 : Bool, dsum (flN c0 c1 c2 c3 c4 c5 c6 c7 c8 c9 c10) (flN c0 c1 c2 c3 c4 c5 c6 c7 c8 c9 (!c10)) = 1 := by decide +kernel
theorem pre_10 (f : Int) : mustC (lstF (flN (ckOf f 0) (ckOf f 1) (ckOf f 2) (ckOf f 3) (ckOf f 4) (ckOf f 5) (ckOf f 6) (ckOf f 7) (ckOf f 8) (ckOf f 9) (ckOf f 10))) (lstF (flN (ckOf f 0) (ckOf f 1) (ckOf f 2) (ckOf f 3) (ckOf f 4) (ckOf f 5) (ckOf f 6) (ckOf f 7) (ckOf f 8) (ckOf f 9) (!ckOf f 10))) ∧ mustH (flN (ckOf f 0) (ckOf f 1) (ckOf f 2) (ckOf f 3) (ckOf f 4) (ckOf f 5) (ckOf f 6) (ckOf f 7) (ckOf f 8) (ckOf f 9) (!ckOf f 10)) f 10 :=
  ⟨mustC_in _ _ (dsum_10 (ckOf f 0) (ckOf f 1) (ckOf f 2) (ckOf f 3) (ckOf f 4) (ckOf f 5) (ckOf f 6) (ckOf f 7) (ckOf f 8) (ckOf f 9) (ckOf f 10)), rfl, rfl, (plain_say _ Z32 (fl_in (ckOf f 0) (ckOf f 1) (ckOf f 2) (ckOf f 3) (ckOf f 4) (ckOf f 5) (ckOf f 6) (ckOf f 7) (ckOf f 8) (ckOf f 9) (!ckOf f 10))).2.2.2, hdC_say (ckOf f 0) (ckOf f 1) (ckOf f 2) (ckOf f 3) (ckOf f 4) (ckOf f 5) (ckOf f 6) (ckOf f 7) (ckOf f 8) (ckOf f 9) (!ckOf f 10)⟩
theorem law_10 (f k m p s : Int) (hs : -9223372036854775808 ≤ s ∧ s < 9223372036854775808) (hk : k % 11 = 10) : Box ((t_flags 10 f [.c (.i .i64 f), .c (.i .i64 k), .ag [.i .i64 m, .i .i64 p, .i .i64 s]] []).run isT) := by
  cases hf : fairB m p s with
  | true =>
    exact box_follow roadT (Box.of_eq (flags_10_t f k m p s isT) ⟨⟨rfl, by decide, by decide, hk⟩, (pre_10 f).1, (pre_10 f).2, hf, goodE_in ((fair_iff m p s hs).1 hf) (finE_in (ck_same f 10))⟩)
  | false =>
    have hn : ¬ (1 ≤ m ∧ m ≤ 8 ∧ 0 ≤ p ∧ p ≤ 255 ∧ 0 ≤ s ∧ s ≤ 16255 ∧ s / 128 % 2 = 0) := fun h => by
      rw [(fair_iff m p s hs).2 h] at hf
      cases hf
    by_cases h1 : m ≥ 1
    · by_cases h2 : m ≤ 8
      · by_cases h3 : p ≥ 0
        · exact box_follow roadD (Box.of_eq (flags_10_D f k m p s isT) ⟨⟨rfl, by decide, by decide, hk⟩, (pre_10 f).1, (pre_10 f).2, hf, dT h1, dT h2, dT h3, chainD_in (fun h => hn ⟨h1, h2, h3, h⟩) (finE_in (ck_same f 10))⟩)
        · exact box_follow roadC (Box.of_eq (flags_10_C f k m p s isT) ⟨⟨rfl, by decide, by decide, hk⟩, (pre_10 f).1, (pre_10 f).2, hf, dT h1, dT h2, dF h3, finE_in (ck_same f 10)⟩)
      · exact box_follow roadB (Box.of_eq (flags_10_B f k m p s isT) ⟨⟨rfl, by decide, by decide, hk⟩, (pre_10 f).1, (pre_10 f).2, hf, dT h1, dF h2, finE_in (ck_same f 10)⟩)
    · exact box_follow roadA (Box.of_eq (flags_10_A f k m p s isT) ⟨⟨rfl, by decide, by decide, hk⟩, (pre_10 f).1, (pre_10 f).2, hf, dF h1, finE_in (ck_same f 10)⟩)
theorem flags_true (f k m p s : Int) (hs : -9223372036854775808 ≤ s ∧ s < 9223372036854775808) : Box ((tFlags [.c (.i .i64 f), .c (.i .i64 k), .ag [.i .i64 m, .i .i64 p, .i .i64 s]] []).run isT) := by
  have h11 : k % 11 = 0 ∨ k % 11 = 1 ∨ k % 11 = 2 ∨ k % 11 = 3 ∨ k % 11 = 4 ∨ k % 11 = 5 ∨ k % 11 = 6 ∨ k % 11 = 7 ∨ k % 11 = 8 ∨ k % 11 = 9 ∨ k % 11 = 10 := by omega
  rcases h11 with h | h | h | h | h | h | h | h | h | h | h
  · exact flags_run f k m p s (j := 0) h (law_0 f k m p s hs h)
  · exact flags_run f k m p s (j := 1) h (law_1 f k m p s hs h)
  · exact flags_run f k m p s (j := 2) h (law_2 f k m p s hs h)
  · exact flags_run f k m p s (j := 3) h (law_3 f k m p s hs h)
  · exact flags_run f k m p s (j := 4) h (law_4 f k m p s hs h)
  · exact flags_run f k m p s (j := 5) h (law_5 f k m p s hs h)
  · exact flags_run f k m p s (j := 6) h (law_6 f k m p s hs h)
  · exact flags_run f k m p s (j := 7) h (law_7 f k m p s hs h)
  · exact flags_run f k m p s (j := 8) h (law_8 f k m p s hs h)
  · exact flags_run f k m p s (j := 9) h (law_9 f k m p s hs h)
  · exact flags_run f k m p s (j := 10) h (law_10 f k m p s hs h)
theorem wf_in {n : Int} (h : (Lit.int .i64 n).wf = true) : -9223372036854775808 ≤ n ∧ n < 9223372036854775808 := by
  simp only [Lit.wf, Bool.and_eq_true, decide_eq_true_eq] at h
  have h1 : IntKind.i64.min = -9223372036854775808 := rfl
  have h2 : IntKind.i64.max = 9223372036854775807 := rfl
  rw [h1, h2] at h
  omega
theorem okSc_in {x : Sc} (h : okSc (.i .i64) x) : -9223372036854775808 ≤ x.n ∧ x.n < 9223372036854775808 := by
  cases x with
  | i n => exact wf_in h
  | b y => exact h.elim
def shsFl : List Sh := [.i .i64, .i .i64, .ag [.i .i64, .i .i64, .i .i64]]
theorem flags_law (xs : List NV) (h : R2 ShOk shsFl xs) : Holds (tFlags xs []) fun o => o.res = .v (.c (.b true)) := by
  cases h with
  | cons h1 h =>
    cases h with
    | cons h2 h =>
      cases h with
      | cons h3 h =>
        cases h
        cases h1 with
        | @i _ n1 _ =>
          cases h2 with
          | @i _ n2 _ =>
            cases h3 with
            | @ag _ row hr =>
              cases hr with
              | @cons _ a _ _ ra hr =>
                cases hr with
                | @cons _ b _ _ rb hr =>
                  cases hr with
                  | @cons _ c _ _ rc hr =>
                    cases hr
                    exact box_holds (R := isT) (flags_true n1 n2 a.n b.n c.n (okSc_in rc))
end Go.Proofs.YthjdlanmfiofdaaDoor.hd
