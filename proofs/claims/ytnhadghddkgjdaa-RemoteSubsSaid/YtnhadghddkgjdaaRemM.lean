/-
  The law RemoteRounds: its loops by what they do.
-/
import Derived.Test.YtnhadghddkgjdaaRemL
namespace Go.Proofs.Ytnhadghddkgjdaa.rem
open Go Go.Nx

def ls0 : List (List Sc) := List.replicate 6 [.i 0, .i 0, .i 0]
noncomputable def pR1 : List Pat := pats 125 [(3, .i .i64), (9, .b), (10, .p 0 0 0), (12, .p 1 0 0), (17, .p 2 0 0), (18, .i .i64)]
noncomputable def pR2 : List Pat := pats 125 [(3, .i .i64), (9, .b), (10, .p 0 0 0), (12, .p 1 0 0), (17, .p 2 0 0), (19, .p 3 0 0), (20, .i .i64)]
def rL : RPat := .recs 3 27 [.i .i64, .i .i64, .i .i64]
def rF : RPat := .cells 3 26 [.i .i64, .i .i64, .i .i64]
def rS : RPat := .cells 9 29 [.i .i64, .i .i64, .i .i64, .sn, .sn, .b, .b, .b, .b]
/-- A state that holds a page of digits, and nothing else. -/
noncomputable def AtN (m p u : Int) (sub h r x : Bool) : Prop := m = M (numF m p) ∧ p = pP (numF m p) ∧ (100 ≤ numF m p ∧ numF m p ≤ 899) ∧ u = 16255 ∧ sub = false ∧ h = false ∧ r = false ∧ x = false
noncomputable def lR1 : List Leaf × List (List Leaf) → Tr (NExit × St) := fun a => match a with
  | ([.i n, .b ok, .i i], [[.r ls], [.i fm, .i fp, .i fu], [.i m, .i p, .i u, .b sub, .b h, .b r, .b x]]) =>
    .must (ok = true ∧ ls = ls0 ∧ fu = 16255 ∧ AtN m p u sub h r x ∧ 0 ≤ i ∧ i ≤ n ∧ n ≤ 800) (.ret (.normal, dR1 n fm fp (M (adv (numF m p) (n - i))) (pP (adv (numF m p) (n - i)))))
  | _ => .fail
noncomputable def lR2 : List Leaf × List (List Leaf) → Tr (NExit × St) := fun a => match a with
  | ([.i n, .b ok, .i i], [[.r ls], [.i fm, .i fp, .i fu], [.i vm, .i vp, .i vu, .b vsub, .b vh, .b vr, .b vx], [.i m, .i p, .i u, .b sub, .b h, .b r, .b x]]) =>
    .must (ok = true ∧ ls = ls0 ∧ fu = 16255 ∧ (vu = 16255 ∧ vsub = false ∧ vh = false ∧ vr = false ∧ vx = false) ∧ AtN m p u sub h r x ∧ 0 ≤ i ∧ i ≤ 800) (.ret (.normal, dR2 n fm fp vm vp (M (adv (numF m p) (800 - i))) (pP (adv (numF m p) (800 - i)))))
  | _ => .fail
def muR1 : List Leaf × List (List Leaf) → Nat := fun a => match a with
  | ([.i n, .b _, .i i], _) => (n - i).toNat
  | _ => 0
def muR2 : List Leaf × List (List Leaf) → Nat := fun a => match a with
  | ([.i _, .b _, .i i], _) => (800 - i).toNat
  | _ => 0
theorem atN_of {N : Int} (h : 100 ≤ N ∧ N ≤ 899) : AtN (M N) (pP N) 16255 false false false false := by
  unfold AtN
  rw [numF_of h]
  exact ⟨rfl, rfl, h, rfl, rfl, rfl, rfl, rfl⟩
set_option maxRecDepth 100000 in
theorem loop_R1 (j : Nat) : LOk Try.prog [] 0 0 (bodyLoop fRounds 0) (sumP pR1 [rL, rF, rS] lR1) := by
  refine sumP_ok (X := XRounds j) (kcRounds j) mixed (LAll.none (by kernel_rfl)) [3, 9, 10, 12, 17, 18] [3, 9, 10, 12, 17] _ _ _ muR1 ?_
  rintro ⟨a, b⟩ R hh
  unfold lR1 at hh
  split at hh
  case h_2 => exact hh.elim
  rename_i n ok i ls fm fp fu m p u sub h r x he
  cases he
  have h1 := hh.1
  have h2 : R (.normal, dR1 n fm fp (M (adv (numF m p) (n - i))) (pP (adv (numF m p) (n - i)))) := hh.2
  clear hh
  obtain ⟨e1, e2, e3, hN, i0, il, n8⟩ := h1
  obtain ⟨em, ep, hr, e4, e5, e6, e7, e8⟩ := hN
  subst e1 e2 e3 e4 e5 e6 e7 e8
  show (roundT (XRounds j) 0 [3, 9, 10, 12, 17, 18] [3, 9, 10, 12, 17] (bodyLoop fRounds 0) (sR1 n fm fp m p i)).run _
  rw [round_R1]
  generalize numF m p = N at *
  subst em ep
  rw [next_of hr]
  refine sel_by (fun hlt => ?_) fun hge => ?_
  · have hw : IntKind.i64.wrap (i + 1) = i + 1 := by rw [IntKind.wrap_i64]; omega
    have ha := adv_in N 1
    refine ⟨([.i n, .b true, .i (i + 1)], [[.r ls0], [.i fm, .i fp, .i 16255], [.i (M (adv N 1)), .i (pP (adv N 1)), .i 16255, .b false, .b false, .b false, .b false]]), by rw [hw]; rfl, by show (n - (i + 1)).toNat < (n - i).toNat; omega, ⟨rfl, rfl, rfl, atN_of ha, by omega, by omega, n8⟩, ?_⟩
    show R (.normal, dR1 n fm fp (M (adv (numF (M (adv N 1)) (pP (adv N 1))) (n - (i + 1)))) (pP (adv (numF (M (adv N 1)) (pP (adv N 1))) (n - (i + 1)))))
    rw [numF_of ha, adv_adv, show 1 + (n - (i + 1)) = n - i by omega]
    exact h2
  · have hi : n - i = 0 := by omega
    rw [hi, adv_0 hr] at h2
    exact h2
set_option maxRecDepth 100000 in
theorem loop_R2 (j : Nat) : LOk Try.prog [] 0 2 (bodyLoop fRounds 2) (sumP pR2 [rL, rF, rS, rS] lR2) := by
  refine sumP_ok (X := XRounds j) (kcRounds j) mixed (LAll.none (by kernel_rfl)) [3, 9, 10, 12, 17, 19, 20] [3, 9, 12, 17, 19] _ _ _ muR2 ?_
  rintro ⟨a, b⟩ R hh
  unfold lR2 at hh
  split at hh
  case h_2 => exact hh.elim
  rename_i n ok i ls fm fp fu vm vp vu vsub vh vr vx m p u sub h r x he
  cases he
  have h1 := hh.1
  have h2 : R (.normal, dR2 n fm fp vm vp (M (adv (numF m p) (800 - i))) (pP (adv (numF m p) (800 - i)))) := hh.2
  clear hh
  obtain ⟨e1, e2, e3, ⟨f1, f2, f3, f4, f5⟩, hN, i0, il⟩ := h1
  obtain ⟨em, ep, hr, e4, e5, e6, e7, e8⟩ := hN
  subst e1 e2 e3 e4 e5 e6 e7 e8 f1 f2 f3 f4 f5
  show (roundT (XRounds j) 2 [3, 9, 10, 12, 17, 19, 20] [3, 9, 12, 17, 19] (bodyLoop fRounds 2) (sR2 n fm fp vm vp m p i)).run _
  rw [round_R2]
  generalize numF m p = N at *
  subst em ep
  rw [next_of hr]
  refine sel_by (fun hlt => ?_) fun hge => ?_
  · have hw : IntKind.i64.wrap (i + 1) = i + 1 := by rw [IntKind.wrap_i64]; omega
    have ha := adv_in N 1
    refine ⟨([.i n, .b true, .i (i + 1)], [[.r ls0], [.i fm, .i fp, .i 16255], [.i vm, .i vp, .i 16255, .b false, .b false, .b false, .b false], [.i (M (adv N 1)), .i (pP (adv N 1)), .i 16255, .b false, .b false, .b false, .b false]]), by rw [hw]; rfl, by show (800 - (i + 1)).toNat < (800 - i).toNat; omega, ⟨rfl, rfl, rfl, ⟨rfl, rfl, rfl, rfl, rfl⟩, atN_of ha, by omega, by omega⟩, ?_⟩
    show R (.normal, dR2 n fm fp vm vp (M (adv (numF (M (adv N 1)) (pP (adv N 1))) (800 - (i + 1)))) (pP (adv (numF (M (adv N 1)) (pP (adv N 1))) (800 - (i + 1)))))
    rw [numF_of ha, adv_adv, show 1 + (800 - (i + 1)) = 800 - i by omega]
    exact h2
  · have hi : 800 - i = 0 := by omega
    rw [hi, adv_0 hr] at h2
    exact h2
noncomputable def tRounds (j : Nat) : Con := fun args regs => if regs.length = 0 then nfun Try.prog [] (cRounds j) [(0, [3, 9, 10, 12, 17, 18], sumP pR1 [rL, rF, rS] lR1), (2, [3, 9, 10, 12, 17, 19, 20], sumP pR2 [rL, rF, rS, rS] lR2)] fRounds args regs else .fail
theorem kRounds (j : Nat) : Known Try.prog [] 4 (tRounds j) := known_loops 0 Try.func4 rfl (by kernel_rfl) mixed (kcRounds j)
  (LAll.two (i1 := 0) (i2 := 2) (b1 := bodyLoop fRounds 0) (b2 := bodyLoop fRounds 2) (by kernel_rfl) rfl (by decide) (loop_R1 j) (loop_R2 j))
end Go.Proofs.Ytnhadghddkgjdaa.rem
