/-
  The law RemoteRounds: the law.
-/
import Derived.Test.YtnhadghddkgjdaaRemM
import Derived.Test.YtnhadghddkgjdaaEng24
namespace Go.Proofs.Ytnhadghddkgjdaa.rem
open Go Go.Nx

noncomputable def loopsE (N K : Int) (R : Out → Prop) : Prop :=
  ((0 < (800 : Int) ∧ (800 : Int) < 4611686018427387904) ∧
   ((true = true ∧ ls0 = ls0 ∧ (16255 : Int) = 16255 ∧ AtN (M N) (pP N) 16255 false false false false ∧ 0 ≤ (0 : Int) ∧ 0 ≤ K ∧ K ≤ 800) ∧
    ((true = true ∧ ls0 = ls0 ∧ (16255 : Int) = 16255 ∧ ((16255 : Int) = 16255 ∧ false = false ∧ false = false ∧ false = false ∧ false = false) ∧ AtN (M (adv (numF (M N) (pP N)) (K - 0))) (pP (adv (numF (M N) (pP N)) (K - 0))) 16255 false false false false ∧ 0 ≤ K ∧ K ≤ 800) ∧
     (sel (M (adv (numF (M (adv (numF (M N) (pP N)) (K - 0))) (pP (adv (numF (M N) (pP N)) (K - 0)))) (800 - K)) == M N)
      (sel (pP (adv (numF (M (adv (numF (M N) (pP N)) (K - 0))) (pP (adv (numF (M N) (pP N)) (K - 0)))) (800 - K)) == pP N)
       (sel (M (adv (numF (M N) (pP N)) (K - 0)) == M N) (sel (pP (adv (numF (M N) (pP N)) (K - 0)) == pP N) (R ⟨.v (.c (.b (true == (K == 0)))), []⟩) (R ⟨.v (.c (.b (false == (K == 0)))), []⟩)) (R ⟨.v (.c (.b (false == (K == 0)))), []⟩))
       (R no)) (R no)))))
noncomputable def checkE (N K : Int) (R : Out → Prop) : Prop :=
  sel (M (nextN (M (nextN (M N) (pP N) 1)) (pP (nextN (M N) (pP N) 1)) (-1)) == M N)
   (sel (pP (nextN (M (nextN (M N) (pP N) 1)) (pP (nextN (M N) (pP N) 1)) (-1)) == pP N)
    (sel (M (nextN (M N) (pP N) 1) == M N) (sel (pP (nextN (M N) (pP N) 1) == pP N) (R no) (loopsE N K R)) (loopsE N K R))
    (R no)) (R no)
noncomputable def roundsE (j a A B C K : Int) (R : Out → Prop) : Prop :=
  a % 8 = j ∧ ((1 ≤ A ∧ A ≤ 8) ∧ ((0 < (10 : Int) ∧ (10 : Int) < 4611686018427387904) ∧ ((0 ≤ B ∧ B ≤ 9) ∧ ((0 < (10 : Int) ∧ (10 : Int) < 4611686018427387904) ∧ (((1 ≤ A ∧ A ≤ 8) ∧ (0 ≤ B ∧ B ≤ 9) ∧ (0 ≤ C ∧ C ≤ 9)) ∧ checkE (100 * A + 10 * B + C) K R)))))
theorem rounds_tree0 (a b c n : Int) (R : Out → Prop) : (tRounds 0 [.c (.i .i64 a), .c (.i .i64 b), .c (.i .i64 c), .c (.i .i64 n)] []).run R = roundsE ((0 : Nat) : Int) a (IntKind.i64.wrap (((0 : Nat) : Int) + 1)) (b % 10) (c % 10) (n % 800) R := by kernel_rfl
theorem rounds_tree1 (a b c n : Int) (R : Out → Prop) : (tRounds 1 [.c (.i .i64 a), .c (.i .i64 b), .c (.i .i64 c), .c (.i .i64 n)] []).run R = roundsE ((1 : Nat) : Int) a (IntKind.i64.wrap (((1 : Nat) : Int) + 1)) (b % 10) (c % 10) (n % 800) R := by kernel_rfl
theorem rounds_tree2 (a b c n : Int) (R : Out → Prop) : (tRounds 2 [.c (.i .i64 a), .c (.i .i64 b), .c (.i .i64 c), .c (.i .i64 n)] []).run R = roundsE ((2 : Nat) : Int) a (IntKind.i64.wrap (((2 : Nat) : Int) + 1)) (b % 10) (c % 10) (n % 800) R := by kernel_rfl
theorem rounds_tree3 (a b c n : Int) (R : Out → Prop) : (tRounds 3 [.c (.i .i64 a), .c (.i .i64 b), .c (.i .i64 c), .c (.i .i64 n)] []).run R = roundsE ((3 : Nat) : Int) a (IntKind.i64.wrap (((3 : Nat) : Int) + 1)) (b % 10) (c % 10) (n % 800) R := by kernel_rfl
theorem rounds_tree4 (a b c n : Int) (R : Out → Prop) : (tRounds 4 [.c (.i .i64 a), .c (.i .i64 b), .c (.i .i64 c), .c (.i .i64 n)] []).run R = roundsE ((4 : Nat) : Int) a (IntKind.i64.wrap (((4 : Nat) : Int) + 1)) (b % 10) (c % 10) (n % 800) R := by kernel_rfl
theorem rounds_tree5 (a b c n : Int) (R : Out → Prop) : (tRounds 5 [.c (.i .i64 a), .c (.i .i64 b), .c (.i .i64 c), .c (.i .i64 n)] []).run R = roundsE ((5 : Nat) : Int) a (IntKind.i64.wrap (((5 : Nat) : Int) + 1)) (b % 10) (c % 10) (n % 800) R := by kernel_rfl
theorem rounds_tree6 (a b c n : Int) (R : Out → Prop) : (tRounds 6 [.c (.i .i64 a), .c (.i .i64 b), .c (.i .i64 c), .c (.i .i64 n)] []).run R = roundsE ((6 : Nat) : Int) a (IntKind.i64.wrap (((6 : Nat) : Int) + 1)) (b % 10) (c % 10) (n % 800) R := by kernel_rfl
theorem rounds_tree7 (a b c n : Int) (R : Out → Prop) : (tRounds 7 [.c (.i .i64 a), .c (.i .i64 b), .c (.i .i64 c), .c (.i .i64 n)] []).run R = roundsE ((7 : Nat) : Int) a (IntKind.i64.wrap (((7 : Nat) : Int) + 1)) (b % 10) (c % 10) (n % 800) R := by kernel_rfl
theorem same_page {N V : Int} (h : 100 ≤ N ∧ N ≤ 899) (hv : 100 ≤ V ∧ V ≤ 899) (h1 : M V = M N) (h2 : pP V = pP N) : V = N := by
  have e1 := numF_of h
  have e2 := numF_of hv
  rw [h1, h2, e1] at e2
  exact e2.symm
def isT : Out → Prop := fun o => o.res = .v (.c (.b true))
theorem loops_in {N K : Int} (h : 100 ≤ N ∧ N ≤ 899) (hk : 0 ≤ K ∧ K < 800) : loopsE N K isT := by
  have hv := adv_in N K
  have eV : adv (numF (M N) (pP N)) (K - 0) = adv N K := by rw [numF_of h, Int.sub_zero]
  have eW : adv (numF (M (adv N K)) (pP (adv N K))) (800 - K) = N := by
    rw [numF_of hv, adv_adv, show K + (800 - K) = 800 by omega]
    unfold adv
    omega
  unfold loopsE
  rw [eV, eW]
  have hK : adv N K = N → K = 0 := fun e => by unfold adv at e; omega
  have hK' : K = 0 → adv N K = N := fun e => by unfold adv; omega
  refine ⟨⟨by decide, by decide⟩, ⟨rfl, rfl, rfl, atN_of h, Int.le_refl _, hk.1, by omega⟩, ⟨rfl, rfl, rfl, ⟨rfl, rfl, rfl, rfl, rfl⟩, atN_of hv, hk.1, by omega⟩, selT (beq_self_eq_true _) (selT (beq_self_eq_true _) ?_)⟩
  have no : ¬ (M (adv N K) = M N ∧ pP (adv N K) = pP N) → isT ⟨.v (.c (.b (false == (K == 0)))), []⟩ := fun hn => by
    have : (K == 0) = false := by
      rw [beq_eq_false_iff_ne]
      intro e
      rw [hK' e] at hn
      exact hn ⟨rfl, rfl⟩
    rw [this]
    rfl
  cases h1 : (M (adv N K) == M N) with
  | false => exact no fun hn => by rw [hn.1] at h1; simp at h1
  | true =>
    cases h2 : (pP (adv N K) == pP N) with
    | false => exact no fun hn => by rw [hn.2] at h2; simp at h2
    | true =>
      have e := hK (same_page h hv (beq_iff_eq.1 h1) (beq_iff_eq.1 h2))
      show isT ⟨.v (.c (.b (true == (K == 0)))), []⟩
      rw [e]
      rfl
theorem check_in {N K : Int} (h : 100 ≤ N ∧ N ≤ 899) (hk : 0 ≤ K ∧ K < 800) : checkE N K isT := by
  have ha := adv_in N 1
  have e1 := next_of h
  have e2 : nextN (M (adv N 1)) (pP (adv N 1)) (-1) = N := by
    rw [back_of ha, adv_adv]
    exact adv_0 h
  unfold checkE
  rw [e1, e2]
  refine selT (beq_self_eq_true _) (selT (beq_self_eq_true _) ?_)
  cases h1 : (M (adv N 1) == M N) with
  | false => exact loops_in h hk
  | true =>
    cases h2 : (pP (adv N 1) == pP N) with
    | false => exact loops_in h hk
    | true =>
      have e := same_page h ha (beq_iff_eq.1 h1) (beq_iff_eq.1 h2)
      unfold adv at e
      omega
theorem rounds_in {j : Int} {a b c n : Int} (hj : 0 ≤ j ∧ j < 8) (ha : a % 8 = j) : roundsE j a (IntKind.i64.wrap (j + 1)) (b % 10) (c % 10) (n % 800) isT := by
  have hA : IntKind.i64.wrap (j + 1) = j + 1 := by rw [IntKind.wrap_i64]; omega
  unfold roundsE
  rw [hA]
  exact ⟨ha, ⟨by omega, by omega⟩, ⟨by decide, by decide⟩, ⟨by omega, by omega⟩, ⟨by decide, by decide⟩, ⟨⟨by omega, by omega⟩, ⟨by omega, by omega⟩, by omega, by omega⟩, check_in ⟨by omega, by omega⟩ ⟨by omega, by omega⟩⟩
/-- One of several trees, by what came in. -/
theorem Known_pick {P : Program} {gl : List Nat} {f : FuncId} {ι : Type} {T : ι → Con} (h : ∀ i, Known P gl f (T i)) (p : List NV → List Reg → ι) (i0 : ι) : Known P gl f fun args regs => T (p args regs) args regs :=
  ⟨(h i0).goes, fun args regs R hR => (h (p args regs)).sound args regs R hR⟩
def pickA : List NV → List Reg → Nat
  | .c (.i _ a) :: _, _ => (a % 8).toNat
  | _, _ => 0
noncomputable def tRoundsA : Con := fun args regs => tRounds (pickA args regs) args regs
theorem kRoundsA : Known Try.prog [] 4 tRoundsA := Known_pick kRounds pickA 0
theorem rounds_true (a b c n : Int) : Box ((tRoundsA [.c (.i .i64 a), .c (.i .i64 b), .c (.i .i64 c), .c (.i .i64 n)] []).run isT) := by
  have h : a % 8 = 0 ∨ a % 8 = 1 ∨ a % 8 = 2 ∨ a % 8 = 3 ∨ a % 8 = 4 ∨ a % 8 = 5 ∨ a % 8 = 6 ∨ a % 8 = 7 := by omega
  have key : ∀ j : Nat, a % 8 = (j : Int) → tRoundsA [.c (.i .i64 a), .c (.i .i64 b), .c (.i .i64 c), .c (.i .i64 n)] [] = tRounds j [.c (.i .i64 a), .c (.i .i64 b), .c (.i .i64 c), .c (.i .i64 n)] [] := fun j hj => by
    show tRounds (a % 8).toNat _ _ = _
    rw [hj]
    rfl
  rcases h with h | h | h | h | h | h | h | h
  · rw [key 0 h]; exact Box.of_eq (rounds_tree0 a b c n isT) (rounds_in (by decide) h)
  · rw [key 1 h]; exact Box.of_eq (rounds_tree1 a b c n isT) (rounds_in (by decide) h)
  · rw [key 2 h]; exact Box.of_eq (rounds_tree2 a b c n isT) (rounds_in (by decide) h)
  · rw [key 3 h]; exact Box.of_eq (rounds_tree3 a b c n isT) (rounds_in (by decide) h)
  · rw [key 4 h]; exact Box.of_eq (rounds_tree4 a b c n isT) (rounds_in (by decide) h)
  · rw [key 5 h]; exact Box.of_eq (rounds_tree5 a b c n isT) (rounds_in (by decide) h)
  · rw [key 6 h]; exact Box.of_eq (rounds_tree6 a b c n isT) (rounds_in (by decide) h)
  · rw [key 7 h]; exact Box.of_eq (rounds_tree7 a b c n isT) (rounds_in (by decide) h)
def shsRounds : List Sh := [.i .i64, .i .i64, .i .i64, .i .i64]
theorem Box.holds {t : Tr Out} (h : Box (t.run isT)) : Holds t isT := ⟨h.out⟩
theorem rounds_law (xs : List NV) (h : R2 ShOk shsRounds xs) : Holds (tRoundsA xs []) isT := by
  cases h with
  | cons h1 h =>
    cases h with
    | cons h2 h =>
      cases h with
      | cons h3 h =>
        cases h with
        | cons h4 h =>
          cases h
          cases h1 with
          | @i _ a _ =>
            cases h2 with
            | @i _ b _ =>
              cases h3 with
              | @i _ c _ =>
                cases h4 with
                | @i _ n _ => exact Box.holds (rounds_true a b c n)
end Go.Proofs.Ytnhadghddkgjdaa.rem
