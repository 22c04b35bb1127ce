/-
  The lexer: the law LexIgnored: its tree.
-/
import Derived.Test.YtnhadghddkgjdaaLexJ
namespace Go.Nx
open Go
theorem LAll.three {X : Cx} {c : Code} {i1 i2 i3 : Nat} {b1 b2 b3 : Code} {l1 l2 l3 : List Nat} {L1 L2 L3 : St → Tr (NExit × St)} (hl : loopsIn c = [(i1, b1), (i2, b2), (i3, b3)]) (hx : X.loops = [(i1, l1, L1), (i2, l2, L2), (i3, l3, L3)]) (hne : i1 ≠ i2 ∧ i1 ≠ i3 ∧ i2 ≠ i3)
    (h1 : LOk X.P X.glob X.m i1 b1 L1) (h2 : LOk X.P X.glob X.m i2 b2 L2) (h3 : LOk X.P X.glob X.m i3 b3 L3) : LAll X c :=
  LAll.list hl fun p hp x hf => by
    rw [hx] at hf
    simp only [List.mem_cons, List.not_mem_nil, or_false] at hp
    rcases hp with rfl | rfl | rfl
    · simp at hf; subst hf; exact h1
    · simp [hne.1] at hf; subst hf; exact h2
    · simp [hne.2.1, hne.2.2] at hf; subst hf; exact h3
end Go.Nx
namespace Go.Proofs.Ytnhadghddkgjdaa.lex
open Go Go.Nx Go.RowKit

/-- A number as a literal of a list. -/
def litN (r : Int) : List Nat → Tr Out
  | [] => .fail
  | k :: ks => .br (decide (r = (k : Int))) (.ret ⟨.v (.c (.i .i64 (k : Int))), []⟩) (litN r ks)
theorem litN_run {r : Int} {R : Out → Prop} : ∀ {ks : List Nat}, (litN r ks).run R → R ⟨.v (.c (.i .i64 r)), []⟩
  | [], h => h.elim
  | k :: ks, h => by
    rcases sel_iff.1 h with ⟨c, hR⟩ | ⟨_, hR⟩
    · rw [decide_eq_true_eq] at c; rw [c]; exact hR
    · exact litN_run hR
noncomputable def tLit (j : Nat) : Con := fun args regs => match args, regs with
  | [.c (.i .i64 n), .c (.i .i64 m)], [] => (match decide (m = 13) with
    | true => .must (n % 13 = (j : Int)) (.ret ⟨.v (.c (.i .i64 (j : Int))), []⟩)
    | false => match decide (m = 5) with
      | true => litN (n % 5) (List.range 5)
      | false => .fail)
  | _, _ => .fail
set_option maxRecDepth 100000 in
theorem kLit (j : Nat) : Known Try.prog [] 16 (tLit j) := by
  refine num.kNumV.less fun args regs R h => ?_
  unfold tLit at h
  split at h
  case h_2 => exact h.elim
  rename_i n m
  by_cases h13 : m = 13
  · subst h13
    have h' : n % 13 = (j : Int) ∧ R ⟨.v (.c (.i .i64 (j : Int))), []⟩ := h
    refine ⟨⟨by decide, by decide⟩, ?_⟩
    show R ⟨.v (.c (.i .i64 (n % 13))), []⟩
    rw [h'.1]
    exact h'.2
  · rw [decide_eq_false h13] at h
    by_cases h5 : m = 5
    · subst h5
      have h' : (litN (n % 5) (List.range 5)).run R := h
      exact ⟨⟨by decide, by decide⟩, litN_run h'⟩
    · rw [decide_eq_false h5] at h
      exact h.elim
noncomputable abbrev fIgn := Try.f10
noncomputable def cIgn (j : Nat) : FuncId → Option Con := conOf [(16, tLit j), (23, tByteZ), (27, tMake), (22, t_pending), (21, tYes)]
theorem kcIgn (j : Nat) : ∀ f T, cIgn j f = some T → Known Try.prog [] f T := (Knowns.cons (kLit j) (.cons kByteZ (.cons kMake (.cons k_pending (.cons kYes .nil))))).get
noncomputable def XIgn (j : Nat) : Cx := { P := Try.prog, con := cIgn j, glob := [], m := 0, loops := [] }
noncomputable def l1 (j : Nat) := unroll (XIgn j) 1 [1, 2, 7, 8, 9] [2, 7, 8] (bodyLoop fIgn 1) 20
noncomputable def l3 (j : Nat) := unroll (XIgn j) 3 [1, 2, 7, 8, 10] [7, 8] (bodyLoop fIgn 3) 20
noncomputable def l5 (j : Nat) := unroll (XIgn j) 5 [7, 8, 11, 12] [6, 7, 8, 11] (bodyLoop fIgn 5) 20
noncomputable def tIgn (j : Nat) : Con := fun args regs => if regs.length = 0 then nfun Try.prog [] (cIgn j) [(1, [1, 2, 7, 8, 9], l1 j), (3, [1, 2, 7, 8, 10], l3 j), (5, [7, 8, 11, 12], l5 j)] fIgn args regs else .fail
theorem kIgn (j : Nat) : Known Try.prog [] 10 (tIgn j) := known_loops 0 Try.func10 rfl (by kernel_rfl) mixed (kcIgn j)
  (LAll.three (i1 := 1) (i2 := 3) (i3 := 5) (b1 := bodyLoop fIgn 1) (b2 := bodyLoop fIgn 3) (b3 := bodyLoop fIgn 5) (by kernel_rfl) rfl (by decide)
    (unroll_ok (X := XIgn j) (kcIgn j) mixed (LAll.none (by kernel_rfl)) [1, 2, 7, 8, 9] [2, 7, 8] 20) (unroll_ok (X := XIgn j) (kcIgn j) mixed (LAll.none (by kernel_rfl)) [1, 2, 7, 8, 10] [7, 8] 20) (unroll_ok (X := XIgn j) (kcIgn j) mixed (LAll.none (by kernel_rfl)) [7, 8, 11, 12] [6, 7, 8, 11] 20))
noncomputable def xa (a : Int) : Int := IntKind.u8.wrap (32 + bits .and .u8 a 15)
noncomputable def ya (a : Int) : Int := IntKind.u8.wrap (64 + bits .and .u8 a 31)
noncomputable def x1 (a : Int) : Int := IntKind.u8.wrap (96 + bits .and .u8 a 15)
def da (a : Int) : Int := IntKind.u8.wrap (48 + a.tmod 10)
noncomputable def ra (a : Int) : Int := IntKind.u8.wrap (48 + bits .and .u8 a 15)
def rep (f : Prop → Prop) (P : Prop) : Nat → Prop
  | 0 => P
  | k + 1 => f (rep f P k)
noncomputable def gapStep (x : Int) (R : Out → Prop) (P : Prop) : Prop := in8 x ∧ sel (decide (c x < 48)) (ck x ∧ P) (ck x ∧ R no)
noncomputable def g0 (a : Int) (R : Out → Prop) (j : Nat) : Prop := in8 27 ∧ (in8 32 ∧ (ck 32 ∧ rep (gapStep (xa a) R) (in8 (ya a) ∧ sel (decide (c (ya a) < 48)) (ck (ya a) ∧ R no) (ck (ya a) ∧ R yes)) j))
noncomputable def g1 (a : Int) (R : Out → Prop) : Prop := in8 27 ∧ (in8 (x1 a) ∧ sel (decide (c (x1 a) < 48 ∨ c (x1 a) = 91 ∨ (57 ≤ c (x1 a) ∧ c (x1 a) ≤ 59))) (ck (x1 a) ∧ R no) (sel (decide (96 ≤ c (x1 a))) (ck (x1 a) ∧ R yes) False))
noncomputable def dig (a : Int) (R : Out → Prop) : Nat → List Int → Prop
  | 0, ds => in8 109 ∧ (((ck 109 ∧ c 109 = 109) ∧ InBytes ds) ∧ R yes)
  | k + 1, ds => in8 (da a) ∧ sel (decide (48 ≤ c (da a) ∧ c (da a) < 64)) (ck (da a) ∧ dig a R k (ds ++ [c (da a)])) (((ck (da a) ∧ c (da a) = 109) ∧ InBytes ds) ∧ R no)
noncomputable def g2 (a : Int) (R : Out → Prop) (j : Nat) : Prop := in8 27 ∧ (in8 91 ∧ (ck 91 ∧ dig a R (if j < 7 then j else 7) []))
def runs (R : Out → Prop) : List Int → Prop
  | [] => R yes
  | x :: l => in8 x ∧ (ck x ∧ runs R l)
def g3 (R : Out → Prop) : Prop := in8 27 ∧ runs R [91, 49, 50, 51, 52, 53, 54, 55, 56]
noncomputable def g4 (a : Int) (R : Out → Prop) : Prop := in8 31 ∧ (in8 (ra a) ∧ (ck (ra a) ∧ (in8 80 ∧ ((ck 80 ∧ c (ra a) < 64) ∧ R yes))))
noncomputable def gAll (a : Int) (R : Out → Prop) (j v : Nat) : Prop := match v with
  | 0 => g0 a R j
  | 1 => g1 a R
  | 2 => g2 a R j
  | 3 => g3 R
  | _ => g4 a R
def pickR (r : Int) (Q : Nat → Prop) : List Nat → Prop
  | [] => False
  | k :: ks => sel (decide (r = (k : Int))) (Q k) (pickR r Q ks)
def TreeJ (j : Nat) : Prop := ∀ (w n a : Int) (R : Out → Prop), (tIgn j [.c (.i .i64 w), .c (.i .i64 n), .c (.i .u8 a)] []).run R = (n % 13 = (j : Int) ∧ pickR (w % 5) (fun v => gAll a R j v) (List.range 5))
end Go.Proofs.Ytnhadghddkgjdaa.lex
