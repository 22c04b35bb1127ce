/-
  The lexer: the law LexSequences: its tree.
-/
import Derived.Test.YtnhadghddkgjdaaLexF
namespace Go.Proofs.Ytnhadghddkgjdaa.lex
open Go Go.Nx Go.RowKit

noncomputable abbrev fSeq := Try.f9
noncomputable def cSeq : FuncId → Option Con := conOf [(16, tNum8), (23, tByteY), (25, t_evens), (22, t_pending), (26, t_sameEvent), (21, tYes)]
theorem kcSeq : ∀ f T, cSeq f = some T → Known Try.prog [] f T := (Knowns.cons kNum8 (.cons kByteY (.cons k_evens (.cons k_pending (.cons k_sameEvent (.cons kYes .nil)))))).get
noncomputable def XSeq : Cx := { P := Try.prog, con := cSeq, glob := [], m := 0, loops := [] }
noncomputable def tSeq : Con := fun args regs => if regs.length = 0 then nfun Try.prog [] cSeq [(1, [9, 13, 14, 15, 16], unroll XSeq 1 [9, 13, 14, 15, 16] [8, 9, 13, 14, 15] (bodyLoop fSeq 1) 10)] fSeq args regs else .fail
theorem kSeq : Known Try.prog [] 9 tSeq := known_loops 0 Try.func9 rfl (by kernel_rfl) mixed kcSeq
  (LAll.one (id := 1) (body := bodyLoop fSeq 1) (by kernel_rfl) rfl (unroll_ok (X := XSeq) kcSeq mixed (LAll.none (by kernel_rfl)) [9, 13, 14, 15, 16] [8, 9, 13, 14, 15] 10))
def InN (m : Int) : Prop := 0 < m ∧ m < 4611686018427387904
def in8 (b : Int) : Prop := 0 ≤ b ∧ b < 256
def no : Out := ⟨.v (.c (.b false)), []⟩
/-- A byte from 64 on. -/
def hi (a : Int) : Int := IntKind.u8.wrap (IntKind.i64.wrap (64 + a % 64))
/-- A digit. -/
def dg (a : Int) : Int := IntKind.u8.wrap (IntKind.i64.wrap (48 + (a % 64).tmod 10))
noncomputable def at7 (a : Int) : Int := IntKind.u8.wrap (IntKind.i64.wrap (80 + bits .and .i64 (a % 64) 7))
def evm : List Int → Prop → Prop
  | [], P => P
  | b :: l, P => in8 b ∧ evm l P
noncomputable def c (x : Int) : Int := cB (mkEv x)
def ck (x : Int) : Prop := okC (mkEv x)
def yn (x y : Int) (R : Out → Prop) (A : Prop) : Prop := sel (x == y) A (R no)
noncomputable def q0 (a b : Int) (R : Out → Prop) : Prop := evm [31, hi a, hi b] (ck (hi a) ∧ ((ck (hi b) ∧ 64 ≤ c (hi a) ∧ 64 ≤ c (hi b)) ∧ yn (low6 (c (hi a))) (a % 64) R (yn (low6 (c (hi b))) (b % 64) R (R yes))))
noncomputable def q1 (a : Int) (R : Out → Prop) : Prop := evm [25, 66, hi a] ((ck 66 ∧ c 66 = 66) ∧ (ck (hi a) ∧ yn (w64 (c (hi a))) (w64 (hi a)) R (R yes)))
noncomputable def q2 (a : Int) (R : Out → Prop) : Prop := evm [18, hi a] (ck (hi a) ∧ yn (low6 (c (hi a))) (a % 64) R (R yes))
noncomputable def q3 (a : Int) (R : Out → Prop) : Prop := evm [27, at7 a] (sel (decide (c (at7 a) = 91 ∨ (57 ≤ c (at7 a) ∧ c (at7 a) ≤ 59))) (ck (at7 a) ∧ R no)
  ((ck (at7 a) ∧ 64 ≤ c (at7 a) ∧ c (at7 a) ≤ 95) ∧ yn (w64 (c (at7 a))) (IntKind.i64.wrap (80 + bits .and .i64 (a % 64) 7)) R (R yes)))
noncomputable def q4 (a : Int) (R : Out → Prop) : Prop := evm [27, 57, hi a] (ck 57 ∧ (ck (hi a) ∧ yn (w64 (c (hi a))) (w64 (hi a)) R (R yes)))
noncomputable def q5 (a b : Int) (R : Out → Prop) : Prop := evm [27, 58, hi a, hi b] (ck 58 ∧ (ck (hi a) ∧ (ck (hi b) ∧ yn (w64 (c (hi a))) (w64 (hi a)) R (yn (w64 (c (hi b))) (w64 (hi b)) R (R yes)))))
noncomputable def q6 (a b d : Int) (R : Out → Prop) : Prop := evm [27, 59, hi a, hi b, hi d] (ck 59 ∧ (ck (hi a) ∧ (ck (hi b) ∧ (ck (hi d) ∧ yn (w64 (c (hi a))) (w64 (hi a)) R (yn (w64 (c (hi b))) (w64 (hi b)) R (yn (w64 (c (hi d))) (w64 (hi d)) R (R yes)))))))
noncomputable def cd (x : Int) : Prop := ck x ∧ 48 ≤ c x ∧ c x < 64
noncomputable def ds (a b d : Int) : List Int := [c (dg a), c (dg b), c 59, c (dg d)]
noncomputable def q7 (a b d : Int) (R : Out → Prop) : Prop := evm [27, 91, dg a, dg b, 59, dg d, 72] (ck 91 ∧ (cd (dg a) ∧ (cd (dg b) ∧ (cd 59 ∧ (cd (dg d) ∧ (((ck 72 ∧ c 72 = 72) ∧ InBytes (ds a b d)) ∧
  yn (mx (min99 (nums (ds a b d) 0 0 0).1)) (mx (IntKind.i64.wrap (IntKind.i64.wrap ((a % 64).tmod 10 * 10) + (b % 64).tmod 10))) R (yn (mx (min99 (nums (ds a b d) 0 0 0).2)) (mx ((d % 64).tmod 10)) R (R yes))))))))
end Go.Proofs.Ytnhadghddkgjdaa.lex
