/-
  The document's lexer: brackets, sequences.
-/
import Derived.Test.YtnhadghddkgjdaaLexH2
set_option linter.unusedVariables false
namespace Go.Proofs.Ytnhadghddkgjdaa.lxr
open Go Go.Nx Go.Proofs.Ytnhadghddkgjdaa.lex Go.Proofs.Ytnhadghddkgjdaa.lxv

def agE (l : List Int) : NV := .ag (l.map fun x => .i .i64 x)
def resE (l : List Int) (b : Bool) : Out := ⟨.tu [agE l, .c (.b b)], []⟩
def ign7 : List Int := [12, 0, 0, 0, 0, 0, 0]
noncomputable def lastV (Q : List Int) : Int := Q.getD (w64 ((Q.length : Int) - 1)).toNat 0
def bodyQ (Q : List Int) : N3 := numsR (Q.dropLast.drop 2) 0 ⟨0, 0, 0⟩
noncomputable def swBra (v : Int) (n : N3) (R : Out → Prop) : Prop :=
  sel (v == 65) (R (resE [2, w64 (4 - w64 (IntKind.u8.wrap (v - 65))), mx n.x, 0, 0, 0, 0] false))
  (sel (v == 66) (R (resE [2, w64 (4 - w64 (IntKind.u8.wrap (v - 65))), mx n.x, 0, 0, 0, 0] false))
  (sel (v == 67) (R (resE [2, w64 (4 - w64 (IntKind.u8.wrap (v - 65))), mx n.x, 0, 0, 0, 0] false))
  (sel (v == 68) (R (resE [2, w64 (4 - w64 (IntKind.u8.wrap (v - 65))), mx n.x, 0, 0, 0, 0] false))
  (sel (v == 72) (R (resE [5, mx n.x, mx n.y, 0, 0, 0, 0] false))
  (sel (v == 74) (R (resE [11, w64 (w64 (IntKind.u8.wrap (v - 74)) + 1), n.x, 0, 0, 0, 0] false))
  (sel (v == 75) (R (resE [11, w64 (w64 (IntKind.u8.wrap (v - 74)) + 1), n.x, 0, 0, 0, 0] false)) (R (resE ign7 false))))))))
noncomputable def restBra (Q : List Int) (v : Int) (R : Out → Prop) : Prop :=
  sel (decide (v < 64)) (R (resE ign7 false)) (sel (decide (v > 126)) (R (resE ign7 false)) ((sBra Q v 0 2 0 0 0 = sBra Q v 0 2 0 0 0 ∧ okQ Q) ∧ swBra v (bodyQ Q) R))
theorem bra_tree (Q : List Int) (R : Out → Prop) : (t_bra [.c (.l .u8 Q)] []).run R = ix (w64 ((Q.length : Int) - 1)) Q
    (sel (decide (lastV Q ≥ 48)) (sel (decide (lastV Q ≤ 63)) (R (resE ign7 (decide ((Q.length : Int) < 10)))) (restBra Q (lastV Q) R)) (restBra Q (lastV Q) R)) := by kernel_rfl
def braGo (Q : List Int) (c : Int) : Bool := decide (48 ≤ c ∧ c ≤ 63 ∧ Q.length < 10)
def braE (n : N3) (c : Int) : List Int :=
  if c < 64 ∨ c > 126 then ign7 else if c ≤ 68 ∧ 65 ≤ c then [2, 69 - c, mx n.x, 0, 0, 0, 0] else if c = 72 then [5, mx n.x, mx n.y, 0, 0, 0, 0] else if c = 74 ∨ c = 75 then [11, c - 73, n.x, 0, 0, 0, 0] else ign7
def seven (l : List Int) : List Int := [l.getD 0 0, l.getD 1 0, l.getD 2 0, l.getD 3 0, l.getD 4 0, l.getD 5 0, l.getD 6 0]
noncomputable def tBra : Con := fun args regs => match args, regs with
  | [.c (.l .u8 Q)], [] => .must (okQ Q) (.ret (resE (seven (braE (bodyQ Q) (Q.getD (Q.length - 1) 0))) (braGo Q (Q.getD (Q.length - 1) 0))))
  | _, _ => .fail
theorem w64_of {n : Int} (h : -9223372036854775808 ≤ n ∧ n < 9223372036854775808) : w64 n = n := by unfold w64; rw [IntKind.wrap_i64]; omega
theorem u8_of {n : Int} (h : 0 ≤ n ∧ n < 256) : IntKind.u8.wrap n = n := by rw [IntKind.wrap_u8]; omega
theorem sw_in {c : Int} {n : N3} {R : Out → Prop} (h64 : ¬ c < 64) (h126 : ¬ c > 126) (h : R (resE (seven (braE n c)) false)) : swBra c n R := by
  unfold braE at h
  rw [if_neg (by omega)] at h
  have mv : 65 ≤ c → c ≤ 68 → R (resE [2, w64 (4 - w64 (IntKind.u8.wrap (c - 65))), mx n.x, 0, 0, 0, 0] false) := fun h1 h2 => by
    rw [if_pos ⟨h2, h1⟩] at h
    rw [u8_of (by omega), w64_of (n := c - 65) (by omega), w64_of (by omega), show 4 - (c - 65) = 69 - c by omega]
    exact h
  unfold swBra
  by_cases h65 : c = 65
  · exact selT (bT h65) (mv (by omega) (by omega))
  refine selF (bF h65) ?_
  by_cases h66 : c = 66
  · exact selT (bT h66) (mv (by omega) (by omega))
  refine selF (bF h66) ?_
  by_cases h67 : c = 67
  · exact selT (bT h67) (mv (by omega) (by omega))
  refine selF (bF h67) ?_
  by_cases h68 : c = 68
  · exact selT (bT h68) (mv (by omega) (by omega))
  refine selF (bF h68) ?_
  rw [if_neg (by omega)] at h
  by_cases h72 : c = 72
  · rw [if_pos h72] at h
    exact selT (bT h72) h
  refine selF (bF h72) ?_
  rw [if_neg h72] at h
  have er : c = 74 ∨ c = 75 → R (resE [11, w64 (w64 (IntKind.u8.wrap (c - 74)) + 1), n.x, 0, 0, 0, 0] false) := fun hc => by
    rw [if_pos hc] at h
    rw [u8_of (by omega), w64_of (n := c - 74) (by omega), w64_of (by omega), show c - 74 + 1 = c - 73 by omega]
    exact h
  by_cases h74 : c = 74
  · exact selT (bT h74) (er (.inl h74))
  refine selF (bF h74) ?_
  by_cases h75 : c = 75
  · exact selT (bT h75) (er (.inr h75))
  refine selF (bF h75) ?_
  rw [if_neg (by omega)] at h
  exact h
set_option maxRecDepth 100000 in
theorem kBra : Known Try.prog [] 68 tBra := by
  refine k_bra.less fun args regs R h => Box.out ?_
  unfold tBra at h
  split at h
  case h_2 => exact h.elim
  rename_i Q
  have h1 := h.1
  have h2 : R (resE (seven (braE (bodyQ Q) (Q.getD (Q.length - 1) 0))) (braGo Q (Q.getD (Q.length - 1) 0))) := h.2
  clear h
  obtain ⟨h3, h100, hQ⟩ := h1
  have hl : w64 ((Q.length : Int) - 1) = (Q.length : Int) - 1 := w64_of (by omega)
  have hv : lastV Q = Q.getD (Q.length - 1) 0 := by unfold lastV; rw [hl]; congr 1; omega
  refine Box.of_eq (bra_tree Q R) (ix_in (by rw [hl]; omega) ?_)
  rw [hv]
  generalize Q.getD (Q.length - 1) 0 = c at *
  have rest : ¬ (48 ≤ c ∧ c ≤ 63) → restBra Q c R := fun hn => by
    have e : braGo Q c = false := by unfold braGo; exact dF (by omega)
    rw [e] at h2
    have ig : c < 64 ∨ c > 126 → R (resE ign7 false) := fun hc => by
      unfold braE at h2
      rw [if_pos hc] at h2
      exact h2
    unfold restBra
    exact sel_by (fun hc => ig (.inl hc)) fun h64 => sel_by (fun hc => ig (.inr hc)) fun h126 => ⟨⟨rfl, h3, h100, hQ⟩, sw_in h64 h126 h2⟩
  refine sel_by (fun h48 => sel_by (fun h63 => ?_) fun h63 => rest (by omega)) fun h48 => rest (by omega)
  have e : braGo Q c = decide ((Q.length : Int) < 10) := by
    unfold braGo
    by_cases hl : Q.length < 10
    · rw [dT ⟨h48, h63, hl⟩, dT (by omega)]
    · rw [dF (fun h => hl h.2.2), dF (by omega)]
  unfold braE at h2
  rw [if_pos (by omega), e] at h2
  exact h2

/-! ### a sequence -/
noncomputable def t_acc : Con := fun args regs => nfun Try.prog [] (fun _ => Option.none) [] Try.f67 args regs
theorem k_acc : Known Try.prog [] 67 t_acc := known_inl Try.func67 rfl (by kernel_rfl) mixed con_none (by kernel_rfl)
theorem acc_tree (c : Int) (R : Out → Prop) : (t_acc [.c (.i .u8 c)] []).run R =
    sel (cB c == 65) (R ⟨.tu [.c (.i .i64 1), .c (.b true)], []⟩) (sel (cB c == 66) (R ⟨.tu [.c (.i .i64 2), .c (.b true)], []⟩) (sel (cB c == 67) (R ⟨.tu [.c (.i .i64 3), .c (.b true)], []⟩)
     (sel (cB c == 72) (R ⟨.tu [.c (.i .i64 8), .c (.b true)], []⟩) (sel (cB c == 75) (R ⟨.tu [.c (.i .i64 11), .c (.b true)], []⟩) (R ⟨.tu [.c (.i .i64 0), .c (.b false)], []⟩))))) := by kernel_rfl
theorem cB_self_all : ∀ n < 128, cB (Int.ofNat n) = Int.ofNat n := by decide +kernel
theorem cB_self {c : Int} (h : 0 ≤ c ∧ c < 128) : cB c = c := by
  have e : c = Int.ofNat c.toNat := by show c = ((c.toNat : Nat) : Int); omega
  have := cB_self_all c.toNat (by omega)
  rwa [← e] at this
def accN (c : Int) : Int := if c = 65 then 1 else if c = 66 then 2 else if c = 67 then 3 else if c = 72 then 8 else if c = 75 then 11 else 0
noncomputable def tAcc : Con := fun args regs => match args, regs with
  | [.c (.i .u8 c)], [] => .must (0 ≤ c ∧ c < 128) (.ret ⟨.tu [.c (.i .i64 (accN c)), .c (.b (isAcc c))], []⟩)
  | _, _ => .fail
set_option maxRecDepth 100000 in
theorem kAcc : Known Try.prog [] 67 tAcc := by
  refine k_acc.less fun args regs R h => Box.out ?_
  unfold tAcc at h
  split at h
  case h_2 => exact h.elim
  rename_i c
  have h1 := h.1
  have h2 : R ⟨.tu [.c (.i .i64 (accN c)), .c (.b (isAcc c))], []⟩ := h.2
  clear h
  refine Box.of_eq (acc_tree c R) ?_
  rw [cB_self h1]
  by_cases h65 : c = 65
  · subst h65; exact selT rfl h2
  refine selF (bF h65) ?_
  by_cases h66 : c = 66
  · subst h66; exact selT rfl h2
  refine selF (bF h66) ?_
  by_cases h67 : c = 67
  · subst h67; exact selT rfl h2
  refine selF (bF h67) ?_
  by_cases h72 : c = 72
  · subst h72; exact selT rfl h2
  refine selF (bF h72) ?_
  by_cases h75 : c = 75
  · subst h75; exact selT rfl h2
  refine selF (bF h75) ?_
  have e1 : accN c = 0 := by unfold accN; rw [if_neg h65, if_neg h66, if_neg h67, if_neg h72, if_neg h75]
  have e2 : isAcc c = false := by unfold isAcc; rw [bF h65, bF h66, bF h67, bF h72, bF h75]; rfl
  rw [e1, e2] at h2
  exact h2
noncomputable def c_rseq : FuncId → Option Con := conOf [(67, tAcc), (68, tBra)]
theorem kc_rseq : ∀ f T, c_rseq f = some T → Known Try.prog [] f T := (Knowns.cons kAcc (.cons kBra .nil)).get
noncomputable def t_rseq : Con := fun args regs => nfun Try.prog [] c_rseq [] Try.f54 args regs
theorem k_rseq : Known Try.prog [] 54 t_rseq := known_inl Try.func54 rfl (by kernel_rfl) mixed kc_rseq (by kernel_rfl)
noncomputable def rPlace (Q : List Int) (R : Out → Prop) : Prop :=
  sel ((Q.length : Int) == 2) (R (resE ign7 true)) (ix 1 Q (sel (decide (Q.getD 1 0 < 64)) (R (resE ign7 false)) (ix 2 Q (sel (decide (Q.getD 2 0 < 64)) (R (resE ign7 false))
    (ix 1 Q (ix 2 Q (R (resE [5, low6 (Q.getD 1 0), low6 (Q.getD 2 0), 0, 0, 0, 0] false))))))))
noncomputable def rSign (Q : List Int) (R : Out → Prop) : Prop :=
  sel ((Q.length : Int) == 2) ((0 ≤ lastV Q ∧ lastV Q < 128) ∧ R (resE [1, 0, 0, 0, 0, 2, w64 (lastV Q)] (isAcc (lastV Q)))) (ix 1 Q (R (resE [1, w64 (Q.getD 1 0), 0, 0, 0, 2, w64 (lastV Q)] false)))
noncomputable def rAsk (Q : List Int) (n : Int) (R : Out → Prop) : Prop :=
  sel (decide ((Q.length : Int) < w64 (2 + n))) (R (resE ign7 true)) (ix 2 Q (sel (decide (n > 1)) (ix 3 Q (sel (decide (n > 2)) (ix 4 Q (R (resE [10, n, w64 (Q.getD 2 0), w64 (Q.getD 3 0), w64 (Q.getD 4 0), 0, 0] false)))
     (R (resE [10, n, w64 (Q.getD 2 0), w64 (Q.getD 3 0), 0, 0, 0] false))))
    (sel (decide (n > 2)) (ix 4 Q (R (resE [10, n, w64 (Q.getD 2 0), 0, w64 (Q.getD 4 0), 0, 0] false))) (R (resE [10, n, w64 (Q.getD 2 0), 0, 0, 0, 0] false)))))
noncomputable def rGap (Q : List Int) (k : Int) (R : Out → Prop) : Prop :=
  sel (decide (k ≥ 32)) (sel (decide (k ≤ 47)) (sel (decide (lastV Q ≥ 32)) (sel (decide (lastV Q ≤ 47)) (R (resE ign7 (decide ((Q.length : Int) < 16)))) (R (resE ign7 false))) (R (resE ign7 false))) (R (resE ign7 false))) (R (resE ign7 false))
noncomputable def rAttr (Q : List Int) (k : Int) (R : Out → Prop) : Prop :=
  sel (decide (k ≥ 64)) (sel (decide (k ≤ 95)) (R (resE [6, w64 k, 0, 0, 0, 0, 0] false)) (rGap Q k R)) (rGap Q k R)
noncomputable def rBrk (Q : List Int) (k : Int) (R : Out → Prop) : Prop :=
  sel (k == 91) (sel ((Q.length : Int) == 2) (R (resE ign7 true)) (okQ Q ∧ R (resE (seven (braE (bodyQ Q) (Q.getD (Q.length - 1) 0))) (braGo Q (Q.getD (Q.length - 1) 0))))) (rAttr Q k R)
noncomputable def rEsc (Q : List Int) (R : Out → Prop) : Prop := ix 1 Q
  (sel (decide (Q.getD 1 0 ≥ 57)) (sel (decide (Q.getD 1 0 ≤ 59)) (rAsk Q (w64 (w64 (Q.getD 1 0) - 56)) R) (rBrk Q (Q.getD 1 0) R)) (rBrk Q (Q.getD 1 0) R))
theorem rseq_tree (Q : List Int) (R : Out → Prop) : (t_rseq [.c (.l .u8 Q)] []).run R = ix (w64 ((Q.length : Int) - 1)) Q (ix 0 Q
    (sel (Q.getD 0 0 == 18) (R (resE [7, low6 (lastV Q), 0, 0, 0, 0, 0] false)) (sel (Q.getD 0 0 == 25) (rSign Q R) (sel (Q.getD 0 0 == 31) (rPlace Q R) (rEsc Q R))))) := by kernel_rfl
end Go.Proofs.Ytnhadghddkgjdaa.lxr
