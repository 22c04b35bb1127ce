/-
  The lexer: the law LexBounds: its loop, the law.
-/
import Derived.Test.YtnhadghddkgjdaaLexBa
set_option linter.unusedVariables false
namespace Go.Proofs.Ytnhadghddkgjdaa.lxv
open Go Go.Nx Go.Proofs.Ytnhadghddkgjdaa.lex

set_option maxRecDepth 100000 in
theorem loop_bnd : LOk Try.prog [] 0 0 (bodyLoop fBnd 0) (sumP pBnd rBnd lBnd) := by
  refine loop_ok (X := XBnd) kcBnd mixed (LAll.none (by kernel_rfl)) [0, 3, 4, 5] [2, 3] hBnd (fun a => ((a.bs.length : Int) - a.i).toNat) preBnd ?_ ?_
  · intro s R h
    unfold sumP at h
    split at h
    case h_2 => exact h.elim
    rename_i a b h1 h2
    have hs : s = mkSt pBnd rBnd (a, b) := by
      unfold mkSt
      rw [readL_spec (fun p x l h => Pat.readS_spec h) h1, readRg_spec h2]
    clear h1 h2
    unfold lBnd at h
    split at h
    case h_2 => exact h.elim
    rename_i bs ok i s' he
    cases he
    exact ⟨⟨bs, ok, [], s', i⟩, hs, h⟩
  · intro a R h
    refine Tr.run_mono _ (fun o ho => ?_) (round_bnd a R h)
    exact ho
def yesB : Out := ⟨.v (.c (.b true)), []⟩
noncomputable def tBnd : Con := fun args regs => if regs.length = 0 then nfun Try.prog [] cBnd [(0, [0, 3, 4, 5], sumP pBnd rBnd lBnd)] fBnd args regs else .fail
theorem kBnd : Known Try.prog [] 8 tBnd := known_loops 0 Try.func8 rfl (by kernel_rfl) mixed kcBnd (LAll.one (id := 0) (body := bodyLoop fBnd 0) (by kernel_rfl) rfl loop_bnd)
theorem bnd_tree (bs : List Int) (R : Out → Prop) : (tBnd [.c (.l .u8 bs)] []).run R =
    sel (decide ((bs.length : Int) > 200)) (R yesB) (inBnd ⟨bs, true, [], 0, 0⟩ ∧ R yesB) := by kernel_rfl
theorem bnd_true (bs : List Int) (hb : InBytes bs) : Holds (tBnd [.c (.l .u8 bs)] []) fun o => o.res = .v (.c (.b true)) := by
  constructor
  rw [bnd_tree]
  by_cases h : (bs.length : Int) > 200
  · exact selT (dT h) rfl
  · exact selF (dF h) ⟨⟨Int.le_refl _, by simp only; omega, by simp only; omega, hb, by simp, .inl rfl⟩, rfl⟩
def shsB : List Sh := [.row .u8]
theorem bnd_law (xs : List NV) (h : R2 ShOk shsB xs) : Holds (tBnd xs []) fun o => o.res = .v (.c (.b true)) := by
  cases h with
  | cons h1 h =>
    cases h
    cases h1 with
    | @row _ xs hx =>
      refine bnd_true xs fun x hx' => ?_
      have := hx x hx'
      simp [Lit.wf, IntKind.min, IntKind.max, IntKind.signed, IntKind.bits] at this
      constructor <;> omega
end Go.Proofs.Ytnhadghddkgjdaa.lxv
