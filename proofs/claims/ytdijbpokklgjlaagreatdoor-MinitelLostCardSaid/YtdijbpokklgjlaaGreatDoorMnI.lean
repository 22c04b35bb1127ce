/-
  The Minitel: what sequences of bytes do.
-/
import Derived.Test.YtdijbpokklgjlaaGreatDoorMnH
set_option linter.unusedVariables false
namespace Go.Proofs.YtdijbpokklgjlaaGreatDoor.mtl
open Go Go.Nx Go.Proofs.YtdijbpokklgjlaaGreatDoor.prt
open Go.Proofs.YtdijbpokklgjlaaGreatDoor.lex (arr lx InBytes mkEv K7)
open Go.Proofs.YtdijbpokklgjlaaGreatDoor.lxv (wf cel pend shft cc evts okP ev ignR)
open Go.Proofs.YtdijbpokklgjlaaGreatDoor.scr (Scr Ev eventS rollsS Ins newS)

/-- A byte that no one else hears. -/
theorem comes_own {j : Int} {b : Int} {M : Mn} (h2 : hrs M.p.M 2 j = false) (h3 : hrs M.p.M 3 j = false) : comesM j b M = byteM (hrs M.p.M 0 j) true j M b := by
  unfold comesM toAll
  simp only [h2, h3]
  rfl
theorem cc_27 : cc (mkEv 27) = 27 := by kernel_rfl
theorem cc_57 : cc (mkEv 57) = 57 := by kernel_rfl
theorem cc_123 : cc (mkEv 123) = 123 := by kernel_rfl
theorem ev_a (s : Int) : evts [] s 27 = [] := by kernel_rfl
theorem pe_a : pend [] 27 = [27] := by kernel_rfl
theorem sh_a (s : Int) : shft s 27 = s := by kernel_rfl
theorem ev_b (s : Int) : evts [27] s 57 = [] := by kernel_rfl
theorem pe_b : pend [27] 57 = [27, 57] := by kernel_rfl
theorem sh_b (s : Int) : shft s 57 = s := by kernel_rfl
theorem ev_c (s : Int) : evts [27, 57] s 123 = [ev 10 1 123 0 0 0 0] := by kernel_rfl
theorem pe_c : pend [27, 57] 123 = [] := by kernel_rfl
theorem sh_c (s : Int) : shft s 123 = s := by kernel_rfl

/-! ### who it is, asked by the line -/
def oneV : List Int := [mkEv 1, mkEv 67, mkEv 117, mkEv 60, mkEv 4]
/-- A Minitel of which nothing was set. -/
def LM (most : Int) (o : List Int) (k : Int) : Mn := { newM most with o2 := o, lost := k }
theorem ask_123 (p : PS) : askV p 10 1 123 0 0 = (({ p with ec := p.M 1 } : PS), [1, 67, 117, 60, 4]) := rfl
theorem start_ec : ({ startP with ec := startP.M 1 } : PS) = startP := rfl
theorem rolls_new : rollsS startP.ro newS = newS := rfl
/-- The first two bytes. -/
theorem lm_1 (most : Int) (o : List Int) (k : Int) : comesM 2 (mkEv 27) (LM most o k) = { LM most o k with l2 := ⟨[27], 0⟩ } := by
  rw [comes_own rfl rfl]
  unfold byteM nextL
  rw [cc_27]
  show evsM _ true 2 (evts [] 0 27) (setL (LM most o k) 2 ⟨pend [] 27, shft 0 27⟩) = _
  rw [ev_a, pe_a, sh_a]
  rfl
theorem lm_2 (most : Int) (o : List Int) (k : Int) : comesM 2 (mkEv 57) { LM most o k with l2 := ⟨[27], 0⟩ } = { LM most o k with l2 := ⟨[27, 57], 0⟩ } := by
  rw [comes_own rfl rfl]
  unfold byteM nextL
  rw [cc_57]
  show evsM _ true 2 (evts [27] 0 57) (setL { LM most o k with l2 := ⟨[27], 0⟩ } 2 ⟨pend [27] 57, shft 0 57⟩) = _
  rw [ev_b, pe_b, sh_b]
  rfl
theorem lm_3 (most : Int) (o : List Int) (k : Int) : comesM 2 (mkEv 123) { LM most o k with l2 := ⟨[27, 57], 0⟩ } = sendM 2 oneV (LM most o k) := by
  rw [comes_own rfl rfl]
  unfold byteM nextL
  rw [cc_123]
  show evsM _ true 2 (evts [27, 57] 0 123) (setL { LM most o k with l2 := ⟨[27, 57], 0⟩ } 2 ⟨pend [27, 57] 123, shft 0 123⟩) = _
  rw [ev_c, pe_c, sh_c]
  rfl
theorem lm_send (most : Int) (o : List Int) (k : Int) : sendM 2 oneV (LM most o k) = if (o.length : Int) + 5 ≤ most then LM most (o ++ oneV) k else LM most o (w64 (k + 1)) := by
  unfold sendM
  rw [if_neg (by unfold oneV; simp)]
  show (if ((o.length : Int) + 5 > most) then _ else _) = _
  by_cases h : (o.length : Int) + 5 ≤ most
  · rw [if_pos h, if_neg (by omega)]; rfl
  · rw [if_neg h, if_pos (by omega)]; rfl
end Go.Proofs.YtdijbpokklgjlaaGreatDoor.mtl
