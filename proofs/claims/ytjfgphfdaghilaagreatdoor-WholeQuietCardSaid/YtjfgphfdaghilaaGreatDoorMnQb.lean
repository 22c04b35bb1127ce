/-
  The law WholeQuiet: its tree, joined.
-/
import Derived.Test.YtjfgphfdaghilaaGreatDoorMnQa
set_option linter.unusedVariables false
namespace Go.Proofs.YtjfgphfdaghilaaGreatDoor.qu
open Go Go.Nx Go.Proofs.YtjfgphfdaghilaaGreatDoor.prt
open Go.Proofs.YtjfgphfdaghilaaGreatDoor.mtl hiding GL known_gl
open Go.Proofs.YtjfgphfdaghilaaGreatDoor.pk (GL)
open Go.Proofs.YtjfgphfdaghilaaGreatDoor.lex (arr lx InBytes mkEv K7 kMake)
open Go.Proofs.YtjfgphfdaghilaaGreatDoor.scr (Scr newS)

def oB (x : Bool) : Out := ⟨.v (.c (.b x)), []⟩
def qQ (j : Int) (M : Mn) (N : Prop) : Prop := lensR M ∧ ((j = 2 ∨ j = 3) ∧ smallM (nrm M)) ∧ N
noncomputable def tailQ (M : Mn) (R : Out → Prop) : Prop :=
  vn.same (some (scr.scr M.sc)) (qQ 2 M (sel ((M.o2.length : Int) == 0) (qQ 3 M (sel ((M.o3.length : Int) == 0) (lensR M ∧ sel (M.lost == 0) (sel (!M.p.ro) (sel (M.p.sp == 100) (sel (decide (M.sc.row ≥ 0)) (R (oB (decide (M.sc.row ≤ 24)))) (R (oB false))) (R (oB false))) (R (oB false))) (R (oB false))) (R (oB false)))) (R (oB false))))
theorem qu_tree (b : List Int) (x : Bool) (R : Out → Prop) : (t_qu [.c (.l .u8 b), .c (.b x)] []).run R =
    sel (decide ((b.length : Int) > 200)) (R (oB true)) (((1 : Int) ≤ 100 ∧ (100 : Int) ≤ 4096) ∧ (s_qu (newM 100) b x 0 = s_qu (newM 100) b x 0 ∧ b.length ≤ 200 ∧ InBytes b) ∧ tailQ (endQ x b) R) := by kernel_rfl
theorem qQ_in {j : Int} {M : Mn} {N : Prop} (hj : j = 2 ∨ j = 3) (hM : OkM M) (hN : N) : qQ j M N := ⟨lensR_in M, ⟨hj, ⟨by have := hM.o2; show M.o2.length ≤ 100000; omega, by have := hM.o3; show M.o3.length ≤ 100000; omega⟩⟩, hN⟩
set_option maxRecDepth 100000 in
theorem qu_in (b : List Int) (x : Bool) (hb : InBytes b) (R : Out → Prop) (hR : R (oB true)) : Box ((t_qu [.c (.l .u8 b), .c (.b x)] []).run R) := by
  have hq : Qt (endQ x b) := Qt.fold x b newM_qt hb
  refine Box.of_eq (qu_tree b x R) (sel_by (fun _ => hR) fun h => ⟨⟨by decide, by decide⟩, ⟨rfl, by omega, hb⟩, ?_⟩)
  generalize endQ x b = M at *
  have hrow := hq.ok.on.1
  refine vn.same_in (qQ_in (.inl rfl) hq.ok (selT (by rw [hq.o2]; rfl) (qQ_in (.inr rfl) hq.ok (selT (by rw [hq.o3]; rfl) ⟨lensR_in M, selT (by rw [hq.lost]; rfl) (selT (by rw [hq.p]; rfl) (selT (by rw [hq.p]; rfl) (selT (dT hrow.1) ?_)))⟩))))
  rw [dT hrow.2]
  exact hR
section
attribute [local irreducible] t_qu
theorem qu_holds (b : List Int) (x : Bool) (hb : InBytes b) : Holds (t_qu [.c (.l .u8 b), .c (.b x)] []) fun o => o.res = .v (.c (.b true)) := ⟨Box.out (qu_in b x hb _ rfl)⟩
end
def shsQ : List Sh := [.row .u8, .b]
theorem qu_law (xs : List NV) (h : R2 ShOk shsQ xs) : Holds (t_qu xs []) fun o => o.res = .v (.c (.b true)) := by
  cases h with
  | cons h1 h =>
    cases h with
    | cons h2 h =>
      cases h
      cases h2 with
      | @b x =>
        cases h1 with
        | @row _ xs hx =>
          refine qu_holds xs x fun z hz => ?_
          have := hx z hz
          simp [Lit.wf, IntKind.min, IntKind.max, IntKind.signed, IntKind.bits] at this
          exact ⟨by omega, by omega⟩
end Go.Proofs.YtjfgphfdaghilaaGreatDoor.qu
