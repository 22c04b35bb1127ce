/-
  The remote control: a key, by its literal, when no digits are there.
-/
import Derived.Test.YtnhadghddkgjdaaRemE
import Derived.Test.YtnhadghddkgjdaaLit
namespace Go.Proofs.Ytnhadghddkgjdaa.rem
open Go Go.Nx

noncomputable def c_keyC : FuncId → Option Con := conOf [(33, t_clones), (36, tTurns), (35, t_follows)]
theorem kc_keyC : ∀ f T, c_keyC f = some T → Known Try.prog [] f T := (Knowns.cons k_clones (Knowns.cons kTurns (Knowns.cons k_follows Knowns.nil))).get
noncomputable def t_keyC : Con := fun args regs => nfun Try.prog [] c_keyC [] Try.f18 args regs
theorem k_keyC : Known Try.prog [] 18 t_keyC := known_inl Try.func18 rfl (by kernel_rfl) mixed kc_keyC (by kernel_rfl)
noncomputable abbrev fTurnsL := Try.f7
noncomputable def cTurnsL : FuncId → Option Con := conOf [(16, num.tLitS [4]), (18, t_keyC), (17, t_start), (19, t_same), (15, tYes)]
theorem kcTurnsL : ∀ f T, cTurnsL f = some T → Known Try.prog [] f T := (Knowns.cons (num.kLitS [4]) (.cons k_keyC (.cons k_start (.cons k_same (.cons kYes .nil))))).get
noncomputable def XTurnsL : Cx := { P := Try.prog, con := cTurnsL, glob := [], m := 0, loops := [] }
noncomputable def lnks : Reg := ⟨3, 27, .recs [.i .i64, .i .i64, .i .i64] (List.replicate 6 [.i 0, .i 0, .i 0])⟩
noncomputable def rst (m p u : Int) (h r x : Bool) : Reg := ⟨9, 29, .cells [.i .i64 m, .i .i64 p, .i .i64 u, .sn, .sn, .b false, .b h, .b r, .b x]⟩
noncomputable def sTurnsL (l : List Int) (m p u : Int) (h r x : Bool) (i : Int) : St := { fr := frame 114 [(0, .v (.c (.l .i64 l))), (3, .v (.c (.b true))), (4, .v (.c (.p 0 0 0))), (5, .v (.c (.p 1 0 0))), (6, .v (.c (.b h))), (7, .v (.c (.b r))), (8, .v (.c (.b x))), (9, .v (.c (.i .i64 i)))], rg := [some lnks, some (rst m p u h r x)] }
noncomputable def dTurnsL (m p u : Int) (h r x : Bool) : St := { fr := frame 114 [(3, .v (.c (.b true))), (4, .v (.c (.p 0 0 0))), (5, .v (.c (.p 1 0 0)))], rg := [some lnks, some (rst m p u h r x)] }
noncomputable def nx3 (m p : Int) : Int := IntKind.i64.wrap ((nextN m p 1).tdiv 100)
noncomputable def roundE (l : List Int) (m p u i : Int) (h r x : Bool) (R : RO → Prop) : Prop :=
  sel (decide (i < (l.length : Int))) (sel (decide (0 ≤ i)) (sel (decide (i < (l.length : Int))) (sel (decide (i.toNat < l.length))
   ((0 < (4 : Int) ∧ (4 : Int) < 4611686018427387904) ∧
    sel (decide (l.getD i.toNat 0 % 4 = ((0 : Nat) : Int))) (R (.next (sTurnsL l m p u (!h) r x (IntKind.i64.wrap (i + 1)))))
     (sel (decide (l.getD i.toNat 0 % 4 = ((1 : Nat) : Int))) (R (.next (sTurnsL l m p u h (!r) x (IntKind.i64.wrap (i + 1)))))
      (sel (decide (l.getD i.toNat 0 % 4 = ((2 : Nat) : Int))) (R (.next (sTurnsL l m p u h r (!x) (IntKind.i64.wrap (i + 1)))))
       (sel (decide (l.getD i.toNat 0 % 4 = ((3 : Nat) : Int))) (((1 : Int) = 1 ∨ (1 : Int) = -1) ∧ R (.next (sTurnsL l (nx3 m p) (pP (nextN m p 1)) 16255 false false x (IntKind.i64.wrap (i + 1)))))
        False)))) False) False) False) (R (.done .normal (dTurnsL m p u h r x)))
theorem round_turnsL (l : List Int) (m p u i : Int) : ∀ (h r x : Bool) (R : RO → Prop), (roundT XTurnsL 0 [0, 3, 4, 5, 6, 7, 8, 9] [2, 3, 4, 5] (bodyLoop fTurnsL 0) (sTurnsL l m p u h r x i)).run R = roundE l m p u i h r x R := by
  intro h r x
  cases h <;> cases r <;> cases x <;> (intro R; kernel_rfl)
end Go.Proofs.Ytnhadghddkgjdaa.rem
