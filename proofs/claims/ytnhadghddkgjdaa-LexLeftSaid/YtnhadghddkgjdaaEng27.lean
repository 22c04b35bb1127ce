/-
  The engine, part 27: a tree along a road: what must hold at its forks, and what it comes to.
-/
import Derived.Test.YtnhadghddkgjdaaEng24
namespace Go.Nx
open Go

/-- A step of a road: a fork that goes one way or the other, something that must hold, so many forks that are plain. -/
inductive RC where
  | t (c : Bool)
  | f (c : Bool)
  | m (p : Prop)
  | T (n : Nat)
  | F (n : Nat)
def scr : List RC → List Bool
  | [] => []
  | .t _ :: l => true :: scr l
  | .f _ :: l => false :: scr l
  | .m _ :: l => scr l
  | .T n :: l => List.replicate n true ++ scr l
  | .F n :: l => List.replicate n false ++ scr l
/-- A tree along a road. -/
def Tr.fol {α : Type} : Tr α → List Bool → Tr α
  | .ret a, _ => .ret a
  | .must p x, bs => .must p (x.fol bs)
  | .br _ _ _, [] => .fail
  | .br c x _, true :: bs => .must (c = true) (x.fol bs)
  | .br c _ y, false :: bs => .must (c = false) (y.fol bs)
  | .all p h f, bs => .all p h fun i => (f i).fol bs
  | .fail, _ => .fail
theorem Tr.fol_run {α : Type} {R : α → Prop} : ∀ (t : Tr α) (bs : List Bool), (t.fol bs).run R → t.run R
  | .ret _, _, h => h
  | .must _ x, bs, h => ⟨h.1, fol_run x bs h.2⟩
  | .br _ _ _, [], h => h.elim
  | .br _ x _, true :: bs, h => sel_iff.2 (.inl ⟨h.1, fol_run x bs h.2⟩)
  | .br _ _ y, false :: bs, h => sel_iff.2 (.inr ⟨h.1, fol_run y bs h.2⟩)
  | .all _ _ f, bs, h => fun i hi => fol_run (f i) bs (h i hi)
  | .fail, _, h => h
def rep : Nat → Prop → Prop → Prop
  | 0, _, A => A
  | n + 1, p, A => p ∧ rep n p A
def road : List RC → Prop → Prop
  | [], A => A
  | .t c :: l, A => c = true ∧ road l A
  | .f c :: l, A => c = false ∧ road l A
  | .m p :: l, A => p ∧ road l A
  | .T n :: l, A => rep n (true = true) (road l A)
  | .F n :: l, A => rep n (false = false) (road l A)
/-- What must hold along a road. -/
def conds : List RC → Prop
  | [] => True
  | .t c :: l => c = true ∧ conds l
  | .f c :: l => c = false ∧ conds l
  | .m p :: l => p ∧ conds l
  | .T _ :: l => conds l
  | .F _ :: l => conds l
theorem rep_in {p A : Prop} (hp : p) (hA : A) : ∀ n, rep n p A
  | 0 => hA
  | n + 1 => ⟨hp, rep_in hp hA n⟩
theorem road_in {A : Prop} : ∀ {l : List RC}, conds l → A → road l A
  | [], _, hA => hA
  | .t _ :: _, h, hA => ⟨h.1, road_in h.2 hA⟩
  | .f _ :: _, h, hA => ⟨h.1, road_in h.2 hA⟩
  | .m _ :: _, h, hA => ⟨h.1, road_in h.2 hA⟩
  | .T n :: l, h, hA => rep_in rfl (road_in (l := l) h hA) n
  | .F n :: l, h, hA => rep_in rfl (road_in (l := l) h hA) n
/-- A tree by one of its roads. -/
theorem by_road {α : Type} {t : Tr α} {R : α → Prop} {l : List RC} {A : Prop} (h : (t.fol (scr l)).run R = road l A) (hc : conds l) (hA : A) : t.run R := Tr.fol_run _ _ (h.mpr (road_in hc hA))
end Go.Nx
