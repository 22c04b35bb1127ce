/-
  The engine, part 21: contracts by a list.
-/
import Derived.Test.YtnhadghddkgjdaaEng20
namespace Go.Nx
open Go

/-- The contracts of a list of functions. -/
def conOf : List (FuncId × Con) → FuncId → Option Con
  | [], _ => Option.none
  | x :: l, f => if x.1 = f then some x.2 else conOf l f
/-- Each of a list is known. -/
inductive Knowns (P : Program) (gl : List Nat) : List (FuncId × Con) → Prop where
  | nil : Knowns P gl []
  | cons {f : FuncId} {T : Con} {l : List (FuncId × Con)} : Known P gl f T → Knowns P gl l → Knowns P gl ((f, T) :: l)
theorem Knowns.get {P : Program} {gl : List Nat} {l : List (FuncId × Con)} (h : Knowns P gl l) : ∀ f T, conOf l f = some T → Known P gl f T := by
  induction h with
  | nil => intro f T h; cases h
  | @cons g U l hk _ ih =>
    intro f T h
    simp only [conOf] at h
    by_cases e : g = f
    · rw [if_pos e] at h
      injection h with h
      subst h e
      exact hk
    · rw [if_neg e] at h
      exact ih f T h
end Go.Nx
