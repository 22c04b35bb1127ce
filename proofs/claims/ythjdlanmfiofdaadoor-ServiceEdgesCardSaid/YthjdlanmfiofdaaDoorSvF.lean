/-
  ServiceEdges: the law.
-/
import Derived.Test.YthjdlanmfiofdaaDoorSvB1
import Derived.Test.YthjdlanmfiofdaaDoorSvB2
import Derived.Test.YthjdlanmfiofdaaDoorSvB3
import Derived.Test.YthjdlanmfiofdaaDoorSvB4
namespace Go.Proofs.YthjdlanmfiofdaaDoor.sv
open Go Go.Nx Go.Proofs.YthjdlanmfiofdaaDoor.pk

/-- One of several trees, by what came in. -/
theorem Known_pick {P : Program} {gl : List Nat} {f : FuncId} {ι : Type} {T : ι → Con} (h : ∀ i, Known P gl f (T i)) (p : List NV → List Reg → ι) (i0 : ι) : Known P gl f fun args regs => T (p args regs) args regs :=
  ⟨(h i0).goes, fun args regs R hR => (h (p args regs)).sound args regs R hR⟩
def pickE : List NV → List Reg → Int
  | [.c (.i _ n), _], _ => n % 6
  | _, _ => 0
noncomputable def tEdges : Con := fun args regs => t_edges (pickE args regs) args regs
theorem kEdges : Known Tryd.prog GL 13 tEdges := Known_pick (T := fun i => t_edges i) (fun i => k_edges i) pickE 0
def isT (o : Out) : Prop := o.res = .v (.c (.b true))
theorem box_holds {t : Tr Out} {R : Out → Prop} (h : Box (t.run R)) : Holds t R := ⟨h.out⟩
theorem edges_run (n : Int) (b : Bool) {i : Int} (hi : n % 6 = i) (h : Box ((t_edges i [.c (.i .i64 n), .c (.b b)] []).run isT)) : Box ((tEdges [.c (.i .i64 n), .c (.b b)] []).run isT) := by
  have e : tEdges [.c (.i .i64 n), .c (.b b)] [] = t_edges i [.c (.i .i64 n), .c (.b b)] [] := by
    show t_edges (n % 6) _ _ = _
    rw [hi]
  rw [e]
  exact h
theorem edges_true (n : Int) (b : Bool) : Box ((tEdges [.c (.i .i64 n), .c (.b b)] []).run isT) := by
  have h6 : n % 6 = 0 ∨ n % 6 = 1 ∨ n % 6 = 2 ∨ n % 6 = 3 ∨ n % 6 = 4 ∨ n % 6 = 5 := by omega
  rcases h6 with h | h | h | h | h | h <;> refine edges_run n b h ?_ <;> cases b
  · exact Box.of_eq (edges_0_false n isT) ⟨⟨rfl, by decide, by decide, h⟩, rfl⟩
  · exact Box.of_eq (edges_0_true n isT) ⟨⟨rfl, by decide, by decide, h⟩, rfl⟩
  · exact Box.of_eq (edges_1_false n isT) ⟨⟨rfl, by decide, by decide, h⟩, rfl⟩
  · exact Box.of_eq (edges_1_true n isT) ⟨⟨rfl, by decide, by decide, h⟩, rfl⟩
  · exact Box.of_eq (edges_2_false n isT) ⟨⟨rfl, by decide, by decide, h⟩, rfl⟩
  · exact Box.of_eq (edges_2_true n isT) ⟨⟨rfl, by decide, by decide, h⟩, rfl⟩
  · exact Box.of_eq (edges_3_false n isT) ⟨⟨rfl, by decide, by decide, h⟩, rfl⟩
  · exact Box.of_eq (edges_3_true n isT) ⟨⟨rfl, by decide, by decide, h⟩, rfl⟩
  · exact Box.of_eq (edges_4_false n isT) ⟨⟨rfl, by decide, by decide, h⟩, rfl⟩
  · exact Box.of_eq (edges_4_true n isT) ⟨⟨rfl, by decide, by decide, h⟩, rfl⟩
  · exact Box.of_eq (edges_5_false n isT) ⟨⟨rfl, by decide, by decide, h⟩, rfl⟩
  · exact Box.of_eq (edges_5_true n isT) ⟨⟨rfl, by decide, by decide, h⟩, rfl⟩
def shsE : List Sh := [.i .i64, .b]
theorem edges_law (xs : List NV) (h : R2 ShOk shsE xs) : Holds (tEdges xs []) fun o => o.res = .v (.c (.b true)) := by
  cases h with
  | cons h1 h =>
    cases h with
    | cons h2 h =>
      cases h
      cases h1 with
      | @i _ n1 _ =>
        cases h2 with
        | @b x => exact box_holds (R := isT) (edges_true n1 x)
end Go.Proofs.YthjdlanmfiofdaaDoor.sv
