/-
  LinksOther: the law.
-/
import Derived.Test.YthjdlanmfiofdaaDoorLnE
import Derived.Test.YthjdlanmfiofdaaDoorEng24
namespace Go.Proofs.YthjdlanmfiofdaaDoor.ln
open Go Go.Nx Go.Proofs.YthjdlanmfiofdaaDoor.pk

/-- One of several trees, by what came in. -/
theorem Known_pick {P : Program} {gl : List Nat} {f : FuncId} {ι : Type} {T : ι → Con} (h : ∀ i, Known P gl f (T i)) (p : List NV → List Reg → ι) (i0 : ι) : Known P gl f fun args regs => T (p args regs) args regs :=
  ⟨(h i0).goes, fun args regs R hR => (h (p args regs)).sound args regs R hR⟩
def pickO : List NV → List Reg → Int × Int
  | [.c (.i _ n), .c (.i _ c), _], _ => (n % 8, c % 3)
  | _, _ => (0, 0)
noncomputable def tOther : Con := fun args regs => t_other (pickO args regs).1 (pickO args regs).2 args regs
theorem kOther : Known Tryd.prog GL 5 tOther := Known_pick (T := fun i : Int × Int => t_other i.1 i.2) (fun i => k_other i.1 i.2) pickO (0, 0)
def isT (o : Out) : Prop := o.res = .v (.c (.b true))
theorem leaf_in {i j n c : Int} (h8 : n % 8 = i) (h3 : c % 3 = j) : leafO i j n c isT :=
  ⟨h8, ⟨⟨rfl, h3⟩, ⟨⟨rfl, rfl, by omega, by omega, by omega, by omega⟩, rfl⟩⟩⟩
theorem other_run (n c a0 a1 a2 a3 a4 a5 a6 a7 a8 a9 a10 a11 a12 a13 a14 a15 a16 a17 : Int) {i j : Int} (hi : n % 8 = i) (hj : c % 3 = j) (h : Box ((t_other i j [.c (.i .i64 n), .c (.i .i64 c), .ag [.i .i64 a0, .i .i64 a1, .i .i64 a2, .i .i64 a3, .i .i64 a4, .i .i64 a5, .i .i64 a6, .i .i64 a7, .i .i64 a8, .i .i64 a9, .i .i64 a10, .i .i64 a11, .i .i64 a12, .i .i64 a13, .i .i64 a14, .i .i64 a15, .i .i64 a16, .i .i64 a17]] []).run isT)) : Box ((tOther [.c (.i .i64 n), .c (.i .i64 c), .ag [.i .i64 a0, .i .i64 a1, .i .i64 a2, .i .i64 a3, .i .i64 a4, .i .i64 a5, .i .i64 a6, .i .i64 a7, .i .i64 a8, .i .i64 a9, .i .i64 a10, .i .i64 a11, .i .i64 a12, .i .i64 a13, .i .i64 a14, .i .i64 a15, .i .i64 a16, .i .i64 a17]] []).run isT) := by
  have e : tOther [.c (.i .i64 n), .c (.i .i64 c), .ag [.i .i64 a0, .i .i64 a1, .i .i64 a2, .i .i64 a3, .i .i64 a4, .i .i64 a5, .i .i64 a6, .i .i64 a7, .i .i64 a8, .i .i64 a9, .i .i64 a10, .i .i64 a11, .i .i64 a12, .i .i64 a13, .i .i64 a14, .i .i64 a15, .i .i64 a16, .i .i64 a17]] [] = t_other i j [.c (.i .i64 n), .c (.i .i64 c), .ag [.i .i64 a0, .i .i64 a1, .i .i64 a2, .i .i64 a3, .i .i64 a4, .i .i64 a5, .i .i64 a6, .i .i64 a7, .i .i64 a8, .i .i64 a9, .i .i64 a10, .i .i64 a11, .i .i64 a12, .i .i64 a13, .i .i64 a14, .i .i64 a15, .i .i64 a16, .i .i64 a17]] [] := by
    show t_other (n % 8) (c % 3) _ _ = _
    rw [hi, hj]
  rw [e]
  exact h
theorem other_true (n c a0 a1 a2 a3 a4 a5 a6 a7 a8 a9 a10 a11 a12 a13 a14 a15 a16 a17 : Int) : Box ((tOther [.c (.i .i64 n), .c (.i .i64 c), .ag [.i .i64 a0, .i .i64 a1, .i .i64 a2, .i .i64 a3, .i .i64 a4, .i .i64 a5, .i .i64 a6, .i .i64 a7, .i .i64 a8, .i .i64 a9, .i .i64 a10, .i .i64 a11, .i .i64 a12, .i .i64 a13, .i .i64 a14, .i .i64 a15, .i .i64 a16, .i .i64 a17]] []).run isT) := by
  have h8 : n % 8 = 0 ∨ n % 8 = 1 ∨ n % 8 = 2 ∨ n % 8 = 3 ∨ n % 8 = 4 ∨ n % 8 = 5 ∨ n % 8 = 6 ∨ n % 8 = 7 := by omega
  have h3 : c % 3 = 0 ∨ c % 3 = 1 ∨ c % 3 = 2 := by omega
  rcases h8 with h8 | h8 | h8 | h8 | h8 | h8 | h8 | h8 <;> rcases h3 with h3 | h3 | h3 <;> refine other_run n c a0 a1 a2 a3 a4 a5 a6 a7 a8 a9 a10 a11 a12 a13 a14 a15 a16 a17 h8 h3 ?_
  · exact Box.of_eq (o_0_0 n c a0 a1 a2 a3 a4 a5 a6 a7 a8 a9 a10 a11 a12 a13 a14 a15 a16 a17 isT) (leaf_in h8 h3)
  · exact Box.of_eq (o_0_1 n c a0 a1 a2 a3 a4 a5 a6 a7 a8 a9 a10 a11 a12 a13 a14 a15 a16 a17 isT) (leaf_in h8 h3)
  · exact Box.of_eq (o_0_2 n c a0 a1 a2 a3 a4 a5 a6 a7 a8 a9 a10 a11 a12 a13 a14 a15 a16 a17 isT) (leaf_in h8 h3)
  · exact Box.of_eq (o_1_0 n c a0 a1 a2 a3 a4 a5 a6 a7 a8 a9 a10 a11 a12 a13 a14 a15 a16 a17 isT) (leaf_in h8 h3)
  · exact Box.of_eq (o_1_1 n c a0 a1 a2 a3 a4 a5 a6 a7 a8 a9 a10 a11 a12 a13 a14 a15 a16 a17 isT) (leaf_in h8 h3)
  · exact Box.of_eq (o_1_2 n c a0 a1 a2 a3 a4 a5 a6 a7 a8 a9 a10 a11 a12 a13 a14 a15 a16 a17 isT) (leaf_in h8 h3)
  · exact Box.of_eq (o_2_0 n c a0 a1 a2 a3 a4 a5 a6 a7 a8 a9 a10 a11 a12 a13 a14 a15 a16 a17 isT) (leaf_in h8 h3)
  · exact Box.of_eq (o_2_1 n c a0 a1 a2 a3 a4 a5 a6 a7 a8 a9 a10 a11 a12 a13 a14 a15 a16 a17 isT) (leaf_in h8 h3)
  · exact Box.of_eq (o_2_2 n c a0 a1 a2 a3 a4 a5 a6 a7 a8 a9 a10 a11 a12 a13 a14 a15 a16 a17 isT) (leaf_in h8 h3)
  · exact Box.of_eq (o_3_0 n c a0 a1 a2 a3 a4 a5 a6 a7 a8 a9 a10 a11 a12 a13 a14 a15 a16 a17 isT) (leaf_in h8 h3)
  · exact Box.of_eq (o_3_1 n c a0 a1 a2 a3 a4 a5 a6 a7 a8 a9 a10 a11 a12 a13 a14 a15 a16 a17 isT) (leaf_in h8 h3)
  · exact Box.of_eq (o_3_2 n c a0 a1 a2 a3 a4 a5 a6 a7 a8 a9 a10 a11 a12 a13 a14 a15 a16 a17 isT) (leaf_in h8 h3)
  · exact Box.of_eq (o_4_0 n c a0 a1 a2 a3 a4 a5 a6 a7 a8 a9 a10 a11 a12 a13 a14 a15 a16 a17 isT) (leaf_in h8 h3)
  · exact Box.of_eq (o_4_1 n c a0 a1 a2 a3 a4 a5 a6 a7 a8 a9 a10 a11 a12 a13 a14 a15 a16 a17 isT) (leaf_in h8 h3)
  · exact Box.of_eq (o_4_2 n c a0 a1 a2 a3 a4 a5 a6 a7 a8 a9 a10 a11 a12 a13 a14 a15 a16 a17 isT) (leaf_in h8 h3)
  · exact Box.of_eq (o_5_0 n c a0 a1 a2 a3 a4 a5 a6 a7 a8 a9 a10 a11 a12 a13 a14 a15 a16 a17 isT) (leaf_in h8 h3)
  · exact Box.of_eq (o_5_1 n c a0 a1 a2 a3 a4 a5 a6 a7 a8 a9 a10 a11 a12 a13 a14 a15 a16 a17 isT) (leaf_in h8 h3)
  · exact Box.of_eq (o_5_2 n c a0 a1 a2 a3 a4 a5 a6 a7 a8 a9 a10 a11 a12 a13 a14 a15 a16 a17 isT) (leaf_in h8 h3)
  · exact Box.of_eq (o_6_0 n c a0 a1 a2 a3 a4 a5 a6 a7 a8 a9 a10 a11 a12 a13 a14 a15 a16 a17 isT) (leaf_in h8 h3)
  · exact Box.of_eq (o_6_1 n c a0 a1 a2 a3 a4 a5 a6 a7 a8 a9 a10 a11 a12 a13 a14 a15 a16 a17 isT) (leaf_in h8 h3)
  · exact Box.of_eq (o_6_2 n c a0 a1 a2 a3 a4 a5 a6 a7 a8 a9 a10 a11 a12 a13 a14 a15 a16 a17 isT) (leaf_in h8 h3)
  · exact Box.of_eq (o_7_0 n c a0 a1 a2 a3 a4 a5 a6 a7 a8 a9 a10 a11 a12 a13 a14 a15 a16 a17 isT) (leaf_in h8 h3)
  · exact Box.of_eq (o_7_1 n c a0 a1 a2 a3 a4 a5 a6 a7 a8 a9 a10 a11 a12 a13 a14 a15 a16 a17 isT) (leaf_in h8 h3)
  · exact Box.of_eq (o_7_2 n c a0 a1 a2 a3 a4 a5 a6 a7 a8 a9 a10 a11 a12 a13 a14 a15 a16 a17 isT) (leaf_in h8 h3)
theorem box_holds {t : Tr Out} {R : Out → Prop} (h : Box (t.run R)) : Holds t R := ⟨h.out⟩
theorem other_holds (n c a0 a1 a2 a3 a4 a5 a6 a7 a8 a9 a10 a11 a12 a13 a14 a15 a16 a17 : Int) : Holds (tOther [.c (.i .i64 n), .c (.i .i64 c), .ag [.i .i64 a0, .i .i64 a1, .i .i64 a2, .i .i64 a3, .i .i64 a4, .i .i64 a5, .i .i64 a6, .i .i64 a7, .i .i64 a8, .i .i64 a9, .i .i64 a10, .i .i64 a11, .i .i64 a12, .i .i64 a13, .i .i64 a14, .i .i64 a15, .i .i64 a16, .i .i64 a17]] []) fun o => o.res = .v (.c (.b true)) := box_holds (R := isT) (other_true n c a0 a1 a2 a3 a4 a5 a6 a7 a8 a9 a10 a11 a12 a13 a14 a15 a16 a17)
def k18 : List CK := [.i .i64, .i .i64, .i .i64, .i .i64, .i .i64, .i .i64, .i .i64, .i .i64, .i .i64, .i .i64, .i .i64, .i .i64, .i .i64, .i .i64, .i .i64, .i .i64, .i .i64, .i .i64]
theorem row18 (row : List Sc) : rowCells k18 row = [.i .i64 (row.getD 0 (Sc.i 0)).n, .i .i64 (row.getD 1 (Sc.i 0)).n, .i .i64 (row.getD 2 (Sc.i 0)).n, .i .i64 (row.getD 3 (Sc.i 0)).n, .i .i64 (row.getD 4 (Sc.i 0)).n, .i .i64 (row.getD 5 (Sc.i 0)).n, .i .i64 (row.getD 6 (Sc.i 0)).n, .i .i64 (row.getD 7 (Sc.i 0)).n, .i .i64 (row.getD 8 (Sc.i 0)).n, .i .i64 (row.getD 9 (Sc.i 0)).n, .i .i64 (row.getD 10 (Sc.i 0)).n, .i .i64 (row.getD 11 (Sc.i 0)).n, .i .i64 (row.getD 12 (Sc.i 0)).n, .i .i64 (row.getD 13 (Sc.i 0)).n, .i .i64 (row.getD 14 (Sc.i 0)).n, .i .i64 (row.getD 15 (Sc.i 0)).n, .i .i64 (row.getD 16 (Sc.i 0)).n, .i .i64 (row.getD 17 (Sc.i 0)).n] := by kernel_rfl
def shsOther : List Sh := [.i .i64, .i .i64, .ag k18]
theorem other_law (xs : List NV) (h : R2 ShOk shsOther xs) : Holds (tOther xs []) fun o => o.res = .v (.c (.b true)) := by
  cases h with
  | cons h1 h =>
    cases h with
    | cons h2 h =>
      cases h with
      | cons h3 h =>
        cases h
        cases h1 with
        | @i _ n1 _ =>
          cases h2 with
          | @i _ n2 _ =>
            cases h3 with
            | @ag _ row _ =>
              rw [row18]
              exact other_holds n1 n2 (row.getD 0 (Sc.i 0)).n (row.getD 1 (Sc.i 0)).n (row.getD 2 (Sc.i 0)).n (row.getD 3 (Sc.i 0)).n (row.getD 4 (Sc.i 0)).n (row.getD 5 (Sc.i 0)).n (row.getD 6 (Sc.i 0)).n (row.getD 7 (Sc.i 0)).n (row.getD 8 (Sc.i 0)).n (row.getD 9 (Sc.i 0)).n (row.getD 10 (Sc.i 0)).n (row.getD 11 (Sc.i 0)).n (row.getD 12 (Sc.i 0)).n (row.getD 13 (Sc.i 0)).n (row.getD 14 (Sc.i 0)).n (row.getD 15 (Sc.i 0)).n (row.getD 16 (Sc.i 0)).n (row.getD 17 (Sc.i 0)).n
end Go.Proofs.YthjdlanmfiofdaaDoor.ln
