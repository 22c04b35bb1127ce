/-
  The law RemoteLinks: the law.
-/
import Derived.Test.YtnhadghddkgjdaaRemH
import Derived.Test.YtnhadghddkgjdaaEng24
namespace Go.Proofs.Ytnhadghddkgjdaa.rem
open Go Go.Nx Go.RowKit

noncomputable def linksE (ln : Bool) (a : Int × Int × Int) (R : Out → Prop) : Prop :=
  sel (ln && okL a)
   (sel ln (sel (decide (a.1 ≥ 1)) (sel (decide (a.1 ≤ 8)) (sel (!(a.2.1 != 255)) (R no) (sel (a.1 == a.1) (sel (a.2.1 == a.2.1) (sel (a.2.2 == a.2.2) (R yes) (R no)) (R no)) (R no))) (R no)) (R no)) (R no))
   (sel ln (sel (decide (a.1 ≥ 1)) (sel (decide (a.1 ≤ 8)) (sel (!(a.2.1 != 255)) (R yes) (R no)) (R yes)) (R yes)) (R yes))
section
variable (n : Int) (ln : Bool) (a b c d e f : Int × Int × Int) (R : Out → Prop)
theorem links_tree : (tLinksL [.ag (ag18 [a, b, c, d, e, f]), .c (.i .i64 n), .c (.b ln)] []).run R =
   ((0 < (5 : Int) ∧ (5 : Int) < 4611686018427387904) ∧
    sel (decide (n % 5 = ((0 : Nat) : Int))) ((10 = (10 : Int) ∨ 15 ≤ (10 : Int) ∧ (10 : Int) ≤ 19) ∧ ((15 = (10 : Int) ∨ 15 ≤ (15 : Int) ∧ (15 : Int) ≤ 19) ∧ linksE ln a R))
    (sel (decide (n % 5 = ((1 : Nat) : Int))) ((10 = (10 : Int) ∨ 15 ≤ (10 : Int) ∧ (10 : Int) ≤ 19) ∧ ((16 = (10 : Int) ∨ 15 ≤ (16 : Int) ∧ (16 : Int) ≤ 19) ∧ linksE ln b R))
    (sel (decide (n % 5 = ((2 : Nat) : Int))) ((10 = (10 : Int) ∨ 15 ≤ (10 : Int) ∧ (10 : Int) ≤ 19) ∧ ((17 = (10 : Int) ∨ 15 ≤ (17 : Int) ∧ (17 : Int) ≤ 19) ∧ linksE ln c R))
    (sel (decide (n % 5 = ((3 : Nat) : Int))) ((10 = (10 : Int) ∨ 15 ≤ (10 : Int) ∧ (10 : Int) ≤ 19) ∧ ((18 = (10 : Int) ∨ 15 ≤ (18 : Int) ∧ (18 : Int) ≤ 19) ∧ linksE ln d R))
    (sel (decide (n % 5 = ((4 : Nat) : Int))) ((10 = (10 : Int) ∨ 15 ≤ (10 : Int) ∧ (10 : Int) ≤ 19) ∧ ((19 = (10 : Int) ∨ 15 ≤ (19 : Int) ∧ (19 : Int) ≤ 19) ∧ linksE ln f R)) False))))) := by kernel_rfl
end
set_option maxRecDepth 100000 in
theorem linksE_in (ln : Bool) (a : Int × Int × Int) : linksE ln a fun o => o.res = .v (.c (.b true)) := by
  unfold linksE okL
  simp only [beq_self_eq_true]
  generalize decide (a.1 ≥ 1) = b1
  generalize decide (a.1 ≤ 8) = b2
  generalize (a.2.1 != 255) = b3
  cases ln <;> cases b1 <;> cases b2 <;> cases b3 <;> first | rfl | exact rfl
set_option maxRecDepth 100000 in
theorem links_true (l : List (Int × Int × Int)) (h : l.length = 6) (n : Int) (ln : Bool) : Holds (tLinksL [.ag (ag18 l), .c (.i .i64 n), .c (.b ln)] []) fun o => o.res = .v (.c (.b true)) := by
  obtain ⟨a, b, c, d, e, f, rfl⟩ := list6 h
  refine ⟨(Box.of_eq (links_tree n ln a b c d e f _) ⟨⟨by decide, by decide⟩, ?_⟩).out⟩
  have h5 := Int.emod_nonneg n (b := 5) (by decide)
  have h6 := Int.emod_lt_of_pos n (b := 5) (by decide)
  refine sel_by (fun _ => ⟨.inl rfl, .inr (by decide), linksE_in ln _⟩) fun n0 => sel_by (fun _ => ⟨.inl rfl, .inr (by decide), linksE_in ln _⟩) fun n1 => sel_by (fun _ => ⟨.inl rfl, .inr (by decide), linksE_in ln _⟩) fun n2 => sel_by (fun _ => ⟨.inl rfl, .inr (by decide), linksE_in ln _⟩) fun n3 => sel_by (fun _ => ⟨.inl rfl, .inr (by decide), linksE_in ln _⟩) fun n4 => ?_
  omega
def shsLinks : List Sh := [.ag (List.replicate 18 (.i .i64)), .i .i64, .b]
theorem row18 (row : List Sc) : ∃ l : List (Int × Int × Int), l.length = 6 ∧ rowCells (List.replicate 18 (.i .i64)) row = ag18 l := by
  refine ⟨(List.range 6).map fun j => ((row.getD (3 * j) (.i 0)).n, (row.getD (3 * j + 1) (.i 0)).n, (row.getD (3 * j + 2) (.i 0)).n), by simp, ?_⟩
  rfl
theorem links_law (xs : List NV) (h : R2 ShOk shsLinks xs) : Holds (tLinksL xs []) fun o => o.res = .v (.c (.b true)) := by
  cases h with
  | cons h1 h =>
    cases h with
    | cons h2 h =>
      cases h with
      | cons h3 h =>
        cases h
        cases h1 with
        | @ag _ row _ =>
          cases h2 with
          | @i _ n _ =>
            cases h3 with
            | @b x =>
              obtain ⟨l, hl, e⟩ := row18 row
              rw [e]
              exact links_true l hl n x
end Go.Proofs.Ytnhadghddkgjdaa.rem
