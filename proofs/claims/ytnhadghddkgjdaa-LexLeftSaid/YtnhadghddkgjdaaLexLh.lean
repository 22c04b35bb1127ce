/-
  The lexer: the law LexLeft: its loops as trees.
-/
import Derived.Test.YtnhadghddkgjdaaLexLg
set_option linter.unusedVariables false
namespace Go.Proofs.Ytnhadghddkgjdaa.lxv
open Go Go.Nx Go.Proofs.Ytnhadghddkgjdaa.lex

def rd2 (s : St × Option NExit) : Option (List Int × Int × Option (List (List Sc))) := match s.1.fr[(8 : Nat)]?, s.1.rg[(0 : Nat)]?, s.1.rg[(2 : Nat)]? with
  | some (.v (.c (.l _ bs))), some (some { body := .cells (.i _ n :: _), .. }), some (some { body := .recs _ El, .. }) => some (bs, n, some El)
  | some (.v (.c (.l _ bs))), some (some { body := .cells (.i _ n :: _), .. }), some (some { body := .cells _, .. }) => some (bs, n, none)
  | _, _, _ => none
def b0 (bs : List Int) (n : Int) (El : List (List Sc)) : AM := ⟨bs, n, El, ⟨[], [], 0⟩, 0⟩
def z0 (bs : List Int) (n : Int) : AZ := ⟨bs, n, ⟨[], [], 0⟩, 0⟩
def mustM (m : Nat) (fr : List NS) (s : St × Option NExit) (bs : List Int) (n : Int) (El : List (List Sc)) : Prop := (m = 7 ∧ fr = fr2) ∧ s = hM (b0 bs n El) ∧ inM (b0 bs n El)
def mustZ (m : Nat) (fr : List NS) (s : St × Option NExit) (bs : List Int) (n : Int) : Prop := (m = 6 ∧ fr = fr3) ∧ s = hZ (z0 bs n) ∧ inZ (z0 bs n)
noncomputable def endM (b : Bool) (bs : List Int) (n : Int) (El G : List (List Sc)) (P : List Int) (s : Int) : Tr (NExit × St × Option NExit) :=
  pickL ⟨G, P, s⟩ (.ret (stOf (dn2 (exOf b) bs n El .sn .sn [] s (pdOf b)))) (.ret (stOf (dn2 (exOf b) bs n El .sn (.h 7 0 P.length) [some (arr P)] s (pdOf b))))
    (.ret (stOf (dn2 (exOf b) bs n El (.h 7 0 G.length) .sn [some (evR G)] s (pdOf b)))) (.ret (stOf (dn2 (exOf b) bs n El (.h 7 0 G.length) (.h 8 0 P.length) [some (evR G), some (arr P)] s (pdOf b))))
noncomputable def endZ (bs : List Int) (n : Int) (P : List Int) (s : Int) : Tr (NExit × St × Option NExit) :=
  .br P.isEmpty (.ret (stOf (dn3 bs n .sn [] s))) (.ret (stOf (dn3 bs n (.h 6 0 P.length) [some (arr P)] s)))
noncomputable def L2 (m : Nat) (fr : List NS) (s : St × Option NExit) : Tr (NExit × St × Option NExit) := match rd2 s with
  | some (bs, n, some El) => .must (mustM m fr s bs n El) (.all (fun _ : List Int × Int => True) ⟨([], 0), trivial⟩ fun y => .all (fun _ : Bool => True) ⟨true, trivial⟩ fun b => .br b (endM true bs n El (El.take n.toNat) y.1 y.2) (endM false bs n El (El.take n.toNat) y.1 y.2))
  | some (bs, n, none) => .must (mustZ m fr s bs n) (.all (fun _ : List Int × Int => True) ⟨([], 0), trivial⟩ fun y => endZ bs n y.1 y.2)
  | none => .fail
theorem endM_run {b : Bool} {bs : List Int} {n : Int} {El G : List (List Sc)} {P : List Int} {s : Int} {R : NExit × St × Option NExit → Prop} (h : (endM b bs n El G P s).run R) : R (stOf (outM b bs n El ⟨G, P, s⟩)) := by
  rcases pickL_run h with ⟨h1, h2, h3⟩ | ⟨h1, h2, h3⟩ | ⟨h1, h2, h3⟩ | ⟨h1, h2, h3⟩
  · simp only at h1 h2; subst h1 h2; exact h3
  · simp only at h1 h2; subst h1; rw [outM_B h2]; exact h3
  · simp only at h1 h2; subst h2; rw [outM_C h1]; exact h3
  · rw [outM_D h1 h2]; exact h3
theorem endZ_run {bs : List Int} {n : Int} {y : LD} {R : NExit × St × Option NExit → Prop} (h : (endZ bs n y.P y.s).run R) : R (stOf (outZ bs n y)) := by
  obtain ⟨E, P, s⟩ := y
  have h : sel P.isEmpty (R (stOf (dn3 bs n .sn [] s))) (R (stOf (dn3 bs n (.h 6 0 P.length) [some (arr P)] s))) := h
  rcases sel_iff.1 h with ⟨h1, h⟩ | ⟨h1, h⟩
  · have : P = [] := by simpa using h1
    subst this
    exact h
  · rw [outZ_B (by simpa using h1)]
    exact h
set_option maxRecDepth 100000 in
theorem loop_left2 (bs : List Int) (n : Int) (El : List (List Sc)) : LOkI Try.prog [] 7 KI (Y2 fr2) 0 outerC (fun s => .must (s = hM (b0 bs n El) ∧ inM (b0 bs n El)) (.all (fun _ : List Int × Int => True) ⟨([], 0), trivial⟩ fun y => .all (fun _ : Bool => True) ⟨true, trivial⟩ fun b => .br b (endM true bs n El (El.take n.toNat) y.1 y.2) (endM false bs n El (El.take n.toNat) y.1 y.2))) := by
  refine loopI_ok (X := XIt 7) (ls := lsN 7 (Y2 fr2)) kcIt outer_tame (inner_ok 7 (Y2 fr2)) liveO [] (α := AM) hM (fun a => ((a.bs.length : Int) - a.i).toNat) preM ?_ ?_
  · rintro s R ⟨⟨h2, h3⟩, h4⟩
    refine ⟨b0 bs n El, h2, h3, fun b y hy => ?_⟩
    obtain ⟨E, P, s'⟩ := y
    simp only at hy
    subst hy
    have := h4 (P, s') trivial b trivial
    cases b with
    | true => exact endM_run this
    | false => exact endM_run this
  · intro a R h
    refine Tr.run_mono _ (fun o ho => ?_) (round_left2 a R h)
    cases o with
    | done e s p => exact ho
    | next s p =>
      obtain ⟨y, -, h1, h2, h3⟩ := ho
      exact ⟨y, h1, h2, h3⟩
set_option maxRecDepth 100000 in
theorem loop_left3 (bs : List Int) (n : Int) : LOkI Try.prog [] 6 KI (Y2 fr3) 0 outerC (fun s => .must (s = hZ (z0 bs n) ∧ inZ (z0 bs n)) (.all (fun _ : List Int × Int => True) ⟨([], 0), trivial⟩ fun y => endZ bs n y.1 y.2)) := by
  refine loopI_ok (X := XIt 6) (ls := lsN 6 (Y2 fr3)) kcIt outer_tame (inner_ok 6 (Y2 fr3)) liveO [] (α := AZ) hZ (fun a => ((a.bs.length : Int) - a.i).toNat) preZ ?_ ?_
  · rintro s R ⟨⟨h2, h3⟩, h4⟩
    refine ⟨z0 bs n, h2, h3, fun y => ?_⟩
    exact endZ_run (h4 (y.P, y.s) trivial)
  · intro a R h
    refine Tr.run_mono _ (fun o ho => ?_) (round_left3 a R h)
    cases o with
    | done e s p => exact ho
    | next s p =>
      obtain ⟨y, -, h1, h2, h3⟩ := ho
      exact ⟨y, h1, h2, h3⟩
theorem loop_left2' (m : Nat) (fr : List NS) : LOkI Try.prog [] m KI (bodyY XBody (psOf rg2) (asOf rg2) (bdOf rg2) fr) 0 outerC (L2 m fr) := by
  intro l rc N Γ0 w0 h0 hN h0k h0r hY s p Γ a w R Q hI hE hW hL hK
  unfold L2 at hL
  split at hL
  case h_3 => exact hL.elim
  · rename_i bs n El hrd
    obtain ⟨⟨⟨rfl, rfl⟩, h2⟩, h4⟩ := hL
    exact loop_left2 bs n El l rc N Γ0 w0 h0 hN h0k h0r hY s p Γ a w R Q hI hE hW ⟨h2, h4⟩ hK
  · rename_i bs n hrd
    obtain ⟨⟨⟨rfl, rfl⟩, h2⟩, h4⟩ := hL
    exact loop_left3 bs n l rc N Γ0 w0 h0 hN h0k h0r hY s p Γ a w R Q hI hE hW ⟨h2, h4⟩ hK
noncomputable def ls2 (m : Nat) (fr : List NS) : LI := [(0, liveO, L2 m fr)]
noncomputable def R2L : St → Tr (NExit × St) := rangeT XBody KI cIt ls2 2 [3, 5, 8, 10] 50 fIt rg2
noncomputable def codeIt : Code := fIt.body.getD .skip
theorem it_body : fIt.body = some codeIt := by kernel_rfl
theorem it_loops : loopsIn codeIt = [(0, outerC)] := by kernel_rfl
theorem rg0_eq : rg0 = .rangeFunc (.tmp 20) (psOf rg0) (asOf rg0) (bdOf rg0) := by kernel_rfl
theorem rg2_eq : rg2 = .rangeFunc (.tmp 32) (psOf rg2) (asOf rg2) (bdOf rg2) := by kernel_rfl
theorem r1_ok : RgOk Try.prog [] 0 0 rg0 R1L := by
  have h := rangeT_ok (X := XBody) con_none (K := KI) kcIt (ls := ls1) (id := 0) (out := [0, 3, 5, 6, 8]) (g := .tmp 20) (ps := psOf rg0) (assign := asOf rg0) (body := bdOf rg0) Try.func50 it_body (by kernel_rfl) (by kernel_rfl) (by kernel_rfl) (by kernel_rfl) (by kernel_rfl)
    (fun m fr => LAllI.one (id := 0) (body := outerC) (live := liveO) (L := L1 m fr) it_loops rfl (loop_left1' m fr))
  rw [← rg0_eq] at h
  exact h
theorem r2_ok : RgOk Try.prog [] 0 2 rg2 R2L := by
  have h := rangeT_ok (X := XBody) con_none (K := KI) kcIt (ls := ls2) (id := 2) (out := [3, 5, 8, 10]) (g := .tmp 32) (ps := psOf rg2) (assign := asOf rg2) (body := bdOf rg2) Try.func50 it_body (by kernel_rfl) (by kernel_rfl) (by kernel_rfl) (by kernel_rfl) (by kernel_rfl)
    (fun m fr => LAllI.one (id := 0) (body := outerC) (live := liveO) (L := L2 m fr) it_loops rfl (loop_left2' m fr))
  rw [← rg2_eq] at h
  exact h
noncomputable def lpLeft : List (Nat × List Nat × (St → Tr (NExit × St))) := [(0, [0, 3, 5, 6, 8, 20], R1L), (2, [3, 5, 8, 10, 32], R2L)]
noncomputable def tLeft : Con := fun args regs => if regs.length = 0 then nfun Try.prog [] cLeft lpLeft fLeft args regs else .fail
theorem left_loops : loopsIn (fLeft.body.getD .skip) = [] := by kernel_rfl
theorem left_ranges : rangesIn (fLeft.body.getD .skip) = [(0, rg0), (2, rg2)] := by kernel_rfl
theorem kLeft : Known Try.prog [] 13 tLeft := by
  refine known_loops (c := fLeft.body.getD .skip) 0 Try.func13 (by kernel_rfl) (by kernel_rfl) mixed kcLeft ⟨fun i b hb => (by rw [left_loops] at hb; cases hb), fun i b hb x hf => ?_⟩
  rw [left_ranges] at hb
  rcases List.mem_cons.1 hb with e | hb
  · cases e
    have : x = (0, [0, 3, 5, 6, 8, 20], R1L) := by simpa [lpLeft] using hf.symm
    subst this
    exact r1_ok
  · rw [List.mem_singleton] at hb
    cases hb
    have : x = (2, [3, 5, 8, 10, 32], R2L) := by simpa [lpLeft] using hf.symm
    subst this
    exact r2_ok
end Go.Proofs.Ytnhadghddkgjdaa.lxv
