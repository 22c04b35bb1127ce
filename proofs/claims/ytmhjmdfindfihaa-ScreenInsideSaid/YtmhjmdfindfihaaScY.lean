/-
  The screen's laws: contracts whose outcomes the kernel does not run; ScreenSizes as a tree.
-/
import Derived.Test.YtmhjmdfindfihaaScX
set_option linter.unusedVariables false
namespace Go.Proofs.Ytmhjmdfindfihaa.scr
open Go Go.Nx

theorem evX_is (e : Ev) (s : Scr) : ∃ t, t = eventS e s := ⟨_, rfl⟩
/-- An event. (Chosen: the kernel does not run it.) -/
noncomputable def evX (e : Ev) (s : Scr) : Scr := Classical.choose (evX_is e s)
theorem evX_eq (e : Ev) (s : Scr) : evX e s = eventS e s := Classical.choose_spec (evX_is e s)
theorem atX_is (row col : Int) (s : Scr) : ∃ t, t = atS row col s := ⟨_, rfl⟩
noncomputable def atX (row col : Int) (s : Scr) : Scr := Classical.choose (atX_is row col s)
theorem atX_eq (row col : Int) (s : Scr) : atX row col s = atS row col s := Classical.choose_spec (atX_is row col s)
theorem gridX_is (ma : Bool) (sl : List (List Sc)) : ∃ t, t = gridG ma sl := ⟨_, rfl⟩
noncomputable def gridX (ma : Bool) (sl : List (List Sc)) : List (List Sc) := Classical.choose (gridX_is ma sl)
theorem gridX_eq (ma : Bool) (sl : List (List Sc)) : gridX ma sl = gridG ma sl := Classical.choose_spec (gridX_is ma sl)
theorem newX_is : ∃ t, t = newS := ⟨_, rfl⟩
noncomputable def newX : Scr := Classical.choose newX_is
theorem newX_eq : newX = newS := Classical.choose_spec newX_is
noncomputable def tEvX : Con := fun args regs => onS args regs fun l s => onE l fun e => .must (PreE e s) (.ret (done (evX e s)))
theorem kEvX : Known Try.prog [] 17 tEvX := by
  refine kEvent.less fun args regs R h => ?_
  obtain ⟨l, s, rfl, rfl, h'⟩ := onS_in h
  clear h
  obtain ⟨e, rfl, h2, h3⟩ := onE_in h'
  have h3 : R (done (evX e s)) := h3
  rw [evX_eq] at h3
  show PreE e s ∧ R (done (eventS e s))
  exact ⟨h2, h3⟩
noncomputable def tAtX : Con := con2 (fun _ _ => Inv) atX
theorem kAtX : Known Try.prog [] 15 tAtX := by
  refine kAt.less fun args regs R h => ?_
  obtain ⟨row, col, s, rfl, rfl, h1, h2⟩ := con2_in h
  rw [atX_eq] at h2
  show Inv s ∧ R (done (atS row col s))
  exact ⟨h1, h2⟩
noncomputable def tGridX : Con := fun args regs => onS args regs fun l s => match l with
  | [] => .ret ⟨.v (.sg [.recs KC 1000 (gridX s.ma s.sl)]), [some (scr s)]⟩
  | _ => .fail
theorem kGridX : Known Try.prog [] 18 tGridX := by
  refine kGrid.less fun args regs R h => ?_
  obtain ⟨l, s, rfl, rfl, h'⟩ := onS_in h
  clear h
  split at h'
  case h_2 => exact h'.elim
  have h' : R ⟨.v (.sg [.recs KC 1000 (gridX s.ma s.sl)]), [some (scr s)]⟩ := h'
  rw [gridX_eq] at h'
  exact h'
noncomputable def tNewX : Con := fun args regs => match args, regs with
  | [], [] => .ret ⟨.v (.c (.p 0 0 0)), [some (scr newX)]⟩
  | _, _ => .fail
theorem kNewX : Known Try.prog [] 14 tNewX := by
  refine kNew.less fun args regs R h => ?_
  unfold tNewX at h
  split at h
  case h_2 => exact h.elim
  have h : R ⟨.v (.c (.p 0 0 0)), [some (scr newX)]⟩ := h
  rw [newX_eq] at h
  exact h
noncomputable def c_opq : FuncId → Option Con := conOf [(12, tFirst), (13, num.tNumV), (14, tNewX), (15, tAtX), (20, tRolls), (16, tState), (17, tEvX), (18, tGridX)]
theorem kc_opq : ∀ f T, c_opq f = some T → Known Try.prog [] f T := (Knowns.cons kFirst (Knowns.cons num.kNumV (Knowns.cons kNewX (Knowns.cons kAtX (Knowns.cons kRolls (Knowns.cons kState (Knowns.cons kEvX (Knowns.cons kGridX Knowns.nil)))))))).get
noncomputable def t_sz : Con := fun args regs => if regs.length = 0 then nfun Try.prog [] c_opq [(0, [0, 1, 4, 11, 12, 14, 15, 16, 17, 18], sumG p_sz0 l_sz0)] Try.f5 args regs else .fail
theorem k_sz : Known Try.prog [] 5 t_sz := known_loops 0 Try.func5 rfl (by kernel_rfl) mixed kc_opq (LAll.one (id := 0) (body := b_sz0) (by kernel_rfl) rfl loop_sz0)
noncomputable def szE (col : Int) (up on : Bool) (nn : Int) (s : Scr) (R : Out → Prop) : Prop :=
  let E := fun (nx w : Int) => sel (nn == w) (R (bO (s.col == Int.tmod nx 40))) (R (bO false))
  let W := fun (nx w : Int) => sel on (E nx (w64 (2 * w))) (E nx w)
  let V := fun (nx : Int) => sel up (W nx 2) (W nx 1)
  sel on (V (w64 (col + 2))) (V (w64 (col + 1)))
noncomputable def szU (row col c : Int) (up on : Bool) (s : Scr) (R : Out → Prop) : Prop :=
  preY row col c up on 0 1 (gridX s.ma s.sl) ∧ szE col up on (0 + remT row up on 1) s R
noncomputable def szB (row col c : Int) (up on : Bool) (code : Int) (R : Out → Prop) : Prop :=
  let s1 := atX row col newX
  let s2 := evX (evA code) s1
  let s3 := evX (evL (wC c)) s2
  PreE (evA code) s1 ∧ PreE (evL (wC c)) s2 ∧ szU row col c up on s3 R
theorem sz_tt (row col c : Int) (R : Out → Prop) : (t_sz [.c (.i .i64 row), .c (.i .i64 col), .c (.b true), .c (.b true), .c (.i .u8 c)] []).run R =
    (numP 24 ∧ numP 40 ∧ Inv newX ∧ szB (w64 (row % 24 + 1)) (col % 40) c (decide (w64 (row % 24 + 1) ≥ 2)) (decide (col % 40 < 39)) 79 R) := by kernel_rfl
theorem sz_tf (row col c : Int) (R : Out → Prop) : (t_sz [.c (.i .i64 row), .c (.i .i64 col), .c (.b true), .c (.b false), .c (.i .u8 c)] []).run R =
    (numP 24 ∧ numP 40 ∧ Inv newX ∧ szB (w64 (row % 24 + 1)) (col % 40) c (decide (w64 (row % 24 + 1) ≥ 2)) false 77 R) := by kernel_rfl
theorem sz_ft (row col c : Int) (R : Out → Prop) : (t_sz [.c (.i .i64 row), .c (.i .i64 col), .c (.b false), .c (.b true), .c (.i .u8 c)] []).run R =
    (numP 24 ∧ numP 40 ∧ Inv newX ∧ szB (w64 (row % 24 + 1)) (col % 40) c false (decide (col % 40 < 39)) 78 R) := by kernel_rfl
theorem sz_ff (row col c : Int) (R : Out → Prop) : (t_sz [.c (.i .i64 row), .c (.i .i64 col), .c (.b false), .c (.b false), .c (.i .u8 c)] []).run R =
    (numP 24 ∧ numP 40 ∧ Inv newX ∧ szB (w64 (row % 24 + 1)) (col % 40) c false false 76 R) := by kernel_rfl
end Go.Proofs.Ytmhjmdfindfihaa.scr
