/-
  The screen: its state, a row of blanks, a new screen.
-/
import Derived.Test.YtdijbpokklgjlaaGreatDoorEngC
import Derived.Test.YtdijbpokklgjlaaGreatDoorRows
set_option linter.unusedVariables false
namespace Go.Proofs.YtdijbpokklgjlaaGreatDoor.scr
open Go Go.Nx

theorem mixed : Tryz.prog.follows .mixedOrders = true := by kernel_rfl
noncomputable def t_blank : Con := fun args regs => nfun Tryz.prog [] (fun _ => Option.none) [] Tryz.f45 args regs
theorem k_blank : Known Tryz.prog [] 45 t_blank := known_inl Tryz.func45 rfl (by kernel_rfl) mixed con_none (by kernel_rfl)
noncomputable def c_blanks : FuncId → Option Con := conOf [(45, t_blank)]
theorem kc_blanks : ∀ f T, c_blanks f = some T → Known Tryz.prog [] f T := (Knowns.cons k_blank Knowns.nil).get
noncomputable def X_blanks : Cx := { P := Tryz.prog, con := c_blanks, glob := [], m := 0, loops := [] }
noncomputable def t_blanks : Con := fun args regs => if regs.length = 0 then nfun Tryz.prog [] c_blanks [(0, [0, 1, 3], unroll X_blanks 0 [0, 1, 3] [0, 1] (bodyLoop Tryz.f33 0) 41)] Tryz.f33 args regs else .fail
theorem k_blanks : Known Tryz.prog [] 33 t_blanks := known_loops 0 Tryz.func33 rfl (by kernel_rfl) mixed kc_blanks (LAll.one (id := 0) (body := bodyLoop Tryz.f33 0) (by kernel_rfl) rfl (unroll_ok (X := X_blanks) kc_blanks mixed (LAll.none (by kernel_rfl)) [0, 1, 3] [0, 1] 41))
/-- The kinds of a slot's cells. -/
def KS : List CK := [.i .i64, .i .i64, .b, .b, .i .i64, .i .i64, .b, .i .i64, .b, .b]
/-- A blank. -/
def blk : List Sc := [.i 32, .i 7, .b false, .b false, .i 0, .i 0, .b false, .i 0, .b false, .b false]
theorem blank_tree (R : Out → Prop) : (t_blank [] []).run R = R ⟨.v (.ag (rowCells KS blk)), []⟩ := by kernel_rfl
theorem blanks_tree (R : Out → Prop) : (t_blanks [] []).run R = R ⟨.v (.sg [.recs KS 40 (List.replicate 40 blk)]), []⟩ := by kernel_rfl
noncomputable def tBlanks : Con := fun args regs => match args, regs with
  | [], [] => .ret ⟨.v (.sg [.recs KS 40 (List.replicate 40 blk)]), []⟩
  | _, _ => .fail
set_option maxRecDepth 100000 in
theorem kBlanks : Known Tryz.prog [] 33 tBlanks := by
  refine k_blanks.less fun args regs R h => ?_
  unfold tBlanks at h
  split at h
  case h_2 => exact h.elim
  rw [blanks_tree]
  exact h
noncomputable def tBlank : Con := fun args regs => match args, regs with
  | [], [] => .ret ⟨.v (.ag (rowCells KS blk)), []⟩
  | _, _ => .fail
set_option maxRecDepth 100000 in
theorem kBlank : Known Tryz.prog [] 45 tBlank := by
  refine k_blank.less fun args regs R h => ?_
  unfold tBlank at h
  split at h
  case h_2 => exact h.elim
  rw [blank_tree]
  exact h

/-- A screen: the cursor, what is set, the slots, what waits. -/
structure Scr where
  row : Int
  col : Int
  fg : Int
  bg : Int
  fl : Bool
  iv : Bool
  un : Bool
  co : Bool
  ta : Bool
  wi : Bool
  cu : Bool
  ro : Bool
  ma : Bool
  bells : Int
  sl : List (List Sc)
  wt : Bool
  kr : Int
  kc : Int
  e0 : Int
  e1 : Int
  e2 : Int
  e3 : Int
  e4 : Int
  e5 : Int
  e6 : Int
/-- The cells of its State. -/
def stC (s : Scr) : List NC := [.i .i64 s.row, .i .i64 s.col, .i .i64 s.fg, .i .i64 s.bg, .b s.fl, .b s.iv, .b s.un, .b s.co, .b s.ta, .b s.wi, .b s.cu, .b s.ro, .b s.ma, .i .i64 s.bells]
def scr (s : Scr) : Reg := ⟨10024, 77, .sg [.cells (stC s), .recs KS 1000 s.sl,
  .cells [.b s.wt, .i .i64 s.kr, .i .i64 s.kc, .i .i64 s.e0, .i .i64 s.e1, .i .i64 s.e2, .i .i64 s.e3, .i .i64 s.e4, .i .i64 s.e5, .i .i64 s.e6]]⟩
def newS : Scr := { row := 1, col := 0, fg := 7, bg := 0, fl := false, iv := false, un := false, co := false, ta := false, wi := false, cu := false, ro := false, ma := true, bells := 0, sl := List.replicate 1000 blk, wt := false, kr := 1, kc := 0, e0 := 0, e1 := 0, e2 := 0, e3 := 0, e4 := 0, e5 := 0, e6 := 0 }
noncomputable def c_new : FuncId → Option Con := conOf [(33, tBlanks)]
theorem kc_new : ∀ f T, c_new f = some T → Known Tryz.prog [] f T := (Knowns.cons kBlanks Knowns.nil).get
noncomputable def X_new : Cx := { P := Tryz.prog, con := c_new, glob := [], m := 0, loops := [] }
noncomputable def t_new : Con := fun args regs => if regs.length = 0 then nfun Tryz.prog [] c_new [(0, [1, 6], unroll X_new 0 [1, 6] [1] (bodyLoop Tryz.f22 0) 26)] Tryz.f22 args regs else .fail
theorem k_new : Known Tryz.prog [] 22 t_new := known_loops 0 Tryz.func22 rfl (by kernel_rfl) mixed kc_new (LAll.one (id := 0) (body := bodyLoop Tryz.f22 0) (by kernel_rfl) rfl (unroll_ok (X := X_new) kc_new mixed (LAll.none (by kernel_rfl)) [1, 6] [1] 26))
theorem new_tree (R : Out → Prop) : (t_new [] []).run R = R ⟨.v (.c (.p 0 0 0)), [some (scr newS)]⟩ := by kernel_rfl
noncomputable def tNew : Con := fun args regs => match args, regs with
  | [], [] => .ret ⟨.v (.c (.p 0 0 0)), [some (scr newS)]⟩
  | _, _ => .fail
set_option maxRecDepth 100000 in
theorem kNew : Known Tryz.prog [] 22 tNew := by
  refine k_new.less fun args regs R h => ?_
  unfold tNew at h
  split at h
  case h_2 => exact h.elim
  rw [new_tree]
  exact h
end Go.Proofs.YtdijbpokklgjlaaGreatDoor.scr
