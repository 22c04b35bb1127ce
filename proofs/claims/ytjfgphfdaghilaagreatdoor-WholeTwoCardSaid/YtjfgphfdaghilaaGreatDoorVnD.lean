/-
  The whole answers; the chapter's examples; a terminal of any numbers.
-/
import Derived.Test.YtjfgphfdaghilaaGreatDoorVnC
set_option linter.unusedVariables false
namespace Go.Proofs.YtjfgphfdaghilaaGreatDoor.vn
open Go Go.Nx Go.Proofs.YtjfgphfdaghilaaGreatDoor.pk Go.Proofs.YtjfgphfdaghilaaGreatDoor.ac

noncomputable def oStat (n : Int) : Out := ⟨.v (.ag [.i .i64 1, .i .i64 0, .i .i64 16255, .b false, .i .i64 0, .i .i64 0, .i .i64 0, .s p100, .i .i64 0, .i .i64 0]), (rgT n).map some⟩
set_option maxRecDepth 100000 in
theorem stat_tree (n : Int) (R : Out → Prop) : (t_tlStatus2 [.c (.p 0 0 0)] (rgT n)).run R = same rmZ (same3 0 n (R (oStat n))) := by kernel_rfl
noncomputable def tStatZ : Con := fun args regs => match args with
  | [.c (.p 0 0 0)] => onT regs fun n => .ret (oStat n)
  | _ => .fail
section
attribute [local irreducible] t_tlStatus2
theorem kStatZ : Known Tryz.prog GL 52 tStatZ := by
  refine k_tlStatus2.less fun args regs R h => Box.out ?_
  unfold tStatZ at h
  split at h
  case h_2 => exact h.elim
  obtain ⟨n, e, h⟩ := onT_in h
  have h2 : R (oStat n) := h
  clear h
  refine Box.of_eq (regs_eq e (stat_tree n R)) ?_
  exact same_in (same3_in h2)
end
noncomputable def c_vtShot : FuncId → Option Con := conOf [(51, tGridZ), (52, tStatZ)]
theorem kc_vtShot : ∀ f T, c_vtShot f = some T → Known Tryz.prog GL f T := (Knowns.cons kGridZ (.cons kStatZ .nil)).get
noncomputable def t_vtShot : Con := fun args regs => nfun Tryz.prog GL c_vtShot [] Tryz.f27 args regs
theorem k_vtShot : Known Tryz.prog GL 27 t_vtShot := known_inl Tryz.func27 rfl (by kernel_rfl) mixed kc_vtShot (by kernel_rfl)
noncomputable def oShot (n m : Int) : Out := ⟨.v (.sg [.cells [.b false], .recs blK 1000 gV, .cells [.sn, .s p100, .i .i64 0, .i .i64 0, .i .i64 0]]), (rgVt n m).map some⟩
set_option maxRecDepth 100000 in
theorem shot_tree (n m : Int) (R : Out → Prop) : (t_vtShot [.c (.p 0 0 0)] (rgVt n m)).run R = same (rgT n) (same4 1 n (same (rgT n) (R (oShot n m)))) := by kernel_rfl
noncomputable def onV (regs : List Reg) (F : Int → Int → Tr Out) : Tr Out := match regs with
  | [a, b, c, ⟨_, _, .cells (.i .i64 n :: _)⟩, d, ⟨_, _, .cells (.i .i64 m :: _)⟩, e] => .must (regs = rgVt n m) (F n m)
  | _ => .fail
theorem onV_in {regs : List Reg} {F : Int → Int → Tr Out} {R : Out → Prop} (h : (onV regs F).run R) : ∃ n m, regs = rgVt n m ∧ (F n m).run R := by
  unfold onV at h
  split at h
  · exact ⟨_, _, h.1, h.2⟩
  · exact h.elim
noncomputable def tShotZ : Con := fun args regs => match args with
  | [.c (.p 0 0 0)] => onV regs fun n m => .ret (oShot n m)
  | _ => .fail
section
attribute [local irreducible] t_vtShot
theorem kShotZ : Known Tryz.prog GL 27 tShotZ := by
  refine k_vtShot.less fun args regs R h => Box.out ?_
  unfold tShotZ at h
  split at h
  case h_2 => exact h.elim
  obtain ⟨n, m, e, h⟩ := onV_in h
  have h2 : R (oShot n m) := h
  clear h
  refine Box.of_eq (regs_eq e (shot_tree n m R)) ?_
  exact same_in (same4_in (same_in h2))
end
noncomputable def tVtNew : Con := fun args regs => match args, regs with
  | [.c (.i .i64 n), .c (.i .i64 m)], [] => .br (decide (n < 1)) (.ret eR) (.br (decide (n > 800)) (.ret eR) (.br (decide (m < 1)) (.ret eR) (.br (decide (m > 4096)) (.ret eR) (.ret (oVt n m)))))
  | _, _ => .fail
section
attribute [local irreducible] t_vtNew2
theorem kVtNew : Known Tryz.prog GL 25 tVtNew := by
  refine k_vtNew2.less fun args regs R h => Box.out ?_
  unfold tVtNew at h
  split at h
  case h_2 => exact h.elim
  rename_i n m
  exact Box.of_eq (vt_tree n m R) h
end
noncomputable def X_vtLine : Cx := { P := Tryz.prog, con := (fun _ => Option.none), glob := GL, m := 7, loops := [] }
noncomputable def t_vtLine : Con := fun args regs => if regs.length = 7 then nfun Tryz.prog GL (fun _ => Option.none) [(1, [0, 38, 39, 40], unroll X_vtLine 1 [0, 38, 39, 40] [] (bodyLoop Tryz.f64 1) 1), (3, [0, 54, 55, 56], unroll X_vtLine 3 [0, 54, 55, 56] [] (bodyLoop Tryz.f64 3) 1)] Tryz.f64 args regs else .fail
theorem k_vtLine : Known Tryz.prog GL 64 t_vtLine := known_loops 7 Tryz.func64 rfl (by kernel_rfl) mixed con_none (LAll.two (i1 := 1) (i2 := 3) (b1 := bodyLoop Tryz.f64 1) (b2 := bodyLoop Tryz.f64 3) (by kernel_rfl) rfl (by decide) (unroll_ok (X := X_vtLine) con_none mixed (LAll.none (by kernel_rfl)) [0, 38, 39, 40] [] 1) (unroll_ok (X := X_vtLine) con_none mixed (LAll.none (by kernel_rfl)) [0, 54, 55, 56] [] 1))
noncomputable def c_vtDo : FuncId → Option Con := conOf [(64, t_vtLine)]
theorem kc_vtDo : ∀ f T, c_vtDo f = some T → Known Tryz.prog GL f T := (Knowns.cons k_vtLine .nil).get
noncomputable def t_vtDo : Con := fun args regs => nfun Tryz.prog GL c_vtDo [] Tryz.f32 args regs
theorem k_vtDo : Known Tryz.prog GL 32 t_vtDo := known_inl Tryz.func32 rfl (by kernel_rfl) mixed kc_vtDo (by kernel_rfl)
noncomputable def c_works : FuncId → Option Con := conOf [(25, tVtNew), (27, tShotZ), (32, t_vtDo), (26, t_is)]
theorem kc_works : ∀ f T, c_works f = some T → Known Tryz.prog GL f T := (Knowns.cons kVtNew (.cons kShotZ (.cons k_vtDo (.cons k_is .nil)))).get
noncomputable def t_works : Con := fun args regs => nfun Tryz.prog GL c_works [] Tryz.f7 args regs
theorem k_works : Known Tryz.prog GL 7 t_works := known_inl Tryz.func7 rfl (by kernel_rfl) mixed kc_works (by kernel_rfl)
noncomputable def c_first : FuncId → Option Con := conOf [(25, tVtNew), (27, tShotZ), (32, t_vtDo), (26, t_is)]
theorem kc_first : ∀ f T, c_first f = some T → Known Tryz.prog GL f T := (Knowns.cons kVtNew (.cons kShotZ (.cons k_vtDo (.cons k_is .nil)))).get
noncomputable def t_first : Con := fun args regs => nfun Tryz.prog GL c_first [] Tryz.f24 args regs
theorem k_first : Known Tryz.prog GL 24 t_first := known_inl Tryz.func24 rfl (by kernel_rfl) mixed kc_first (by kernel_rfl)
end Go.Proofs.YtjfgphfdaghilaaGreatDoor.vn
