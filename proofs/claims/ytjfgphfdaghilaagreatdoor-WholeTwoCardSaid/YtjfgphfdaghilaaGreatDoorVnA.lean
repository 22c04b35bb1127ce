/-
  A terminal of nothing: its beginning, its shot, a step that is refused.
-/
import Derived.Test.YtjfgphfdaghilaaGreatDoorPkE
import Derived.Test.YtjfgphfdaghilaaGreatDoorScX
import Derived.Test.YtjfgphfdaghilaaGreatDoorPrX
set_option linter.unusedVariables false
namespace Go.Proofs.YtjfgphfdaghilaaGreatDoor.vn
open Go Go.Nx Go.Proofs.YtjfgphfdaghilaaGreatDoor.pk

noncomputable def t_stNew : Con := fun args regs => nfun Tryz.prog GL (fun _ => Option.none) [] Tryz.f124 args regs
theorem k_stNew : Known Tryz.prog GL 124 t_stNew := known_inl Tryz.func124 rfl (by kernel_rfl) mixed con_none (by kernel_rfl)
noncomputable def c_acNew : FuncId → Option Con := conOf [(124, t_stNew)]
theorem kc_acNew : ∀ f T, c_acNew f = some T → Known Tryz.prog GL f T := (Knowns.cons k_stNew .nil).get
noncomputable def t_acNew : Con := fun args regs => nfun Tryz.prog GL c_acNew [] Tryz.f86 args regs
theorem k_acNew : Known Tryz.prog GL 86 t_acNew := known_inl Tryz.func86 rfl (by kernel_rfl) mixed kc_acNew (by kernel_rfl)
noncomputable def t_rStart : Con := fun args regs => nfun Tryz.prog GL (fun _ => Option.none) [] Tryz.f87 args regs
theorem k_rStart : Known Tryz.prog GL 87 t_rStart := known_inl Tryz.func87 rfl (by kernel_rfl) mixed con_none (by kernel_rfl)
noncomputable def c_tlNew : FuncId → Option Con := conOf [(86, t_acNew), (87, t_rStart)]
theorem kc_tlNew : ∀ f T, c_tlNew f = some T → Known Tryz.prog GL f T := (Knowns.cons k_acNew (.cons k_rStart .nil)).get
noncomputable def t_tlNew : Con := fun args regs => nfun Tryz.prog GL c_tlNew [] Tryz.f48 args regs
theorem k_tlNew : Known Tryz.prog GL 48 t_tlNew := known_inl Tryz.func48 rfl (by kernel_rfl) mixed kc_tlNew (by kernel_rfl)
noncomputable def t_pMag : Con := fun args regs => nfun Tryz.prog GL (fun _ => Option.none) [] Tryz.f127 args regs
theorem k_pMag : Known Tryz.prog GL 127 t_pMag := known_inl Tryz.func127 rfl (by kernel_rfl) mixed con_none (by kernel_rfl)
noncomputable def c_acLast : FuncId → Option Con := conOf [(127, t_pMag)]
theorem kc_acLast : ∀ f T, c_acLast f = some T → Known Tryz.prog GL f T := (Knowns.cons k_pMag .nil).get
noncomputable def t_acLast : Con := fun args regs => nfun Tryz.prog GL c_acLast [] Tryz.f90 args regs
theorem k_acLast : Known Tryz.prog GL 90 t_acLast := known_inl Tryz.func90 rfl (by kernel_rfl) mixed kc_acLast (by kernel_rfl)
noncomputable def t_clPl : Con := fun args regs => nfun Tryz.prog GL (fun _ => Option.none) [] Tryz.f190 args regs
theorem k_clPl : Known Tryz.prog GL 190 t_clPl := known_inl Tryz.func190 rfl (by kernel_rfl) mixed con_none (by kernel_rfl)
noncomputable def c_stKeys : FuncId → Option Con := conOf [(190, t_clPl)]
theorem kc_stKeys : ∀ f T, c_stKeys f = some T → Known Tryz.prog GL f T := (Knowns.cons k_clPl .nil).get
noncomputable def t_stKeys : Con := fun args regs => nfun Tryz.prog GL c_stKeys [] Tryz.f135 args regs
theorem k_stKeys : Known Tryz.prog GL 135 t_stKeys := known_inl Tryz.func135 rfl (by kernel_rfl) mixed kc_stKeys (by kernel_rfl)
noncomputable def c_acPages : FuncId → Option Con := conOf [(135, t_stKeys)]
theorem kc_acPages : ∀ f T, c_acPages f = some T → Known Tryz.prog GL f T := (Knowns.cons k_stKeys .nil).get
noncomputable def t_acPages : Con := fun args regs => nfun Tryz.prog GL c_acPages [] Tryz.f96 args regs
theorem k_acPages : Known Tryz.prog GL 96 t_acPages := known_inl Tryz.func96 rfl (by kernel_rfl) mixed kc_acPages (by kernel_rfl)
noncomputable def t_rLine : Con := fun args regs => nfun Tryz.prog GL (fun _ => Option.none) [] Tryz.f93 args regs
theorem k_rLine : Known Tryz.prog GL 93 t_rLine := known_inl Tryz.func93 rfl (by kernel_rfl) mixed con_none (by kernel_rfl)
noncomputable def c_tlStatus : FuncId → Option Con := conOf [(93, t_rLine), (96, t_acPages)]
theorem kc_tlStatus : ∀ f T, c_tlStatus f = some T → Known Tryz.prog GL f T := (Knowns.cons k_rLine (.cons k_acPages .nil)).get
noncomputable def t_tlStatus : Con := fun args regs => nfun Tryz.prog GL c_tlStatus [] Tryz.f52 args regs
theorem k_tlStatus : Known Tryz.prog GL 52 t_tlStatus := known_inl Tryz.func52 rfl (by kernel_rfl) mixed kc_tlStatus (by kernel_rfl)
noncomputable def t_rdBlank : Con := fun args regs => nfun Tryz.prog GL (fun _ => Option.none) [] Tryz.f129 args regs
theorem k_rdBlank : Known Tryz.prog GL 129 t_rdBlank := known_inl Tryz.func129 rfl (by kernel_rfl) mixed con_none (by kernel_rfl)
noncomputable def c_rdRow : FuncId → Option Con := conOf [(129, t_rdBlank)]
theorem kc_rdRow : ∀ f T, c_rdRow f = some T → Known Tryz.prog GL f T := (Knowns.cons k_rdBlank .nil).get
noncomputable def X_rdRow : Cx := { P := Tryz.prog, con := c_rdRow, glob := GL, m := 0, loops := [] }
noncomputable def t_rdRow : Con := fun args regs => if regs.length = 0 then nfun Tryz.prog GL c_rdRow [(0, [0, 1, 3], unroll X_rdRow 0 [0, 1, 3] [0, 1] (bodyLoop Tryz.f130 0) 41)] Tryz.f130 args regs else .fail
theorem k_rdRow : Known Tryz.prog GL 130 t_rdRow := known_loops 0 Tryz.func130 rfl (by kernel_rfl) mixed kc_rdRow (LAll.one (id := 0) (body := bodyLoop Tryz.f130 0) (by kernel_rfl) rfl (unroll_ok (X := X_rdRow) kc_rdRow mixed (LAll.none (by kernel_rfl)) [0, 1, 3] [0, 1] 41))
noncomputable def X_pText : Cx := { P := Tryz.prog, con := (fun _ => Option.none), glob := GL, m := 0, loops := [] }
noncomputable def t_pText : Con := fun args regs => if regs.length = 0 then nfun Tryz.prog GL (fun _ => Option.none) [(0, [4, 5, 8, 9, 10], unroll X_pText 0 [4, 5, 8, 9, 10] [4, 5] (bodyLoop Tryz.f132 0) 2)] Tryz.f132 args regs else .fail
theorem k_pText : Known Tryz.prog GL 132 t_pText := known_loops 0 Tryz.func132 rfl (by kernel_rfl) mixed con_none (LAll.one (id := 0) (body := bodyLoop Tryz.f132 0) (by kernel_rfl) rfl (unroll_ok (X := X_pText) con_none mixed (LAll.none (by kernel_rfl)) [4, 5, 8, 9, 10] [4, 5] 2))
noncomputable def c_tlText : FuncId → Option Con := conOf [(132, t_pText)]
theorem kc_tlText : ∀ f T, c_tlText f = some T → Known Tryz.prog GL f T := (Knowns.cons k_pText .nil).get
noncomputable def X_tlText : Cx := { P := Tryz.prog, con := c_tlText, glob := GL, m := 0, loops := [] }
noncomputable def t_tlText : Con := fun args regs => if regs.length = 0 then nfun Tryz.prog GL c_tlText [(0, [3, 4, 12, 13], unroll X_tlText 0 [3, 4, 12, 13] [3] (bodyLoop Tryz.f94 0) 2)] Tryz.f94 args regs else .fail
theorem k_tlText : Known Tryz.prog GL 94 t_tlText := known_loops 0 Tryz.func94 rfl (by kernel_rfl) mixed kc_tlText (LAll.one (id := 0) (body := bodyLoop Tryz.f94 0) (by kernel_rfl) rfl (unroll_ok (X := X_tlText) kc_tlText mixed (LAll.none (by kernel_rfl)) [3, 4, 12, 13] [3] 2))
end Go.Proofs.YtjfgphfdaghilaaGreatDoor.vn
