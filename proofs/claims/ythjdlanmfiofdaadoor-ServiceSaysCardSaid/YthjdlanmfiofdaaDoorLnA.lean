/-
  Links: their packet's bytes, what is read of another packet.
-/
import Derived.Test.YthjdlanmfiofdaaDoorPkJ
namespace Go.Proofs.YthjdlanmfiofdaaDoor.ln
open Go Go.Nx Go.Proofs.YthjdlanmfiofdaaDoor.pk

noncomputable def c_row7 : FuncId → Option Con := conOf [(97, tPut)]
theorem kc_row7 : ∀ f T, c_row7 f = some T → Known Tryd.prog GL f T := (Knowns.cons (known_gl kPut) Knowns.nil).get
noncomputable def X_row7 : Cx := { P := Tryd.prog, con := c_row7, glob := GL, m := 0, loops := [] }
noncomputable def t_row7 : Con := fun args regs => if regs.length = 0 then nfun Tryd.prog GL c_row7 [(0, [3, 6, 7, 8], unroll X_row7 0 [3, 6, 7, 8] [3] (bodyLoop Tryd.f69 0) 9)] Tryd.f69 args regs else .fail
theorem k_row7 : Known Tryd.prog GL 69 t_row7 := known_loops 0 Tryd.func69 rfl (by kernel_rfl) mixed kc_row7 (LAll.one (id := 0) (body := bodyLoop Tryd.f69 0) (by kernel_rfl) rfl (unroll_ok (X := X_row7) kc_row7 mixed (LAll.none (by kernel_rfl)) [3, 6, 7, 8] [3] 9))
noncomputable def c_fair : FuncId → Option Con := conOf [(68, t_mag)]
theorem kc_fair : ∀ f T, c_fair f = some T → Known Tryd.prog GL f T := (Knowns.cons kg_mag Knowns.nil).get
noncomputable def t_fair : Con := fun args regs => nfun Tryd.prog GL c_fair [] Tryd.f70 args regs
theorem k_fair : Known Tryd.prog GL 70 t_fair := known_inl Tryd.func70 rfl (by kernel_rfl) mixed kc_fair (by kernel_rfl)
noncomputable def t_nib : Con := fun args regs => nfun Tryd.prog GL (fun _ => Option.none) [] Tryd.f71 args regs
theorem k_nib : Known Tryd.prog GL 71 t_nib := known_inl Tryd.func71 rfl (by kernel_rfl) mixed con_none (by kernel_rfl)
noncomputable def c_some : FuncId → Option Con := conOf [(68, t_mag)]
theorem kc_some : ∀ f T, c_some f = some T → Known Tryd.prog GL f T := (Knowns.cons kg_mag Knowns.nil).get
noncomputable def t_some : Con := fun args regs => nfun Tryd.prog GL c_some [] Tryd.f24 args regs
theorem k_some : Known Tryd.prog GL 24 t_some := known_inl Tryd.func24 rfl (by kernel_rfl) mixed kc_some (by kernel_rfl)
noncomputable def c_first : FuncId → Option Con := conOf [(24, t_some)]
theorem kc_first : ∀ f T, c_first f = some T → Known Tryd.prog GL f T := (Knowns.cons k_some Knowns.nil).get
noncomputable def t_first : Con := fun args regs => nfun Tryd.prog GL c_first [] Tryd.f14 args regs
theorem k_first : Known Tryd.prog GL 14 t_first := known_inl Tryd.func14 rfl (by kernel_rfl) mixed kc_first (by kernel_rfl)
noncomputable def c_concat3 : FuncId → Option Con := conOf [(101, t_grow)]
theorem kc_concat3 : ∀ f T, c_concat3 f = some T → Known Tryd.prog GL f T := (Knowns.cons (known_gl k_grow) Knowns.nil).get
noncomputable def X_concat3 : Cx := { P := Tryd.prog, con := c_concat3, glob := GL, m := 4, loops := [] }
noncomputable def t_concat3 : Con := fun args regs => if regs.length = 4 then nfun Tryd.prog GL c_concat3 [(0, [0, 3, 9, 10, 11], unroll X_concat3 0 [0, 3, 9, 10, 11] [0, 3] (bodyLoop Tryd.f72 0) 4), (2, [6, 25, 26, 27], unroll X_concat3 2 [6, 25, 26, 27] [6] (bodyLoop Tryd.f72 2) 4)] Tryd.f72 args regs else .fail
theorem k_concat3 : Known Tryd.prog GL 72 t_concat3 := known_loops 4 Tryd.func72 rfl (by kernel_rfl) mixed kc_concat3 (LAll.two (i1 := 0) (i2 := 2) (b1 := bodyLoop Tryd.f72 0) (b2 := bodyLoop Tryd.f72 2) (by kernel_rfl) rfl (by decide) (unroll_ok (X := X_concat3) kc_concat3 mixed (LAll.none (by kernel_rfl)) [0, 3, 9, 10, 11] [0, 3] 4) (unroll_ok (X := X_concat3) kc_concat3 mixed (LAll.none (by kernel_rfl)) [6, 25, 26, 27] [6] 4))
noncomputable def c_lbytes : FuncId → Option Con := conOf [(68, t_mag), (69, t_row7), (70, t_fair), (71, t_nib), (72, t_concat3), (28, tBytes)]
theorem kc_lbytes : ∀ f T, c_lbytes f = some T → Known Tryd.prog GL f T := (Knowns.cons kg_mag (Knowns.cons k_row7 (Knowns.cons k_fair (Knowns.cons k_nib (Knowns.cons k_concat3 (Knowns.cons kBytes Knowns.nil)))))).get
noncomputable def X_lbytes : Cx := { P := Tryd.prog, con := c_lbytes, glob := GL, m := 0, loops := [] }
noncomputable def t_lbytes : Con := fun args regs => if regs.length = 0 then nfun Tryd.prog GL c_lbytes [(0, [0, 3, 10, 37, 38], unroll X_lbytes 0 [0, 3, 10, 37, 38] [0, 3, 8, 9, 10] (bodyLoop Tryd.f21 0) 7)] Tryd.f21 args regs else .fail
theorem k_lbytes : Known Tryd.prog GL 21 t_lbytes := known_loops 0 Tryd.func21 rfl (by kernel_rfl) mixed kc_lbytes (LAll.one (id := 0) (body := bodyLoop Tryd.f21 0) (by kernel_rfl) rfl (unroll_ok (X := X_lbytes) kc_lbytes mixed (LAll.none (by kernel_rfl)) [0, 3, 10, 37, 38] [0, 3, 8, 9, 10] 7))
noncomputable def X_lreadE : Cx := { P := Tryd.prog, con := (fun _ => Option.none), glob := GL, m := 0, loops := [] }
noncomputable def t_lreadE : Con := fun args regs => if regs.length = 0 then nfun Tryd.prog GL (fun _ => Option.none) [(0, [1, 2, 4, 21], unroll X_lreadE 0 [1, 2, 4, 21] [2, 4] (bodyLoop Tryd.f16 0) 0)] Tryd.f16 args regs else .fail
theorem k_lreadE : Known Tryd.prog GL 16 t_lreadE := known_loops 0 Tryd.func16 rfl (by kernel_rfl) mixed con_none (LAll.one (id := 0) (body := bodyLoop Tryd.f16 0) (by kernel_rfl) rfl (unroll_ok (X := X_lreadE) con_none mixed (LAll.none (by kernel_rfl)) [1, 2, 4, 21] [2, 4] 0))
end Go.Proofs.YthjdlanmfiofdaaDoor.ln
