/-
  Packets: their parts: kinds, what is put together, what is taken over.
-/
import Derived.Test.YtjjkbnipokpmcaaDoorPkC
namespace Go.Proofs.YtjjkbnipokpmcaaDoor.pk
open Go Go.Nx

noncomputable def t_mag : Con := fun args regs => nfun Tryd.prog [] (fun _ => Option.none) [] Tryd.f24 args regs
theorem k_mag : Known Tryd.prog [] 24 t_mag := known_inl Tryd.func24 rfl (by kernel_rfl) mixed con_none (by kernel_rfl)
noncomputable def t_kind : Con := fun args regs => nfun Tryd.prog [] (fun _ => Option.none) [] Tryd.f13 args regs
theorem k_kind : Known Tryd.prog [] 13 t_kind := known_inl Tryd.func13 rfl (by kernel_rfl) mixed con_none (by kernel_rfl)
noncomputable def t_rkind : Con := fun args regs => nfun Tryd.prog [] (fun _ => Option.none) [] Tryd.f14 args regs
theorem k_rkind : Known Tryd.prog [] 14 t_rkind := known_inl Tryd.func14 rfl (by kernel_rfl) mixed con_none (by kernel_rfl)
noncomputable def t_none : Con := fun args regs => nfun Tryd.prog [] (fun _ => Option.none) [] Tryd.f37 args regs
theorem k_none : Known Tryd.prog [] 37 t_none := known_inl Tryd.func37 rfl (by kernel_rfl) mixed con_none (by kernel_rfl)
noncomputable def t_bare : Con := fun args regs => nfun Tryd.prog [] (fun _ => Option.none) [] Tryd.f28 args regs
theorem k_bare : Known Tryd.prog [] 28 t_bare := known_inl Tryd.func28 rfl (by kernel_rfl) mixed con_none (by kernel_rfl)
noncomputable def t_samefault : Con := fun args regs => nfun Tryd.prog [] (fun _ => Option.none) [] Tryd.f33 args regs
theorem k_samefault : Known Tryd.prog [] 33 t_samefault := known_inl Tryd.func33 rfl (by kernel_rfl) mixed con_none (by kernel_rfl)
noncomputable def t_grow : Con := fun args regs => nfun Tryd.prog [] (fun _ => Option.none) [] Tryd.f32 args regs
theorem k_grow : Known Tryd.prog [] 32 t_grow := known_inl Tryd.func32 rfl (by kernel_rfl) mixed con_none (by kernel_rfl)
noncomputable def c_concat : FuncId → Option Con := conOf [(32, t_grow)]
theorem kc_concat : ∀ f T, c_concat f = some T → Known Tryd.prog [] f T := (Knowns.cons k_grow Knowns.nil).get
noncomputable def t_bclone : Con := fun args regs => nfun Tryd.prog [] (fun _ => Option.none) [] Tryd.f20 args regs
theorem k_bclone : Known Tryd.prog [] 20 t_bclone := known_inl Tryd.func20 rfl (by kernel_rfl) mixed con_none (by kernel_rfl)

noncomputable abbrev fConcat := Tryd.f25
noncomputable def X_concat : Cx := { P := Tryd.prog, con := c_concat, glob := [], m := 2, loops := [] }
noncomputable def t_concat : Con := fun args regs => if regs.length = 2 then nfun Tryd.prog [] c_concat [(0, [0, 3, 9, 10, 11], unroll X_concat 0 [0, 3, 9, 10, 11] [0, 3] (bodyLoop fConcat 0) 3), (2, [6, 25, 26, 27], unroll X_concat 2 [6, 25, 26, 27] [6] (bodyLoop fConcat 2) 3)] fConcat args regs else .fail
theorem k_concat : Known Tryd.prog [] 25 t_concat := known_loops 2 Tryd.func25 rfl (by kernel_rfl) mixed kc_concat
  (LAll.two (i1 := 0) (i2 := 2) (b1 := bodyLoop fConcat 0) (b2 := bodyLoop fConcat 2) (by kernel_rfl) rfl (by decide) (unroll_ok (X := X_concat) kc_concat mixed (LAll.none (by kernel_rfl)) [0, 3, 9, 10, 11] [0, 3] 3) (unroll_ok (X := X_concat) kc_concat mixed (LAll.none (by kernel_rfl)) [6, 25, 26, 27] [6] 3))
end Go.Proofs.YtjjkbnipokpmcaaDoor.pk
