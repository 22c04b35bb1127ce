/-
  Packets: their parts: kinds, what is put together, what is taken over.
-/
import Derived.Test.YthjdlanmfiofdaaDoorPkC
namespace Go.Proofs.YthjdlanmfiofdaaDoor.pk
open Go Go.Nx

noncomputable def t_mag : Con := fun args regs => nfun Tryd.prog [] (fun _ => Option.none) [] Tryd.f68 args regs
theorem k_mag : Known Tryd.prog [] 68 t_mag := known_inl Tryd.func68 rfl (by kernel_rfl) mixed con_none (by kernel_rfl)
noncomputable def t_kind : Con := fun args regs => nfun Tryd.prog [] (fun _ => Option.none) [] Tryd.f59 args regs
theorem k_kind : Known Tryd.prog [] 59 t_kind := known_inl Tryd.func59 rfl (by kernel_rfl) mixed con_none (by kernel_rfl)
noncomputable def t_none : Con := fun args regs => nfun Tryd.prog [] (fun _ => Option.none) [] Tryd.f117 args regs
theorem k_none : Known Tryd.prog [] 117 t_none := known_inl Tryd.func117 rfl (by kernel_rfl) mixed con_none (by kernel_rfl)
noncomputable def t_bare : Con := fun args regs => nfun Tryd.prog [] (fun _ => Option.none) [] Tryd.f67 args regs
theorem k_bare : Known Tryd.prog [] 67 t_bare := known_inl Tryd.func67 rfl (by kernel_rfl) mixed con_none (by kernel_rfl)
noncomputable def t_samefault : Con := fun args regs => nfun Tryd.prog [] (fun _ => Option.none) [] Tryd.f99 args regs
theorem k_samefault : Known Tryd.prog [] 99 t_samefault := known_inl Tryd.func99 rfl (by kernel_rfl) mixed con_none (by kernel_rfl)
noncomputable def t_grow : Con := fun args regs => nfun Tryd.prog [] (fun _ => Option.none) [] Tryd.f101 args regs
theorem k_grow : Known Tryd.prog [] 101 t_grow := known_inl Tryd.func101 rfl (by kernel_rfl) mixed con_none (by kernel_rfl)
noncomputable def c_concat : FuncId → Option Con := conOf [(101, t_grow)]
theorem kc_concat : ∀ f T, c_concat f = some T → Known Tryd.prog [] f T := (Knowns.cons k_grow Knowns.nil).get
noncomputable def t_bclone : Con := fun args regs => nfun Tryd.prog [] (fun _ => Option.none) [] Tryd.f60 args regs
theorem k_bclone : Known Tryd.prog [] 60 t_bclone := known_inl Tryd.func60 rfl (by kernel_rfl) mixed con_none (by kernel_rfl)

noncomputable abbrev fConcat := Tryd.f72
noncomputable def X_concat : Cx := { P := Tryd.prog, con := c_concat, glob := [], m := 2, loops := [] }
noncomputable def t_concat : Con := fun args regs => if regs.length = 2 then nfun Tryd.prog [] c_concat [(0, [0, 3, 9, 10, 11], unroll X_concat 0 [0, 3, 9, 10, 11] [0, 3] (bodyLoop fConcat 0) 3), (2, [6, 25, 26, 27], unroll X_concat 2 [6, 25, 26, 27] [6] (bodyLoop fConcat 2) 3)] fConcat args regs else .fail
theorem k_concat : Known Tryd.prog [] 72 t_concat := known_loops 2 Tryd.func72 rfl (by kernel_rfl) mixed kc_concat
  (LAll.two (i1 := 0) (i2 := 2) (b1 := bodyLoop fConcat 0) (b2 := bodyLoop fConcat 2) (by kernel_rfl) rfl (by decide) (unroll_ok (X := X_concat) kc_concat mixed (LAll.none (by kernel_rfl)) [0, 3, 9, 10, 11] [0, 3] 3) (unroll_ok (X := X_concat) kc_concat mixed (LAll.none (by kernel_rfl)) [6, 25, 26, 27] [6] 3))
end Go.Proofs.YthjdlanmfiofdaaDoor.pk
