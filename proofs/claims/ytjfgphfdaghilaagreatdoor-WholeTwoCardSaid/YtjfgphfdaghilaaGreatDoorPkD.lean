/-
  Packets: their parts: kinds, what is put together, what is taken over.
-/
import Derived.Test.YtjfgphfdaghilaaGreatDoorPkC
namespace Go.Proofs.YtjfgphfdaghilaaGreatDoor.pk
open Go Go.Nx

noncomputable def t_mag : Con := fun args regs => nfun Tryz.prog [] (fun _ => Option.none) [] Tryz.f127 args regs
theorem k_mag : Known Tryz.prog [] 127 t_mag := known_inl Tryz.func127 rfl (by kernel_rfl) mixed con_none (by kernel_rfl)
noncomputable def t_kind : Con := fun args regs => nfun Tryz.prog [] (fun _ => Option.none) [] Tryz.f192 args regs
theorem k_kind : Known Tryz.prog [] 192 t_kind := known_inl Tryz.func192 rfl (by kernel_rfl) mixed con_none (by kernel_rfl)
noncomputable def t_none : Con := fun args regs => nfun Tryz.prog [] (fun _ => Option.none) [] Tryz.f125 args regs
theorem k_none : Known Tryz.prog [] 125 t_none := known_inl Tryz.func125 rfl (by kernel_rfl) mixed con_none (by kernel_rfl)
noncomputable def t_bare : Con := fun args regs => nfun Tryz.prog [] (fun _ => Option.none) [] Tryz.f50 args regs
theorem k_bare : Known Tryz.prog [] 50 t_bare := known_inl Tryz.func50 rfl (by kernel_rfl) mixed con_none (by kernel_rfl)
noncomputable def t_samefault : Con := fun args regs => nfun Tryz.prog [] (fun _ => Option.none) [] Tryz.f88 args regs
theorem k_samefault : Known Tryz.prog [] 88 t_samefault := known_inl Tryz.func88 rfl (by kernel_rfl) mixed con_none (by kernel_rfl)
noncomputable def t_bclone : Con := fun args regs => nfun Tryz.prog [] (fun _ => Option.none) [] Tryz.f45 args regs
theorem k_bclone : Known Tryz.prog [] 45 t_bclone := known_inl Tryz.func45 rfl (by kernel_rfl) mixed con_none (by kernel_rfl)

end Go.Proofs.YtjfgphfdaghilaaGreatDoor.pk
