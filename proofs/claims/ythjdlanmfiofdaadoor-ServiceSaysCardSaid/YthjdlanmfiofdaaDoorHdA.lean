/-
  A packet's parts: a byte of it, so many of them; numbers of six and eight bytes.
-/
import Derived.Test.YthjdlanmfiofdaaDoorLnA
import Derived.Test.YthjdlanmfiofdaaDoorLnA
namespace Go.Proofs.YthjdlanmfiofdaaDoor.hd
open Go Go.Nx Go.Proofs.YthjdlanmfiofdaaDoor.pk Go.Proofs.YthjdlanmfiofdaaDoor.ln

noncomputable def t_at : Con := fun args regs => nfun Tryd.prog GL (fun _ => Option.none) [] Tryd.f85 args regs
theorem k_at : Known Tryd.prog GL 85 t_at := known_inl Tryd.func85 rfl (by kernel_rfl) mixed con_none (by kernel_rfl)
noncomputable def c_opn : FuncId → Option Con := conOf [(61, tGet)]
theorem kc_opn : ∀ f T, c_opn f = some T → Known Tryd.prog GL f T := (Knowns.cons kg_get .nil).get
noncomputable def X_opn : Cx := { P := Tryd.prog, con := c_opn, glob := GL, m := 0, loops := [] }
noncomputable def t_opn : Con := fun args regs => if regs.length = 0 then nfun Tryd.prog GL c_opn [(0, [4, 9, 10, 11], unroll X_opn 0 [4, 9, 10, 11] [2, 3, 4] (bodyLoop Tryd.f58 0) 9)] Tryd.f58 args regs else .fail
theorem k_opn : Known Tryd.prog GL 58 t_opn := known_loops 0 Tryd.func58 rfl (by kernel_rfl) mixed kc_opn (LAll.one (id := 0) (body := bodyLoop Tryd.f58 0) (by kernel_rfl) rfl (unroll_ok (X := X_opn) kc_opn mixed (LAll.none (by kernel_rfl)) [4, 9, 10, 11] [2, 3, 4] 9))
noncomputable def t_of : Con := fun args regs => nfun Tryd.prog GL (fun _ => Option.none) [] Tryd.f63 args regs
theorem k_of : Known Tryd.prog GL 63 t_of := known_inl Tryd.func63 rfl (by kernel_rfl) mixed con_none (by kernel_rfl)
noncomputable def t_bitf : Con := fun args regs => nfun Tryd.prog GL (fun _ => Option.none) [] Tryd.f77 args regs
theorem k_bitf : Known Tryd.prog GL 77 t_bitf := known_inl Tryd.func77 rfl (by kernel_rfl) mixed con_none (by kernel_rfl)
end Go.Proofs.YthjdlanmfiofdaaDoor.hd
