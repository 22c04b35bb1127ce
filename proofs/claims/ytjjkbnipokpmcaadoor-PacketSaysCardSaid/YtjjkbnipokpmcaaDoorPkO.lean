/-
  Packets: the document's number as a byte.
-/
import Derived.Test.YtjjkbnipokpmcaaDoorPkN
import Derived.Test.YtjjkbnipokpmcaaDoorRones
namespace Go.Proofs.YtjjkbnipokpmcaaDoor.pk
open Go Go.Nx

noncomputable def c_rput : FuncId → Option Con := conOf [(29, ones.tOnes)]
theorem kc_rput : ∀ f T, c_rput f = some T → Known Tryd.prog [] f T := (Knowns.cons ones.kOnes Knowns.nil).get
noncomputable def t_rput : Con := fun args regs => nfun Tryd.prog [] c_rput [] Tryd.f18 args regs
theorem k_rput : Known Tryd.prog [] 18 t_rput := known_inl Tryd.func18 rfl (by kernel_rfl) mixed kc_rput (by kernel_rfl)
def o64 (a b : Int) : Int := bits .or .i64 a b
def x64 (a b : Int) : Int := bits .xor .i64 a b
noncomputable def e0 (n : Int) : Int := bits .and .i64 n 1
noncomputable def eK (n k : Int) : Int := bits .and .i64 (shrv .i64 n k) 1
def RBd (d0 d1 d2 d3 : Int) : Int := o64 (o64 (o64 (o64 (o64 (o64 (shlv .i64 d0 1) (shlv .i64 d1 3)) (shlv .i64 d2 5)) (shlv .i64 d3 7)) (x64 (x64 (x64 1 d0) d2) d3)) (shlv .i64 (x64 (x64 (x64 1 d0) d1) d3) 2)) (shlv .i64 (x64 (x64 (x64 1 d0) d1) d2) 4)
noncomputable def RB (n : Int) : Int := RBd (e0 n) (eK n 1) (eK n 2) (eK n 3)
theorem rput_tree (n : Int) (R : Out → Prop) : (t_rput [.c (.i .i64 n)] []).run R =
    ((0 ≤ RB n ∧ RB n < 9223372036854775808) ∧ sel ((ones.bl (RB n).toNat : Int).tmod 2 == 0) (R ⟨.v (.c (.i .u8 (IntKind.u8.wrap (o64 (RB n) 64)))), []⟩) (R ⟨.v (.c (.i .u8 (IntKind.u8.wrap (RB n)))), []⟩)) := by kernel_rfl
theorem rput_all : ∀ m < 16, (0 ≤ RB (Int.ofNat m) ∧ RB (Int.ofNat m) < 256) ∧ (bif ones.par (RB (Int.ofNat m)).toNat 8 then IntKind.u8.wrap (RB (Int.ofNat m)) else IntKind.u8.wrap (o64 (RB (Int.ofNat m)) 64)) = put (Int.ofNat m) := by decide +kernel
noncomputable def tRPut : Con := fun args regs => match args, regs with
  | [.c (.i .i64 n)], [] => .must (0 ≤ n ∧ n < 16) (.ret ⟨.v (.c (.i .u8 (put n))), []⟩)
  | _, _ => .fail
theorem rput_in {n : Int} {R : Out → Prop} (h1 : 0 ≤ n ∧ n < 16) (h2 : R ⟨.v (.c (.i .u8 (put n))), []⟩) : Box ((t_rput [.c (.i .i64 n)] []).run R) := by
  obtain ⟨m, hm, rfl⟩ : ∃ m : Nat, m < 16 ∧ n = Int.ofNat m := ⟨n.toNat, by omega, by show n = ((n.toNat : Nat) : Int); omega⟩
  obtain ⟨a1, a2⟩ := rput_all m hm
  refine Box.of_eq (rput_tree _ R) ⟨⟨a1.1, by omega⟩, ?_⟩
  have hp := ones.bl_par 8 (RB (Int.ofNat m)).toNat (by omega)
  rw [← a2] at h2
  cases hb : ones.par (RB (Int.ofNat m)).toNat 8 with
  | true =>
    rw [hb] at h2 hp
    refine selF ?_ h2
    rw [beq_eq_false_iff_ne, Int.tmod_eq_emod_of_nonneg (Int.natCast_nonneg _)]
    have hp' : ones.bl (RB (Int.ofNat m)).toNat % 2 = 1 := hp
    omega
  | false =>
    rw [hb] at h2 hp
    refine selT ?_ h2
    rw [beq_iff_eq, Int.tmod_eq_emod_of_nonneg (Int.natCast_nonneg _)]
    have hp' : ones.bl (RB (Int.ofNat m)).toNat % 2 = 0 := hp
    omega
set_option maxRecDepth 100000 in
theorem kRPut : Known Tryd.prog [] 18 tRPut := by
  refine k_rput.less fun args regs R h => Box.out ?_
  unfold tRPut at h
  split at h
  case h_2 => exact h.elim
  exact rput_in h.1 h.2
theorem kg_rput : Known Tryd.prog GL 18 tRPut := known_gl kRPut
noncomputable def c_kinds : FuncId → Option Con := conOf [(17, num.tNumV), (18, tRPut), (10, tBytesM), (8, tRead), (13, tKind), (12, t_is), (7, tYes)]
theorem kc_kinds : ∀ f T, c_kinds f = some T → Known Tryd.prog GL f T := (Knowns.cons kg_num (.cons kg_rput (.cons kBytesM (.cons kRead (.cons kg_kind (.cons k_is (.cons kYes .nil))))))).get
noncomputable def t_kinds : Con := fun args regs => nfun Tryd.prog GL c_kinds [] Tryd.f5 args regs
theorem k_kinds : Known Tryd.prog GL 5 t_kinds := known_inl Tryd.func5 rfl (by kernel_rfl) mixed kc_kinds (by kernel_rfl)
end Go.Proofs.YtjjkbnipokpmcaaDoor.pk
