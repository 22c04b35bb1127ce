/-
  Packets: what is put together, what is taken over, by what they do.
-/
import Derived.Test.YthjdlanmfiofdaaDoorPkG
namespace Go.Proofs.YthjdlanmfiofdaaDoor.pk
open Go Go.Nx

noncomputable def tConcat : Con := fun args regs => match args, regs with
  | [.c (.h 0 0 2)], [⟨1, 22, .cells [.h 1 0 2, .l .u8 ds]⟩, ⟨1, 5, .ints .u8 [a, b]⟩] => .must (ds.length ≤ 1000000) (.ret (oC a b ds))
  | _, _ => .fail
set_option maxRecDepth 100000 in
theorem kConcat : Known Tryd.prog [] 72 tConcat := by
  refine k_concat.less fun args regs R h => Box.out ?_
  unfold tConcat at h
  split at h
  case h_2 => exact h.elim
  rename_i ds a b
  have h1 := h.1
  have h2 : R (oC a b ds) := h.2
  clear h
  have n0 : nC ds = 2 + ds.length := by
    unfold nC
    have w1 : IntKind.i64.wrap (0 + ((2 : Nat) : Int)) = 2 := by decide
    rw [w1, IntKind.wrap_i64]
    omega
  have n1 : IntKind.i64.wrap (nC ds - IntKind.i64.wrap (0 - 0)) = 2 + ds.length := by
    have w1 : IntKind.i64.wrap (0 - 0) = 0 := by decide
    rw [n0, w1, IntKind.wrap_i64]
    omega
  refine Box.of_eq (concat_tree a b ds R) ?_
  rw [n1, n0, bytes1]
  exact selF (dF (by omega)) (selF (dF (by omega)) (selT (dT (by omega)) (selT (dT (by omega)) (selT (dT (by omega)) (selT (dT (by omega)) (selT (dT (by omega)) (selT (dT (by omega)) h2)))))))
/-- A row of its own. -/
def oL (ds : List Int) : Out := ⟨.v (.c (.h 0 0 ds.length)), [some ⟨1, 5, .ints .u8 ds⟩]⟩
theorem clone_tree (ds : List Int) (R : Out → Prop) : (t_bclone [.c (.l .u8 ds)] []).run R =
    sel (!ds.isEmpty) (sel (decide ((0 + ds.length) * bytesT Tryd.prog 5 ≤ 140737488355328)) (sel (decide (0 + ds.length ≤ 9223372036854775807)) (R ⟨.v (.c (.h 0 0 (0 + ds.length))), [some ⟨1, 5, .ints .u8 ds⟩]⟩) False) False) False := by kernel_rfl
noncomputable def tClone : Con := fun args regs => match args, regs with
  | [.c (.l .u8 ds)], [] => .must (0 < ds.length ∧ ds.length ≤ 1000000) (.ret (oL ds))
  | _, _ => .fail
set_option maxRecDepth 100000 in
theorem kClone : Known Tryd.prog [] 60 tClone := by
  refine k_bclone.less fun args regs R h => Box.out ?_
  unfold tClone at h
  split at h
  case h_2 => exact h.elim
  rename_i ds
  have h1 := h.1
  have h2 : R (oL ds) := h.2
  clear h
  refine Box.of_eq (clone_tree ds R) ?_
  rw [Nat.zero_add, bytes1]
  refine selT ?_ (selT (dT (by omega)) (selT (dT (by omega)) h2))
  cases ds with
  | nil => simp at h1
  | cons _ _ => rfl
theorem kg_concat : Known Tryd.prog GL 72 tConcat := known_gl kConcat
theorem kg_clone : Known Tryd.prog GL 60 tClone := known_gl kClone
theorem kg_mag : Known Tryd.prog GL 68 t_mag := known_gl k_mag
theorem kg_row : Known Tryd.prog GL 69 t_row := known_gl k_row
theorem kg_open : Known Tryd.prog GL 58 tOpen := known_gl kOpen
theorem kg_get : Known Tryd.prog GL 61 tGet := known_gl kGet
theorem kg_same : Known Tryd.prog GL 23 tSame := known_gl kSame
noncomputable def c_bytes : FuncId → Option Con := conOf [(68, t_mag), (69, t_row), (72, tConcat)]
theorem kc_bytes : ∀ f T, c_bytes f = some T → Known Tryd.prog GL f T := (Knowns.cons kg_mag (.cons kg_row (.cons kg_concat .nil))).get
noncomputable def t_bytes : Con := fun args regs => nfun Tryd.prog GL c_bytes [] Tryd.f28 args regs
theorem k_bytes : Known Tryd.prog GL 28 t_bytes := known_inl Tryd.func28 rfl (by kernel_rfl) mixed kc_bytes (by kernel_rfl)
/-- What a row is. -/
def kindF (row : Int) : Int := bif decide (row = 0) then 1 else bif decide (row ≥ 1) && decide (row ≤ 24) then 2 else bif decide (row ≥ 26) && decide (row ≤ 30) then row - 23 else 0
theorem kind_tree (row : Int) (R : Out → Prop) : (t_kind [.c (.i .i64 row)] []).run R =
    sel (row == 0) (R ⟨.v (.c (.i .i64 1)), []⟩) (sel (decide (row ≥ 1)) (sel (decide (row ≤ 24)) (R ⟨.v (.c (.i .i64 2)), []⟩) (sel (decide (row ≥ 26)) (sel (decide (row ≤ 30)) (sel (decide (0 ≤ IntKind.i64.wrap (row - 26))) (sel (decide (IntKind.i64.wrap (row - 26) < ((5 : Nat) : Int))) (sel (decide (0 + (IntKind.i64.wrap (row - 26)).toNat < 5)) (R ⟨.v (.c (.i .i64 ([3, 4, 5, 6, 7].getD (0 + (IntKind.i64.wrap (row - 26)).toNat) 0))), []⟩) False) False) False) (R ⟨.v (.c (.i .i64 0)), []⟩)) (R ⟨.v (.c (.i .i64 0)), []⟩)))
      (sel (decide (row ≥ 26)) (sel (decide (row ≤ 30)) (sel (decide (0 ≤ IntKind.i64.wrap (row - 26))) (sel (decide (IntKind.i64.wrap (row - 26) < ((5 : Nat) : Int))) (sel (decide (0 + (IntKind.i64.wrap (row - 26)).toNat < 5)) (R ⟨.v (.c (.i .i64 ([3, 4, 5, 6, 7].getD (0 + (IntKind.i64.wrap (row - 26)).toNat) 0))), []⟩) False) False) False) (R ⟨.v (.c (.i .i64 0)), []⟩)) (R ⟨.v (.c (.i .i64 0)), []⟩))) := by kernel_rfl
end Go.Proofs.YthjdlanmfiofdaaDoor.pk
