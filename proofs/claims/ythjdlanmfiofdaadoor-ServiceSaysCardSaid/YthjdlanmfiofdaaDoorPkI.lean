/-
  Packets: a packet's bytes.
-/
import Derived.Test.YthjdlanmfiofdaaDoorPkH
namespace Go.Proofs.YthjdlanmfiofdaaDoor.pk
open Go Go.Nx

noncomputable def adr0 (mag row : Int) : Int := put (bits .or .i64 (mag.tmod 8) (IntKind.i64.wrap (bits .and .i64 row 1 * 8)))
noncomputable def adr1 (row : Int) : Int := put (shrv .i64 row 1)
def oEr (k : Nat) : Out := ⟨.tu [.c .sn, .c (.e k)], []⟩
noncomputable def oBy (mag row : Int) (ds : List Int) : Out := ⟨.tu [.c (.h 0 0 (2 + ds.length)), .c .en], [some ⟨1, 5, .ints .u8 (adr0 mag row :: adr1 row :: ds)⟩]⟩
theorem bytes_tree (mag row : Int) (ds : List Int) (R : Out → Prop) : (t_bytes [.c (.i .i64 mag), .c (.i .i64 row), .c (.l .u8 ds)] []).run R =
    sel (decide (mag ≥ 1)) (sel (!decide (mag ≤ 8)) (R (oEr 3)) (sel (decide (row < 0)) (R (oEr 3)) (sel (decide (row > 31)) (R (oEr 3)) (sel ((ds.length : Int) != 40) (R (oEr 0)) (ds.length ≤ 1000000 ∧ R (oBy mag row ds)))))) (R (oEr 3)) := by kernel_rfl
/-- May a packet of this magazine and row be? -/
def okMR (mag row : Int) : Bool := decide (1 ≤ mag ∧ mag ≤ 8 ∧ 0 ≤ row ∧ row ≤ 31)
noncomputable def tBytes : Con := fun args regs => match args, regs with
  | [.c (.i .i64 mag), .c (.i .i64 row), .c (.l .u8 ds)], [] => .br (okMR mag row) (.br (decide (ds.length = 40)) (.ret (oBy mag row ds)) (.ret (oEr 0))) (.ret (oEr 3))
  | _, _ => .fail
theorem bytes_in {mag row : Int} {ds : List Int} {R : Out → Prop} (h : sel (okMR mag row) (sel (decide (ds.length = 40)) (R (oBy mag row ds)) (R (oEr 0))) (R (oEr 3))) : Box ((t_bytes [.c (.i .i64 mag), .c (.i .i64 row), .c (.l .u8 ds)] []).run R) := by
  refine Box.of_eq (bytes_tree mag row ds R) ?_
  rcases sel_iff.1 h with ⟨c, h⟩ | ⟨c, h⟩
  · have c := of_decide_eq_true c
    refine selT (dT c.1) (selF (by simp; omega) (selF (dF (by omega)) (selF (dF (by omega)) ?_)))
    rcases sel_iff.1 h with ⟨c, h⟩ | ⟨c, h⟩
    · have c := of_decide_eq_true c
      exact selF (by simp [bne, c]) ⟨by omega, h⟩
    · have c := of_decide_eq_false c
      exact selT (by rw [bne_iff_ne]; omega) h
  · have c := of_decide_eq_false c
    refine sel_by (fun h1 => ?_) fun _ => h
    by_cases h8 : mag ≤ 8
    · refine selF (by simp [h8]) (sel_by (fun _ => h) fun h3 => sel_by (fun _ => h) fun h4 => ?_)
      exact (c ⟨h1, h8, by omega, by omega⟩).elim
    · exact selT (by simp; omega) h
set_option maxRecDepth 100000 in
theorem kBytes : Known Tryd.prog GL 28 tBytes := by
  refine k_bytes.less fun args regs R h => Box.out ?_
  unfold tBytes at h
  split at h
  case h_2 => exact h.elim
  rename_i mag row ds
  exact bytes_in h
noncomputable def tKind : Con := fun args regs => match args, regs with
  | [.c (.i .i64 row)], [] => .ret ⟨.v (.c (.i .i64 (kindF row))), []⟩
  | _, _ => .fail
theorem kind_in {row : Int} {R : Out → Prop} (h : R ⟨.v (.c (.i .i64 (kindF row))), []⟩) : Box ((t_kind [.c (.i .i64 row)] []).run R) := by
  refine Box.of_eq (kind_tree row R) ?_
  unfold kindF at h
  have key : R ⟨.v (.c (.i .i64 (bif decide (row ≥ 26) && decide (row ≤ 30) then row - 23 else 0))), []⟩ → sel (decide (row ≥ 26)) (sel (decide (row ≤ 30)) (sel (decide (0 ≤ IntKind.i64.wrap (row - 26))) (sel (decide (IntKind.i64.wrap (row - 26) < ((5 : Nat) : Int))) (sel (decide (0 + (IntKind.i64.wrap (row - 26)).toNat < 5)) (R ⟨.v (.c (.i .i64 ([3, 4, 5, 6, 7].getD (0 + (IntKind.i64.wrap (row - 26)).toNat) 0))), []⟩) False) False) False) (R ⟨.v (.c (.i .i64 0)), []⟩)) (R ⟨.v (.c (.i .i64 0)), []⟩) := by
    intro h
    refine sel_by (fun h1 => sel_by (fun h2 => ?_) fun h2 => ?_) fun h1 => ?_
    · have : row = 26 ∨ row = 27 ∨ row = 28 ∨ row = 29 ∨ row = 30 := by omega
      rcases this with rfl | rfl | rfl | rfl | rfl <;> exact h
    · rw [dT h1, dF h2] at h; exact h
    · rw [dF h1] at h; exact h
  by_cases h0 : row = 0
  · subst h0; exact h
  · rw [dF h0] at h
    refine selF (by simpa using h0) (sel_by (fun h1 => sel_by (fun h2 => ?_) fun h2 => ?_) fun h1 => ?_)
    · rw [dT h1, dT h2] at h; exact h
    · rw [dT h1, dF h2] at h; exact key h
    · rw [dF h1] at h; exact key h
set_option maxRecDepth 100000 in
theorem kKind : Known Tryd.prog [] 59 tKind := by
  refine k_kind.less fun args regs R h => Box.out ?_
  unfold tKind at h
  split at h
  case h_2 => exact h.elim
  exact kind_in h
theorem kg_kind : Known Tryd.prog GL 59 tKind := known_gl kKind
noncomputable def c_read : FuncId → Option Con := conOf [(58, tOpen), (59, tKind), (60, tClone), (61, tGet)]
theorem kc_read : ∀ f T, c_read f = some T → Known Tryd.prog GL f T := (Knowns.cons kg_open (.cons kg_kind (.cons kg_clone (.cons kg_get .nil)))).get
noncomputable def t_read : Con := fun args regs => nfun Tryd.prog GL c_read [] Tryd.f15 args regs
theorem k_read : Known Tryd.prog GL 15 t_read := known_inl Tryd.func15 rfl (by kernel_rfl) mixed kc_read (by kernel_rfl)
end Go.Proofs.YthjdlanmfiofdaaDoor.pk
