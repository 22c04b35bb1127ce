/-
  Packets: their parts by what they do.
-/
import Derived.Test.YthjdlanmfiofdaaDoorPkF
namespace Go.Proofs.YthjdlanmfiofdaaDoor.pk
open Go Go.Nx

/-- The bytes of a slice. -/
def asL : NC → Option (List Int)
  | .sn => some []
  | .l .u8 xs => some xs
  | _ => none
theorem asL_cases {a : NC} {xs : List Int} (h : asL a = some xs) : (a = .sn ∧ xs = []) ∨ a = .l .u8 xs := by
  unfold asL at h
  split at h
  · cases h; exact .inl ⟨rfl, rfl⟩
  · cases h; exact .inr rfl
  · cases h
noncomputable def sameBody : Option (List Int) → Option (List Int) → Tr Out
  | some xs, some ys => .must (xs.length ≤ 1000000) (.ret (oB (xs == ys)))
  | _, _ => .fail
noncomputable def tSame : Con := fun args regs => match args, regs with
  | [.c a, .c b], [] => sameBody (asL a) (asL b)
  | _, _ => .fail
theorem same_in {a b : NC} {xs ys : List Int} {R : Out → Prop} (ha : asL a = some xs) (hb : asL b = some ys) (hm : xs.length ≤ 1000000) (hR : R (oB (xs == ys))) : Box ((tSame0 [.c a, .c b] []).run R) := by
  have ne : xs.length ≠ ys.length → R (oB false) := fun hn => by
    have : (xs == ys) = false := by
      rw [beq_eq_false_iff_ne]
      rintro rfl
      exact hn rfl
    rw [this] at hR
    exact hR
  rcases asL_cases ha with ⟨rfl, rfl⟩ | rfl
  · rcases asL_cases hb with ⟨rfl, rfl⟩ | rfl
    · exact Box.of_eq (same_nn R) hR
    · refine Box.of_eq (same_nl ys R) ?_
      cases ys with
      | nil => exact hR
      | cons y ys => exact selT (by simp [bne]; omega) (ne (by simp))
  · rcases asL_cases hb with ⟨rfl, rfl⟩ | rfl
    · refine Box.of_eq (same_ln xs R) ?_
      cases xs with
      | nil => exact selF (by simp) (selF (by simp) hR)
      | cons y ys => exact selT (by simp [bne]; omega) (ne (by simp))
    · refine Box.of_eq (same_tree xs ys R) ?_
      by_cases hl : xs.length = ys.length
      · refine selF (by simp [bne, hl]) ⟨⟨hl, hm, Int.le_refl _, by omega⟩, ?_⟩
        have e : ∀ l : List Int, l.drop (0 : Int).toNat = l := fun l => rfl
        rw [e, e]
        cases h : (xs == ys) with
        | true => rw [h] at hR; exact hR
        | false => rw [h] at hR; exact hR
      · refine selT ?_ (ne hl)
        rw [bne_iff_ne]
        omega
set_option maxRecDepth 100000 in
theorem kSame : Known Tryd.prog [] 23 tSame := by
  refine kSame0.less fun args regs R h => Box.out ?_
  unfold tSame at h
  split at h
  case h_2 => exact h.elim
  rename_i a b
  cases ha : asL a with
  | none => rw [ha] at h; exact h.elim
  | some xs =>
    cases hb : asL b with
    | none => rw [ha, hb] at h; exact h.elim
    | some ys =>
      rw [ha, hb] at h
      exact same_in ha hb h.1 h.2
/-- Two bytes, others behind them. -/
def oC (a b : Int) (ds : List Int) : Out := ⟨.v (.c (.h 2 0 (2 + ds.length))), [some ⟨1, 22, .cells [.h 1 0 2, .l .u8 ds]⟩, some ⟨1, 5, .ints .u8 [a, b]⟩, some ⟨1, 5, .ints .u8 ([a, b] ++ ds)⟩]⟩
theorem bytes1 : bytesT Tryd.prog 5 = 1 := by kernel_rfl
noncomputable def nC (ds : List Int) : Int := IntKind.i64.wrap (IntKind.i64.wrap (0 + ((2 : Nat) : Int)) + (ds.length : Int))
theorem concat_tree (a b : Int) (ds : List Int) (R : Out → Prop) : (t_concat [.c (.h 0 0 2)] [⟨1, 22, .cells [.h 1 0 2, .l .u8 ds]⟩, ⟨1, 5, .ints .u8 [a, b]⟩]).run R =
    sel (decide (nC ds < 0)) False (sel (decide (nC ds < 0)) False (sel (decide (IntKind.i64.wrap (nC ds - IntKind.i64.wrap (0 - 0)) > 0))
      (sel (decide (0 < IntKind.i64.wrap (nC ds - IntKind.i64.wrap (0 - 0)))) (sel (decide ((IntKind.i64.wrap (nC ds - IntKind.i64.wrap (0 - 0))).toNat * bytesT Tryd.prog 5 ≤ 140737488355328)) (sel (decide (IntKind.i64.wrap (nC ds - IntKind.i64.wrap (0 - 0)) ≤ 9223372036854775807))
        (sel (decide ((2 + ds.length) * bytesT Tryd.prog 5 ≤ 140737488355328)) (sel (decide (2 + ds.length ≤ 9223372036854775807)) (R (oC a b ds)) False) False) False) False) False)
      (sel (decide ((2 + ds.length) * bytesT Tryd.prog 5 ≤ 140737488355328)) (sel (decide (2 + ds.length ≤ 9223372036854775807)) (R (oC a b ds)) False) False))) := by kernel_rfl
end Go.Proofs.YthjdlanmfiofdaaDoor.pk
