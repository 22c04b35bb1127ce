/-
  LinksOther: the law's tree, the magazine and the number given.
-/
import Derived.Test.YthjdlanmfiofdaaDoorLnA
import Derived.Test.YthjdlanmfiofdaaDoorNum
namespace Go.Proofs.YthjdlanmfiofdaaDoor.ln
open Go Go.Nx Go.Proofs.YthjdlanmfiofdaaDoor.pk

/-- Which magazine, which number came in. -/
def tNumP (i j : Int) : Con := fun args regs => match args, regs with
  | [.c (.i .i64 n), .c (.i .i64 m)], [] => (match decide (m = 8) with
    | true => .must (n % 8 = i) (.ret ⟨.v (.c (.i .i64 i)), []⟩)
    | false => .must (m = 3 ∧ n % 3 = j) (.ret ⟨.v (.c (.i .i64 j)), []⟩))
  | _, _ => .fail
set_option maxRecDepth 100000 in
theorem kNumP (i j : Int) : Known Tryd.prog [] 26 (tNumP i j) := by
  refine num.kNumV.less fun args regs R h => ?_
  unfold tNumP at h
  split at h
  case h_2 => exact h.elim
  rename_i n m
  by_cases hm : m = 8
  · subst hm
    have h : (n % 8 = i) ∧ R ⟨.v (.c (.i .i64 i)), []⟩ := h
    refine ⟨by omega, ?_⟩
    show R ⟨.v (.c (.i .i64 (n % 8))), []⟩
    rw [h.1]; exact h.2
  · rw [dF hm] at h
    have h : (m = 3 ∧ n % 3 = j) ∧ R ⟨.v (.c (.i .i64 j)), []⟩ := h
    obtain ⟨⟨h3, hj⟩, h2⟩ := h
    subst h3
    refine ⟨by omega, ?_⟩
    show R ⟨.v (.c (.i .i64 (n % 3))), []⟩
    rw [hj]; exact h2
end Go.Proofs.YthjdlanmfiofdaaDoor.ln
