/-
  The whole answers; the chapter's examples.
-/
import Derived.Test.YtjfgphfdaghilaaGreatDoorVnD
set_option linter.unusedVariables false
namespace Go.Proofs.YtjfgphfdaghilaaGreatDoor.vn
open Go Go.Nx Go.Proofs.YtjfgphfdaghilaaGreatDoor.pk Go.Proofs.YtjfgphfdaghilaaGreatDoor.ac

def bO (x : Bool) : Out := ⟨.v (.c (.b x)), []⟩
noncomputable def tYes : Con := fun args regs => match args, regs with
  | [], [] => .ret (bO true)
  | _, _ => .fail
set_option maxRecDepth 100000 in
theorem works_tree (R : Out → Prop) : (t_works [] []).run R = same (rgVt 3 50) (R (bO true)) := by kernel_rfl
section
attribute [local irreducible] t_works
theorem kYes_works : Known Tryz.prog GL 7 tYes := by
  refine k_works.less fun args regs R h => Box.out ?_
  unfold tYes at h
  split at h
  case h_2 => exact h.elim
  exact Box.of_eq (works_tree R) (same_in h)
end
set_option maxRecDepth 100000 in
theorem first_tree (R : Out → Prop) : (t_first [] []).run R = same (rgVt 10 100) (R (bO true)) := by kernel_rfl
section
attribute [local irreducible] t_first
theorem kYes_first : Known Tryz.prog GL 24 tYes := by
  refine k_first.less fun args regs R h => Box.out ?_
  unfold tYes at h
  split at h
  case h_2 => exact h.elim
  exact Box.of_eq (first_tree R) (same_in h)
end
noncomputable def c_news : FuncId → Option Con := conOf [(24, tYes), (25, tVtNew), (27, tShotZ), (26, t_is)]
theorem kc_news : ∀ f T, c_news f = some T → Known Tryz.prog GL f T := (Knowns.cons kYes_first (.cons kVtNew (.cons kShotZ (.cons k_is .nil)))).get
noncomputable def t_news : Con := fun args regs => nfun Tryz.prog GL c_news [] Tryz.f5 args regs
theorem k_news : Known Tryz.prog GL 5 t_news := known_inl Tryz.func5 rfl (by kernel_rfl) mixed kc_news (by kernel_rfl)
/-- Are the numbers such that there is a terminal? -/
def gd (n m : Int) (X Y : Prop) : Prop := sel (decide (n ≥ 1)) (sel (decide (n ≤ 800)) (sel (decide (m ≥ 1)) (sel (!decide (m ≤ 4096)) Y X) Y) Y) Y
set_option maxRecDepth 100000 in
theorem news_tree (n m : Int) (R : Out → Prop) : (t_news [.c (.i .i64 n), .c (.i .i64 m)] []).run R =
    sel (decide (n < 1)) (gd n m (R (bO false)) (R (bO true))) (sel (decide (n > 800)) (gd n m (R (bO false)) (R (bO true))) (sel (decide (m < 1)) (gd n m (R (bO false)) (R (bO true))) (sel (decide (m > 4096)) (gd n m (R (bO false)) (R (bO true)))
      (gd n m (same (rgVt n m) (same (rgVt n m) (R (bO true)))) (R (bO false)))))) := by kernel_rfl
theorem sel_by2 {c : Bool} {p q : Prop} (h1 : c = true → p) (h2 : c = false → q) : sel c p q := by
  cases c
  · exact sel_iff.2 (.inr ⟨rfl, h2 rfl⟩)
  · exact sel_iff.2 (.inl ⟨rfl, h1 rfl⟩)
theorem gd_no {n m : Int} {X Y : Prop} (h : ¬ (1 ≤ n ∧ n ≤ 800 ∧ 1 ≤ m ∧ m ≤ 4096)) (hY : Y) : gd n m X Y := by
  refine sel_by2 (fun h1 => sel_by2 (fun h2 => sel_by2 (fun h3 => sel_by2 (fun h4 => hY) fun h4 => ?_) fun _ => hY) fun _ => hY) fun _ => hY
  have h1 := of_decide_eq_true h1
  have h2 := of_decide_eq_true h2
  have h3 := of_decide_eq_true h3
  have h4 : m ≤ 4096 := by simpa using h4
  exact absurd ⟨h1, h2, h3, h4⟩ h
theorem gd_yes {n m : Int} {X Y : Prop} (h : 1 ≤ n ∧ n ≤ 800 ∧ 1 ≤ m ∧ m ≤ 4096) (hX : X) : gd n m X Y := by
  obtain ⟨h1, h2, h3, h4⟩ := h
  unfold gd
  rw [decide_eq_true (show n ≥ 1 from h1), decide_eq_true h2, decide_eq_true (show m ≥ 1 from h3), decide_eq_true h4]
  exact sel_iff.2 (.inl ⟨rfl, sel_iff.2 (.inl ⟨rfl, sel_iff.2 (.inl ⟨rfl, sel_iff.2 (.inr ⟨rfl, hX⟩)⟩)⟩)⟩)
theorem news_in (n m : Int) (R : Out → Prop) (hR : R (bO true)) : Box ((t_news [.c (.i .i64 n), .c (.i .i64 m)] []).run R) := by
  refine Box.of_eq (news_tree n m R) (sel_by2 (fun h => gd_no ?_ hR) fun h1 => sel_by2 (fun h => gd_no ?_ hR) fun h2 => sel_by2 (fun h => gd_no ?_ hR) fun h3 => sel_by2 (fun h => gd_no ?_ hR) fun h4 => gd_yes ?_ (same_in (same_in hR)))
  · have := of_decide_eq_true h; omega
  · have := of_decide_eq_true h; omega
  · have := of_decide_eq_true h; omega
  · have := of_decide_eq_true h; omega
  · have := of_decide_eq_false h1
    have := of_decide_eq_false h2
    have := of_decide_eq_false h3
    have := of_decide_eq_false h4
    omega
section
attribute [local irreducible] t_news
theorem news_holds (n m : Int) : Holds (t_news [.c (.i .i64 n), .c (.i .i64 m)] []) fun o => o.res = .v (.c (.b true)) := ⟨Box.out (news_in n m _ rfl)⟩
end
def shsN : List Sh := [.i .i64, .i .i64]
theorem news_law (xs : List NV) (h : R2 ShOk shsN xs) : Holds (t_news xs []) fun o => o.res = .v (.c (.b true)) := by
  cases h with
  | cons h1 h =>
    cases h with
    | cons h2 h =>
      cases h
      cases h1
      cases h2
      exact news_holds _ _
end Go.Proofs.YtjfgphfdaghilaaGreatDoor.vn
