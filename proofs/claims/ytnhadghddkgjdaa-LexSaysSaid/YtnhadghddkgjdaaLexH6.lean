/-
  The document's lexer: a byte, one shape.
-/
import Derived.Test.YtnhadghddkgjdaaLexH5
set_option linter.unusedVariables false
namespace Go.Proofs.Ytnhadghddkgjdaa.lxr
open Go Go.Nx Go.Proofs.Ytnhadghddkgjdaa.lex Go.Proofs.Ytnhadghddkgjdaa.lxv

def rctP (s c : Int) (P : List Int) (R : Out → Prop) : Prop := in5 c ∧
  sel (beg c) (R ⟨.v (.c (.h 3 0 1)), [some (rx (.h 2 0 1) s), some (arr P), some (arr [c]), some (evR [ignR])]⟩)
   (sel (shf c) (R ⟨.v (.c (.h 2 0 1)), [some (rx .sn (shC c)), some (arr P), some (evR [ignR])]⟩)
    (R ⟨.v (.c (.h 2 0 2)), [some (rx .sn s), some (arr P), some (evR [ignR, ctlR c])]⟩))
def rctQ (s c : Int) (P : List Int) (R : Out → Prop) : Prop := in5 c ∧
  sel (beg c) (R ⟨.v (.c .sn), [some (rx (.h 2 0 1) s), some (arr P), some (arr [c])]⟩)
   (sel (shf c) (R ⟨.v (.c .sn), [some (rx (.hz 1 P.length) (shC c)), some (arr P)]⟩)
    (R ⟨.v (.c (.h 2 0 1)), [some (rx (.hz 1 P.length) s), some (arr P), some (evR [ctlR c])]⟩))
def rctl (s c : Int) (P : List Int) (R : Out → Prop) : Prop := sel (decide ((P.length : Int) > 0)) (rctP s c P R) (rctQ s c P R)
def sevR (l : List Int) : List Sc := [.i (l.getD 0 0), .i (l.getD 1 0), .i (l.getD 2 0), .i (l.getD 3 0), .i (l.getD 4 0), .i (l.getD 5 0), .i (l.getD 6 0)]
noncomputable def rgo (s : Int) (P M E Q : List Int) (R : Out → Prop) : Prop :=
  sel (decide (P.length ≤ P.length)) ((M.length ≤ 100) ∧ sel (decide (0 + M.length ≤ M.length)) (sel (decide ((M.length + 1) * 1 ≤ 140737488355328)) (sel (decide (M.length + 1 ≤ 9223372036854775807)) (sel (decide (0 + (M.length + 1) ≤ E.length))
   ((okR Q.dropLast ∧ Q ≠ [] ∧ 32 ≤ Q.getD (Q.length - 1) 0 ∧ Q.getD (Q.length - 1) 0 < 128) ∧
    sel (goOn Q.dropLast (Q.getD (Q.length - 1) 0)) (R ⟨.v (.c .sn), [some (rx (.h 2 0 (M.length + 1)) s), some (arr P), some (arr E)]⟩)
     (R ⟨.v (.c (.h 2 0 1)), [some (rx .sn s), some (arr P), some (evR [sevR (rE Q.dropLast (Q.getD (Q.length - 1) 0))])]⟩)) False) False) False) False) False
noncomputable def rgoC (s c : Int) (P M : List Int) (R : Out → Prop) : Prop :=
  rgo s P M (List.take M.length (List.drop 0 M) ++ [c]) (List.take (M.length + 1) (List.drop 0 (List.take M.length (List.drop 0 M) ++ [c]))) R
theorem rbyte_tree (s b : Int) (P : List Int) (R : Out → Prop) : (t_rbyte [.c (.p 0 0 0), .c (.i .u8 b)] [rx (.hz 1 P.length) s, arr P]).run R =
    ((0 ≤ b ∧ b < 256) ∧ sel (!isEv b) (rctl s 26 P R) (sel (decide (cB b < 32)) (rctl s (cB b) P R)
     (sel ((P.length : Int) == 0) (R ⟨.v (.c (.h 2 0 1)), [some (rx (.hz 1 P.length) s), some (arr P), some (evR [ev 1 0 0 0 0 s (w64 (cB b))])]⟩)
      (rgoC s (cB b) P (List.take P.length P) R)))) := by kernel_rfl
/-! ### one shape -/
def rzR (P : List Int) (s : Int) : List (Option Reg) := [some (rx (.hz 5 P.length) s), none, none, none, none, some (arr P)]
theorem rfA {R : Out → Prop} {x : NS} {s : Int} {rg : List (Option Reg)} (hl : rg.length ≤ 5) (h0 : rg[0]? = some (some (rx .sn s))) (h : R ⟨x, rzR [] s⟩) : wf R ⟨x, rg⟩ := by
  refine ⟨_, (ltF (rg' := [some (rx .sn s), none, none, none, none]) hl rfl ?_ x).trans (WeakF.nil (r := 0) (j := 0) (xs := [.sn, .i .i64 s]) (g := arr []) (.inl ⟨_, rfl⟩) rfl rfl), h⟩
  intro n hn g hg
  match n, hg with
  | 0, hg => cases hg; exact h0
  | 1, hg => cases hg
  | 2, hg => cases hg
  | 3, hg => cases hg
  | 4, hg => cases hg
  | n + 5, _ => omega
theorem rfB {R : Out → Prop} {x : NS} {s : Int} {P : List Int} {rg : List (Option Reg)} (hl : rg.length ≤ 5) (h0 : rg[0]? = some (some (rx (.h 2 0 P.length) s))) (h1 : rg[2]? = some (some (arr P))) (h : R ⟨x, rzR P s⟩) : wf R ⟨x, rg⟩ := by
  refine ⟨_, (ltF (rg' := [some (rx (.h 2 0 P.length) s), none, some (arr P), none, none]) hl rfl ?_ x).trans (WeakF.hz (r := 0) (k := 2) (j := 0) (n := P.length) (xs := [.h 2 0 P.length, .i .i64 s]) (g := arr P) (by decide) rfl rfl rfl), h⟩
  intro n hn g hg
  match n, hg with
  | 0, hg => cases hg; exact h0
  | 1, hg => cases hg
  | 2, hg => cases hg; exact h1
  | 3, hg => cases hg
  | 4, hg => cases hg
  | n + 5, _ => omega
/-- A row that may be nil, moved. -/
theorem rfZ {R : Out → Prop} {x : NS} {s : Int} {P : List Int} {rg : List (Option Reg)} (hl : rg.length ≤ 5) (h0 : rg[0]? = some (some (rx (.hz 1 P.length) s))) (h1 : rg[1]? = some (some (arr P))) (h : R ⟨x, rzR P s⟩) : wf R ⟨x, rg⟩ := by
  refine ⟨_, (ltF (rg' := [some (rx (.hz 1 P.length) s), some (arr P), none, none, none]) hl rfl ?_ x).trans (WeakF.hz2 (r := 0) (k := 1) (j := 0) (n := P.length) (xs := [.hz 1 P.length, .i .i64 s]) (g := arr P) (by decide) rfl rfl rfl), h⟩
  intro n hn g hg
  match n, hg with
  | 0, hg => cases hg; exact h0
  | 1, hg => cases hg; exact h1
  | 2, hg => cases hg
  | 3, hg => cases hg
  | 4, hg => cases hg
  | n + 5, _ => omega
noncomputable def outR (P : List Int) (s c : Int) : Out := ⟨rows (evts P s c), rzR (pend P c) (shft s c)⟩
theorem rctl_facts (P : List Int) (s c : Int) (h32 : c < 32) :
    (beg c = true → outR P s c = ⟨rows (if P = [] then [] else [ignR]), rzR [c] s⟩) ∧
    (beg c = false → shf c = true → outR P s c = ⟨rows (if P = [] then [] else [ignR]), rzR [] (shC c)⟩) ∧
    (beg c = false → shf c = false → outR P s c = ⟨rows ((if P = [] then [] else [ignR]) ++ [ctlR c]), rzR [] s⟩) := by
  obtain ⟨f1, f2, f3⟩ := ctl_facts P s c h32
  have e : ∀ (l : List (List Sc)) (p : List Int) (t : Int), outH P s c = ⟨rows l, hzR p t⟩ → outR P s c = ⟨rows l, rzR p t⟩ := fun l p t h => by
    unfold outH at h
    unfold outR
    injection h with h1 h2
    unfold hzR at h2
    injection h2 with h3 h4
    injection h4 with h5 h6
    injection h6 with h7 h8
    injection h8 with h9 h10
    injection h10 with h11 h12
    injection h12 with h13 h14
    injection h13 with h13
    unfold arr at h13
    injection h13 with _ _ h15
    injection h15 with _ h16
    injection h3 with h3
    unfold lx at h3
    injection h3 with _ _ h17
    injection h17 with h17
    injection h17 with h18 h19
    injection h19 with h20 h21
    injection h20 with _ h22
    rw [h1, h16, h22]
  exact ⟨fun hb => e _ _ _ (f1 hb), fun hb hs => e _ _ _ (f2 hb hs), fun hb hs => e _ _ _ (f3 hb hs)⟩
theorem rctl_in {s c : Int} {P : List Int} {R : Out → Prop} (hc : in5 c) (h : R (outR P s c)) : rctl s c P (wf R) := by
  obtain ⟨f1, f2, f3⟩ := rctl_facts P s c hc.2
  unfold rctl
  refine sel_by (fun hl => ⟨hc, ?_⟩) fun hl => ⟨hc, ?_⟩
  · have hP : P ≠ [] := fun e => by rw [e] at hl; simp at hl
    by_cases hb : beg c = true
    · rw [f1 hb, if_neg hP] at h
      exact selT hb (wfR (k := 3) (l := [ignR]) rfl (rfB (P := [c]) (Nat.le_of_ble_eq_true rfl) rfl rfl h))
    have hb : beg c = false := by simpa using hb
    refine selF hb ?_
    by_cases hs : shf c = true
    · rw [f2 hb hs, if_neg hP] at h
      exact selT hs (wfR (k := 2) (l := [ignR]) rfl (rfA (Nat.le_of_ble_eq_true rfl) rfl h))
    have hs : shf c = false := by simpa using hs
    rw [f3 hb hs, if_neg hP] at h
    exact selF hs (wfR (k := 2) (l := [ignR, ctlR c]) rfl (rfA (Nat.le_of_ble_eq_true rfl) rfl h))
  · have hP : P = [] := List.eq_nil_of_length_eq_zero (by omega)
    subst hP
    by_cases hb : beg c = true
    · rw [f1 hb, if_pos rfl] at h
      exact selT hb (wfN (rfB (P := [c]) (Nat.le_of_ble_eq_true rfl) rfl rfl h))
    have hb : beg c = false := by simpa using hb
    refine selF hb ?_
    by_cases hs : shf c = true
    · rw [f2 hb hs, if_pos rfl] at h
      exact selT hs (wfN (rfZ (P := []) (Nat.le_of_ble_eq_true rfl) rfl rfl h))
    have hs : shf c = false := by simpa using hs
    rw [f3 hb hs, if_pos rfl] at h
    exact selF hs (wfR (k := 2) (l := [ctlR c]) rfl (rfZ (P := []) (Nat.le_of_ble_eq_true rfl) rfl rfl h))
end Go.Proofs.Ytnhadghddkgjdaa.lxr
