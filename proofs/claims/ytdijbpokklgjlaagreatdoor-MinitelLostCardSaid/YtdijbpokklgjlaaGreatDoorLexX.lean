/-
  The lexer: what is behind an escape, with what is begun as any list.
-/
import Derived.Test.YtdijbpokklgjlaaGreatDoorLexW
set_option linter.unusedVariables false
namespace Go.Proofs.YtdijbpokklgjlaaGreatDoor.lxv
open Go Go.Nx Go.Proofs.YtdijbpokklgjlaaGreatDoor.lex

def escEnd (s c : Int) (P : List Int) (R : Out → Prop) : Prop :=
  sel (decide (c ≥ 64)) (sel (decide (c ≤ 95)) (R (endH s P (ev 6 (w64 c) 0 0 0 0 0))) (R (endH s P ignR))) (R (endH s P ignR))
def escRest (s c : Int) (P : List Int) (R : Out → Prop) : Prop :=
  sel (decide (c < 48)) (sel (decide ((P.length : Int) < 15)) (goB s c P R) (sel (decide (c < 48)) (R (endH s P ignR)) (sel (decide ((P.length : Int) > 1)) (R (endH s P ignR))
    (sel (c == 91) (goB s c P R) (sel (decide (c ≥ 57)) (sel (decide (c ≤ 59)) (goB s c P R) (escEnd s c P R)) (escEnd s c P R))))))
   (sel (decide (c < 48)) (R (endH s P ignR)) (sel (decide ((P.length : Int) > 1)) (R (endH s P ignR))
    (sel (c == 91) (goB s c P R) (sel (decide (c ≥ 57)) (sel (decide (c ≤ 59)) (goB s c P R) (escEnd s c P R)) (escEnd s c P R)))))
theorem esc_tree (s c : Int) (P : List Int) (R : Out → Prop) : (t_escS [.c (.p 0 0 0), .c (.i .u8 c)] [lx (.h 1 0 P.length) s, arr P]).run R =
    sel (decide ((P.length : Int) > 1)) (sel (decide (1 < (P.length : Int))) (sel (decide (0 + Int.toNat 1 < P.length))
     (sel (P.getD 1 0 == 91) (P.length = P.length ∧ ((2 ≤ P.length ∧ P.length ≤ 50) ∧ InBytes P) ∧ sel (seqGo P c) (R (went s (P ++ [c]))) (R (endS s [seqR P c])))
      (sel (decide (P.getD (0 + Int.toNat 1) 0 ≥ 57)) (sel (decide (P.getD (0 + Int.toNat 1) 0 ≤ 59))
        (P.length = P.length ∧ askOk P ∧ sel (askGo P) (R (went s (P ++ [c]))) (R (endS s [askR P c])))
        (escRest s c P R)) (escRest s c P R))) False) False) (escRest s c P R) := by kernel_rfl
def escGo (P : List Int) (c : Int) : Bool :=
  bif decide (1 < P.length ∧ P.getD 1 0 = 91) then seqGo P c else bif decide (1 < P.length ∧ 57 ≤ P.getD 1 0 ∧ P.getD 1 0 ≤ 59) then askGo P else
   decide (c < 48 ∧ P.length < 15 ∨ 48 ≤ c ∧ P.length ≤ 1 ∧ (c = 91 ∨ 57 ≤ c ∧ c ≤ 59))
def escR (P : List Int) (c : Int) : List Sc :=
  if 1 < P.length ∧ P.getD 1 0 = 91 then seqR P c else if 1 < P.length ∧ 57 ≤ P.getD 1 0 ∧ P.getD 1 0 ≤ 59 then askR P c else if 64 ≤ c ∧ c ≤ 95 ∧ P.length ≤ 1 then ev 6 (w64 c) 0 0 0 0 0 else ignR
def escOk (P : List Int) : Prop := P.length ≤ 50 ∧ InBytes P ∧ (1 < P.length → 57 ≤ P.getD 1 0 → P.getD 1 0 ≤ 59 → askOk P)
noncomputable def tEscS : Con := fun args regs => onB args regs fun c s P => .must (escOk P) (.br (escGo P c) (.ret (went s (P ++ [c]))) (.ret (endS s [escR P c])))
theorem sel_if {b : Bool} {A B A' B' : Prop} (h : sel b A B) (ha : A → A') (hb : B → B') : sel b A' B' := by
  cases b
  · exact hb h
  · exact ha h
set_option maxRecDepth 100000 in
theorem kEscS : Known Tryz.prog [] 74 tEscS := by
  refine k_escS.weak fun args regs R h => Box.out ?_
  obtain ⟨c, s, P, rfl, rfl, hq⟩ := onB_in h
  clear h
  have h1 := hq.1
  have h2 : sel (escGo P c) (R (went s (P ++ [c]))) (R (endS s [escR P c])) := hq.2
  clear hq
  show Box ((t_escS [.c (.p 0 0 0), .c (.i .u8 c)] [lx (.h 1 0 P.length) s, arr P]).run (wk R))
  have e1 : Int.toNat 1 = 1 := rfl
  have z1 : 0 + 1 = 1 := rfl
  have h50 := h1.1
  have go : escGo P c = true → goB s c P (wk R) := fun e => ⟨rfl, by omega, wk_refl (by rw [e] at h2; exact h2)⟩
  have en : escGo P c = false → R (endS s [escR P c]) := fun e => by rw [e] at h2; exact h2
  have rest : ¬ (1 < P.length ∧ P.getD 1 0 = 91) → ¬ (1 < P.length ∧ 57 ≤ P.getD 1 0 ∧ P.getD 1 0 ≤ 59) → escRest s c P (wk R) := fun ha hb => by
    have eg : escGo P c = decide (c < 48 ∧ P.length < 15 ∨ 48 ≤ c ∧ P.length ≤ 1 ∧ (c = 91 ∨ 57 ≤ c ∧ c ≤ 59)) := by
      unfold escGo
      rw [dF ha, dF hb]
      rfl
    have er : escR P c = if 64 ≤ c ∧ c ≤ 95 ∧ P.length ≤ 1 then ev 6 (w64 c) 0 0 0 0 0 else ignR := by
      unfold escR
      rw [if_neg ha, if_neg hb]
    rw [eg] at go en
    rw [er] at en
    clear eg er h2
    have e3 : (¬ (c < 48 ∧ P.length < 15 ∨ 48 ≤ c ∧ P.length ≤ 1 ∧ (c = 91 ∨ 57 ≤ c ∧ c ≤ 59))) → ¬ (64 ≤ c ∧ c ≤ 95 ∧ P.length ≤ 1) → wk R (endH s P ignR) := fun h h' => by
      have := en (dF h)
      rw [if_neg h'] at this
      exact wk_endH this
    have e4 : (¬ (c < 48 ∧ P.length < 15 ∨ 48 ≤ c ∧ P.length ≤ 1 ∧ (c = 91 ∨ 57 ≤ c ∧ c ≤ 59))) → (64 ≤ c ∧ c ≤ 95 ∧ P.length ≤ 1) → wk R (endH s P (ev 6 (w64 c) 0 0 0 0 0)) := fun h h' => by
      have := en (dF h)
      rw [if_pos h'] at this
      exact wk_endH this
    have ee : (¬ (c < 48 ∧ P.length < 15 ∨ 48 ≤ c ∧ P.length ≤ 1 ∧ (c = 91 ∨ 57 ≤ c ∧ c ≤ 59))) → P.length ≤ 1 → escEnd s c P (wk R) := fun h h' => by
      unfold escEnd
      exact sel_by (fun _ => sel_by (fun _ => e4 h (by omega)) fun _ => e3 h (by omega)) fun _ => e3 h (by omega)
    have er : ¬ c < 48 → P.length ≤ 1 → sel (c == 91) (goB s c P (wk R)) (sel (decide (c ≥ 57)) (sel (decide (c ≤ 59)) (goB s c P (wk R)) (escEnd s c P (wk R))) (escEnd s c P (wk R))) := fun h hl => by
      by_cases h91 : c = 91
      · exact selT (bT h91) (go (dT (by omega)))
      refine selF (bF h91) (sel_by (fun _ => sel_by (fun _ => go (dT (by omega))) fun _ => ee (by omega) hl) fun _ => ee (by omega) hl)
    unfold escRest
    refine sel_by (fun h => sel_by (fun h' => go (dT (by omega))) fun h' => selT (dT h) (e3 (by omega) (by omega))) fun h => selF (dF h) (sel_by (fun h' => e3 (by omega) (by omega)) fun h' => er h (by omega))
  refine Box.of_eq (esc_tree s c P (wk R)) (sel_by (fun hl => selT (dT (by omega)) (selT (dT (by omega)) ?_)) fun hl => rest (by omega) (by omega))
  rw [e1, z1]
  by_cases h91 : P.getD 1 0 = 91
  · have eg : escGo P c = seqGo P c := by
      unfold escGo
      rw [dT ⟨by omega, h91⟩]
      rfl
    have er : escR P c = seqR P c := by
      unfold escR
      rw [if_pos ⟨by omega, h91⟩]
    rw [eg, er] at h2
    exact selT (bT h91) ⟨rfl, ⟨⟨by omega, h50⟩, h1.2.1⟩, sel_if h2 wk_refl wk_refl⟩
  · refine selF (bF h91) (sel_by (fun ha => sel_by (fun hb => ?_) fun hb => rest (fun h => h91 h.2) (fun h => hb h.2.2)) fun ha => rest (fun h => h91 h.2) (fun h => ha h.2.1))
    have hb' : 1 < P.length ∧ 57 ≤ P.getD 1 0 ∧ P.getD 1 0 ≤ 59 := ⟨by omega, ha, hb⟩
    have eg : escGo P c = askGo P := by
      unfold escGo
      rw [dF (fun h => h91 h.2), dT hb']
      rfl
    have er : escR P c = askR P c := by
      unfold escR
      rw [if_neg (fun h => h91 h.2), if_pos hb']
    rw [eg, er] at h2
    exact ⟨rfl, h1.2.2 hb'.1 ha hb, sel_if h2 wk_refl wk_refl⟩
end Go.Proofs.YtdijbpokklgjlaaGreatDoor.lxv
