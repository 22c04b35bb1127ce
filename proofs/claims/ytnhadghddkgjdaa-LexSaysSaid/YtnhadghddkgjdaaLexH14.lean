/-
  The law LexSays.
-/
import Derived.Test.YtnhadghddkgjdaaLexH13
import Derived.Test.YtnhadghddkgjdaaLexLc
set_option linter.unusedVariables false
namespace Go.Proofs.Ytnhadghddkgjdaa.lxr
open Go Go.Nx Go.Proofs.Ytnhadghddkgjdaa.lex Go.Proofs.Ytnhadghddkgjdaa.lxv

theorem sel_bb {c : Bool} {A B : Prop} (ha : c = true → A) (hb : c = false → B) : sel c A B := by
  cases c with
  | true => exact selT rfl (ha rfl)
  | false => exact selF rfl (hb rfl)
def sameR1 (P : List Int) (n : Nat) (s : Int) (A : Prop) : Prop := some (lx (.hz 1 n) s) = some (lx (.hz 1 n) s) ∧ (some (arr P) = some (arr P) ∧ A)
noncomputable def tailG (n : Nat) (G E : List (List Sc)) (m : Nat) (P xP : List Int) (s : Int) (R : Out → Prop) : Prop :=
  sel (decide (n ≤ G.length)) (sel (decide (E.length ≤ E.length)) ((K7 = K7 ∧ K7 = K7 ∧ List.take n G = List.take E.length E ∧ (List.take n G).length ≤ 1000) ∧ ((m = P.length ∧ P.length ≤ 1000) ∧ sameR1 P m s
    (sel (decide (P.length ≤ P.length)) (sel (decide (xP.length ≤ xP.length)) ((List.take P.length P = List.take xP.length xP ∧ (List.take P.length P).length ≤ 1000) ∧ R yesO) False) False))) False) False
noncomputable def kpS (bs : List Int) : Kp := ⟨bs, (runS bs x0).P, (runS bs x0).s, (runS bs x0).E⟩
theorem say_tree (bs : List Int) (R : Out → Prop) : (tSay [.c (.l .u8 bs)] []).run R =
    sel (decide ((bs.length : Int) > 200)) (R yesO) ((sNil bs = sNil bs ∧ bs.length ≤ 200 ∧ InBytes bs) ∧ bs.length ≤ 1000 ∧ mustG 9 (frG (kpS bs).E.length bs) (s0G (kpS bs) 0, Option.none) (kpS bs) ∧
      sel bs.isEmpty (tailG 0 [] (kpS bs).E 0 [] (kpS bs).P 0 R) (sel (runS bs x0).E.isEmpty (tailG 0 [] (kpS bs).E (runS bs x0).P.length (runS bs x0).P (kpS bs).P (runS bs x0).s R)
        (tailG (runS bs x0).E.length (runS bs x0).E (kpS bs).E (runS bs x0).P.length (runS bs x0).P (kpS bs).P (runS bs x0).s R))) := by kernel_rfl
theorem runS_ok : ∀ (bs : List Int) (x : LD), InBytes bs → okZ x.P → okZ (runS bs x).P ∧ (runS bs x).E.length ≤ x.E.length + 2 * bs.length
  | [], x, _, h => ⟨h, by show x.E.length ≤ _; simp⟩
  | b :: l, x, hb, h => by
    have hX := hb b (List.mem_cons_self ..)
    have h2 := evts_two x.P x.s (cc b)
    obtain ⟨h3, h4⟩ := runS_ok l (stepS x b) (fun y hy => hb y (List.mem_cons_of_mem _ hy)) (pend_ok h (cc_of hX))
    refine ⟨h3, ?_⟩
    have h5 : (stepS x b).E.length = x.E.length + (evts x.P x.s (cc b)).length := by show (x.E ++ evts x.P x.s (cc b)).length = _; rw [List.length_append]
    show (runS l (stepS x b)).E.length ≤ _
    rw [List.length_cons]
    omega
theorem tailG_in {n m : Nat} {G E : List (List Sc)} {P xP : List Int} {s : Int} {R : Out → Prop} (hn : n = G.length) (hG : G = E) (hm : m = P.length) (hP : P = xP) (hl : G.length ≤ 1000) (hl' : P.length ≤ 1000) (hR : R yesO) : tailG n G E m P xP s R := by
  subst hn hG hm hP
  refine selT (dT (Nat.le_refl _)) (selT (dT (Nat.le_refl _)) ⟨⟨rfl, rfl, rfl, by rw [List.take_length]; exact hl⟩, ⟨rfl, hl'⟩, rfl, rfl, selT (dT (Nat.le_refl _)) (selT (dT (Nat.le_refl _)) ⟨⟨rfl, by rw [List.take_length]; exact hl'⟩, hR⟩)⟩)
set_option maxRecDepth 100000 in
theorem say_in (bs : List Int) (hb : InBytes bs) (R : Out → Prop) (hR : R yesO) : Box ((tSay [.c (.l .u8 bs)] []).run R) := by
  refine Box.of_eq (say_tree bs R) ?_
  by_cases h : (bs.length : Int) > 200
  · exact selT (dT h) hR
  have h200 : bs.length ≤ 200 := by omega
  obtain ⟨hP, hE⟩ := runS_ok bs x0 hb (.inl rfl)
  have hl := okZ_len hP
  have h0 : x0.E.length = 0 := rfl
  refine selF (dF h) ⟨⟨rfl, h200, hb⟩, by omega, ⟨⟨rfl, rfl⟩, rfl, h200, hb⟩, ?_⟩
  refine sel_bb ?_ ?_
  · intro e
    have e : bs = [] := by simpa using e
    subst e
    exact tailG_in rfl rfl rfl rfl (by simp) (by simp) hR
  · intro _
    refine sel_bb ?_ ?_
    · intro e
      have e : (runS bs x0).E = [] := by simpa using e
      exact tailG_in rfl e.symm rfl rfl (by simp) (by omega) hR
    · intro _
      exact tailG_in rfl rfl rfl rfl (by omega) (by omega) hR
theorem GivesS.holds {t : Tr Out} (h : ∀ R : Out → Prop, R yesO → Box (t.run R)) : Holds t fun o => o.res = .v (.c (.b true)) := ⟨Box.out (h _ rfl)⟩
theorem say_holds (bs : List Int) (hb : InBytes bs) : Holds (tSay [.c (.l .u8 bs)] []) fun o => o.res = .v (.c (.b true)) := GivesS.holds fun R hR => say_in bs hb R hR
def shsSay : List Sh := [.row .u8]
theorem say_law (xs : List NV) (h : R2 ShOk shsSay xs) : Holds (tSay xs []) fun o => o.res = .v (.c (.b true)) := by
  cases h with
  | cons h1 h =>
    cases h
    cases h1 with
    | @row _ xs hx =>
      refine say_holds xs fun x hx' => ?_
      have := hx x hx'
      simp [Lit.wf, IntKind.min, IntKind.max, IntKind.signed, IntKind.bits] at this
      constructor <;> omega
end Go.Proofs.Ytnhadghddkgjdaa.lxr
