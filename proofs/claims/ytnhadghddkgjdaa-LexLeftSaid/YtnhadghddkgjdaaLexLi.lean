/-
  The lexer: the law LexLeft.
-/
import Derived.Test.YtnhadghddkgjdaaLexLh
set_option linter.unusedVariables false
namespace Go.Proofs.Ytnhadghddkgjdaa.lxv
open Go Go.Nx Go.Proofs.Ytnhadghddkgjdaa.lex

def noO : Out := ⟨.v (.c (.b false)), []⟩
def fNil (El : List (List Sc)) (N : Int) (R : Out → Prop) : Prop :=
  sel ((0 : Int) == N) (sel (decide (0 ≤ N)) (sel (decide (N ≤ (El.length : Int))) (sel (decide (0 + 0 + (N.toNat - 0) ≤ El.length)) ((K7 = K7 ∧ List.take (N.toNat - 0) (List.drop (0 + 0) El) = []) ∧ R yesO) False) False) False) (R noO)
def fGot (El G : List (List Sc)) (N : Int) (R : Out → Prop) : Prop :=
  sel ((G.length : Int) == N) (sel (decide (0 ≤ N)) (sel (decide (N ≤ (El.length : Int))) (sel (decide (0 + G.length ≤ G.length)) (sel (decide (0 + 0 + (N.toNat - 0) ≤ El.length)) ((K7 = K7 ∧ K7 = K7 ∧ List.take G.length (List.drop 0 G) = List.take (N.toNat - 0) (List.drop (0 + 0) El) ∧ (List.take G.length (List.drop 0 G)).length ≤ 1000) ∧ R yesO) False) False) False) False) (R noO)
noncomputable def restM (P : List Int) (N : Int) (El : List (List Sc)) (R : Out → Prop) : Prop :=
  mustM 7 fr2 (hM (b0 P N El)) P N El ∧ ∀ y : List Int × Int, True → ∀ b : Bool, True → sel b
    (sel (El.take N.toNat).isEmpty (sel y.1.isEmpty (fNil El N R) (fNil El N R)) (sel y.1.isEmpty (fGot El (El.take N.toNat) N R) (fGot El (El.take N.toNat) N R)))
    (sel (El.take N.toNat).isEmpty (sel y.1.isEmpty (fNil El N R) (fNil El N R)) (sel y.1.isEmpty (fGot El (El.take N.toNat) N R) (fGot El (El.take N.toNat) N R)))
def fZ (N : Int) (R : Out → Prop) : Prop := sel ((0 : Int) == N) (sel (decide (0 ≤ N)) (sel (decide (N ≤ ((0 : Nat) : Int))) (R yesO) False) False) (R noO)
noncomputable def restZ (P : List Int) (N : Int) (R : Out → Prop) : Prop :=
  mustZ 6 fr3 (hZ (z0 P N)) P N ∧ ∀ y : List Int × Int, True → sel y.1.isEmpty (fZ N R) (fZ N R)
def inNum (m : Int) : Prop := 0 < m ∧ m < 4611686018427387904
theorem left_tree (P : List Int) (n : Int) (R : Out → Prop) : (tLeft [.c (.l .u8 P), .c (.i .i64 n)] []).run R =
    sel (decide ((P.length : Int) > 60)) (R yesO) (P.length ≤ 1000 ∧ mustL 6 (fr1 P) (hL (a0 P n)) P n ∧ sel (evAll P).E.isEmpty
      (sel (evAll P).P.isEmpty (inNum (w64 (0 + 1)) ∧ P.length ≤ 1000 ∧ restZ P (n % w64 (0 + 1)) R) (inNum (w64 (0 + 1)) ∧ P.length ≤ 1000 ∧ restZ P (n % w64 (0 + 1)) R))
      (sel (evAll P).P.isEmpty (inNum (w64 (((evAll P).E.length : Int) + 1)) ∧ P.length ≤ 1000 ∧ restM P (n % w64 (((evAll P).E.length : Int) + 1)) (evAll P).E R)
        (inNum (w64 (((evAll P).E.length : Int) + 1)) ∧ P.length ≤ 1000 ∧ restM P (n % w64 (((evAll P).E.length : Int) + 1)) (evAll P).E R))) := by kernel_rfl
theorem run_len : ∀ (l : List Int) (x : LD), (runL l x).E.length ≤ x.E.length + 2 * l.length
  | [], x => by show x.E.length ≤ _; simp
  | b :: l, x => by
    have h := run_len l (stepL x b)
    have h2 : (stepL x b).E.length ≤ x.E.length + 2 := by
      simp only [stepL]
      rw [List.length_append, List.length_map]
      have := evts_len x.P x.s (cc b)
      omega
    show (runL l (stepL x b)).E.length ≤ _
    rw [List.length_cons]
    omega
theorem sel_same {c : Bool} {A : Prop} (h : A) : sel c A A := by cases c <;> exact h
theorem fNil_in {El : List (List Sc)} {N : Int} {R : Out → Prop} (h : N = 0) (hR : R yesO) : fNil El N R := by
  subst h
  exact selT rfl (selT rfl (selT (dT (by omega)) (selT (dT (by simp)) ⟨⟨rfl, rfl⟩, hR⟩)))
theorem fGot_in {El : List (List Sc)} {N : Int} {R : Out → Prop} (h0 : 0 ≤ N) (hN : N ≤ (El.length : Int)) (hl : El.length ≤ 1000) (hR : R yesO) : fGot El (El.take N.toNat) N R := by
  have hlen : (El.take N.toNat).length = N.toNat := by rw [List.length_take]; omega
  refine selT (bT (by rw [hlen]; omega)) (selT (dT h0) (selT (dT hN) (selT (dT (by omega)) (selT (dT (by omega)) ⟨⟨rfl, rfl, ?_, ?_⟩, hR⟩))))
  · rw [List.drop_zero, List.take_length, Nat.sub_zero, Nat.add_zero, List.drop_zero]
  · rw [List.drop_zero, List.take_length, hlen]; omega
set_option maxRecDepth 100000 in
theorem left_in (P : List Int) (n : Int) (hb : InBytes P) (R : Out → Prop) (hR : R yesO) : Box ((tLeft [.c (.l .u8 P), .c (.i .i64 n)] []).run R) := by
  refine Box.of_eq (left_tree P n R) ?_
  by_cases h : (P.length : Int) > 60
  · exact selT (dT h) hR
  refine selF (dF h) ⟨by omega, ⟨⟨rfl, rfl⟩, rfl, Int.le_refl _, by show (0 : Int) ≤ P.length; omega, by show P.length ≤ 60; omega, hb, ⟨by show 0 ≤ 15; omega, .inl rfl⟩, by show ((0 : Nat) : Int) ≤ 2 * 0; omega⟩, ?_⟩
  have hl : (evAll P).E.length ≤ 120 := by
    have := run_len P ⟨[], [], 0⟩
    have h0 : ([] : List (List Sc)).length = 0 := rfl
    unfold evAll
    simp only [h0] at this
    omega
  by_cases hE : (evAll P).E = []
  · refine selT (by rw [hE]; rfl) (sel_same ⟨⟨by decide, by decide⟩, by omega, ⟨⟨rfl, rfl⟩, rfl, Int.le_refl _, by show (0 : Int) ≤ P.length; omega, by show P.length ≤ 60; omega, hb, ⟨by show 0 ≤ 15; omega, .inl rfl⟩, rfl, hE⟩, fun y _ => sel_same ?_⟩)
    have hN : n % w64 (0 + 1) = 0 := by
      have : w64 (0 + 1) = 1 := by decide
      rw [this]
      exact Int.emod_one n
    rw [hN]
    exact selT rfl (selT rfl (selT rfl hR))
  · have hw : w64 (((evAll P).E.length : Int) + 1) = (evAll P).E.length + 1 := by unfold w64; rw [IntKind.wrap_i64]; omega
    have h0 : 0 ≤ n % w64 (((evAll P).E.length : Int) + 1) := Int.emod_nonneg _ (by rw [hw]; omega)
    have h1 : n % w64 (((evAll P).E.length : Int) + 1) < w64 (((evAll P).E.length : Int) + 1) := Int.emod_lt_of_pos _ (by rw [hw]; omega)
    have hin : inNum (w64 (((evAll P).E.length : Int) + 1)) := by unfold inNum; rw [hw]; omega
    have hle : n % w64 (((evAll P).E.length : Int) + 1) ≤ ((evAll P).E.length : Int) := by omega
    generalize n % w64 (((evAll P).E.length : Int) + 1) = N at *
    refine selF (by cases h : (evAll P).E with | nil => exact (hE h).elim | cons => rfl) (sel_same ⟨hin, by omega, ⟨⟨rfl, rfl⟩, rfl, Int.le_refl _, by show (0 : Int) ≤ P.length; omega, by show P.length ≤ 60; omega, hb, ⟨by show 0 ≤ 15; omega, .inl rfl⟩, h0, by show N ≤ 200; omega, rfl⟩, fun y _ b _ => sel_same ?_⟩)
    by_cases hG : (evAll P).E.take N.toNat = []
    · have hN : N = 0 := by
        have := congrArg List.length hG
        rw [List.length_take, List.length_nil] at this
        have hpos := List.length_pos_iff.2 hE
        omega
      exact selT (by rw [hG]; rfl) (sel_same (fNil_in hN hR))
    · exact selF (by cases h : (evAll P).E.take N.toNat with | nil => exact (hG h).elim | cons => rfl) (sel_same (fGot_in h0 hle (by omega) hR))
structure Gives (P : List Int) (n : Int) : Prop where
  out : ∀ R : Out → Prop, R yesO → Box ((tLeft [.c (.l .u8 P), .c (.i .i64 n)] []).run R)
theorem Gives.holds {P : List Int} {n : Int} {t : Tr Out} (ht : t = tLeft [.c (.l .u8 P), .c (.i .i64 n)] []) (h : ∀ R : Out → Prop, R yesO → Box (t.run R)) : Holds t fun o => o.res = .v (.c (.b true)) := ⟨Box.out (h _ rfl)⟩
theorem left_holds (P : List Int) (n : Int) (hb : InBytes P) : Holds (tLeft [.c (.l .u8 P), .c (.i .i64 n)] []) fun o => o.res = .v (.c (.b true)) := Gives.holds rfl fun R hR => left_in P n hb R hR
def shsLeft : List Sh := [.row .u8, .i .i64]
theorem left_law (xs : List NV) (h : R2 ShOk shsLeft xs) : Holds (tLeft xs []) fun o => o.res = .v (.c (.b true)) := by
  cases h with
  | cons h1 h =>
    cases h with
    | cons h2 h =>
      cases h
      cases h1 with
      | @row _ xs hx =>
        cases h2 with
        | @i _ n hn =>
          refine left_holds xs n fun x hx' => ?_
          have := hx x hx'
          simp [Lit.wf, IntKind.min, IntKind.max, IntKind.signed, IntKind.bits] at this
          constructor <;> omega
end Go.Proofs.Ytnhadghddkgjdaa.lxv
