/-
  The lexer: the law LexLeft: where no event comes; the second loop as a tree.
-/
import Derived.Test.YtnhadghddkgjdaaLexLf
set_option linter.unusedVariables false
namespace Go.Proofs.Ytnhadghddkgjdaa.lxv
open Go Go.Nx Go.Proofs.Ytnhadghddkgjdaa.lex

/-! ### no event comes -/
noncomputable def hSt3 (bs : List Int) (n : Int) (x : LD) (i : Int) : St := match x.P with
  | [] => st3 bs n .sn [] x.s i
  | _ :: _ => st3 bs n (.h 6 0 x.P.length) [some (arr x.P)] x.s i
noncomputable def outZ (bs : List Int) (n : Int) (y : LD) : ROI := match y.P with
  | [] => dn3 bs n .sn [] y.s
  | _ :: _ => dn3 bs n (.h 6 0 y.P.length) [some (arr y.P)] y.s
theorem hSt3_B {bs : List Int} {n s i : Int} {E : List (List Sc)} {P : List Int} (h : P ≠ []) : hSt3 bs n ⟨E, P, s⟩ i = st3 bs n (.h 6 0 P.length) [some (arr P)] s i := by
  cases P with
  | nil => exact (h rfl).elim
  | cons p P => rfl
theorem outZ_B {bs : List Int} {n s : Int} {E : List (List Sc)} {P : List Int} (h : P ≠ []) : outZ bs n ⟨E, P, s⟩ = dn3 bs n (.h 6 0 P.length) [some (arr P)] s := by
  cases P with
  | nil => exact (h rfl).elim
  | cons p P => rfl
structure AZ where
  bs : List Int
  n : Int
  x : LD
  i : Int
def inZ (a : AZ) : Prop := 0 ≤ a.i ∧ a.i ≤ (a.bs.length : Int) ∧ a.bs.length ≤ 60 ∧ InBytes a.bs ∧ okD a.x ∧ a.x.E = [] ∧ (runL (a.bs.drop a.i.toNat) a.x).E = []
def preZ (a : AZ) (R : NExit × St × Option NExit → Prop) : Prop := inZ a ∧ ∀ (y : LD), R (stOf (outZ a.bs a.n y))
noncomputable def hZ (a : AZ) : St × Option NExit := (hSt3 a.bs a.n a.x a.i, none)
def nxZ (a : AZ) (R : NExit × St × Option NExit → Prop) (o : ROI) : Prop := match o with
  | .next s p => ∃ y, (y.bs = a.bs ∧ y.n = a.n) ∧ (s, p) = hZ y ∧ ((y.bs.length : Int) - y.i).toNat < ((a.bs.length : Int) - a.i).toNat ∧ preZ y R
  | .done e s p => R (e, s, p)
set_option maxRecDepth 100000 in
theorem round_left3 (a : AZ) (R : NExit × St × Option NExit → Prop) (h : preZ a R) : (rnd3 (hZ a).1).run (nxZ a R) := by
  obtain ⟨bs, n, ⟨E, P, s⟩, i⟩ := a
  obtain ⟨⟨h0, hle, h60, hb, hx, hE, hrun⟩, hR⟩ := h
  simp only at h0 hle h60 hb hE hrun hR
  subst hE
  have hx' := hx
  obtain ⟨h15, hP⟩ := hx
  simp only at h15 hP
  show (rnd3 (hSt3 bs n ⟨[], P, s⟩ i)).run _
  by_cases hlt : i < (bs.length : Int)
  · have hj : i.toNat < bs.length := by omega
    have hX : 0 ≤ bs.getD i.toNat 0 ∧ bs.getD i.toNat 0 < 256 := by
      rw [List.getD_eq_getElem?_getD, List.getElem?_eq_getElem hj]
      exact hb _ (List.getElem_mem hj)
    have dlt := dT hlt
    have d0 := dT h0
    have dj := dT hj
    have hw : w64 (i + 1) = i + 1 := by unfold w64; rw [IntKind.wrap_i64]; omega
    have hrun' : (runL (bs.drop (i + 1).toNat) (stepL ⟨[], P, s⟩ (bs.getD i.toNat 0))).E = [] := by
      rw [drop_get h0 hlt] at hrun
      exact hrun
    obtain ⟨t, ht⟩ := run_pre (bs.drop (i + 1).toNat) (stepL ⟨[], P, s⟩ (bs.getD i.toNat 0))
    have hS : (stepL ⟨[], P, s⟩ (bs.getD i.toNat 0)).E = [] := by
      rw [hrun'] at ht
      exact (List.append_eq_nil_iff.1 ht.symm).1
    have hev : evts P s (cc (bs.getD i.toNat 0)) = [] := by
      have : [] ++ (evts P s (cc (bs.getD i.toNat 0))).map nr = [] := hS
      simpa using this
    have nx : ∀ {P' : List Int} {s' : Int} {st : St}, (pend P (cc (bs.getD i.toNat 0)) = P' ∧ shft s (cc (bs.getD i.toNat 0)) = s') → st = hSt3 bs n ⟨[], P', s'⟩ (w64 (i + 1)) → nxZ ⟨bs, n, ⟨[], P, s⟩, i⟩ R (ROI.next st none) := by
      rintro P' s' st ⟨rfl, rfl⟩ hst
      refine ⟨⟨bs, n, stepL ⟨[], P, s⟩ (bs.getD i.toNat 0), i + 1⟩, ⟨rfl, rfl⟩, ?_, ?_, ⟨?_, ?_, h60, hb, step_ok hx' hX, hS, hrun'⟩, hR⟩
      · rw [hst, hw]
        rfl
      · simp only; omega
      · simp only; omega
      · simp only; omega
    by_cases h32 : cc (bs.getD i.toNat 0) < 32
    · have e32 := dT h32
      cases eb : beg (cc (bs.getD i.toNat 0)) with
      | true =>
        rcases hP with hP | hP
        · subst hP
          exact by_road (r_zABeg bs n s i _) ⟨dlt, d0, dlt, dj, hX, e32, eb, trivial⟩ (nx (way_beg h32 eb).2 rfl)
        · rw [(way_beg (P := P) (s := s) h32 eb).1] at hev
          unfold pre at hev
          rw [if_neg hP.1] at hev
          cases hev
      | false =>
        cases es : shf (cc (bs.getD i.toNat 0)) with
        | true =>
          rcases hP with hP | hP
          · subst hP
            exact by_road (r_zAShf bs n s i _) ⟨dlt, d0, dlt, dj, hX, e32, eb, es, trivial⟩ (nx (way_shf h32 eb es).2 rfl)
          · rw [(way_shf (P := P) (s := s) h32 eb es).1] at hev
            unfold pre at hev
            rw [if_neg hP.1] at hev
            cases hev
        | false =>
          rw [(way_ctl (P := P) (s := s) h32 eb es).1] at hev
          simp at hev
    · have e32 := dF h32
      rcases hP with hP | hP
      · subst hP
        rw [(way_chr (s := s) h32).1] at hev
        cases hev
      · have c2 : P.length = P.length ∧ (0 ≤ bs.getD i.toNat 0 ∧ bs.getD i.toNat 0 < 256) ∧ okP P := ⟨rfl, hX, hP⟩
        cases eg : goOn P (cc (bs.getD i.toNat 0)) with
        | true =>
          rw [hSt3_B hP.1]
          exact by_road (r_zBGo bs P n s i _) ⟨dlt, d0, dlt, dj, c2, e32, eg, trivial⟩ (nx (way_go h32 hP.1 eg).2 (hSt3_B (by simp)).symm)
        | false =>
          rw [(way_ends (s := s) h32 hP.1 eg).1] at hev
          cases hev
  · have hlt' := dF hlt
    have fin := hR ⟨[], P, s⟩
    rcases hP with hP | hP
    · subst hP
      exact by_road (r_zAEnd bs n s i _) ⟨hlt', trivial⟩ fin
    · rw [hSt3_B hP.1]
      rw [outZ_B hP.1] at fin
      exact by_road (r_zBEnd bs P n s i _) ⟨hlt', trivial⟩ fin
end Go.Proofs.Ytnhadghddkgjdaa.lxv
