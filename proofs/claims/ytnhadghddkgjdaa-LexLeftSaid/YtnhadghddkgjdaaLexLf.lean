/-
  The lexer: the law LexLeft: its second loop.
-/
import Derived.Test.YtnhadghddkgjdaaLexLe
set_option linter.unusedVariables false
namespace Go.Proofs.Ytnhadghddkgjdaa.lxv
open Go Go.Nx Go.Proofs.Ytnhadghddkgjdaa.lex

theorem run_pre : ∀ (l : List Int) (x : LD), ∃ t, (runL l x).E = x.E ++ t
  | [], x => ⟨[], (List.append_nil _).symm⟩
  | b :: l, x => by
    obtain ⟨t, ht⟩ := run_pre l (stepL x b)
    refine ⟨(evts x.P x.s (cc b)).map nr ++ t, ?_⟩
    show (runL l (stepL x b)).E = _
    rw [ht, ← List.append_assoc]
    rfl
structure AM where
  bs : List Int
  n : Int
  El : List (List Sc)
  x : LD
  i : Int
noncomputable def hSt2 (bs : List Int) (n : Int) (El : List (List Sc)) (x : LD) (i : Int) : St := match x.E, x.P with
  | [], [] => st2 bs n El .sn .sn [] x.s i
  | [], _ :: _ => st2 bs n El .sn (.h 7 0 x.P.length) [some (arr x.P)] x.s i
  | _ :: _, [] => st2 bs n El (.h 7 0 x.E.length) .sn [some (evR x.E)] x.s i
  | _ :: _, _ :: _ => st2 bs n El (.h 7 0 x.E.length) (.h 8 0 x.P.length) [some (evR x.E), some (arr x.P)] x.s i
def exOf (b : Bool) : NExit := bif b then .ret else .normal
def pdOf (b : Bool) : Option NExit := bif b then some (.exit 2) else none
noncomputable def outM (b : Bool) (bs : List Int) (n : Int) (El : List (List Sc)) (y : LD) : ROI := match y.E, y.P with
  | [], [] => dn2 (exOf b) bs n El .sn .sn [] y.s (pdOf b)
  | [], _ :: _ => dn2 (exOf b) bs n El .sn (.h 7 0 y.P.length) [some (arr y.P)] y.s (pdOf b)
  | _ :: _, [] => dn2 (exOf b) bs n El (.h 7 0 y.E.length) .sn [some (evR y.E)] y.s (pdOf b)
  | _ :: _, _ :: _ => dn2 (exOf b) bs n El (.h 7 0 y.E.length) (.h 8 0 y.P.length) [some (evR y.E), some (arr y.P)] y.s (pdOf b)
theorem hSt2_B {bs : List Int} {n s i : Int} {El : List (List Sc)} {P : List Int} (h : P ≠ []) : hSt2 bs n El ⟨[], P, s⟩ i = st2 bs n El .sn (.h 7 0 P.length) [some (arr P)] s i := by
  cases P with
  | nil => exact (h rfl).elim
  | cons p P => rfl
theorem hSt2_C {bs : List Int} {n s i : Int} {El G : List (List Sc)} (h : G ≠ []) : hSt2 bs n El ⟨G, [], s⟩ i = st2 bs n El (.h 7 0 G.length) .sn [some (evR G)] s i := by
  cases G with
  | nil => exact (h rfl).elim
  | cons p P => rfl
theorem hSt2_D {bs : List Int} {n s i : Int} {El G : List (List Sc)} {P : List Int} (h : G ≠ []) (h' : P ≠ []) : hSt2 bs n El ⟨G, P, s⟩ i = st2 bs n El (.h 7 0 G.length) (.h 8 0 P.length) [some (evR G), some (arr P)] s i := by
  cases G with
  | nil => exact (h rfl).elim
  | cons p E => cases P with
    | nil => exact (h' rfl).elim
    | cons p P => rfl
theorem outM_B {b : Bool} {bs : List Int} {n s : Int} {El : List (List Sc)} {P : List Int} (h : P ≠ []) : outM b bs n El ⟨[], P, s⟩ = dn2 (exOf b) bs n El .sn (.h 7 0 P.length) [some (arr P)] s (pdOf b) := by
  cases P with
  | nil => exact (h rfl).elim
  | cons p P => rfl
theorem outM_C {b : Bool} {bs : List Int} {n s : Int} {El G : List (List Sc)} (h : G ≠ []) : outM b bs n El ⟨G, [], s⟩ = dn2 (exOf b) bs n El (.h 7 0 G.length) .sn [some (evR G)] s (pdOf b) := by
  cases G with
  | nil => exact (h rfl).elim
  | cons p P => rfl
theorem outM_D {b : Bool} {bs : List Int} {n s : Int} {El G : List (List Sc)} {P : List Int} (h : G ≠ []) (h' : P ≠ []) : outM b bs n El ⟨G, P, s⟩ = dn2 (exOf b) bs n El (.h 7 0 G.length) (.h 8 0 P.length) [some (evR G), some (arr P)] s (pdOf b) := by
  cases G with
  | nil => exact (h rfl).elim
  | cons p E => cases P with
    | nil => exact (h' rfl).elim
    | cons p P => rfl
def inM (a : AM) : Prop := 0 ≤ a.i ∧ a.i ≤ (a.bs.length : Int) ∧ a.bs.length ≤ 60 ∧ InBytes a.bs ∧ okD a.x ∧ (a.x.E.length : Int) ≤ a.n ∧ a.n ≤ 200 ∧ (runL (a.bs.drop a.i.toNat) a.x).E = a.El
def preM (a : AM) (R : NExit × St × Option NExit → Prop) : Prop := inM a ∧ ∀ (b : Bool) (y : LD), y.E = a.El.take a.n.toNat → R (stOf (outM b a.bs a.n a.El y))
noncomputable def hM (a : AM) : St × Option NExit := (hSt2 a.bs a.n a.El a.x a.i, none)
def nxM (a : AM) (R : NExit × St × Option NExit → Prop) (o : ROI) : Prop := match o with
  | .next s p => ∃ y, (y.bs = a.bs ∧ y.n = a.n ∧ y.El = a.El) ∧ (s, p) = hM y ∧ ((y.bs.length : Int) - y.i).toNat < ((a.bs.length : Int) - a.i).toNat ∧ preM y R
  | .done e s p => R (e, s, p)
theorem nxM_in {a : AM} {R : NExit × St × Option NExit → Prop} {st : St} (h : preM a R) (hlt : a.i < (a.bs.length : Int)) (hle : ((stepL a.x (a.bs.getD a.i.toNat 0)).E.length : Int) ≤ a.n) (hst : st = hSt2 a.bs a.n a.El (stepL a.x (a.bs.getD a.i.toNat 0)) (w64 (a.i + 1))) : nxM a R (ROI.next st none) := by
  obtain ⟨⟨h0, hle', h60, hb, hx, hn, hn2, hrun⟩, hR⟩ := h
  have hj : a.i.toNat < a.bs.length := by omega
  have hX : 0 ≤ a.bs.getD a.i.toNat 0 ∧ a.bs.getD a.i.toNat 0 < 256 := by
    rw [List.getD_eq_getElem?_getD, List.getElem?_eq_getElem hj]
    exact hb _ (List.getElem_mem hj)
  have hw : w64 (a.i + 1) = a.i + 1 := by unfold w64; rw [IntKind.wrap_i64]; omega
  refine ⟨⟨a.bs, a.n, a.El, stepL a.x (a.bs.getD a.i.toNat 0), a.i + 1⟩, ⟨rfl, rfl, rfl⟩, ?_, ?_, ⟨?_, ?_, h60, hb, step_ok hx hX, hle, hn2, ?_⟩, hR⟩
  · rw [hst, hw]; rfl
  · simp only; omega
  · simp only; omega
  · simp only; omega
  · rw [drop_get h0 hlt] at hrun
    exact hrun
set_option maxRecDepth 100000 in
theorem round_left2 (a : AM) (R : NExit × St × Option NExit → Prop) (h : preM a R) : (rnd2 (hM a).1).run (nxM a R) := by
  obtain ⟨bs, n, El, ⟨G, P, s⟩, i⟩ := a
  have hp := h
  obtain ⟨⟨h0, hle, h60, hb, hx, hn, hn2, hrun⟩, hR⟩ := h
  obtain ⟨h15, hP⟩ := hx
  simp only at h0 hle h60 hb h15 hP hn hn2 hrun hR
  show (rnd2 (hSt2 bs n El ⟨G, P, s⟩ i)).run _
  by_cases hlt : i < (bs.length : Int)
  · have hj : i.toNat < bs.length := by omega
    have hX : 0 ≤ bs.getD i.toNat 0 ∧ bs.getD i.toNat 0 < 256 := by
      rw [List.getD_eq_getElem?_getD, List.getElem?_eq_getElem hj]
      exact hb _ (List.getElem_mem hj)
    have dlt := dT hlt
    have d0 := dT h0
    have dj := dT hj
    obtain ⟨t, ht⟩ := run_pre (bs.drop (i + 1).toNat) (stepL ⟨G, P, s⟩ (bs.getD i.toNat 0))
    have hEl : El = (G ++ (evts P s (cc (bs.getD i.toNat 0))).map nr) ++ t := by
      rw [drop_get h0 hlt] at hrun
      exact hrun.symm.trans ht
    have nx : ∀ {E' : List (List Sc)} {P' : List Int} {s' : Int} {st : St}, (evts P s (cc (bs.getD i.toNat 0)) = E' ∧ pend P (cc (bs.getD i.toNat 0)) = P' ∧ shft s (cc (bs.getD i.toNat 0)) = s') → ((G.length + E'.length : Nat) : Int) ≤ n → st = hSt2 bs n El ⟨G ++ E'.map nr, P', s'⟩ (w64 (i + 1)) → nxM ⟨bs, n, El, ⟨G, P, s⟩, i⟩ R (ROI.next st none) := by
      rintro E' P' s' st ⟨rfl, rfl, rfl⟩ hl hst
      refine nxM_in hp hlt ?_ hst
      simp only [stepL]
      rw [List.length_append, List.length_map]
      exact hl
    -- the loop is left: what was got is the first n
    have bk : ∀ {y : LD} {o : ROI}, (y.E.length : Int) = n → (∃ t', El = y.E ++ t') → o = outM true bs n El y → (∃ e st p, o = ROI.done e st p) → nxM ⟨bs, n, El, ⟨G, P, s⟩, i⟩ R o := by
      rintro y o hl ⟨t', ht'⟩ ho ⟨e, st, p, hd⟩
      have hE : y.E = El.take n.toNat := by
        rw [ht', show n.toNat = y.E.length by omega, List.take_left]
      have := hR true y hE
      rw [← ho, hd] at this
      rw [hd]
      exact this
    have p0 : ∃ t', El = G ++ t' := ⟨_, hEl.trans (List.append_assoc _ _ _)⟩
    have nT' : ∀ {k : Int}, (k == n) = false → k ≠ n := fun h => by simpa using h
    have yT' : ∀ {k : Int}, (k == n) = true → k = n := fun h => by simpa using h
    have a1 : decide (0 + G.length ≤ G.length) = true := dT (by omega)
    have a2 : decide ((G.length + 1) * 56 ≤ 140737488355328) = true := dT (by omega)
    have a3 : decide (G.length + 1 ≤ 9223372036854775807) = true := dT (by omega)
    have a4 : decide (0 + (G.length + 1) ≤ (tk G ++ [nr ignR]).length) = true := dT (by rw [tk_eq, List.length_append, List.length_singleton]; omega)
    have a5 : decide ((G.length + 1 + 1) * 56 ≤ 140737488355328) = true := dT (by omega)
    have a6 : decide (G.length + 1 + 1 ≤ 9223372036854775807) = true := dT (by omega)
    have ap : ∀ (x : List Sc), G ++ [x] ≠ [] := fun x => by simp
    have dd : ∀ {e : NExit} {got pnd : NC} {l : List (Option Reg)} {s' : Int} {p : Option NExit}, ∃ e' st p', dn2 e bs n El got pnd l s' p = ROI.done e' st p' := ⟨_, _, _, rfl⟩
    by_cases hG : G = []
    · subst hG
      have hn0 : 0 ≤ n := by simpa using hn
      rcases hP with hP | hP
      · subst hP
        show (rnd2 (st2 bs n El .sn .sn [] s i)).run _
        by_cases h32 : cc (bs.getD i.toNat 0) < 32
        · have e32 := dT h32
          cases eb : beg (cc (bs.getD i.toNat 0)) with
          | true => exact by_road (r_mABeg bs n El s i _) ⟨dlt, d0, dlt, dj, hX, e32, eb, trivial⟩ (nx (way_beg h32 eb) (by simpa [pre] using hn0) rfl)
          | false =>
            cases es : shf (cc (bs.getD i.toNat 0)) with
            | true => exact by_road (r_mAShf bs n El s i _) ⟨dlt, d0, dlt, dj, hX, e32, eb, es, trivial⟩ (nx (way_shf h32 eb es) (by simpa [pre] using hn0) rfl)
            | false =>
              cases z0 : ((0 : Int) == n) with
              | true => exact by_road (r_mACtlX bs n El s i _) ⟨dlt, d0, dlt, dj, hX, e32, eb, es, z0, trivial⟩ (bk (y := ⟨[], [], s⟩) (yT' z0) p0 rfl dd)
              | false => exact by_road (r_mACtl bs n El s i _) ⟨dlt, d0, dlt, dj, hX, e32, eb, es, z0, trivial⟩ (nx (way_ctl h32 eb es) (by have := nT' z0; simp [pre]; omega) rfl)
        · have e32 := dF h32
          cases z0 : ((0 : Int) == n) with
          | true => exact by_road (r_mAChrX bs n El s i _) ⟨dlt, d0, dlt, dj, hX, e32, z0, trivial⟩ (bk (y := ⟨[], [], s⟩) (yT' z0) p0 rfl dd)
          | false => exact by_road (r_mAChr bs n El s i _) ⟨dlt, d0, dlt, dj, hX, e32, z0, trivial⟩ (nx (way_chr h32) (by have := nT' z0; simp; omega) rfl)
      · rw [hSt2_B hP.1]
        have c2 : P.length = P.length ∧ (0 ≤ bs.getD i.toNat 0 ∧ bs.getD i.toNat 0 < 256) ∧ okP P := ⟨rfl, hX, hP⟩
        have hpre : pre P = [ignR] := if_neg hP.1
        by_cases h32 : cc (bs.getD i.toNat 0) < 32
        · have e32 := dT h32
          cases eb : beg (cc (bs.getD i.toNat 0)) with
          | true =>
            cases z0 : ((0 : Int) == n) with
            | true => exact by_road (r_mBBegX bs P n El s i _) ⟨dlt, d0, dlt, dj, c2, e32, eb, z0, trivial⟩ (bk (y := ⟨[], [_], s⟩) (yT' z0) p0 rfl dd)
            | false => exact by_road (r_mBBeg bs P n El s i _) ⟨dlt, d0, dlt, dj, c2, e32, eb, z0, trivial⟩ (nx (way_beg h32 eb) (by have := nT' z0; rw [hpre]; simp; omega) (by rw [hpre]; rfl))
          | false =>
            cases es : shf (cc (bs.getD i.toNat 0)) with
            | true =>
              cases z0 : ((0 : Int) == n) with
              | true => exact by_road (r_mBShfX bs P n El s i _) ⟨dlt, d0, dlt, dj, c2, e32, eb, es, z0, trivial⟩ (bk (y := ⟨[], [], _⟩) (yT' z0) p0 rfl dd)
              | false => exact by_road (r_mBShf bs P n El s i _) ⟨dlt, d0, dlt, dj, c2, e32, eb, es, z0, trivial⟩ (nx (way_shf h32 eb es) (by have := nT' z0; rw [hpre]; simp; omega) (by rw [hpre]; rfl))
            | false =>
              cases z0 : ((0 : Int) == n) with
              | true => exact by_road (r_mBCtlX bs P n El s i _) ⟨dlt, d0, dlt, dj, c2, e32, eb, es, z0, trivial⟩ (bk (y := ⟨[], [], s⟩) (yT' z0) p0 rfl dd)
              | false =>
                cases z1 : (((1 : Nat) : Int) == n) with
                | true =>
                  refine by_road (r_mBCtlY bs P n El s i _) ⟨dlt, d0, dlt, dj, c2, e32, eb, es, z0, z1, trivial⟩ (bk (y := ⟨[nr ignR], [], s⟩) (yT' z1) ?_ rfl dd)
                  rw [(way_ctl (P := P) (s := s) h32 eb es).1, hpre] at hEl
                  exact ⟨_, hEl⟩
                | false => exact by_road (r_mBCtl bs P n El s i _) ⟨dlt, d0, dlt, dj, c2, e32, eb, es, z0, z1, trivial⟩ (nx (way_ctl h32 eb es) (by have := nT' z0; have := nT' z1; rw [hpre]; simp; omega) (by rw [hpre]; rfl))
        · have e32 := dF h32
          cases eg : goOn P (cc (bs.getD i.toNat 0)) with
          | true => exact by_road (r_mBGo bs P n El s i _) ⟨dlt, d0, dlt, dj, c2, e32, eg, trivial⟩ (nx (way_go h32 hP.1 eg) (by simpa using hn0) (hSt2_B (by simp)).symm)
          | false =>
            cases z0 : ((0 : Int) == n) with
            | true => exact by_road (r_mBEndsX bs P n El s i _) ⟨dlt, d0, dlt, dj, c2, e32, eg, z0, trivial⟩ (bk (y := ⟨[], [], s⟩) (yT' z0) p0 rfl dd)
            | false => exact by_road (r_mBEnds bs P n El s i _) ⟨dlt, d0, dlt, dj, c2, e32, eg, z0, trivial⟩ (nx (way_ends h32 hP.1 eg) (by have := nT' z0; simp; omega) rfl)
    · rcases hP with hP | hP
      · subst hP
        rw [hSt2_C hG]
        by_cases h32 : cc (bs.getD i.toNat 0) < 32
        · have e32 := dT h32
          cases eb : beg (cc (bs.getD i.toNat 0)) with
          | true => exact by_road (r_mCBeg bs n El G s i _) ⟨dlt, d0, dlt, dj, hX, e32, eb, trivial⟩ (nx (way_beg h32 eb) (by simpa [pre] using hn) (by show _ = hSt2 bs n El ⟨G ++ [], _, _⟩ _; rw [List.append_nil, hSt2_D hG (by simp)]; rfl))
          | false =>
            cases es : shf (cc (bs.getD i.toNat 0)) with
            | true => exact by_road (r_mCShf bs n El G s i _) ⟨dlt, d0, dlt, dj, hX, e32, eb, es, trivial⟩ (nx (way_shf h32 eb es) (by simpa [pre] using hn) (by show _ = hSt2 bs n El ⟨G ++ [], _, _⟩ _; rw [List.append_nil, hSt2_C hG]))
            | false =>
              cases gq : ((G.length : Int) == n) with
              | true => exact by_road (r_mCCtlX bs n El G s i _) ⟨dlt, d0, dlt, dj, hX, e32, eb, es, gq, trivial⟩ (bk (y := ⟨G, [], s⟩) (yT' gq) p0 (outM_C (b := true) hG).symm dd)
              | false => exact by_road (r_mCCtl bs n El G s i _) ⟨dlt, d0, dlt, dj, hX, e32, eb, es, gq, a1, a2, a3, trivial⟩ (nx (way_ctl h32 eb es) (by have := nT' gq; simp [pre]; omega) (by show _ = hSt2 bs n El ⟨G ++ [nr _], _, _⟩ _; rw [hSt2_C (ap _), tk_eq, List.length_append]; rfl))
        · have e32 := dF h32
          cases gq : ((G.length : Int) == n) with
          | true => exact by_road (r_mCChrX bs n El G s i _) ⟨dlt, d0, dlt, dj, hX, e32, gq, trivial⟩ (bk (y := ⟨G, [], s⟩) (yT' gq) p0 (outM_C (b := true) hG).symm dd)
          | false => exact by_road (r_mCChr bs n El G s i _) ⟨dlt, d0, dlt, dj, hX, e32, gq, a1, a2, a3, trivial⟩ (nx (way_chr h32) (by have := nT' gq; simp; omega) (by show _ = hSt2 bs n El ⟨G ++ [nr _], _, _⟩ _; rw [hSt2_C (ap _), tk_eq, List.length_append]; rfl))
      · rw [hSt2_D hG hP.1]
        have c2 : P.length = P.length ∧ (0 ≤ bs.getD i.toNat 0 ∧ bs.getD i.toNat 0 < 256) ∧ okP P := ⟨rfl, hX, hP⟩
        have hpre : pre P = [ignR] := if_neg hP.1
        by_cases h32 : cc (bs.getD i.toNat 0) < 32
        · have e32 := dT h32
          cases eb : beg (cc (bs.getD i.toNat 0)) with
          | true =>
            cases gq : ((G.length : Int) == n) with
            | true => exact by_road (r_mDBegX bs P n El G s i _) ⟨dlt, d0, dlt, dj, c2, e32, eb, gq, trivial⟩ (bk (y := ⟨G, [cc (bs.getD i.toNat 0)], s⟩) (yT' gq) p0 (outM_D (b := true) (P := [cc (bs.getD i.toNat 0)]) hG (by simp)).symm dd)
            | false => exact by_road (r_mDBeg bs P n El G s i _) ⟨dlt, d0, dlt, dj, c2, e32, eb, gq, a1, a2, a3, trivial⟩ (nx (way_beg h32 eb) (by have := nT' gq; rw [hpre]; simp; omega) (by rw [hpre]; show _ = hSt2 bs n El ⟨G ++ [nr _], _, _⟩ _; rw [hSt2_D (ap _) (by simp), tk_eq, List.length_append]; rfl))
          | false =>
            cases es : shf (cc (bs.getD i.toNat 0)) with
            | true =>
              cases gq : ((G.length : Int) == n) with
              | true => exact by_road (r_mDShfX bs P n El G s i _) ⟨dlt, d0, dlt, dj, c2, e32, eb, es, gq, trivial⟩ (bk (y := ⟨G, [], _⟩) (yT' gq) p0 (outM_C (b := true) hG).symm dd)
              | false => exact by_road (r_mDShf bs P n El G s i _) ⟨dlt, d0, dlt, dj, c2, e32, eb, es, gq, a1, a2, a3, trivial⟩ (nx (way_shf h32 eb es) (by have := nT' gq; rw [hpre]; simp; omega) (by rw [hpre]; show _ = hSt2 bs n El ⟨G ++ [nr _], _, _⟩ _; rw [hSt2_C (ap _), tk_eq, List.length_append]; rfl))
            | false =>
              cases gq : ((G.length : Int) == n) with
              | true => exact by_road (r_mDCtlX bs P n El G s i _) ⟨dlt, d0, dlt, dj, c2, e32, eb, es, gq, trivial⟩ (bk (y := ⟨G, [], s⟩) (yT' gq) p0 (outM_C (b := true) hG).symm dd)
              | false =>
                cases gq1 : (((G.length + 1 : Nat) : Int) == n) with
                | true =>
                  refine by_road (r_mDCtlY bs P n El G s i _) ⟨dlt, d0, dlt, dj, c2, e32, eb, es, gq, a1, a2, a3, gq1, trivial⟩ (bk (y := ⟨G ++ [nr ignR], [], s⟩) (by have := yT' gq1; simp only [List.length_append, List.length_singleton]; omega) ?_ (by rw [outM_C (b := true) (ap _), tk_eq, List.length_append]; rfl) dd)
                  rw [(way_ctl (P := P) (s := s) h32 eb es).1, hpre] at hEl
                  refine ⟨[nr (ctlR (cc (bs.getD i.toNat 0)))] ++ t, hEl.trans ?_⟩
                  simp
                | false => exact by_road (r_mDCtl bs P n El G s i _) ⟨dlt, d0, dlt, dj, c2, e32, eb, es, gq, a1, a2, a3, gq1, a4, a5, a6, trivial⟩ (nx (way_ctl h32 eb es) (by have := nT' gq; have := nT' gq1; rw [hpre]; simp; omega) (by
                    rw [hpre]
                    show _ = hSt2 bs n El ⟨G ++ [nr _, nr _], _, _⟩ _
                    have e1 : List.take (G.length + 1) (List.drop 0 (tk G ++ [nr ignR])) = G ++ [nr ignR] := by rw [tk_eq, List.drop_zero, show G.length + 1 = (G ++ [nr ignR]).length by simp, List.take_length]
                    rw [hSt2_C (by simp), e1, List.append_assoc, List.length_append]
                    rfl))
        · have e32 := dF h32
          cases eg : goOn P (cc (bs.getD i.toNat 0)) with
          | true => exact by_road (r_mDGo bs P n El G s i _) ⟨dlt, d0, dlt, dj, c2, e32, eg, trivial⟩ (nx (way_go h32 hP.1 eg) (by simpa using hn) (by show _ = hSt2 bs n El ⟨G ++ [], _, _⟩ _; rw [List.append_nil, hSt2_D hG (by simp)]))
          | false =>
            cases gq : ((G.length : Int) == n) with
            | true => exact by_road (r_mDEndsX bs P n El G s i _) ⟨dlt, d0, dlt, dj, c2, e32, eg, gq, trivial⟩ (bk (y := ⟨G, [], s⟩) (yT' gq) p0 (outM_C (b := true) hG).symm dd)
            | false => exact by_road (r_mDEnds bs P n El G s i _) ⟨dlt, d0, dlt, dj, c2, e32, eg, gq, a1, a2, a3, trivial⟩ (nx (way_ends h32 hP.1 eg) (by have := nT' gq; simp; omega) (by show _ = hSt2 bs n El ⟨G ++ [nr _], _, _⟩ _; rw [hSt2_C (ap _), tk_eq, List.length_append]; rfl))
  · have hlt' := dF hlt
    have hd : bs.drop i.toNat = [] := List.drop_eq_nil_of_le (by omega)
    rw [hd] at hrun
    have hrun : G = El := hrun
    have hE : G = El.take n.toNat := by rw [← hrun]; exact (List.take_of_length_le (by omega)).symm
    have fin := hR false ⟨G, P, s⟩ hE
    by_cases hG : G = []
    · subst hG
      rcases hP with hP | hP
      · subst hP
        exact by_road (r_mAEnd bs n El s i _) ⟨hlt', trivial⟩ fin
      · rw [hSt2_B hP.1]
        rw [outM_B hP.1] at fin
        exact by_road (r_mBEnd bs P n El s i _) ⟨hlt', trivial⟩ fin
    · rcases hP with hP | hP
      · subst hP
        rw [hSt2_C hG]
        rw [outM_C hG] at fin
        exact by_road (r_mCEnd bs n El G s i _) ⟨hlt', trivial⟩ fin
      · rw [hSt2_D hG hP.1]
        rw [outM_D hG hP.1] at fin
        exact by_road (r_mDEnd bs P n El G s i _) ⟨hlt', trivial⟩ fin
end Go.Proofs.Ytnhadghddkgjdaa.lxv
