/-
  The lexer: the law LexLeft: its first loop.
-/
import Derived.Test.YtdijbpokklgjlaaGreatDoorLexLa
set_option linter.unusedVariables false
namespace Go.Proofs.YtdijbpokklgjlaaGreatDoor.lxv
open Go Go.Nx Go.Proofs.YtdijbpokklgjlaaGreatDoor.lex

/-! ### what is begun stays short -/
theorem getD_app0 {P : List Int} {c : Int} (h : P ≠ []) : (P ++ [c]).getD 0 0 = P.getD 0 0 := by
  cases P with
  | nil => exact (h rfl).elim
  | cons a t => rfl
theorem getD_app1 {P : List Int} {c : Int} (h : 1 < P.length) : (P ++ [c]).getD 1 0 = P.getD 1 0 := by
  match P, h with
  | _ :: _ :: _, _ => rfl
theorem escGo_len {P : List Int} {c : Int} (hl : P.length ≤ 15) (hask : 1 < P.length → 57 ≤ P.getD 1 0 → P.getD 1 0 ≤ 59 → askOk P) (h : escGo P c = true) : P.length < 15 := by
  unfold escGo at h
  by_cases h91 : 1 < P.length ∧ P.getD 1 0 = 91
  · rw [dT h91] at h
    have h : seqGo P c = true := h
    unfold seqGo at h
    have := of_decide_eq_true h
    omega
  · rw [dF h91] at h
    by_cases ha : 1 < P.length ∧ 57 ≤ P.getD 1 0 ∧ P.getD 1 0 ≤ 59
    · obtain ⟨p, r, t, hP⟩ := hask ha.1 ha.2.1 ha.2.2
      rcases hP with rfl | rfl | rfl | rfl | rfl | rfl <;> simp
    · rw [dF ha] at h
      have := of_decide_eq_true h
      omega
theorem go_ok {P : List Int} {c : Int} (hP : okP P) (hl : P.length ≤ 15) (hc : 0 ≤ c ∧ c < 256) (h : goOn P c = true) : okP (P ++ [c]) ∧ (P ++ [c]).length ≤ 15 := by
  obtain ⟨hne, h50, hin, hask⟩ := hP
  have hpos := List.length_pos_iff.2 hne
  have h18 : P.getD 0 0 ≠ 18 := fun e => by unfold goOn at h; rw [if_pos e] at h; cases h
  have hlen : P.length < 15 := by
    unfold goOn at h
    rw [if_neg h18] at h
    by_cases h25 : P.getD 0 0 = 25
    · rw [if_pos h25] at h
      unfold signGo at h
      simp only [Bool.and_eq_true, decide_eq_true_eq] at h
      omega
    rw [if_neg h25] at h
    by_cases h31 : P.getD 0 0 = 31
    · rw [if_pos h31] at h
      unfold placeGo at h
      simp only [decide_eq_true_eq] at h
      omega
    rw [if_neg h31] at h
    exact escGo_len hl (fun a b c => hask a h18 h25 h31 b c) h
  refine ⟨⟨by simp, by simp; omega, ?_, ?_⟩, by simp; omega⟩
  · intro x hx
    rcases List.mem_append.1 hx with hx | hx
    · exact hin x hx
    · rw [List.mem_singleton] at hx; subst hx; exact hc
  · rw [getD_app0 hne]
    intro h1 _ h25 h31 ha hb
    by_cases h1l : 1 < P.length
    · rw [getD_app1 h1l] at ha hb
      have hg : escGo P c = true := by unfold goOn at h; rw [if_neg h18, if_neg h25, if_neg h31] at h; exact h
      unfold escGo at hg
      rw [dF (fun e => by have := e.2; omega), dT ⟨h1l, ha, hb⟩] at hg
      have hg : askGo P = true := hg
      unfold askGo at hg
      have hg := of_decide_eq_true hg
      obtain ⟨p, r, t, hP⟩ := hask h1l h18 h25 h31 ha hb
      rcases hP with rfl | rfl | rfl | rfl | rfl | rfl
      · exact absurd hg (show ¬ ((2 : Nat) : Int) - 1 < 57 - 56 by decide)
      · exact ⟨p, c, 0, .inr (.inr (.inl rfl))⟩
      · exact absurd hg (show ¬ ((3 : Nat) : Int) - 1 < 58 - 56 by decide)
      · exact ⟨p, c, 0, .inr (.inr (.inr (.inr (.inl rfl))))⟩
      · exact ⟨p, r, c, .inr (.inr (.inr (.inr (.inr rfl))))⟩
      · exact absurd hg (show ¬ ((4 : Nat) : Int) - 1 < 59 - 56 by decide)
    · match P, hpos, h1l with
      | [p], _, _ =>
        have ha : 57 ≤ c := ha
        have hb : c ≤ 59 := hb
        have : c = 57 ∨ c = 58 ∨ c = 59 := by omega
        rcases this with rfl | rfl | rfl
        · exact ⟨p, 0, 0, .inl rfl⟩
        · exact ⟨p, 0, 0, .inr (.inl rfl)⟩
        · exact ⟨p, 0, 0, .inr (.inr (.inr (.inl rfl)))⟩
      | _ :: _ :: _, _, h => exact absurd h (by simp)
theorem beg_ok {c : Int} (hc : 0 ≤ c ∧ c < 256) : okP [c] := ⟨by simp, by simp, fun x hx => by rw [List.mem_singleton] at hx; subst hx; exact hc, fun h => by simp at h⟩


/-! ### what a byte does, by its ways -/
def pre (P : List Int) : List (List Sc) := if P = [] then [] else [ignR]
theorem way_beg {P : List Int} {s c : Int} (h : c < 32) (hb : beg c = true) : evts P s c = pre P ∧ pend P c = [c] ∧ shft s c = s := by
  have hs := beg_shf hb
  refine ⟨?_, ?_, ?_⟩
  · unfold evts; rw [if_pos h, hb]; exact List.append_nil _
  · unfold pend; rw [if_pos h, if_pos hb]
  · unfold shft; rw [hs, if_neg (fun h => by cases h.2)]
theorem way_shf {P : List Int} {s c : Int} (h : c < 32) (hb : beg c = false) (hs : shf c = true) : evts P s c = pre P ∧ pend P c = [] ∧ shft s c = shC c := by
  refine ⟨?_, ?_, ?_⟩
  · unfold evts; rw [if_pos h, hs, Bool.or_true]; exact List.append_nil _
  · unfold pend; rw [if_pos h, hb]; rfl
  · unfold shft; rw [if_pos ⟨h, hs⟩]
theorem way_ctl {P : List Int} {s c : Int} (h : c < 32) (hb : beg c = false) (hs : shf c = false) : evts P s c = pre P ++ [ctlR c] ∧ pend P c = [] ∧ shft s c = s := by
  refine ⟨?_, ?_, ?_⟩
  · unfold evts; rw [if_pos h, hb, hs]; rfl
  · unfold pend; rw [if_pos h, hb]; rfl
  · unfold shft; rw [hs, if_neg (fun h => by cases h.2)]
theorem way_chr {s c : Int} (h : ¬ c < 32) : evts [] s c = [ev 1 0 0 0 0 s (w64 c)] ∧ pend [] c = [] ∧ shft s c = s := by
  refine ⟨?_, ?_, ?_⟩
  · unfold evts; rw [if_neg h, if_pos rfl]
  · unfold pend; rw [if_neg h, if_pos rfl]
  · unfold shft; rw [if_neg (fun e => h e.1)]
theorem way_go {P : List Int} {s c : Int} (h : ¬ c < 32) (hP : P ≠ []) (hg : goOn P c = true) : evts P s c = [] ∧ pend P c = P ++ [c] ∧ shft s c = s := by
  refine ⟨?_, ?_, ?_⟩
  · unfold evts; rw [if_neg h, if_neg hP, hg]; rfl
  · unfold pend; rw [if_neg h, if_neg hP, hg]; rfl
  · unfold shft; rw [if_neg (fun e => h e.1)]
theorem way_ends {P : List Int} {s c : Int} (h : ¬ c < 32) (hP : P ≠ []) (hg : goOn P c = false) : evts P s c = [endsR P c] ∧ pend P c = [] ∧ shft s c = s := by
  refine ⟨?_, ?_, ?_⟩
  · unfold evts; rw [if_neg h, if_neg hP, hg]; rfl
  · unfold pend; rw [if_neg h, if_neg hP, hg]; rfl
  · unfold shft; rw [if_neg (fun e => h e.1)]
theorem evts_len (P : List Int) (s c : Int) : (evts P s c).length ≤ 2 := by
  unfold evts
  split
  · rw [List.length_append]
    have h1 : (if P = [] then [] else [ignR]).length ≤ 1 := by split <;> simp
    have h2 : (if beg c || shf c then [] else [ctlR c]).length ≤ 1 := by split <;> simp
    omega
  · split
    · simp
    · split <;> simp

/-! ### all bytes -/
structure LD where
  E : List (List Sc)
  P : List Int
  s : Int
noncomputable def stepL (x : LD) (b : Int) : LD := ⟨x.E ++ (evts x.P x.s (cc b)).map nr, pend x.P (cc b), shft x.s (cc b)⟩
noncomputable def runL (bs : List Int) (x : LD) : LD := bs.foldl stepL x
noncomputable def hSt (bs : List Int) (n : Int) (x : LD) (i : Int) : St := match x.E, x.P with
  | [], [] => st1A bs n x.s i
  | [], _ :: _ => st1B bs n x.P x.s i
  | _ :: _, [] => st1C bs n x.E x.E.length x.s i
  | _ :: _, _ :: _ => st1D bs n x.E x.E.length x.P x.s i
noncomputable def hDn (bs : List Int) (n : Int) (x : LD) : ROI := match x.E, x.P with
  | [], [] => dn1 bs n x.s .sn .sn []
  | [], _ :: _ => dn1 bs n x.s .sn (.h 6 0 x.P.length) [some (arr x.P)]
  | _ :: _, [] => dn1 bs n x.s (.h 6 0 x.E.length) .sn [some (evR x.E)]
  | _ :: _, _ :: _ => dn1 bs n x.s (.h 6 0 x.E.length) (.h 7 0 x.P.length) [some (evR x.E), some (arr x.P)]
structure AL where
  bs : List Int
  n : Int
  x : LD
  i : Int
def okD (x : LD) : Prop := x.P.length ≤ 15 ∧ (x.P = [] ∨ okP x.P)
def inL (a : AL) : Prop := 0 ≤ a.i ∧ a.i ≤ (a.bs.length : Int) ∧ a.bs.length ≤ 60 ∧ InBytes a.bs ∧ okD a.x ∧ (a.x.E.length : Int) ≤ 2 * a.i
def stOf : ROI → NExit × St × Option NExit
  | .next s p => (.normal, s, p)
  | .done e s p => (e, s, p)
def preL (a : AL) (R : NExit × St × Option NExit → Prop) : Prop := inL a ∧ R (stOf (hDn a.bs a.n (runL (a.bs.drop a.i.toNat) a.x)))
noncomputable def hL (a : AL) : St × Option NExit := (hSt a.bs a.n a.x a.i, none)
def nxL (a : AL) (R : NExit × St × Option NExit → Prop) (o : ROI) : Prop := match o with
  | .next s p => ∃ y, y.bs = a.bs ∧ (s, p) = hL y ∧ ((y.bs.length : Int) - y.i).toNat < ((a.bs.length : Int) - a.i).toNat ∧ preL y R
  | .done e s p => R (e, s, p)
theorem step_ok {x : LD} {b : Int} (hx : okD x) (hb : 0 ≤ b ∧ b < 256) : okD (stepL x b) := by
  obtain ⟨h15, hP⟩ := hx
  have hc := cc_of hb
  unfold okD stepL
  simp only
  by_cases h32 : cc b < 32
  · cases eb : beg (cc b) with
    | true => rw [(way_beg (P := x.P) (s := x.s) h32 eb).2.1]; exact ⟨by simp, .inr (beg_ok ⟨hc.1, by omega⟩)⟩
    | false =>
      cases es : shf (cc b) with
      | true => rw [(way_shf (P := x.P) (s := x.s) h32 eb es).2.1]; exact ⟨by simp, .inl rfl⟩
      | false => rw [(way_ctl (P := x.P) (s := x.s) h32 eb es).2.1]; exact ⟨by simp, .inl rfl⟩
  · rcases hP with hP | hP
    · rw [hP, (way_chr (s := x.s) h32).2.1]; exact ⟨by simp, .inl rfl⟩
    · cases eg : goOn x.P (cc b) with
      | true =>
        rw [(way_go (s := x.s) h32 hP.1 eg).2.1]
        obtain ⟨h1, h2⟩ := go_ok hP h15 (c := cc b) ⟨hc.1, by omega⟩ eg
        exact ⟨h2, .inr h1⟩
      | false => rw [(way_ends (s := x.s) h32 hP.1 eg).2.1]; exact ⟨by simp, .inl rfl⟩
theorem drop_get {bs : List Int} {i : Int} (h0 : 0 ≤ i) (h : i < (bs.length : Int)) : bs.drop i.toNat = bs.getD i.toNat 0 :: bs.drop (i + 1).toNat := by
  have hj : i.toNat < bs.length := by omega
  rw [show (i + 1).toNat = i.toNat + 1 by omega, List.getD_eq_getElem?_getD, List.getElem?_eq_getElem hj]
  exact List.drop_eq_getElem_cons hj
theorem nxL_in {a : AL} {R : NExit × St × Option NExit → Prop} {st : St} (h : preL a R) (hlt : a.i < (a.bs.length : Int)) (hst : st = hSt a.bs a.n (stepL a.x (a.bs.getD a.i.toNat 0)) (w64 (a.i + 1))) : nxL a R (ROI.next st none) := by
  obtain ⟨⟨h0, hle, h60, hb, hx, hE⟩, hR⟩ := h
  have hj : a.i.toNat < a.bs.length := by omega
  have hX : 0 ≤ a.bs.getD a.i.toNat 0 ∧ a.bs.getD a.i.toNat 0 < 256 := by
    rw [List.getD_eq_getElem?_getD, List.getElem?_eq_getElem hj]
    exact hb _ (List.getElem_mem hj)
  have hw : w64 (a.i + 1) = a.i + 1 := by unfold w64; rw [IntKind.wrap_i64]; omega
  refine ⟨⟨a.bs, a.n, stepL a.x (a.bs.getD a.i.toNat 0), a.i + 1⟩, rfl, ?_, ?_, ⟨?_, ?_, h60, hb, step_ok hx hX, ?_⟩, ?_⟩
  · rw [hst, hw]; rfl
  · simp only; omega
  · simp only; omega
  · simp only; omega
  · simp only [stepL]
    have := evts_len a.x.P a.x.s (cc (a.bs.getD a.i.toNat 0))
    rw [List.length_append, List.length_map]
    omega
  · rw [drop_get h0 hlt] at hR
    exact hR
theorem hSt_A {bs : List Int} {n s i : Int} : hSt bs n ⟨[], [], s⟩ i = st1A bs n s i := rfl
theorem hSt_B {bs : List Int} {n s i : Int} {P : List Int} (h : P ≠ []) : hSt bs n ⟨[], P, s⟩ i = st1B bs n P s i := by
  cases P with
  | nil => exact (h rfl).elim
  | cons p P => rfl
theorem hSt_C {bs : List Int} {n s i : Int} {E : List (List Sc)} (h : E ≠ []) : hSt bs n ⟨E, [], s⟩ i = st1C bs n E E.length s i := by
  cases E with
  | nil => exact (h rfl).elim
  | cons p P => rfl
theorem hSt_D {bs : List Int} {n s i : Int} {E : List (List Sc)} {P : List Int} (h : E ≠ []) (h' : P ≠ []) : hSt bs n ⟨E, P, s⟩ i = st1D bs n E E.length P s i := by
  cases E with
  | nil => exact (h rfl).elim
  | cons p E => cases P with
    | nil => exact (h' rfl).elim
    | cons p P => rfl
theorem hDn_B {bs : List Int} {n s : Int} {P : List Int} (h : P ≠ []) : hDn bs n ⟨[], P, s⟩ = dn1 bs n s .sn (.h 6 0 P.length) [some (arr P)] := by
  cases P with
  | nil => exact (h rfl).elim
  | cons p P => rfl
theorem hDn_C {bs : List Int} {n s : Int} {E : List (List Sc)} (h : E ≠ []) : hDn bs n ⟨E, [], s⟩ = dn1 bs n s (.h 6 0 E.length) .sn [some (evR E)] := by
  cases E with
  | nil => exact (h rfl).elim
  | cons p P => rfl
theorem hDn_D {bs : List Int} {n s : Int} {E : List (List Sc)} {P : List Int} (h : E ≠ []) (h' : P ≠ []) : hDn bs n ⟨E, P, s⟩ = dn1 bs n s (.h 6 0 E.length) (.h 7 0 P.length) [some (evR E), some (arr P)] := by
  cases E with
  | nil => exact (h rfl).elim
  | cons p E => cases P with
    | nil => exact (h' rfl).elim
    | cons p P => rfl
theorem tk_eq (E : List (List Sc)) : tk E = E := by unfold tk; rw [List.drop_zero, List.take_length]
end Go.Proofs.YtdijbpokklgjlaaGreatDoor.lxv
