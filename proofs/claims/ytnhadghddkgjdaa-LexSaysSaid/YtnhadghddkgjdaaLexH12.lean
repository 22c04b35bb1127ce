/-
  The law LexSays: the range over all bytes, summed up.
-/
import Derived.Test.YtnhadghddkgjdaaLexH11
set_option linter.unusedVariables false
namespace Go.Proofs.Ytnhadghddkgjdaa.lxr
open Go Go.Nx Go.Proofs.Ytnhadghddkgjdaa.lex Go.Proofs.Ytnhadghddkgjdaa.lxv

/-! ### events are their own rows -/
theorem nr_ev (k a b c d set code : Int) : nr (ev k a b c d set code) = ev k a b c d set code := rfl
theorem nr_ctl (c : Int) : nr (ctlR c) = ctlR c := by
  unfold ctlR
  split
  · rfl
  split
  · rfl
  split
  · rfl
  split
  · rfl
  split
  · rfl
  split
  · rfl
  split
  · rfl
  split
  · rfl
  split
  · rfl
  · rfl
theorem nr_ends (P : List Int) (c : Int) : nr (endsR P c) = endsR P c := by
  obtain ⟨k, a, b, d, t, st, code, he⟩ := endsR_ev (P := P) (c := c)
  rw [he]; exact nr_ev ..
theorem evts_nr (P : List Int) (s c : Int) : (evts P s c).map nr = evts P s c := by
  unfold evts
  split
  · split <;> split <;> simp [nr_ctl] <;> rfl
  · split
    · rfl
    · split
      · rfl
      · simp [nr_ends]
theorem stepL_S (x : LD) (b : Int) : stepL x b = stepS x b := by unfold stepL stepS; rw [evts_nr]
theorem runL_S : ∀ (l : List Int) (x : LD), runL l x = runS l x
  | [], _ => rfl
  | b :: l, x => by
    show runL l (stepL x b) = runS l (stepS x b)
    rw [stepL_S, runL_S]

/-! ### the states -/
noncomputable def stG (k : Kp) (j : Nat) (x : LD) (i : Int) : St := match j with
  | 0 => s0G k i
  | 1 => s1G k x.P x.s i
  | _ => s2G k x.P x.s x.E x.E.length i
noncomputable def endG (k : Kp) (x : LD) : Tr (NExit × St × Option NExit) := .br k.bs.isEmpty (.ret (stOf (d0G k))) (.br x.E.isEmpty (.ret (stOf (d1G k x.P x.s))) (.ret (stOf (d2G k x.P x.s x.E x.E.length))))
def shG (j : Nat) (x : LD) (i : Int) : Prop := match j with
  | 0 => i = 0 ∧ x = x0
  | 1 => 0 < i ∧ x.E = []
  | _ => 0 < i ∧ x.E ≠ []
structure AG where
  k : Kp
  x : LD
  i : Int
  j : Nat
def invG (a : AG) : Prop := (0 ≤ a.i ∧ a.i ≤ (a.k.bs.length : Int)) ∧ a.k.bs.length ≤ 200 ∧ InBytes a.k.bs ∧ okZ a.x.P ∧ (a.x.E.length : Int) ≤ 2 * a.i ∧ shG a.j a.x a.i
def preG (a : AG) (R : NExit × St × Option NExit → Prop) : Prop := invG a ∧ (endG a.k (runS (a.k.bs.drop a.i.toNat) a.x)).run R
noncomputable def hG (a : AG) : St × Option NExit := (stG a.k a.j a.x a.i, Option.none)
def nxG (a : AG) (R : NExit × St × Option NExit → Prop) (o : ROI) : Prop := match o with
  | .next s p => ∃ y, y.k = a.k ∧ (s, p) = hG y ∧ ((y.k.bs.length : Int) - y.i).toNat < ((a.k.bs.length : Int) - a.i).toNat ∧ preG y R
  | .done e s p => R (e, s, p)
theorem evsG_in {Y : List (List Sc)} {k1 k2 k3 : Prop → Prop} {A0 A1 A2 : Prop} (hl : Y.length ≤ 2) (h1 : ∀ A, A → k1 A) (h2 : ∀ a b A, Y = [a, b] → A → k2 A) (g0 : Y = [] → A0) (g1 : ∀ a, Y = [a] → A1) (g2 : ∀ a b, Y = [a, b] → A2) : evsG Y k1 k2 k3 A0 A1 A2 := by
  match Y, hl with
  | [], _ => exact selF rfl (g0 rfl)
  | [a], _ => exact selT rfl (selT rfl (selT rfl (selT rfl (h1 _ (selF rfl (g1 a rfl))))))
  | [a, b], _ => exact selT rfl (selT rfl (selT rfl (selT rfl (h1 _ (selT rfl (selT rfl (selT rfl (selT rfl (h2 a b _ rfl (selF rfl (g2 a b rfl))))))))))) 
theorem apG_in {n m : Nat} {A : Prop} (h : n ≤ m) (hn : n ≤ 1000) (hA : A) : apG n m A := selT (dT h) (selT (dT (by omega)) (selT (dT (by omega)) hA))
theorem nxG_in {a : AG} {R : NExit × St × Option NExit → Prop} {st : St} (h : preG a R) (hlt : a.i < (a.k.bs.length : Int)) (j : Nat) (hs : shG j (stepS a.x (a.k.bs.getD a.i.toNat 0)) (a.i + 1)) (hst : st = stG a.k j (stepS a.x (a.k.bs.getD a.i.toNat 0)) (w64 (a.i + 1))) : nxG a R (ROI.next st Option.none) := by
  obtain ⟨⟨⟨h0, hle⟩, h200, hb, hP, hE, -⟩, hR⟩ := h
  have hj : a.i.toNat < a.k.bs.length := by omega
  have hX : 0 ≤ a.k.bs.getD a.i.toNat 0 ∧ a.k.bs.getD a.i.toNat 0 < 256 := by
    rw [List.getD_eq_getElem?_getD, List.getElem?_eq_getElem hj]
    exact hb _ (List.getElem_mem hj)
  have hw : w64 (a.i + 1) = a.i + 1 := w64_of (by omega)
  have hd := drop_get h0 hlt
  rw [hd] at hR
  refine ⟨⟨a.k, stepS a.x (a.k.bs.getD a.i.toNat 0), a.i + 1, j⟩, rfl, by rw [hst, hw]; rfl, by simp only; omega, ⟨⟨by simp only; omega, by simp only; omega⟩, h200, hb, pend_ok hP (cc_of hX), ?_, hs⟩, hR⟩
  have h2 := evts_two a.x.P a.x.s (cc (a.k.bs.getD a.i.toNat 0))
  show (((a.x.E ++ evts a.x.P a.x.s (cc (a.k.bs.getD a.i.toNat 0))).length : Nat) : Int) ≤ 2 * (a.i + 1)
  rw [List.length_append]
  omega
theorem h1_of {P : List Int} {s c : Int} {a : List Sc} {l : List (List Sc)} (h : evts P s c = a :: l) : h1G (evts P s c) = a := by
  have hn := evts_nr P s c
  rw [h, List.map_cons] at hn
  rw [h]
  exact (List.cons.inj hn).1
theorem h2_of {P : List Int} {s c : Int} {a b : List Sc} {l : List (List Sc)} (h : evts P s c = a :: b :: l) : h2G (evts P s c) = b := by
  have hn := evts_nr P s c
  rw [h, List.map_cons, List.map_cons] at hn
  rw [h]
  exact (List.cons.inj (List.cons.inj hn).2).1
set_option maxRecDepth 100000 in
theorem round_G (a : AG) (R : NExit × St × Option NExit → Prop) (h : preG a R) : Box ((rndG a.k.E.length a.k.bs (hG a).1).run (nxG a R)) := by
  obtain ⟨k, x, i, j⟩ := a
  have hp := h
  obtain ⟨⟨⟨h0, hle⟩, h200, hb, hP, hE, hsh⟩, hR⟩ := h
  simp only at h0 hle h200 hb hP hE hsh hR
  have nx : ∀ (hlt : i < (k.bs.length : Int)) (j' : Nat) (Y : List (List Sc)) (st : St), evts x.P x.s (cc (k.bs.getD i.toNat 0)) = Y → shG j' ⟨x.E ++ Y, pend x.P (cc (k.bs.getD i.toNat 0)), shft x.s (cc (k.bs.getD i.toNat 0))⟩ (i + 1) →
      st = stG k j' ⟨x.E ++ Y, pend x.P (cc (k.bs.getD i.toNat 0)), shft x.s (cc (k.bs.getD i.toNat 0))⟩ (w64 (i + 1)) → nxG ⟨k, x, i, j⟩ R (ROI.next st Option.none) := by
    rintro hlt j' Y st rfl h1 h2
    exact nxG_in hp hlt j' h1 h2
  have hz : ¬ i < (k.bs.length : Int) → runS (k.bs.drop i.toNat) x = x := fun hlt => by
    rw [List.drop_eq_nil_iff.2 (by omega)]; rfl
  have hX : i < (k.bs.length : Int) → 0 ≤ k.bs.getD i.toNat 0 ∧ k.bs.getD i.toNat 0 < 256 := fun hlt => by
    have hj : i.toNat < k.bs.length := by omega
    rw [List.getD_eq_getElem?_getD, List.getElem?_eq_getElem hj]
    exact hb _ (List.getElem_mem hj)
  have h2 := evts_two x.P x.s (cc (k.bs.getD i.toNat 0))
  match j, hsh with
  | 0, hsh =>
    obtain ⟨hi, hx⟩ := hsh
    subst hx
    show Box ((rndG k.E.length k.bs (s0G k i)).run _)
    refine Box.of_eq (round_0G k i _) (sel_by (fun hlt => ix_in ⟨h0, hlt⟩ ⟨⟨rfl, hX hlt, .inl rfl⟩, evsG_in h2 (fun _ h => h) (fun _ _ _ _ h => h) (fun e => ?_) (fun a e => ?_) (fun a b e => ?_)⟩) fun hlt => ?_)
    · exact nx hlt 1 [] _ e ⟨by omega, rfl⟩ rfl
    · have e' := h1_of e
      exact nx hlt 2 [a] _ e ⟨by omega, by simp⟩ (congrArg (fun z => s2G k (pend [] (cc (k.bs.getD i.toNat 0))) (shft 0 (cc (k.bs.getD i.toNat 0))) [z] 1 (w64 (i + 1))) e')
    · have e1 := h1_of e
      have e2 := h2_of e
      refine nx hlt 2 [a, b] _ e ⟨by omega, by simp⟩ ?_
      have e1 : h1G (evts [] 0 (cc (k.bs.getD i.toNat 0))) = a := e1
      have e2 : h2G (evts [] 0 (cc (k.bs.getD i.toNat 0))) = b := e2
      rw [e1, e2]
      rfl
    · rw [hz hlt] at hR
      have : k.bs = [] := List.length_eq_zero_iff.1 (by omega)
      have hR : sel k.bs.isEmpty _ _ := hR
      rw [this] at hR
      exact hR
  | 1, hsh =>
    obtain ⟨hi, hx⟩ := hsh
    obtain ⟨G, P, s⟩ := x
    simp only at hx hP
    subst hx
    show Box ((rndG k.E.length k.bs (s1G k P s i)).run _)
    refine Box.of_eq (round_1G k P s i _) (sel_by (fun hlt => ix_in ⟨h0, hlt⟩ ⟨⟨rfl, hX hlt, okZ_P hP⟩, evsG_in h2 (fun _ h => h) (fun _ _ _ _ h => h) (fun e => ?_) (fun a e => ?_) (fun a b e => ?_)⟩) fun hlt => ?_)
    · exact nx hlt 1 [] _ e ⟨by omega, rfl⟩ rfl
    · have e' := h1_of e
      exact nx hlt 2 [a] _ e ⟨by omega, by simp⟩ (congrArg (fun z => s2G k (pend P (cc (k.bs.getD i.toNat 0))) (shft s (cc (k.bs.getD i.toNat 0))) [z] 1 (w64 (i + 1))) e')
    · have e1 := h1_of e
      have e2 := h2_of e
      refine nx hlt 2 [a, b] _ e ⟨by omega, by simp⟩ ?_
      have e1 : h1G (evts P s (cc (k.bs.getD i.toNat 0))) = a := e1
      have e2 : h2G (evts P s (cc (k.bs.getD i.toNat 0))) = b := e2
      rw [e1, e2]
      rfl
    · rw [hz hlt] at hR
      have hne : k.bs.isEmpty = false := by
        cases hk : k.bs with
        | nil => rw [hk] at hle; have : i ≤ 0 := hle; omega
        | cons => rfl
      have hR : sel k.bs.isEmpty _ _ := hR
      rw [hne] at hR
      exact hR
  | n + 2, hsh =>
    obtain ⟨hi, hx⟩ := hsh
    obtain ⟨G, P, s⟩ := x
    simp only at hx hP hE
    show Box ((rndG k.E.length k.bs (s2G k P s G G.length i)).run _)
    have hG : G.length ≤ 400 := by omega
    refine Box.of_eq (round_2G k P s G i _) (sel_by (fun hlt => ix_in ⟨h0, hlt⟩ ⟨⟨rfl, hX hlt, okZ_P hP⟩, evsG_in h2 (fun _ h => apG_in (Nat.le_refl _) (by omega) h) (fun a b _ _ h => apG_in (by rw [List.take_length, List.length_append]; exact Nat.le_refl _) (by omega) h) (fun e => ?_) (fun a e => ?_) (fun a b e => ?_)⟩) fun hlt => ?_)
    · exact nx hlt 2 [] _ e ⟨by omega, by simpa using hx⟩ (by rw [List.append_nil]; rfl)
    · refine nx hlt 2 [a] _ e ⟨by omega, by simp⟩ ?_
      have e1 : h1G (evts P s (cc (k.bs.getD i.toNat 0))) = a := h1_of e
      rw [e1, List.take_length]
      show s2G k _ _ (G ++ [a]) (G.length + 1) _ = s2G k _ _ (G ++ [a]) (G ++ [a]).length _
      rw [List.length_append]
      rfl
    · refine nx hlt 2 [a, b] _ e ⟨by omega, by simp⟩ ?_
      have e1 : h1G (evts P s (cc (k.bs.getD i.toNat 0))) = a := h1_of e
      have e2 : h2G (evts P s (cc (k.bs.getD i.toNat 0))) = b := h2_of e
      rw [e1, e2, List.take_length]
      have e3 : List.take (G.length + 1) (G ++ [a]) = G ++ [a] := List.take_of_length_le (by rw [List.length_append]; exact Nat.le_refl _)
      rw [e3, List.append_assoc]
      show s2G k _ _ (G ++ ([a] ++ [b])) (G.length + 1 + 1) _ = s2G k _ _ (G ++ [a, b]) (G ++ [a, b]).length _
      rw [List.length_append]
      rfl
    · rw [hz hlt] at hR
      have hne : k.bs.isEmpty = false := by
        cases hk : k.bs with
        | nil => rw [hk] at hle; have : i ≤ 0 := hle; omega
        | cons => rfl
      have hge : G.isEmpty = false := by
        cases hk : G with
        | nil => exact (hx hk).elim
        | cons => rfl
      have hR : sel k.bs.isEmpty _ (sel G.isEmpty _ _) := hR
      rw [hne, hge] at hR
      exact hR
end Go.Proofs.Ytnhadghddkgjdaa.lxr
