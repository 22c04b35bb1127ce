/-
  The law LexSays: its first loop, summed up.
-/
import Derived.Test.YtnhadghddkgjdaaLexH9
set_option linter.unusedVariables false
namespace Go.Proofs.Ytnhadghddkgjdaa.lxr
open Go Go.Nx Go.Proofs.Ytnhadghddkgjdaa.lex Go.Proofs.Ytnhadghddkgjdaa.lxv

noncomputable def stepS (x : LD) (b : Int) : LD := ⟨x.E ++ evts x.P x.s (cc b), pend x.P (cc b), shft x.s (cc b)⟩
noncomputable def runS (bs : List Int) (x : LD) : LD := bs.foldl stepS x
structure AS where
  bs : List Int
  x : LD
  i : Int
noncomputable def hSay (a : AS) : St := sSay a.bs a.x.P a.x.s a.x.E a.i
noncomputable def endSay (bs : List Int) (x : LD) : NExit × St := (.normal, dSay bs x.P x.s x.E)
def invS (a : AS) : Prop := (0 ≤ a.i ∧ a.i ≤ (a.bs.length : Int)) ∧ a.bs.length ≤ 200 ∧ InBytes a.bs ∧ okZ a.x.P ∧ (a.x.E.length : Int) ≤ 2 * a.i
def preS (a : AS) (R : NExit × St → Prop) : Prop := invS a ∧ R (endSay a.bs (runS (a.bs.drop a.i.toNat) a.x))
def nxtS (a : AS) (R : NExit × St → Prop) (o : RO) : Prop := match o with
  | .next s => ∃ y, s = hSay y ∧ ((y.bs.length : Int) - y.i).toNat < ((a.bs.length : Int) - a.i).toNat ∧ preS y R
  | .done e s => R (e, s)
theorem evts_two (P : List Int) (s c : Int) : (evts P s c).length ≤ 2 := by
  unfold evts
  split
  · split <;> split <;> simp
  · split
    · simp
    · split <;> simp
theorem nSay_eq {bs P : List Int} {s : Int} {E Y : List (List Sc)} {i : Int} : nSay bs P s E Y i = sSay bs P s (E ++ Y) i := by
  unfold nSay sSay
  rw [List.take_length, List.length_append]
theorem round_in (bs : List Int) (x : LD) (i : Int) (R : NExit × St → Prop) (h : preS ⟨bs, x, i⟩ R) :
    sel (decide (i < (bs.length : Int))) (ix i bs (byteSay bs x.P x.s x.E i (bs.getD i.toNat 0) (nxtS ⟨bs, x, i⟩ R))) (nxtS ⟨bs, x, i⟩ R (RO.done NExit.normal (dSay bs x.P x.s x.E))) := by
  obtain ⟨⟨⟨h0, hle⟩, h200, hb, hP, hE⟩, hR⟩ := h
  simp only at h0 hle h200 hb hP hE hR
  refine sel_by (fun hlt => ix_in ⟨h0, hlt⟩ ?_) fun hlt => ?_
  · have hj : i.toNat < bs.length := by omega
    have hd : bs.drop i.toNat = bs.getD i.toNat 0 :: bs.drop (i.toNat + 1) := by
      rw [List.drop_eq_getElem_cons hj, List.getD_eq_getElem?_getD, List.getElem?_eq_getElem hj]; rfl
    have hbm : 0 ≤ bs.getD i.toNat 0 ∧ bs.getD i.toNat 0 < 256 := by
      rw [List.getD_eq_getElem?_getD, List.getElem?_eq_getElem hj]
      exact hb _ (List.getElem_mem hj)
    have ht : (i + 1).toNat = i.toNat + 1 := by omega
    have hw : w64 (i + 1) = i + 1 := w64_of (by omega)
    rw [hd] at hR
    generalize bs.getD i.toNat 0 = b at *
    have hc := cc_of hbm
    have hP' := pend_ok hP hc
    have hl' := okZ_len hP'
    have h2 := evts_two x.P x.s (cc b)
    refine ⟨⟨rfl, hbm, okZ_P hP⟩, ix_in ⟨h0, hlt⟩ ⟨⟨rfl, hbm, hP⟩, ⟨rfl, rfl, rfl, by omega⟩, ⟨rfl, by omega⟩, rfl, rfl, selT (dT (Nat.le_refl _)) (selT (dT (Nat.le_refl _)) ⟨⟨rfl, by rw [List.take_length]; omega⟩, rfl, rfl, selF (by simp) (selT (dT (Nat.le_refl _)) (selT (dT (by omega)) (selT (dT (by omega)) ?_)))⟩)⟩⟩
    rw [nSay_eq, hw]
    refine ⟨⟨bs, stepS x b, i + 1⟩, rfl, by simp only; omega, ⟨⟨by simp only; omega, by simp only; omega⟩, h200, hb, hP', ?_⟩, ?_⟩
    · show (((x.E ++ evts x.P x.s (cc b)).length : Nat) : Int) ≤ 2 * (i + 1)
      rw [List.length_append]
      omega
    · show R (endSay bs (runS (bs.drop (i + 1).toNat) (stepS x b)))
      rw [ht]
      exact hR
  · have hz : bs.drop i.toNat = [] := List.drop_eq_nil_iff.2 (by omega)
    rw [hz] at hR
    exact hR
def rdS (s : St) : Option (List Int) := match s.fr[(0 : Nat)]? with
  | some (.v (.c (.l _ bs))) => some bs
  | _ => none
def x0 : LD := ⟨[], [], 0⟩
noncomputable def lSay0 (s : St) : Tr (NExit × St) := match rdS s with
  | some bs => .must (s = sSay bs [] 0 [] 0 ∧ bs.length ≤ 200 ∧ InBytes bs) (.ret (endSay bs (runS bs x0)))
  | none => .fail
set_option maxRecDepth 100000 in
theorem loop_say0 : LOk Try.prog [] 0 0 (bodyLoop fSay 0) lSay0 := by
  refine loop_ok (X := XSay) kcSay mixed (LAll.none (by kernel_rfl)) [0, 3, 4, 5, 6, 7, 8, 9] [0, 2, 3, 5, 6, 7, 8] hSay (fun a => ((a.bs.length : Int) - a.i).toNat) preS ?_ ?_
  · intro s R h
    unfold lSay0 at h
    split at h
    case h_2 => exact h.elim
    rename_i bs hrd
    obtain ⟨⟨hs, hl, hb⟩, hR⟩ := h
    exact ⟨⟨bs, x0, 0⟩, hs, ⟨⟨by simp only; omega, by simp only; omega⟩, hl, hb, .inl rfl, by simp [x0]⟩, hR⟩
  · intro a R h
    obtain ⟨bs, x, i⟩ := a
    have := (Box.of_eq (round_say bs x.P x.s x.E i (nxtS ⟨bs, x, i⟩ R)) (round_in bs x i R h)).out
    refine Tr.run_mono _ (fun o ho => ?_) this
    exact ho
/-! ### the loop's start, with nil -/
noncomputable def frS (bs : List Int) (a b c d : Nat) (all : NC) : List NS := frame 84 [(0, .v (.c (.l .u8 bs))), (3, .v (.c (.b true))), (4, .v (.c (.p a 0 0))), (5, .v (.c (.p b 0 0))), (6, .v (.c (.p c 0 0))), (7, .v (.c all)), (8, .v (.c (.p d 0 0))), (9, .v (.c (.i .i64 0)))]
noncomputable def sNil (bs : List Int) : St := { fr := frS bs 0 1 2 3 .sn, rg := [some (lx .sn 0), some (lx .sn 0), some (rx .sn 0), cel 45 1 [.sn]] }
noncomputable def sGh (bs : List Int) : St := { fr := frS bs 0 1 2 3 (.hz 8 0), rg := [some (lx (.hz 4 0) 0), some (lx (.hz 5 0) 0), some (rx (.hz 6 0) 0), cel 45 1 [.hz 7 0], some (arr []), some (arr []), some (arr []), some (evR []), some (evR [])] }
theorem stepC {s u t : St} (r j st : Nat) (e : TypeId) (xs : List NC) (g : Reg) (hg : Ghost g) (hr : s.rg[r]? = some (some ⟨st, e, .cells xs⟩)) (hj : xs[j]? = some .sn)
    (hu : u = { fr := s.fr, rg := putAt (putAt s.rg s.rg.length (some g)) r (some ⟨st, e, .cells (xs.set j (.hz s.rg.length 0))⟩) }) (h : GSteps u t) : GSteps s t := .cell r j st e xs g hg hr hj (hu ▸ h)
theorem stepV {s u t : St} (j : Nat) (g : Reg) (hg : Ghost g) (hj : s.fr[j]? = some (.v (.c .sn))) (hu : u = { fr := s.fr.set j (.v (.c (.hz s.rg.length 0))), rg := putAt s.rg s.rg.length (some g) }) (h : GSteps u t) : GSteps s t := .slot j g hg hj (hu ▸ h)
noncomputable def sGk (bs : List Int) (all a b c d : NC) (l : List (Option Reg)) : St := { fr := frS bs 0 1 2 3 all, rg := some (lx a 0) :: some (lx b 0) :: some (rx c 0) :: cel 45 1 [d] :: l }
theorem gs1 (bs : List Int) : sGk bs .sn (.hz 4 0) .sn .sn .sn [some (arr [])] = { fr := (sNil bs).fr, rg := putAt (putAt (sNil bs).rg (sNil bs).rg.length (some (arr []))) 0 (some ⟨2, 43, .cells (([.sn, .i .i64 0] : List NC).set 0 (.hz (sNil bs).rg.length 0))⟩) } := by kernel_rfl
theorem gs2 (bs : List Int) (s : St) (hs : s = sGk bs .sn (.hz 4 0) .sn .sn .sn [some (arr [])]) : sGk bs .sn (.hz 4 0) (.hz 5 0) .sn .sn [some (arr []), some (arr [])] = { fr := s.fr, rg := putAt (putAt s.rg s.rg.length (some (arr []))) 1 (some ⟨2, 43, .cells (([.sn, .i .i64 0] : List NC).set 0 (.hz s.rg.length 0))⟩) } := by subst hs; rfl
theorem gs3 (bs : List Int) (s : St) (hs : s = sGk bs .sn (.hz 4 0) (.hz 5 0) .sn .sn [some (arr []), some (arr [])]) : sGk bs .sn (.hz 4 0) (.hz 5 0) (.hz 6 0) .sn [some (arr []), some (arr []), some (arr [])] = { fr := s.fr, rg := putAt (putAt s.rg s.rg.length (some (arr []))) 2 (some ⟨2, 65, .cells (([.sn, .i .i64 0] : List NC).set 0 (.hz s.rg.length 0))⟩) } := by subst hs; rfl
theorem gs4 (bs : List Int) (s : St) (hs : s = sGk bs .sn (.hz 4 0) (.hz 5 0) (.hz 6 0) .sn [some (arr []), some (arr []), some (arr [])]) : sGk bs .sn (.hz 4 0) (.hz 5 0) (.hz 6 0) (.hz 7 0) [some (arr []), some (arr []), some (arr []), some (evR [])] = { fr := s.fr, rg := putAt (putAt s.rg s.rg.length (some (evR []))) 3 (some ⟨1, 45, .cells (([.sn] : List NC).set 0 (.hz s.rg.length 0))⟩) } := by subst hs; rfl
theorem gs5f (bs : List Int) : frS bs 0 1 2 3 (.hz 8 0) = (frS bs 0 1 2 3 .sn).set 7 (.v (.c (.hz 8 0))) := by kernel_rfl
theorem gs5j (bs : List Int) : (frS bs 0 1 2 3 .sn)[7]? = some (.v (.c .sn)) := by kernel_rfl
theorem gh_steps (bs : List Int) : GSteps (sNil bs) (sGh bs) :=
  stepC 0 0 2 43 [.sn, .i .i64 0] (arr []) (.inl ⟨_, rfl⟩) rfl rfl (gs1 bs) (
  stepC 1 0 2 43 [.sn, .i .i64 0] (arr []) (.inl ⟨_, rfl⟩) rfl rfl (gs2 bs _ rfl) (
  stepC 2 0 2 65 [.sn, .i .i64 0] (arr []) (.inl ⟨_, rfl⟩) rfl rfl (gs3 bs _ rfl) (
  stepC 3 0 1 45 [.sn] (evR []) (.inr ⟨_, rfl⟩) rfl rfl (gs4 bs _ rfl) (
  stepV 7 (evR []) (.inr ⟨_, rfl⟩) (gs5j bs) (congrArg (fun f => St.mk f (sGh bs).rg) (gs5f bs)) (.refl _)))))
theorem gh_norm (bs : List Int) : norm 0 [0, 3, 4, 5, 6, 7, 8, 9] (sGh bs) = some (sSay bs [] 0 [] 0) := by kernel_rfl
noncomputable def lSay1 (s : St) : Tr (NExit × St) := match rdS s with
  | some bs => .must (s = sGh bs ∧ bs.length ≤ 200 ∧ InBytes bs) (.ret (endSay bs (runS bs x0)))
  | none => .fail
noncomputable def lSay (s : St) : Tr (NExit × St) := match rdS s with
  | some bs => .must (s = sNil bs ∧ bs.length ≤ 200 ∧ InBytes bs) (.ret (endSay bs (runS bs x0)))
  | none => .fail
set_option maxRecDepth 100000 in
theorem loop_say1 : LOk Try.prog [] 0 0 (bodyLoop fSay 0) lSay1 := by
  refine loop_say0.normed [0, 3, 4, 5, 6, 7, 8, 9] fun s R h => ?_
  unfold lSay1 at h
  split at h
  case h_2 => exact h.elim
  rename_i bs hrd
  obtain ⟨⟨rfl, hl, hb⟩, hR⟩ := h
  exact ⟨_, gh_norm bs, ⟨⟨rfl, hl, hb⟩, hR⟩⟩
set_option maxRecDepth 100000 in
theorem loop_say : LOk Try.prog [] 0 0 (bodyLoop fSay 0) lSay := by
  refine loop_say1.ghosts fun s R h => ?_
  unfold lSay at h
  split at h
  case h_2 => exact h.elim
  rename_i bs hrd
  obtain ⟨⟨rfl, hl, hb⟩, hR⟩ := h
  exact ⟨_, gh_steps bs, ⟨⟨rfl, hl, hb⟩, hR⟩⟩
end Go.Proofs.Ytnhadghddkgjdaa.lxr
