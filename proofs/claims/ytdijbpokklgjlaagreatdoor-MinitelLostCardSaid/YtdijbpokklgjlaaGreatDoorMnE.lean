/-
  The Minitel: what is read of a module: its loops summed up.
-/
import Derived.Test.YtdijbpokklgjlaaGreatDoorMnD
import Derived.Test.YtdijbpokklgjlaaGreatDoorLexLb
set_option linter.unusedVariables false
namespace Go.Proofs.YtdijbpokklgjlaaGreatDoor.mtl
open Go Go.Nx Go.Proofs.YtdijbpokklgjlaaGreatDoor.prt
open Go.Proofs.YtdijbpokklgjlaaGreatDoor.lex (arr lx InBytes mkEv K7)
open Go.Proofs.YtdijbpokklgjlaaGreatDoor.lxv (fIt KI liveO liveN innerC outerC frIt cel evR psOf asOf bdOf nr t_all k_all tByteH kByteH evts pend shft cc okP)
open Go.Proofs.YtdijbpokklgjlaaGreatDoor.scr (Scr rdS rdS_in Ev eventS tEvent kEvent tRolls kRolls rollsS PreE Ins)

/-! ### the events of a byte -/
noncomputable def rdI (s : St) : Option (RK × Mn × Int × List (List Sc)) := match s.fr[(10 : Nat)]?, s.fr[(16 : Nat)]?, s.rg with
  | some (.v (.c (.i _ i))), some (.v (.c (.lr _ Y))), [some ⟨_, _, .cells l⟩, gs, _, _, _, _, _, _, some ⟨_, _, .cells [.i _ j]⟩, some ⟨_, _, .cells [.b hd]⟩, some ⟨_, _, .cells [.b an]⟩, some ⟨_, _, .cells [.l _ bs]⟩, some ⟨_, _, .cells [.p _ _ c]⟩,
      some ⟨_, _, .ints _ P1⟩, some ⟨_, _, .ints _ P2⟩, some ⟨_, _, .ints _ P3⟩, some ⟨_, _, .ints _ O2⟩, some ⟨_, _, .ints _ O3⟩] =>
    (match rdS gs, l.take 1, rdP ((l.drop 2).take 22), l.drop 24 with
     | some sc, [.i _ most], some p, [_, _, _, .i _ s1, _, .i _ s2, _, .i _ s3, _, _, _, _, .i _ lost] => some (⟨j, c, hd, an, bs⟩, ⟨most, sc, p, ⟨P1, s1⟩, ⟨P2, s2⟩, ⟨P3, s3⟩, O2, O3, lost⟩, i, Y)
     | _, _, _, _ => none)
  | _, _, _ => none
def anJ (k : RK) : Prop := k.an = true → k.j = 2 ∨ k.j = 3
noncomputable def LIn (s : St × Option NExit) : Tr (NExit × St × Option NExit) := match rdI s.1 with
  | some (k, M, i, Y) => .must (s = (sI k M i Y 0, Option.none) ∧ OkM M ∧ anJ k ∧ Y.length ≤ 1000) (.ret (.normal, eI k (evsM k.hd k.an k.j Y M) i, Option.none))
  | none => .fail
structure AI where
  k : RK
  M : Mn
  i : Int
  Y : List (List Sc)
  n : Int
def preI (a : AI) (R : NExit × St × Option NExit → Prop) : Prop := (0 ≤ a.n ∧ a.n ≤ (a.Y.length : Int)) ∧ a.Y.length ≤ 1000 ∧ OkM a.M ∧ anJ a.k ∧ R (.normal, eI a.k (evsM a.k.hd a.k.an a.k.j (a.Y.drop a.n.toNat) a.M) a.i, Option.none)
theorem ixR_in {i : Int} {Q : List (List Sc)} {A : Prop} (h : 0 ≤ i ∧ i < (Q.length : Int)) (hA : A) : ixR i Q A := selT (dT h.1) (selT (dT h.2) (selT (dT (by omega)) hA))
theorem dropR_get {xs : List (List Sc)} {i : Int} (h : 0 ≤ i ∧ i < (xs.length : Int)) : xs.drop i.toNat = xs.getD i.toNat [] :: xs.drop (i + 1).toNat := by
  have hj : i.toNat < xs.length := by omega
  rw [show (i + 1).toNat = i.toNat + 1 by omega, List.getD_eq_getElem?_getD, List.getElem?_eq_getElem hj]
  exact List.drop_eq_getElem_cons hj
set_option maxRecDepth 100000 in
theorem outer_tame : tame outerC = true := by kernel_rfl
set_option maxRecDepth 100000 in
theorem inner_tame : tame innerC = true := by kernel_rfl
set_option maxRecDepth 100000 in
theorem loop_I : LOkI Tryz.prog [] 13 KI YR 2 innerC LIn := by
  refine loopI_ok (X := X_itR) (ls := []) kc_itR inner_tame (LAllI.none (by kernel_rfl)) liveN liveO (fun a : AI => (sI a.k a.M a.i a.Y a.n, Option.none)) (fun a => ((a.Y.length : Int) - a.n).toNat) preI ?_ ?_
  · intro s R h
    unfold LIn at h
    split at h
    case h_2 => exact h.elim
    rename_i k M i Y hrd
    obtain ⟨⟨hs, hM, hj, hl⟩, hR⟩ := h
    exact ⟨⟨k, M, i, Y, 0⟩, hs, ⟨by simp only; omega, by simp only; omega⟩, hl, hM, hj, hR⟩
  · intro a R h
    obtain ⟨k, M, i, Y, n⟩ := a
    obtain ⟨⟨h0, hle⟩, hl, hM, hj, hR⟩ := h
    simp only at h0 hle hl hM hj hR
    refine Tr.run_mono _ (fun o ho => ho) (Box.of_eq (round_I k M i Y n _) (sel_by (fun hlt => ixR_in ⟨h0, hlt⟩ (evR1_in hM hj ?_)) fun hlt => ?_)).out
    · have hw : w64 (n + 1) = n + 1 := w64_id (by omega)
      rw [hw]
      rw [dropR_get ⟨h0, hlt⟩] at hR
      exact ⟨⟨k, evM k.hd k.an k.j M (Y.getD n.toNat []), i, Y, n + 1⟩, rfl, by simp only; omega, ⟨by simp only; omega, by simp only; omega⟩, hl, hM.ev _ _ _ _, hj, hR⟩
    · rw [List.drop_eq_nil_iff.2 (by omega)] at hR
      exact hR

/-! ### all bytes -/
def getL (M : Mn) (j : Int) : LL := if j = 1 then M.l1 else if j = 2 then M.l2 else M.l3
def setL (M : Mn) (j : Int) (l : LL) : Mn := if j = 1 then { M with l1 := l } else if j = 2 then { M with l2 := l } else { M with l3 := l }
noncomputable def nextL (l : LL) (b : Int) : LL := ⟨pend l.P (cc b), shft l.s (cc b)⟩
noncomputable def byteM (hd an : Bool) (j : Int) (M : Mn) (b : Int) : Mn := evsM hd an j (evts (getL M j).P (getL M j).s (cc b)) (setL M j (nextL (getL M j) b))
noncomputable def readsM (hd an : Bool) (j : Int) (bs : List Int) (M : Mn) : Mn := bs.foldl (byteM hd an j) M
def plc (j : Int) : Nat := if j = 1 then 26 else if j = 2 then 28 else 30
theorem OkL.next {l : LL} (h : OkL l) {b : Int} (hb : byte b) : OkL (nextL l b) := lxv.step_ok (x := ⟨[], l.P, l.s⟩) h hb
theorem OkM.setL {M : Mn} (h : OkM M) (j : Int) {l : LL} (hl : OkL l) : OkM (setL M j l) := by
  unfold mtl.setL
  split
  · exact ⟨h.sc, h.p, h.most, h.o2, h.o3, hl, h.l2, h.l3⟩
  split
  · exact ⟨h.sc, h.p, h.most, h.o2, h.o3, h.l1, hl, h.l3⟩
  · exact ⟨h.sc, h.p, h.most, h.o2, h.o3, h.l1, h.l2, hl⟩
theorem OkM.getL {M : Mn} (h : OkM M) (j : Int) : OkL (getL M j) := by
  unfold mtl.getL
  split
  · exact h.l1
  split
  · exact h.l2
  · exact h.l3
theorem OkM.byte {M : Mn} (h : OkM M) (hd an : Bool) (j : Int) {b : Int} (hb : byte b) : OkM (byteM hd an j M b) := OkM.evs _ (h.setL j ((h.getL j).next hb))
theorem OkM.reads {hd an : Bool} {j : Int} : ∀ (bs : List Int) {M : Mn}, OkM M → InBytes bs → OkM (readsM hd an j bs M)
  | [], _, h, _ => h
  | b :: bs, M, h, hb => OkM.reads (M := byteM hd an j M b) bs (h.byte hd an j (hb b (List.mem_cons_self ..))) fun c hc => hb c (List.mem_cons_of_mem _ hc)
noncomputable def lsO : LI := [(2, liveN, LIn)]
noncomputable def rndO (s : St) : Tr ROI := roundI X_itR YR KI lsO 0 liveO [] outerC s Option.none
noncomputable def dnO (k : RK) (M : Mn) : St := { fr := frame 28 [], rg := rgI k M }
/-- What a byte's tree wants: M' is the Minitel with its lexer behind the byte. -/
noncomputable def byR (k : RK) (M' : Mn) (l : LL) (i b : Int) (R : ROI → Prop) : Prop :=
  (l.P.length = l.P.length ∧ (0 ≤ b ∧ b < 256) ∧ (l.P = [] ∨ okP l.P)) ∧ ((sI k M' i (evts l.P l.s (cc b)) 0, (Option.none : Option NExit)) = (sI k (nrm M') i (evts l.P l.s (cc b)) 0, Option.none) ∧ OkM (nrm M') ∧ anJ k ∧ (evts l.P l.s (cc b)).length ≤ 1000) ∧
    R (.next (eI k (evsM k.hd k.an k.j (evts l.P l.s (cc b)) (nrm M')) (w64 (i + 1))) Option.none)
theorem round_O1 (j : Int) (hd an : Bool) (bs : List Int) (M : Mn) (i : Int) (R : ROI → Prop) : (rndO (eI ⟨j, 26, hd, an, bs⟩ M i)).run R =
    sel (decide (i < (bs.length : Int))) (ix i bs (byR ⟨j, 26, hd, an, bs⟩ { M with l1 := nextL M.l1 (bs.getD i.toNat 0) } M.l1 i (bs.getD i.toNat 0) R)) (R (.done .normal (dnO ⟨j, 26, hd, an, bs⟩ M) Option.none)) := by kernel_rfl
theorem round_O2 (j : Int) (hd an : Bool) (bs : List Int) (M : Mn) (i : Int) (R : ROI → Prop) : (rndO (eI ⟨j, 28, hd, an, bs⟩ M i)).run R =
    sel (decide (i < (bs.length : Int))) (ix i bs (byR ⟨j, 28, hd, an, bs⟩ { M with l2 := nextL M.l2 (bs.getD i.toNat 0) } M.l2 i (bs.getD i.toNat 0) R)) (R (.done .normal (dnO ⟨j, 28, hd, an, bs⟩ M) Option.none)) := by kernel_rfl
theorem round_O3 (j : Int) (hd an : Bool) (bs : List Int) (M : Mn) (i : Int) (R : ROI → Prop) : (rndO (eI ⟨j, 30, hd, an, bs⟩ M i)).run R =
    sel (decide (i < (bs.length : Int))) (ix i bs (byR ⟨j, 30, hd, an, bs⟩ { M with l3 := nextL M.l3 (bs.getD i.toNat 0) } M.l3 i (bs.getD i.toNat 0) R)) (R (.done .normal (dnO ⟨j, 30, hd, an, bs⟩ M) Option.none)) := by kernel_rfl
theorem LSay : True := trivial
end Go.Proofs.YtdijbpokklgjlaaGreatDoor.mtl
