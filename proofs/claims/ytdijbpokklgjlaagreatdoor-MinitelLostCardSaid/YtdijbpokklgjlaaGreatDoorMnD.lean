/-
  The Minitel: what events do to it, and what stays so.
-/
import Derived.Test.YtdijbpokklgjlaaGreatDoorMnC
import Derived.Test.YtdijbpokklgjlaaGreatDoorScIn
set_option linter.unusedVariables false
namespace Go.Proofs.YtdijbpokklgjlaaGreatDoor.mtl
open Go Go.Nx Go.Proofs.YtdijbpokklgjlaaGreatDoor.prt
open Go.Proofs.YtdijbpokklgjlaaGreatDoor.lex (arr lx InBytes mkEv K7)
open Go.Proofs.YtdijbpokklgjlaaGreatDoor.lxv (fIt KI liveO liveN innerC outerC frIt cel evR psOf asOf bdOf nr t_all tByteH kByteH evts pend shft cc okP)
open Go.Proofs.YtdijbpokklgjlaaGreatDoor.scr (Scr rdS rdS_in Ev eventS tEvent kEvent tRolls kRolls rollsS PreE Ins)

/-! ### the protocol's state -/
theorem NP_few {p : PS} : NP p ↔ ∀ i, 16 ≤ i → p.M i = false := by
  have hc : ∀ i, 16 ≤ i → mCut (pC p) i = false := fun i hi => by
    have hb : Nat.blt i 16 = false := by
      cases h : Nat.blt i 16 with
      | false => rfl
      | true => have := Nat.blt_eq.mp h; omega
    unfold mCut
    rw [hb]
    rfl
  constructor
  · intro h i hi
    have : (pOf (pC p)).M i = p.M i := congrFun (congrArg PS.M h) i
    rw [← this]
    exact hc i hi
  · intro h
    have e : mCut (pC p) = p.M := funext fun i => by
      by_cases hi : i < 16
      · exact mCut_pC hi
      · rw [h i (by omega)]; exact hc i (by omega)
    show { p with M := mCut (pC p) } = p
    rw [e]
/-- What is said of a protocol's state. -/
structure OkP (p : PS) : Prop where
  np : ∀ i, 16 ≤ i → p.M i = false
  sp : 0 ≤ p.sp ∧ p.sp < 256
theorem OkP.NP {p : PS} (h : OkP p) : NP p := NP_few.2 h.np
theorem startP_ok : OkP startP := ⟨fun i hi => by
  have h1 : (i == 2) = false := by simp; omega
  have h2 : (i == 9) = false := by simp; omega
  show (i == 2 || i == 9) = false
  rw [h1, h2]; rfl, by decide⟩
theorem OkP.set {p : PS} (h : OkP p) (a b : Int) (on : Bool) : OkP (setP p a b on) := by
  refine ⟨fun i hi => ?_, h.sp⟩
  show setM p.M a b on i = false
  unfold setM
  by_cases ha : 0 ≤ a ∧ a < 4
  · by_cases hb : 0 ≤ b ∧ b < 4
    · have : (i == 4 * a.toNat + b.toNat) = false := by simp; omega
      rw [this, Bool.and_false]
      exact h.np i hi
    · rw [okS_G hb]; exact h.np i hi
  · rw [okS_F ha]; exact h.np i hi

/-! ### answers are few bytes -/
def byte (x : Int) : Prop := 0 ≤ x ∧ x < 256
instance (x : Int) : Decidable (byte x) := inferInstanceAs (Decidable (0 ≤ x ∧ x < 256))
theorem inB_nil : InBytes [] := fun c hc => by simp at hc
theorem inB_cons {x : Int} {l : List Int} (hx : byte x) (h : InBytes l) : InBytes (x :: l) := fun c hc => by
  rcases List.mem_cons.1 hc with rfl | hc
  · exact hx
  · exact h c hc
theorem inB_app {l m : List Int} (h : InBytes l) (k : InBytes m) : InBytes (l ++ m) := fun c hc => by
  rcases List.mem_append.1 hc with hc | hc
  · exact h c hc
  · exact k c hc
theorem inB_map {l : List Int} (h : InBytes l) : InBytes (l.map mkEv) := fun c hc => by
  obtain ⟨b, hb, rfl⟩ := List.mem_map.1 hc
  exact mkEv_byte (h b hb)
structure AnsOk (l : List Int) : Prop where
  len : l.length ≤ 5
  inb : InBytes l
theorem AnsOk.nil : AnsOk [] := ⟨by simp, inB_nil⟩
theorem AnsOk.four {a b c d : Int} (ha : byte a) (hb : byte b) (hc : byte c) (hd : byte d) : AnsOk [a, b, c, d] := ⟨by simp, inB_cons ha (inB_cons hb (inB_cons hc (inB_cons hd inB_nil)))⟩
theorem AnsOk.five {a b c d e : Int} (ha : byte a) (hb : byte b) (hc : byte c) (hd : byte d) (he : byte e) : AnsOk [a, b, c, d, e] := ⟨by simp, inB_cons ha (inB_cons hb (inB_cons hc (inB_cons hd (inB_cons he inB_nil))))⟩
theorem modesV_byte (p : PS) : byte (modesV p) := by
  unfold modesV
  cases p.ro <;> cases p.lo <;> decide
theorem boardV_byte (p : PS) : byte (boardV p) := by
  unfold boardV
  cases p.ex <;> cases p.c0 <;> decide
theorem statV_byte (M : Nat → Bool) (a : Int) : byte (statV M a) := by
  unfold statV
  generalize hrs M a 0 = b0
  generalize hrs M a 1 = b1
  generalize hrs M a 2 = b2
  generalize hrs M a 3 = b3
  cases b0 <;> cases b1 <;> cases b2 <;> cases b3 <;> decide
theorem codeV_byte (a : Int) : byte (codeV a) := by
  unfold codeV
  by_cases h : 0 ≤ a ∧ a < 4
  · rw [dT h]
    show byte (IntKind.u8.wrap (w64 (88 + a)))
    rw [w64_id (by omega), u8_id (by omega)]
    exact ⟨by omega, by omega⟩
  · rw [dF h]; exact (by decide : byte 0)
theorem linkedV_ok (p : PS) (a : Int) : AnsOk (linkedV p a) := .five (by decide) (by decide) (by decide) (codeV_byte a) (statV_byte _ a)
structure AskOk (r : PS × List Int) : Prop where
  p : OkP r.1
  a : AnsOk r.2
theorem first_ok {p : PS} (h : OkP p) (b : Int) : AskOk (firstV p b) := by
  unfold firstV
  split
  · exact ⟨h, .four (by decide) (by decide) (by decide) (by decide)⟩
  split
  · exact ⟨h, .four (by decide) (by decide) (by decide) (modesV_byte p)⟩
  split
  · exact ⟨h, .four (by decide) (by decide) (by decide) h.sp⟩
  split
  · exact ⟨h, .four (by decide) (by decide) (by decide) (by decide)⟩
  split
  · exact ⟨h, .five (by decide) (by decide) (by decide) (by decide) (by decide)⟩
  split
  · exact ⟨startP_ok, .nil⟩
  · exact ⟨h, .nil⟩
theorem second_ok {p : PS} (h : OkP p) (b c : Int) : AskOk (secondV p b c) := by
  unfold secondV
  split
  · unfold rollV
    split
    · exact ⟨⟨h.np, h.sp⟩, .four (by decide) (by decide) (by decide) (modesV_byte _)⟩
    split
    · exact ⟨⟨h.np, h.sp⟩, .four (by decide) (by decide) (by decide) (modesV_byte _)⟩
    · exact ⟨h, .nil⟩
  split
  · split
    · exact ⟨h, .nil⟩
    · rename_i hc
      have hb : byte c := ⟨by omega, by omega⟩
      exact ⟨⟨h.np, hb⟩, .four (by decide) (by decide) (by decide) hb⟩
  split
  · split
    · exact ⟨h, linkedV_ok _ _⟩
    · exact ⟨h, .nil⟩
  split
  · split
    · exact ⟨h, .five (by decide) (by decide) (by decide) (by decide) (boardV_byte p)⟩
    · exact ⟨h, .nil⟩
  · exact ⟨h, .nil⟩
theorem third_ok {p : PS} (h : OkP p) (b c d : Int) : AskOk (thirdV p b c d) := by
  unfold thirdV
  split
  · unfold linkV
    split
    · exact ⟨h.set _ _ _, linkedV_ok _ _⟩
    · exact ⟨h, .nil⟩
  split
  · unfold boaV
    split
    · exact ⟨⟨h.np, h.sp⟩, .five (by decide) (by decide) (by decide) (by decide) (boardV_byte _)⟩
    split
    · exact ⟨⟨h.np, h.sp⟩, .five (by decide) (by decide) (by decide) (by decide) (boardV_byte _)⟩
    · exact ⟨h, .nil⟩
  · exact ⟨h, .nil⟩
theorem ecP_ok {r : PS × List Int} (h : AskOk r) : AskOk (ecP r) := ⟨⟨h.p.np, h.p.sp⟩, h.a⟩
theorem ask_ok {p : PS} (h : OkP p) (k a b c d : Int) : AskOk (askV p k a b c d) := by
  unfold askV
  split
  · split
    · exact ecP_ok (first_ok h b)
    split
    · exact ecP_ok (second_ok h b c)
    split
    · exact ecP_ok (third_ok h b c d)
    · exact ecP_ok ⟨h, .nil⟩
  · exact ⟨h, .nil⟩

/-! ### the Minitel -/
def OkL (l : LL) : Prop := l.P.length ≤ 15 ∧ (l.P = [] ∨ okP l.P)
structure OkM (M : Mn) : Prop where
  sc : ∃ r, Ins r M.sc
  p : OkP M.p
  most : M.most ≤ 5000
  o2 : M.o2.length ≤ 5000
  o3 : M.o3.length ≤ 5000
  l1 : OkL M.l1
  l2 : OkL M.l2
  l3 : OkL M.l3
theorem OkM.on {M : Mn} (h : OkM M) : scr.On M.sc := by
  obtain ⟨r, hr⟩ := h.sc
  exact hr.on
theorem preE_of {e : Ev} {s : Scr} (h : scr.On s) : PreE e s := ⟨h, fun _ => trivial, fun _ => trivial⟩
theorem ins_rolls {r b : Bool} {s : Scr} (h : Ins r s) : Ins b (rollsS b s) := ⟨h.on, rfl, h.fg, h.bg, h.sl⟩
theorem OkM.heard {M : Mn} (h : OkM M) (r : List Sc) : OkM (heardM r M) := by
  obtain ⟨b, hb⟩ := h.sc
  exact ⟨⟨b, hb.event (evX r)⟩, h.p, h.most, h.o2, h.o3, h.l1, h.l2, h.l3⟩
theorem OkM.asked {M : Mn} (h : OkM M) (r : List Sc) : OkM (askedM M.p r M) := by
  obtain ⟨b, hb⟩ := h.sc
  exact ⟨⟨_, ins_rolls hb⟩, (ask_ok h.p _ _ _ _ _).p, h.most, h.o2, h.o3, h.l1, h.l2, h.l3⟩
theorem OkM.send {M : Mn} (h : OkM M) (j : Int) (b : List Int) : OkM (sendM j b M) := by
  unfold sendM
  split
  · exact h
  split
  · exact ⟨h.sc, h.p, h.most, h.o2, h.o3, h.l1, h.l2, h.l3⟩
  · rename_i h1
    have hm := h.most
    unfold putW
    unfold outW at h1
    split at h1
    · rename_i hj
      rw [if_pos hj]
      exact ⟨h.sc, h.p, h.most, by simp only [List.length_append]; omega, h.o3, h.l1, h.l2, h.l3⟩
    · rename_i hj
      rw [if_neg hj]
      exact ⟨h.sc, h.p, h.most, h.o2, by simp only [List.length_append]; omega, h.l1, h.l2, h.l3⟩
/-- An event of a module: the screen hears it, or not; what is asked is answered, or not. -/
noncomputable def evM (hd an : Bool) (j : Int) (M : Mn) (r : List Sc) : Mn :=
  if x7 r 0 = 10 then (if an then sendM j ((ansM M.p r).map mkEv) (askedM M.p r M) else askedM M.p r M) else if hd then heardM r M else M
noncomputable def evsM (hd an : Bool) (j : Int) (Y : List (List Sc)) (M : Mn) : Mn := Y.foldl (evM hd an j) M
theorem OkM.ev {M : Mn} (h : OkM M) (hd an : Bool) (j : Int) (r : List Sc) : OkM (evM hd an j M r) := by
  unfold evM
  split
  · split
    · exact (h.asked r).send j _
    · exact h.asked r
  · split
    · exact h.heard r
    · exact h
theorem OkM.evs {hd an : Bool} {j : Int} : ∀ (Y : List (List Sc)) {M : Mn}, OkM M → OkM (evsM hd an j Y M)
  | [], _, h => h
  | r :: Y, _, h => OkM.evs Y (h.ev hd an j r)
theorem nrm_eq {M : Mn} (h : OkP M.p) : nrm M = M := by
  unfold nrm
  rw [show pOf (pC M.p) = M.p from h.NP]
/-- What an event's tree wants. -/
theorem evR1_in {k : RK} {M : Mn} {r : List Sc} {N : Mn → Prop} (h : OkM M) (hj : k.an = true → k.j = 2 ∨ k.j = 3) (hN : N (evM k.hd k.an k.j M r)) : evR1 k M r N := by
  have hp : pOf (pC M.p) = M.p := h.p.NP
  have ha := (ask_ok h.p (x7 r 0) (x7 r 1) (x7 r 2) (x7 r 3) (x7 r 4)).a
  unfold evR1
  rw [hp]
  unfold evM at hN
  by_cases hk : x7 r 0 = 10
  · rw [if_pos hk] at hN
    refine selF (by rw [hk]; rfl) (sel_b (fun e => ?_) fun e => ?_)
    · rw [if_pos e] at hN
      have hl : (ansM M.p r).length ≤ 5 := ha.len
      have ht : List.take (ansM M.p r).length ((ansM M.p r).map mkEv) = (ansM M.p r).map mkEv := List.take_of_length_le (by simp)
      rw [ht, nrm_eq (ask_ok h.p _ _ _ _ _).p]
      refine ⟨⟨by omega, ha.inb⟩, selT (dT (by simp)) ⟨⟨rfl, rfl, rfl, rfl, rfl, rfl⟩, ⟨hj e, ⟨by have := h.o2; omega, by have := h.o3; omega⟩, by simp; omega⟩, hN⟩⟩
    · rw [if_neg (by rw [e]; decide)] at hN
      exact hN
  · rw [if_neg hk] at hN
    refine selT (by simpa using hk) (sel_b (fun e => ?_) fun e => ?_)
    · rw [if_pos e] at hN
      exact ⟨preE_of h.on, hN⟩
    · rw [if_neg (by rw [e]; decide)] at hN
      exact hN
end Go.Proofs.YtdijbpokklgjlaaGreatDoor.mtl
