/-
  The Minitel's protocol: what is asked.
-/
import Derived.Test.YtdijbpokklgjlaaGreatDoorPrB
set_option linter.unusedVariables false
namespace Go.Proofs.YtdijbpokklgjlaaGreatDoor.prt
open Go Go.Nx

def fO (p : PS) (l : List Int) : Out := ⟨.tu [.ag (pC p), .c (.l .u8 l)], []⟩
def fA (r : PS × List Int) : Out := fO r.1 r.2
noncomputable def c_first : FuncId → Option Con := conOf [(86, tShort), (90, tLong), (87, tModes), (91, tBoard), (23, tPStart), (88, tTo), (92, tFrom), (89, tLinked), (93, tSet)]
theorem kc_first : ∀ f T, c_first f = some T → Known Tryz.prog [] f T := (Knowns.cons kShort (.cons kLong (.cons kModes (.cons kBoard (.cons kPStart (.cons kTo (.cons kFrom (.cons kLinked (.cons kSet .nil))))))))).get
noncomputable def t_first : Con := fun args regs => (nfun Tryz.prog [] c_first [] Tryz.f62 args regs).bind (frz2 .u8 0)
theorem k_first : Known Tryz.prog [] 62 t_first := (known_inlF Tryz.func62 rfl (by kernel_rfl) mixed kc_first (by kernel_rfl)).frz2 .u8 0
noncomputable def t_second : Con := fun args regs => (nfun Tryz.prog [] c_first [] Tryz.f63 args regs).bind (frz2 .u8 0)
theorem k_second : Known Tryz.prog [] 63 t_second := (known_inlF Tryz.func63 rfl (by kernel_rfl) mixed kc_first (by kernel_rfl)).frz2 .u8 0
noncomputable def t_third : Con := fun args regs => (nfun Tryz.prog [] c_first [] Tryz.f64 args regs).bind (frz2 .u8 0)
theorem k_third : Known Tryz.prog [] 64 t_third := (known_inlF Tryz.func64 rfl (by kernel_rfl) mixed kc_first (by kernel_rfl)).frz2 .u8 0

def firstV (p : PS) (b : Int) : PS × List Int :=
  if b = 112 then (p, [27, 58, 113, 74]) else if b = 114 then (p, [27, 58, 115, modesV p]) else if b = 116 then (p, [27, 58, 117, p.sp]) else if b = 118 then (p, [27, 58, 119, 64])
  else if b = 123 then (p, [1, 67, 117, 60, 4]) else if b = 127 then (startP, []) else (p, [])
theorem first_tree (p : PS) (b : Int) (R : Out → Prop) : (t_first [.ag (pC p), .c (.i .i64 b)] []).run R =
    sel (b == 112) (R (fO p [27, 58, 113, 74])) (sel (b == 114) (R (fO p [27, 58, 115, modesV p])) (sel (b == 116) (R (fO p [27, 58, 117, p.sp])) (sel (b == 118) (R (fO p [27, 58, 119, 64]))
      (sel (b == 123) (5 = 5 ∧ R (fO p [1, 67, 117, 60, 4])) (sel (b == 127) (R (fO startP [])) (R (fO p []))))))) := by kernel_rfl
def rollV (p : PS) (b c : Int) : PS × List Int :=
  if c = 67 then ({ p with ro := b == 105 }, [27, 58, 115, modesV { p with ro := b == 105 }]) else if c = 69 then ({ p with lo := b == 105 }, [27, 58, 115, modesV { p with lo := b == 105 }]) else (p, [])
def secondV (p : PS) (b c : Int) : PS × List Int :=
  if b = 105 ∨ b = 106 then rollV p b c
  else if b = 107 then (if c < 64 ∨ c > 127 then (p, []) else ({ p with sp := c }, [27, 58, 117, c]))
  else if b = 98 then (if 88 ≤ c ∧ c < 92 then (p, linkedV p (c - 88)) else (p, []))
  else if b = 114 then (if c = 89 then (p, [27, 59, 115, 89, boardV p]) else (p, []))
  else (p, [])
def rollR (p : PS) (b c : Int) (R : Out → Prop) : Prop :=
  sel (c == 67) (R (fO { p with ro := b == 105 } [27, 58, 115, modesV { p with ro := b == 105 }])) (sel (c == 69) (R (fO { p with lo := b == 105 } [27, 58, 115, modesV { p with lo := b == 105 }])) (R (fO p [])))
theorem second_tree (p : PS) (b c : Int) (R : Out → Prop) : (t_second [.ag (pC p), .c (.i .i64 b), .c (.i .i64 c)] []).run R =
    sel (b == 105) (rollR p b c R) (sel (b == 106) (rollR p b c R) (sel (b == 107) (sel (decide (c < 64)) (R (fO p [])) (sel (decide (c > 127)) (R (fO p [])) (R (fO { p with sp := IntKind.u8.wrap c } [27, 58, 117, IntKind.u8.wrap c]))))
      (sel (b == 98) (sel (decide (88 ≤ c ∧ c < 92)) (R (fO p (linkedV (pOf (pC p)) (c - 88)))) (R (fO p []))) (sel (b == 114) (sel (c == 89) (R (fO p [27, 59, 115, 89, boardV p])) (R (fO p []))) (R (fO p [])))))) := by kernel_rfl
def setP (p : PS) (a b : Int) (on : Bool) : PS := { p with M := setM p.M a b on }
def linkV (p : PS) (b c d : Int) : PS × List Int :=
  if (88 ≤ c ∧ c < 92) ∧ (80 ≤ d ∧ d < 84) then (setP p (c - 88) (d - 80) (b == 97), linkedV (setP p (c - 88) (d - 80) (b == 97)) (c - 88)) else (p, [])
def boaV (p : PS) (b c d : Int) : PS × List Int :=
  if c = 89 ∧ d = 65 then ({ p with ex := b == 105 }, [27, 59, 115, 89, boardV { p with ex := b == 105 }])
  else if c = 89 ∧ d = 67 then ({ p with c0 := b == 105 }, [27, 59, 115, 89, boardV { p with c0 := b == 105 }]) else (p, [])
def thirdV (p : PS) (b c d : Int) : PS × List Int :=
  if b = 96 ∨ b = 97 then linkV p b c d else if b = 105 ∨ b = 106 then boaV p b c d else (p, [])
def linkR (p : PS) (b c d : Int) (R : Out → Prop) : Prop :=
  sel (decide (88 ≤ c ∧ c < 92)) (sel (decide (d < 0)) (R (fO p [])) (sel (decide (d > 255)) (R (fO p [])) ((0 ≤ IntKind.u8.wrap d ∧ IntKind.u8.wrap d < 256) ∧ sel (decide (80 ≤ IntKind.u8.wrap d ∧ IntKind.u8.wrap d < 84))
      (R (fO (setP p (c - 88) (IntKind.u8.wrap d - 80) (b == 97)) (linkedV (pOf (pC (setP p (c - 88) (IntKind.u8.wrap d - 80) (b == 97)))) (c - 88)))) (R (fO p [])))))
    (sel (decide (d < 0)) (R (fO p [])) (sel (decide (d > 255)) (R (fO p [])) (R (fO p []))))
def boaR2 (p : PS) (b c d : Int) (R : Out → Prop) : Prop := sel (c == 89) (sel (d == 67) (R (fO { p with c0 := b == 105 } [27, 59, 115, 89, boardV { p with c0 := b == 105 }])) (R (fO p []))) (R (fO p []))
def boaR (p : PS) (b c d : Int) (R : Out → Prop) : Prop :=
  sel (c == 89) (sel (d == 65) (R (fO { p with ex := b == 105 } [27, 59, 115, 89, boardV { p with ex := b == 105 }])) (boaR2 p b c d R)) (boaR2 p b c d R)
theorem third_tree (p : PS) (b c d : Int) (R : Out → Prop) : (t_third [.ag (pC p), .c (.i .i64 b), .c (.i .i64 c), .c (.i .i64 d)] []).run R =
    sel (b == 96) (linkR p b c d R) (sel (b == 97) (linkR p b c d R) (sel (b == 105) (boaR p b c d R) (sel (b == 106) (boaR p b c d R) (R (fO p []))))) := by kernel_rfl

/-! ### as functions -/
noncomputable def tFirst : Con := fun args regs => match args, regs with
  | [.ag l, .c (.i .i64 b)], [] => (match rdP l with
    | some p => .ret (fA (firstV p b))
    | none => .fail)
  | _, _ => .fail
noncomputable def tSecond : Con := fun args regs => match args, regs with
  | [.ag l, .c (.i .i64 b), .c (.i .i64 c)], [] => (match rdP l with
    | some p => .ret (fA (secondV p b c))
    | none => .fail)
  | _, _ => .fail
noncomputable def tThird : Con := fun args regs => match args, regs with
  | [.ag l, .c (.i .i64 b), .c (.i .i64 c), .c (.i .i64 d)], [] => (match rdP l with
    | some p => .ret (fA (thirdV p b c d))
    | none => .fail)
  | _, _ => .fail
theorem if_in {p : Prop} [Decidable p] {α : Type} {x y : α} {R : α → Prop} (h : R (if p then x else y)) : (p → R x) ∧ (¬ p → R y) :=
  ⟨fun hp => by rw [if_pos hp] at h; exact h, fun hp => by rw [if_neg hp] at h; exact h⟩
set_option maxRecDepth 100000 in
theorem kFirst : Known Tryz.prog [] 62 tFirst := by
  refine k_first.less fun args regs R h => Box.out ?_
  unfold tFirst at h
  split at h
  case h_2 => exact h.elim
  rename_i l b
  split at h
  case h_2 => exact h.elim
  rename_i p hp
  have h : R (fA (firstV p b)) := h
  obtain ⟨e, -⟩ := rdP_in hp
  subst e
  clear hp
  refine Box.of_eq (first_tree p b R) ?_
  unfold firstV at h
  obtain ⟨h1, h⟩ := if_in (R := fun r => R (fA r)) h
  refine sel_eq h1 fun n1 => ?_
  obtain ⟨h1, h⟩ := if_in (R := fun r => R (fA r)) (h n1)
  refine sel_eq h1 fun n1 => ?_
  obtain ⟨h1, h⟩ := if_in (R := fun r => R (fA r)) (h n1)
  refine sel_eq h1 fun n1 => ?_
  obtain ⟨h1, h⟩ := if_in (R := fun r => R (fA r)) (h n1)
  refine sel_eq h1 fun n1 => ?_
  obtain ⟨h1, h⟩ := if_in (R := fun r => R (fA r)) (h n1)
  refine sel_eq (fun e => ⟨rfl, h1 e⟩) fun n1 => ?_
  obtain ⟨h1, h⟩ := if_in (R := fun r => R (fA r)) (h n1)
  exact sel_eq h1 h
theorem rollR_in {p : PS} {b c : Int} {R : Out → Prop} (h : R (fA (rollV p b c))) : rollR p b c R := by
  unfold rollV at h
  obtain ⟨h1, h⟩ := if_in (R := fun r => R (fA r)) h
  refine sel_eq h1 fun n1 => ?_
  obtain ⟨h1, h⟩ := if_in (R := fun r => R (fA r)) (h n1)
  exact sel_eq h1 h
set_option maxRecDepth 100000 in
theorem kSecond : Known Tryz.prog [] 63 tSecond := by
  refine k_second.less fun args regs R h => Box.out ?_
  unfold tSecond at h
  split at h
  case h_2 => exact h.elim
  rename_i l b c
  split at h
  case h_2 => exact h.elim
  rename_i p hp
  have h : R (fA (secondV p b c)) := h
  obtain ⟨e, -⟩ := rdP_in hp
  subst e
  clear hp
  refine Box.of_eq (second_tree p b c R) ?_
  unfold secondV at h
  obtain ⟨h1, h⟩ := if_in (R := fun r => R (fA r)) h
  refine sel_eq (fun e => rollR_in (h1 (.inl e))) fun n1 => sel_eq (fun e => rollR_in (h1 (.inr e))) fun n2 => ?_
  obtain ⟨h1, h⟩ := if_in (R := fun r => R (fA r)) (h (fun e => e.elim n1 n2))
  refine sel_eq (fun e => ?_) fun n3 => ?_
  · obtain ⟨h1, h2⟩ := if_in (R := fun r => R (fA r)) (h1 e)
    refine sel_by (fun e1 => h1 (.inl e1)) fun e1 => sel_by (fun e2 => h1 (.inr e2)) fun e2 => ?_
    rw [u8_id (by omega)]
    exact h2 (fun e => e.elim e1 e2)
  obtain ⟨h1, h⟩ := if_in (R := fun r => R (fA r)) (h n3)
  refine sel_eq (fun e => ?_) fun n4 => ?_
  · obtain ⟨h1, h2⟩ := if_in (R := fun r => R (fA r)) (h1 e)
    refine sel_by (fun e1 => ?_) h2
    rw [linkedV_eq]
    exact h1 e1
  obtain ⟨h1, h⟩ := if_in (R := fun r => R (fA r)) (h n4)
  refine sel_eq (fun e => ?_) h
  obtain ⟨h1, h2⟩ := if_in (R := fun r => R (fA r)) (h1 e)
  exact sel_eq h1 h2
theorem linkR_in {p : PS} {b c d : Int} {R : Out → Prop} (h : R (fA (linkV p b c d))) : linkR p b c d R := by
  unfold linkV at h
  obtain ⟨h1, h2⟩ := if_in (R := fun r => R (fA r)) h
  refine sel_by (fun hc => ?_) fun hc => ?_
  · refine sel_by (fun e => h2 (by omega)) fun e => sel_by (fun e1 => h2 (by omega)) fun e1 => ?_
    have hd : IntKind.u8.wrap d = d := u8_id (by omega)
    rw [hd, linkedV_eq]
    exact ⟨by omega, sel_by (fun e2 => h1 ⟨hc, e2⟩) fun e2 => h2 (by omega)⟩
  · have h3 := h2 (fun e => hc e.1)
    exact sel_by (fun _ => h3) fun _ => sel_by (fun _ => h3) fun _ => h3
theorem boaR_in {p : PS} {b c d : Int} {R : Out → Prop} (h : R (fA (boaV p b c d))) : boaR p b c d R := by
  unfold boaV at h
  obtain ⟨h1, h⟩ := if_in (R := fun r => R (fA r)) h
  have w : ¬ (c = 89 ∧ d = 65) → boaR2 p b c d R := fun n => by
    obtain ⟨h1, h2⟩ := if_in (R := fun r => R (fA r)) (h n)
    exact sel_eq (fun e => sel_eq (fun e1 => h1 ⟨e, e1⟩) fun e1 => h2 (fun e2 => e1 e2.2)) fun e => h2 (fun e2 => e e2.1)
  exact sel_eq (fun e => sel_eq (fun e1 => h1 ⟨e, e1⟩) fun e1 => w (fun e2 => e1 e2.2)) fun e => w (fun e2 => e e2.1)
set_option maxRecDepth 100000 in
theorem kThird : Known Tryz.prog [] 64 tThird := by
  refine k_third.less fun args regs R h => Box.out ?_
  unfold tThird at h
  split at h
  case h_2 => exact h.elim
  rename_i l b c d
  split at h
  case h_2 => exact h.elim
  rename_i p hp
  have h : R (fA (thirdV p b c d)) := h
  obtain ⟨e, -⟩ := rdP_in hp
  subst e
  clear hp
  refine Box.of_eq (third_tree p b c d R) ?_
  unfold thirdV at h
  obtain ⟨h1, h⟩ := if_in (R := fun r => R (fA r)) h
  refine sel_eq (fun e => linkR_in (h1 (.inl e))) fun n1 => sel_eq (fun e => linkR_in (h1 (.inr e))) fun n2 => ?_
  obtain ⟨h1, h⟩ := if_in (R := fun r => R (fA r)) (h (fun e => e.elim n1 n2))
  exact sel_eq (fun e => boaR_in (h1 (.inl e))) fun n3 => sel_eq (fun e => boaR_in (h1 (.inr e))) fun n4 => h (fun e => e.elim n3 n4)

/-! ### what is asked -/
noncomputable def c_ask : FuncId → Option Con := conOf [(62, tFirst), (63, tSecond), (64, tThird), (30, tHears)]
theorem kc_ask : ∀ f T, c_ask f = some T → Known Tryz.prog [] f T := (Knowns.cons kFirst (.cons kSecond (.cons kThird (.cons kHears .nil)))).get
noncomputable def t_ask : Con := fun args regs => (nfun Tryz.prog [] c_ask [] Tryz.f43 args regs).bind (frz2 .u8 0)
theorem k_ask : Known Tryz.prog [] 43 t_ask := (known_inlF Tryz.func43 rfl (by kernel_rfl) mixed kc_ask (by kernel_rfl)).frz2 .u8 0
def evL (k a b c d set code : Int) : List NC := [.i .i64 k, .i .i64 a, .i .i64 b, .i .i64 c, .i .i64 d, .i .i64 set, .i .i64 code]
def ecP (r : PS × List Int) : PS × List Int := ({ r.1 with ec := r.1.M 1 }, r.2)
def askV (p : PS) (k a b c d : Int) : PS × List Int :=
  if k = 10 then (if a = 1 then ecP (firstV p b) else if a = 2 then ecP (secondV p b c) else if a = 3 then ecP (thirdV p b c d) else ecP (p, [])) else (p, [])
theorem ask_tree (p : PS) (k a b c d set code : Int) (R : Out → Prop) : (t_ask [.ag (pC p), .ag (evL k a b c d set code)] []).run R =
    sel (k != 10) (R (fO p [])) (sel (a == 1) (R (fA (ecP (firstV (pOf (pC p)) b)))) (sel (a == 2) (R (fA (ecP (secondV (pOf (pC p)) b c)))) (sel (a == 3) (R (fA (ecP (thirdV (pOf (pC p)) b c d)))) (R (fA (ecP (p, []))))))) := by kernel_rfl
noncomputable def tAsk : Con := fun args regs => match args, regs with
  | [.ag l, .ag [.i .i64 k, .i .i64 a, .i .i64 b, .i .i64 c, .i .i64 d, .i .i64 set, .i .i64 code]], [] => (match rdP l with
    | some p => .ret (fA (askV p k a b c d))
    | none => .fail)
  | _, _ => .fail
set_option maxRecDepth 100000 in
theorem kAsk : Known Tryz.prog [] 43 tAsk := by
  refine k_ask.less fun args regs R h => Box.out ?_
  unfold tAsk at h
  split at h
  case h_2 => exact h.elim
  rename_i l k a b c d set code
  split at h
  case h_2 => exact h.elim
  rename_i p hp
  have h : R (fA (askV p k a b c d)) := h
  obtain ⟨e, e2⟩ := rdP_in hp
  clear hp
  rw [e] at e2
  subst e
  refine Box.of_eq (ask_tree p k a b c d set code R) ?_
  rw [← e2]
  unfold askV at h
  obtain ⟨h1, h2⟩ := if_in (R := fun r => R (fA r)) h
  by_cases hk : k = 10
  · refine selF (by subst hk; rfl) ?_
    obtain ⟨h1, h⟩ := if_in (R := fun r => R (fA r)) (h1 hk)
    refine sel_eq h1 fun n1 => ?_
    obtain ⟨h1, h⟩ := if_in (R := fun r => R (fA r)) (h n1)
    refine sel_eq h1 fun n1 => ?_
    obtain ⟨h1, h⟩ := if_in (R := fun r => R (fA r)) (h n1)
    exact sel_eq h1 h
  · exact selT (by simpa using hk) (h2 hk)
end Go.Proofs.YtdijbpokklgjlaaGreatDoor.prt
