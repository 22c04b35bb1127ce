/-
  The engine, part 30: ranges over functions: the walk of the function, its loops; the statement.
-/
import Derived.Test.YtnhadghddkgjdaaEng29
namespace Go.Nx
open Go

/-! ### code of the function that is ranged over -/
/-- A LOOP OF SUCH A FUNCTION IS WHAT ITS TREE SAYS. -/
def LOkI (P : Program) (gl : List Nat) (m K : Nat) (Y : Yh) (id : Nat) (body : Code) (L : St × Option NExit → Tr (NExit × St × Option NExit)) : Prop :=
  ∀ (l : Nat) (rc : LoopState → Option Code → Loop) (N : Nat) (Γ0 : Env) (w0 : World), (∀ n, m ≤ n → Γ0.μ n = none) → l < N → Γ0.kp l = none → Γ0.ro l = false → YOk P gl l rc Γ0 w0 Y →
    ∀ (s : St) (p : Option NExit) (Γ : Env) (a : Act) (w : World) (R : NExit × St × Option NExit → Prop) (Q : Exit → Act → World → Prop), InvI gl K l rc N Γ s a w p → Ext Γ0 w0 Γ → Wd w0 w → (L (s, p)).run R →
    (∀ e s' p' a' w' Γ', R (e, s', p') → Ext Γ0 w0 Γ' → Wd w0 w' → InvI gl K l rc N Γ' s' a' w' p' → Q (toExit e) a' w') → (Code.block id (.loop body)).wp P Q a w
def LAllI (X : Cx) (Y : Yh) (K : Nat) (ls : LI) (c : Code) : Prop := ∀ id body, (id, body) ∈ loopsIn c → ∀ x, ls.find? (·.1 == id) = some x → LOkI X.P X.glob X.m K Y id body x.2.2
/-- No operation is a deferred call; no region draws its order; no range over a function. -/
def tame : Code → Bool
  | .skip | .exit _ | .ret => true
  | .seq a b => tame a && tame b
  | .cond _ a b => tame a && tame b
  | .block _ c => (match c with
    | .loop _ => true
    | .rangeFunc _ _ _ _ => false
    | c => tame c)
  | .region _ ops false => ops.toList.all fun o => notDefer o.op
  | _ => false
theorem norm_soundI {gl : List Nat} {K l m N : Nat} {rc : LoopState → Option Code → Loop} {live : List Nat} {s s' : St} {Γ Γ0 : Env} {a : Act} {w w0 : World} {p : Option NExit} (hI : InvI gl K l rc N Γ s a w p) (hE : Ext Γ0 w0 Γ) (h0 : ∀ n, m ≤ n → Γ0.μ n = none) (h : norm m live s = some s') :
    ∃ Γ', Ext Γ0 w0 Γ' ∧ InvI gl K l rc N Γ' s' a w p := by
  obtain ⟨Γ', h1, h2, h3, h4⟩ := norm_sound' hI.inv hE h0 h
  exact ⟨Γ', h1, h2, by rw [h4]; exact hI.yl, by rw [h3]; exact hI.rc⟩
theorem nwpI_block {β : Type} {X : Cx} {Y : Yh} {K : Nat} {ls : LI} {id : Nat} {c : Code} {s : St} {p : Option NExit} {k : NExit → St → Option NExit → Tr β} (h : ∀ b, c ≠ .loop b) : nwpI X Y K ls (.block id c) s p k = nwpI X Y K ls c s p (fun e s' p' => match e with
    | .exit j => if j = id then k .normal s' p' else k (.exit j) s' p'
    | e => k e s' p') := by
  cases c <;> first | rfl | exact (h _ rfl).elim
section
variable {X : Cx} {Y : Yh} {K l N : Nat} {rc : LoopState → Option Code → Loop} {Γ0 : Env} {w0 : World} {ls : LI}
theorem nwpI_sound (hcon : ∀ f T, X.con f = some T → Known X.P X.glob f T) (h0 : ∀ n, X.m ≤ n → Γ0.μ n = none) (hN : l < N) (h0k : Γ0.kp l = none) (h0r : Γ0.ro l = false) (hY : YOk X.P X.glob l rc Γ0 w0 Y) :
    ∀ (c : Code) {β : Type}, tame c = true → LAllI X Y K ls c → ∀ {s : St} {p : Option NExit} {Γ : Env} {a : Act} {w : World} {k : NExit → St → Option NExit → Tr β} {R : β → Prop} {Q : Exit → Act → World → Prop}, InvI X.glob K l rc N Γ s a w p → Ext Γ0 w0 Γ → Wd w0 w → (nwpI X Y K ls c s p k).run R →
      (∀ e s' p' a' w' Γ', (k e s' p').run R → Ext Γ0 w0 Γ' → Wd w0 w' → InvI X.glob K l rc N Γ' s' a' w' p' → Q (toExit e) a' w') → c.wpIn Fence.wide 0 X.P Q a w := by
  intro c
  induction c with
  | skip =>
    intro β hc hl s p Γ a w k R Q hI hE hW h hK
    exact wpIn_skip (hK .normal s p a w Γ h hE hW hI)
  | exit id =>
    intro β hc hl s p Γ a w k R Q hI hE hW h hK
    exact wpIn_exit (hK (.exit id) s p a w Γ h hE hW hI)
  | ret =>
    intro β hc hl s p Γ a w k R Q hI hE hW h hK
    exact wpIn_ret (hK .ret s p a w Γ h hE hW hI)
  | seq x y ihx ihy =>
    intro β hc hl s p Γ a w k R Q hI hE hW h hK
    simp only [tame, Bool.and_eq_true] at hc
    refine wpIn_seq (ihx hc.1 (fun id b hb => hl id b (by simp [loopsIn, hb])) hI hE hW h fun e s' p' a' w' Γ' h' hE' hW' hI' => ?_)
    cases e with
    | normal => exact ihy hc.2 (fun id b hb => hl id b (by simp [loopsIn, hb])) hI' hE' hW' h' hK
    | exit id => exact hK (.exit id) s' p' a' w' Γ' h' hE' hW' hI'
    | ret => exact hK .ret s' p' a' w' Γ' h' hE' hW' hI'
  | cond c x y ihx ihy =>
    intro β hc hl s p Γ a w k R Q hI hE hW h hK
    simp only [tame, Bool.and_eq_true] at hc
    have hlx : LAllI X Y K ls x := fun id b hb => hl id b (by simp [loopsIn, hb])
    have hly : LAllI X Y K ls y := fun id b hb => hl id b (by simp [loopsIn, hb])
    have hb : ∀ b, s.ev c = .v (.c (.b b)) → a.eval c = .bool b := fun b hb => by
      have := ev_rel hI.inv.fr c
      rw [hb] at this
      exact this.1
    simp only [nwpI] at h
    split at h
    · rename_i t b he
      have hslot : s.fr[t]? = some (.v (.c (.b b))) := by
        have : s.fr.getD t .dead = .v (.c (.b b)) := he
        rw [List.getD_eq_getElem?_getD] at this
        cases e : s.fr[t]? with
        | none => rw [e] at this; cases this
        | some z => rw [e] at this; simpa using this
      refine wpIn_cond (hb b he) ?_
      rcases sel_iff.1 h with ⟨rfl, h⟩ | ⟨rfl, h⟩
      · rw [put_lit hslot] at h; exact ihx hc.1 hlx hI hE hW h hK
      · rw [put_lit hslot] at h; exact ihy hc.2 hly hI hE hW h hK
    · rename_i b hne he
      refine wpIn_cond (hb b he) ?_
      rcases sel_iff.1 h with ⟨rfl, h⟩ | ⟨rfl, h⟩
      · exact ihx hc.1 hlx hI hE hW h hK
      · exact ihy hc.2 hly hI hE hW h hK
    · exact h.elim
  | block id c ih =>
    intro β hc hl s p Γ a w k R Q hI hE hW h hK
    by_cases hcl : ∃ b, c = .loop b
    · obtain ⟨body, rfl⟩ := hcl
      simp only [nwpI] at h
      split at h
      case h_2 => exact h.elim
      rename_i y live L hf
      split at h
      case h_2 => exact h.elim
      rename_i s' hn
      rw [Tr.run_bind] at h
      obtain ⟨Γ', hE', hI'⟩ := norm_soundI hI hE h0 hn
      exact wpIn_wide.2 (hl id body (by simp [loopsIn]) _ hf l rc N Γ0 w0 h0 hN h0k h0r hY s' p Γ' a w _ Q hI' hE' hW h fun e s2 p2 a2 w2 Γ2 k1 k2 k3 k4 => hK e s2 p2 a2 w2 Γ2 k1 k2 k3 k4)
    · have h1 : ∀ b, c ≠ .loop b := fun b e => hcl ⟨b, e⟩
      have h2 : ∀ g ps a b, c ≠ .rangeFunc g ps a b := fun g ps a b e => by subst e; simp [tame] at hc
      have hc' : tame c = true := by
        cases c <;> first | exact hc | exact (h1 _ rfl).elim | exact (h2 _ _ _ _ rfl).elim
      rw [nwpI_block h1] at h
      refine wpIn_block (ih hc' (fun i b hb => hl i b (by rw [loopsIn_block h1]; exact hb)) hI hE hW h fun e s' p' a' w' Γ' h' hE' hW' hI' => ?_)
      cases e with
      | normal => exact hK .normal s' p' a' w' Γ' h' hE' hW' hI'
      | ret => exact hK .ret s' p' a' w' Γ' h' hE' hW' hI'
      | exit j =>
        simp only at h'
        show if j = id then _ else _
        split at h'
        · rename_i e; rw [if_pos e]; exact hK .normal s' p' a' w' Γ' h' hE' hW' hI'
        · rename_i e; rw [if_neg e]; exact hK (.exit j) s' p' a' w' Γ' h' hE' hW' hI'
  | region id ops d =>
    intro β hc hl s p Γ a w k R Q hI hE hW h hK
    cases d with
    | false => exact wpIn_region_list (yops_sound hcon hN h0k h0r hY ops.toList (fun o ho => List.all_eq_true.1 hc o ho) hI hE hW h fun s' a' w' Γ' p' h1 h2 h3 h4 => hK .normal s' p' a' w' Γ' h1 h2 h3 h4)
    | true => simp [tame] at hc
  | _ =>
    intro β hc
    simp [tame] at hc
end

/-! ### its loops -/
inductive ROI where
  | next (s : St) (p : Option NExit)
  | done (e : NExit) (s : St) (p : Option NExit)
def roundI (X : Cx) (Y : Yh) (K : Nat) (ls : LI) (id : Nat) (live out : List Nat) (body : Code) (s : St) (p : Option NExit) : Tr ROI :=
  nwpI X Y K ls body s p fun e s' p' => match e with
    | .normal => (match norm X.m live s' with
      | some s'' => .ret (.next s'' p')
      | none => .fail)
    | .exit j => (match norm X.m out s' with
      | some s'' => if j = id then .ret (.done .normal s'' p') else .ret (.done (.exit j) s'' p')
      | none => .fail)
    | .ret => (match norm X.m out s' with
      | some s'' => .ret (.done .ret s'' p')
      | none => .fail)
theorem loopI_ok {X : Cx} {Y : Yh} {K : Nat} {ls : LI} (hcon : ∀ f T, X.con f = some T → Known X.P X.glob f T) {id : Nat} {body : Code} {L : St × Option NExit → Tr (NExit × St × Option NExit)} (ht : tame body = true) (hl : LAllI X Y K ls body) (live out : List Nat) {α : Type} (h : α → St × Option NExit) (μ : α → Nat) (Pre : α → (NExit × St × Option NExit → Prop) → Prop)
    (start : ∀ s R, (L s).run R → ∃ x, s = h x ∧ Pre x R)
    (round : ∀ x R, Pre x R → (roundI X Y K ls id live out body (h x).1 (h x).2).run fun o => match o with
      | .next s p => ∃ y, (s, p) = h y ∧ μ y < μ x ∧ Pre y R
      | .done e s p => R (e, s, p)) : LOkI X.P X.glob X.m K Y id body L := by
  intro l rc N Γ0 w0 h0 hN h0k h0r hY s p Γ a w R Q hI hE hW hL hK
  obtain ⟨x, hx, hp⟩ := start (s, p) R hL
  have hI : InvI X.glob K l rc N Γ (h x).1 a w (h x).2 := by rw [← hx]; exact hI
  refine wp_block (wp_loop_ghost (fun n a w => ∃ x Γ, μ x = n ∧ Pre x R ∧ InvI X.glob K l rc N Γ (h x).1 a w (h x).2 ∧ Ext Γ0 w0 Γ ∧ Wd w0 w) (μ x) ⟨x, Γ, rfl, hp, hI, hE, hW⟩ ?_)
  rintro n a1 w1 ⟨y, Γ1, rfl, hp1, hI1, hE1, hW1⟩
  refine wpIn_wide.1 (nwpI_sound hcon h0 hN h0k h0r hY body ht hl hI1 hE1 hW1 (round y R hp1) fun e s' p' a' w' Γ' h' hE' hW' hI' => ?_)
  cases e with
  | normal =>
    simp only at h'
    split at h'
    · rename_i s2 hn
      obtain ⟨z, hz, hlt, hpz⟩ := h'
      obtain ⟨Γ2, hE2, hI2⟩ := norm_soundI hI' hE' h0 hn
      exact ⟨μ z, hlt, z, Γ2, rfl, hpz, by rw [← hz]; exact hI2, hE2, hW'⟩
    · exact h'.elim
  | exit j =>
    simp only at h'
    show if j = id then _ else _
    split at h'
    · rename_i s2 hn
      obtain ⟨Γ2, hE2, hI2⟩ := norm_soundI hI' hE' h0 hn
      split at h'
      · rename_i e; rw [if_pos e]; exact hK .normal s2 p' a' w' Γ2 h' hE2 hW' hI2
      · rename_i e; rw [if_neg e]; exact hK (.exit j) s2 p' a' w' Γ2 h' hE2 hW' hI2
    · exact h'.elim
  | ret =>
    simp only at h'
    split at h'
    · rename_i s2 hn
      obtain ⟨Γ2, hE2, hI2⟩ := norm_soundI hI' hE' h0 hn
      exact hK .ret s2 p' a' w' Γ2 h' hE2 hW' hI2
    · exact h'.elim
def unrollI (X : Cx) (Y : Yh) (K : Nat) (ls : LI) (id : Nat) (live out : List Nat) (body : Code) : Nat → St × Option NExit → Tr (NExit × St × Option NExit)
  | 0, _ => .fail
  | n + 1, s => (roundI X Y K ls id live out body s.1 s.2).bind fun o => match o with
    | .next s' p' => unrollI X Y K ls id live out body n (s', p')
    | .done e s' p' => .ret (e, s', p')
theorem unrollI_ok {X : Cx} {Y : Yh} {K : Nat} {ls : LI} (hcon : ∀ f T, X.con f = some T → Known X.P X.glob f T) {id : Nat} {body : Code} (ht : tame body = true) (hl : LAllI X Y K ls body) (live out : List Nat) (n : Nat) : LOkI X.P X.glob X.m K Y id body (unrollI X Y K ls id live out body n) := by
  refine loopI_ok hcon ht hl live out (α := Nat × (St × Option NExit)) (·.2) (·.1) (fun x R => (unrollI X Y K ls id live out body x.1 x.2).run R) (fun s R h => ⟨(n, s), rfl, h⟩) ?_
  rintro ⟨k, s⟩ R h
  cases k with
  | zero => exact h.elim
  | succ k =>
    simp only [unrollI] at h
    rw [Tr.run_bind] at h
    refine Tr.run_mono _ (fun o ho => ?_) h
    cases o with
    | next s' p' => exact ⟨(k, (s', p')), rfl, Nat.lt_succ_self k, ho⟩
    | done e s' p' => exact ho
theorem LAllI.none {X : Cx} {Y : Yh} {K : Nat} {ls : LI} {c : Code} (hl : loopsIn c = []) : LAllI X Y K ls c := fun id b hb => by rw [hl] at hb; cases hb
theorem LAllI.one {X : Cx} {Y : Yh} {K : Nat} {ls : LI} {c : Code} {id : Nat} {body : Code} {live : List Nat} {L : St × Option NExit → Tr (NExit × St × Option NExit)} (hl : loopsIn c = [(id, body)]) (hx : ls = [(id, live, L)]) (h : LOkI X.P X.glob X.m K Y id body L) : LAllI X Y K ls c := fun i b hb x hf => by
  rw [hl, List.mem_singleton] at hb
  cases hb
  subst hx
  simp at hf
  subst hf
  exact h
end Go.Nx
