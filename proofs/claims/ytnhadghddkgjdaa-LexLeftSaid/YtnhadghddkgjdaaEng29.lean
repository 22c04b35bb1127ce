/-
  The engine, part 29: code in a round's frame; the walk of a function that is ranged over.
-/
import Derived.Test.YtnhadghddkgjdaaEng28
namespace Go.Nx
open Go

/-! ### one operation, under a wide fence -/
def noWay : Exit → Act → World → Prop := fun _ _ _ => False
def notDefer : Op → Bool
  | .defer _ => false
  | _ => true
theorem wp_to_in {P : Program} {o : Oper} {a : Act} {w : World} {K : Act → World → Prop} {Q : Exit → Act → World → Prop} (ro : Option Nat) (hd : notDefer o.op = true) (h : o.wp P a w K noWay) :
    o.wpIn { Fence.wide with round := ro } 0 P a w K Q := by
  unfold Oper.wp at h
  refine ⟨fun _ _ => trivial, ?_⟩
  have hs : o.semAt ro a.eval = execOp a.eval o := Oper.semAt_eq ro a.eval o fun c hc => by rw [hc] at hd; cases hd
  show o.uponIn _ 0 P a K Q ((o.semAt ro a.eval).run P w)
  rw [hs]
  generalize (execOp a.eval o).run P w = r at h
  cases r with
  | ok n w' =>
    cases n with
    | value v => exact h
    | skip => exact h
    | defer d => exact h
    | enter f args =>
      have h : Calls P f args w' _ := h
      refine ⟨fun hh => by simp [Fence.wide] at hh, ?_⟩
      refine (callsIn_wide (n := 0)).2 (h.mono fun e w2 he => ?_)
      cases e with
      | returned v => exact he
      | panicked ch => exact he.elim
      | outgrown => obtain ⟨_, _, hf⟩ := he; exact hf.elim
    | row row args =>
      have h : Rows P row args w' _ := h
      refine ⟨fun hh => by simp [Fence.wide] at hh, fun c cs _ => ?_⟩
      obtain ⟨v, w2, h1, h2⟩ := h c cs
      exact ⟨v, w2, h1, stepsIn_wide.2 h2⟩
    | _ => exact h.elim
  | halt x w' => cases x <;> exact h.elim
theorem wide_round_none : ({ Fence.wide with round := none } : Fence) = Fence.wide := rfl

/-- Operations of a region, one behind the other, in a round's frame or not. -/
theorem nopsIn_sound {β : Type} {N : Nat} {X : Cx} (hcon : ∀ f T, X.con f = some T → Known X.P X.glob f T) (ro : Option Nat) {ops : Array Oper} {Q : Exit → Act → World → Prop} : ∀ (l : List Oper) {s : St} {Γ : Env} {w : World} {a : Act} {K : St → Tr β} {R : β → Prop}, (∀ o ∈ l, notDefer o.op = true) → Inv X.glob N Γ s a w → (nops X ops l s K).run R →
    (∀ s' a' w' Γ', (K s').run R → Ext Γ w Γ' → Wd w w' → Inv X.glob N Γ' s' a' w' → Q .normal a' w') → wpListIn { Fence.wide with round := ro } 0 X.P ops Q l a w
  | [], s, Γ, w, a, K, R, _, hI, h, hK => hK s a w Γ h (Ext.refl Γ w) (Wd.refl w) hI
  | o :: rest, s, Γ, w, a, K, R, hd, hI, h, hK => by
    have hs := nstep_sound (K' := wpListIn { Fence.wide with round := ro } 0 X.P ops Q rest) (Q := noWay) hcon hI h fun s' a' w' Γ' h1 h2 h3 h4 =>
      nopsIn_sound hcon ro rest (fun o ho => hd o (by simp [ho])) h4 h1 fun s2 a2 w2 Γ2 k1 k2 k3 k4 => hK s2 a2 w2 Γ2 k1 (h2.trans h3 k2) (h3.trans k3) k4
    unfold wpListIn
    split at hs
    · rename_i hw
      rw [if_pos hw]
      rcases hs with hs | ⟨-, _, _, hf⟩
      · exact wp_to_in ro (hd o (by simp)) hs
      · exact hf.elim
    · rename_i hw
      rw [if_neg hw]
      exact ⟨fun _ _ => trivial, hs⟩

/-! ### code in a round's frame -/
def simple : Code → Bool
  | .skip | .exit _ | .ret => true
  | .seq a b => simple a && simple b
  | .cond _ a b => simple a && simple b
  | .block _ c => (match c with
    | .loop _ => false
    | .rangeFunc _ _ _ _ => false
    | c => simple c)
  | .region _ ops false => ops.toList.all fun o => notDefer o.op
  | _ => false
theorem nwpR_sound {X : Cx} (hcon : ∀ f T, X.con f = some T → Known X.P X.glob f T) (lr N : Nat) :
    ∀ (c : Code) {β : Type}, simple c = true → ∀ {s : St} {Γ : Env} {a : Act} {w : World} {K : NExit → St → Tr β} {R : β → Prop} {Q : Exit → Act → World → Prop}, Inv X.glob N Γ s a w → (nwp X c s K).run R →
      (∀ e s' a' w' Γ', (K e s').run R → Ext Γ w Γ' → Wd w w' → Inv X.glob N Γ' s' a' w' → Q (toExit e) a' w') → c.wpIn (Fence.wide.inRound lr) 0 X.P Q a w := by
  intro c
  induction c with
  | skip =>
    intro β hc s Γ a w K R Q hI h hK
    exact wpIn_skip (hK .normal s a w Γ h (Ext.refl Γ w) (Wd.refl w) hI)
  | exit id =>
    intro β hc s Γ a w K R Q hI h hK
    exact wpIn_exit (hK (.exit id) s a w Γ h (Ext.refl Γ w) (Wd.refl w) hI)
  | ret =>
    intro β hc s Γ a w K R Q hI h hK
    exact wpIn_ret (hK .ret s a w Γ h (Ext.refl Γ w) (Wd.refl w) hI)
  | seq x y ihx ihy =>
    intro β hc s Γ a w K R Q hI h hK
    simp only [simple, Bool.and_eq_true] at hc
    refine wpIn_seq (ihx hc.1 hI h fun e s' a' w' Γ' h' hE' hW' hI' => ?_)
    cases e with
    | normal => exact ihy hc.2 hI' h' fun e s2 a2 w2 Γ2 k1 k2 k3 k4 => hK e s2 a2 w2 Γ2 k1 (hE'.trans hW' k2) (hW'.trans k3) k4
    | exit id => exact hK (.exit id) s' a' w' Γ' h' hE' hW' hI'
    | ret => exact hK .ret s' a' w' Γ' h' hE' hW' hI'
  | cond c x y ihx ihy =>
    intro β hc s Γ a w K R Q hI h hK
    simp only [simple, Bool.and_eq_true] at hc
    have hb : ∀ b, s.ev c = .v (.c (.b b)) → a.eval c = .bool b := fun b hb => by
      have := ev_rel hI.fr c
      rw [hb] at this
      exact this.1
    simp only [nwp] at h
    split at h
    · rename_i t b he
      have hslot : s.fr[t]? = some (.v (.c (.b b))) := by
        have : s.fr.getD t .dead = .v (.c (.b b)) := he
        rw [List.getD_eq_getElem?_getD] at this
        cases e : s.fr[t]? with
        | none => rw [e] at this; cases this
        | some z => rw [e] at this; simpa using this
      refine wpIn_cond (hb b he) ?_
      rcases sel_iff.1 h with ⟨rfl, h⟩ | ⟨rfl, h⟩
      · rw [put_lit hslot] at h; exact ihx hc.1 hI h hK
      · rw [put_lit hslot] at h; exact ihy hc.2 hI h hK
    · rename_i b hne he
      refine wpIn_cond (hb b he) ?_
      rcases sel_iff.1 h with ⟨rfl, h⟩ | ⟨rfl, h⟩
      · exact ihx hc.1 hI h hK
      · exact ihy hc.2 hI h hK
    · exact h.elim
  | block id c ih =>
    intro β hc s Γ a w K R Q hI h hK
    have h1 : ∀ b, c ≠ .loop b := fun b e => by subst e; simp [simple] at hc
    have h2 : ∀ g ps a b, c ≠ .rangeFunc g ps a b := fun g ps a b e => by subst e; simp [simple] at hc
    have hc' : simple c = true := by
      cases c <;> first | exact hc | exact (h1 _ rfl).elim | exact (h2 _ _ _ _ rfl).elim
    rw [nwp_block h1 h2] at h
    refine wpIn_block (ih hc' hI h fun e s' a' w' Γ' h' hE' hW' hI' => ?_)
    cases e with
    | normal => exact hK .normal s' a' w' Γ' h' hE' hW' hI'
    | ret => exact hK .ret s' a' w' Γ' h' hE' hW' hI'
    | exit j =>
      simp only at h'
      show if j = id then _ else _
      split at h'
      · rename_i e; rw [if_pos e]; exact hK .normal s' a' w' Γ' h' hE' hW' hI'
      · rename_i e; rw [if_neg e]; exact hK (.exit j) s' a' w' Γ' h' hE' hW' hI'
  | region id ops d =>
    intro β hc s Γ a w K R Q hI h hK
    cases d with
    | false => exact wpIn_region_list (nopsIn_sound hcon (some lr) ops.toList (fun o ho => List.all_eq_true.1 hc o ho) hI h fun s' a' w' Γ' h1 h2 h3 h4 => hK .normal s' a' w' Γ' h1 h2 h3 h4)
    | true => simp [simple] at hc
  | _ =>
    intro β hc
    simp [simple] at hc

/-! ### the walk of the function that is ranged over -/
def codeOf : NExit → Code
  | .ret => .ret
  | .exit id => .exit id
  | .normal => .skip
def pObj (rc : LoopState → Option Code → Loop) (p : Option NExit) : Obj := .loop (rc (if p.isNone then .ready else .done) (p.map codeOf))
structure InvI (gl : List Nat) (K l : Nat) (rc : LoopState → Option Code → Loop) (N : Nat) (Γ : Env) (s : St) (a : Act) (w : World) (p : Option NExit) : Prop where
  inv : Inv gl N Γ s a w
  yl : Γ.er K = some (.func (.yield l) #[] #[])
  rc : Γ.kp l = some (pObj rc p)
theorem InvI.step {gl : List Nat} {K l : Nat} {rc : LoopState → Option Code → Loop} {N : Nat} {Γ Γ' : Env} {s s' : St} {a a' : Act} {w w' : World} {p : Option NExit} (h : InvI gl K l rc N Γ s a w p) (hE : Ext Γ w Γ') (hI : Inv gl N Γ' s' a' w') : InvI gl K l rc N Γ' s' a' w' p :=
  ⟨hI, by rw [hE.le.er]; exact h.yl, hE.le.kp _ _ h.rc⟩
/-- A CALL OF yield IS WHAT ITS TREE SAYS. -/
def YOk (P : Program) (gl : List Nat) (l : Nat) (rc : LoopState → Option Code → Loop) (Γ0 : Env) (w0 : World) (Y : Yh) : Prop :=
  ∀ (args : List NV) (rg : List (Option Reg)) (vs : List Value) (Γ : Env) (w : World) (R : Option NExit × List (Option Reg) → Prop), Ext Γ0 w0 Γ → Wd w0 w → WRel Γ rg w → GlobOk gl Γ → (∀ n, rg.length ≤ n → Γ.μ n = none) →
    Γ.kp l = some (pObj rc none) → R2 (VRel Γ) args vs → (Y args rg).run R →
    YieldAt Fence.wide 0 P l vs.toArray w fun e w' => ∃ p rg' Γ', R (p, rg') ∧ e = .returned (.bool p.isNone) ∧ Ext (Γ.strip [l]) w Γ' ∧ Wd w w' ∧ WRel Γ' rg' w' ∧ GlobOk gl Γ' ∧ (∀ n, rg'.length ≤ n → Γ'.μ n = none) ∧ Γ'.kp l = some (pObj rc p)
section
variable {X : Cx} {Y : Yh} {K l : Nat} {rc : LoopState → Option Code → Loop} {Γ0 : Env} {w0 : World}
theorem yieldArgs_spec {s : St} {Γ : Env} {a : Act} {op : Op} {args : List NV} (hfr : FrRel Γ s.fr a.tmps) (h : yieldArgs K s op = some args) :
    ∃ c f, op = .call c ∧ c.callee = .value f ∧ CRel Γ (.e K) (a.eval f) ∧ ∃ vs : List Value, c.args.map a.eval = vs.toArray ∧ R2 (VRel Γ) args vs := by
  unfold yieldArgs at h
  split at h
  case h_2 => cases h
  rename_i c
  split at h
  case h_2 => cases h
  rename_i f hcal
  split at h
  case h_2 => cases h
  rename_i k hf
  split at h
  case isFalse => cases h
  rename_i hk
  subst hk
  have r := ev_rel hfr f
  rw [hf] at r
  have hargs : R2 (SRel Γ) (c.args.toList.map s.ev) (c.args.toList.map a.eval) := R2.self_map _ _ _ fun x => ev_rel hfr x
  refine ⟨c, f, rfl, hcal, r.1, c.args.toList.map a.eval, ?_, allNV_rel h hargs⟩
  apply Array.ext'
  simp
theorem yops_sound {β : Type} {N : Nat} (hcon : ∀ f T, X.con f = some T → Known X.P X.glob f T) (hN : l < N) (h0 : Γ0.kp l = none) (h0r : Γ0.ro l = false) (hY : YOk X.P X.glob l rc Γ0 w0 Y) {ops : Array Oper} {Q : Exit → Act → World → Prop} :
    ∀ (os : List Oper) {s : St} {p : Option NExit} {Γ : Env} {w : World} {a : Act} {k : St → Option NExit → Tr β} {R : β → Prop}, (∀ o ∈ os, notDefer o.op = true) → InvI X.glob K l rc N Γ s a w p → Ext Γ0 w0 Γ → Wd w0 w → (yops X Y K ops os s p k).run R →
    (∀ s' a' w' Γ' p', (k s' p').run R → Ext Γ0 w0 Γ' → Wd w0 w' → InvI X.glob K l rc N Γ' s' a' w' p' → Q .normal a' w') → wpListIn Fence.wide 0 X.P ops Q os a w
  | [], s, p, Γ, w, a, k, R, _, hI, hE, hW, h, hK => hK s a w Γ p h hE hW hI
  | o :: rest, s, p, Γ, w, a, k, R, hd, hI, hE, hW, h, hK => by
    have next : ∀ {s' : St} {a' : Act} {w' : World} {Γ' : Env} {p' : Option NExit}, (yops X Y K ops rest s' p' k).run R → Ext Γ0 w0 Γ' → Wd w0 w' → InvI X.glob K l rc N Γ' s' a' w' p' → wpListIn Fence.wide 0 X.P ops Q rest a' w' :=
      fun h1 h2 h3 h4 => yops_sound hcon hN h0 h0r hY rest (fun o ho => hd o (by simp [ho])) h4 h2 h3 h1 hK
    have h : (ystep X Y K ops o s p fun s' p' => yops X Y K ops rest s' p' k).run R := h
    unfold ystep at h
    split at h
    · have hs := nstep_sound (K' := wpListIn Fence.wide 0 X.P ops Q rest) (Q := noWay) hcon hI.inv h fun s' a' w' Γ' h1 h2 h3 h4 =>
        next h1 (hE.trans hW h2) (hW.trans h3) (hI.step h2 h4)
      unfold wpListIn
      split at hs
      · rename_i hw
        rw [if_pos hw]
        rcases hs with hs | ⟨-, _, _, hf⟩
        · exact wp_to_in none (hd o (by simp)) hs
        · exact hf.elim
      · rename_i hw
        rw [if_neg hw]
        exact ⟨fun _ _ => trivial, hs⟩
    · rename_i args hargs
      split at h
      case h_2 => exact h.elim
      rename_i hg _
      rw [Tr.run_bind] at h
      obtain ⟨c, f, hop, hcal, hf, vs, hvs, hrel⟩ := yieldArgs_spec hI.inv.fr hargs
      have hfv : a.eval f = .func (.yield l) #[] #[] := by
        have : Γ.er K = some (a.eval f) := hf
        rw [hI.yl] at this
        simpa using this.symm
      unfold wpListIn
      rw [if_pos (by simp [Region.wanted, hg])]
      obtain ⟨fn, tmps, assign, body, hy, hR⟩ := hY args s.rg vs Γ w _ hE hW hI.inv.wr hI.inv.gl hI.inv.nw hI.rc hrel h
      refine ⟨fun _ _ => trivial, ?_⟩
      have hrun : (execOp a.eval o).run X.P w = .ok (.round l fn tmps assign body) w := by
        simp only [execOp, hop]
        simp [resolve, hcal, hfv, Deferred.ofValue, invoke, hvs, hy]
      show o.uponIn Fence.wide 0 X.P a _ Q ((execOp a.eval o).run X.P w)
      rw [hrun]
      refine ⟨fun hh => by simp [Fence.wide] at hh, ?_⟩
      refine hR.mono ?_
      rintro e w' ⟨p', rg', Γ', hRR, rfl, hE', hW', hwr, hgl, hnw, hkp⟩
      have hn := noCells_one hI.rc rfl
      have hEs : Ext Γ0 w0 (Γ.strip [l]) := hE.strip fun b hb => by rw [List.mem_singleton] at hb; subst hb; exact ⟨h0, h0r⟩
      refine next (Γ' := Γ') hRR (hEs.trans hW hE') (hW.trans hW') ⟨⟨?_, ?_, hgl, ?_, ?_⟩, by rw [hE'.le.er]; exact hI.yl, hkp⟩
      · rw [put_rg]; exact hwr
      · refine FrRel.put (s := { fr := s.fr, rg := rg' }) ?_ o.dst ⟨rfl, rfl⟩
        exact (FrRel.strip hn hI.inv.fr).mono hE'.le
      · rw [put_rg]; exact hnw
      · rw [put_defers]
        obtain ⟨ds, h1, h2, h3⟩ := hI.inv.df
        refine ⟨ds, h1, h2, fun D hD => ⟨(h3 D hD).1, hE'.le.kp _ _ ?_⟩⟩
        have : D ≠ l := by have := (h3 D hD).1; omega
        exact (strip_kp_of (by simpa using this)).trans (h3 D hD).2
end
end Go.Nx
