/-
  The engine, part 18: code; functions; loops.
-/
import Derived.Test.YtnhadghddkgjdaaEng17s
import Derived.Deep.LoopGhost
namespace Go.Nx
open Go

/-- Fewer regions, under other names; the first m keep theirs. -/
structure Narrow (m : Nat) (Γ : Env) (L : List Nat) (Γ' : Env) : Prop where
  μ : ∀ j, Γ'.μ j = (L[j]?).bind Γ.μ
  kp : Γ'.kp = Γ.kp
  ro : Γ'.ro = Γ.ro
  er : Γ'.er = Γ.er

theorem narrow_all {gl : List Nat} {N m : Nat} {s : St} {Γ Γ0 : Env} {a : Act} {w w0 : World} {fuel : Nat} {roots : List Nat} {rg : List (Option Reg)} (hI : Inv gl N Γ s a w) (hE : Ext Γ0 w0 Γ) (h0 : ∀ n, m ≤ n → Γ0.μ n = none)
    (hrg : mapRg (mapNC (posIn (List.range m ++ (reach s fuel roots []).filter fun n => decide (m ≤ n)))) ((List.range m ++ (reach s fuel roots []).filter fun n => decide (m ≤ n)).map s.reg) = some rg) :
    ∃ Γ', Ext Γ0 w0 Γ' ∧ Ren (posIn (List.range m ++ (reach s fuel roots []).filter fun n => decide (m ≤ n))) Γ Γ' ∧ RoOk Γ Γ' ∧ WRel Γ' rg w ∧ GlobOk gl Γ' ∧ (∀ n, rg.length ≤ n → Γ'.μ n = none) ∧ Γ'.kp = Γ.kp := by
  generalize hL : List.range m ++ (reach s fuel roots []).filter (fun n => decide (m ≤ n)) = L at *
  have hnd : L.Nodup := by
    rw [← hL, List.nodup_append]
    refine ⟨List.nodup_range, (reach_nodup s fuel roots [] (by simp)).filter _, fun x hx y hy => ?_⟩
    rw [List.mem_range] at hx
    rw [List.mem_filter, decide_eq_true_eq] at hy
    omega
  have hlow : ∀ n, n < m → L[n]? = some n := by
    intro n hn
    rw [← hL, List.getElem?_append_left (by simpa using hn), List.getElem?_range hn]
  let Γ' : Env := { μ := fun j => (L[j]?).bind Γ.μ, kp := Γ.kp, ro := Γ.ro, er := Γ.er }
  have hro : RoOk Γ Γ' := fun b o h1 h2 => ⟨h1, h2⟩
  have hren : Ren (posIn L) Γ Γ' := ⟨fun n j B h1 h2 => by show (L[j]?).bind Γ.μ = _; rw [posIn_spec h1]; exact h2, rfl⟩
  refine ⟨Γ', ⟨⟨fun n B hB => ?_, hE.le.kp, hE.le.ro, hE.le.er⟩, hE.ro, fun n B hB => ?_⟩, hren, hro, ?_, ?_, fun n hn => ?_, rfl⟩
  · have hn : n < m := by
      rcases Nat.lt_or_ge n m with h | h
      · exact h
      · rw [h0 n h] at hB; cases hB
    show (L[n]?).bind Γ.μ = _
    rw [hlow n hn]
    exact hE.le.μ n B hB
  · have hB' : (L[n]?).bind Γ.μ = some B := hB
    rw [Option.bind_eq_some_iff] at hB'
    obtain ⟨n', -, h2⟩ := hB'
    exact hE.nw n' B h2
  · exact hI.wr.restrict hnd hrg (fun _ => rfl) rfl hro hI.wr.kp (fun n B _ hl hB => hI.wr.apart n B hl hB) hI.wr.ro
  · exact hI.gl
  · show (L[n]?).bind Γ.μ = none
    have := (mapRg_get hrg).1
    rw [List.getElem?_eq_none (by rw [List.length_map] at this; omega)]
    rfl

theorem keepFr_rel {Γ : Env} {live : List Nat} : ∀ {fr : List NS} {vs : List Value} {i : Nat}, R2 (SRel Γ) fr vs → R2 (SRel Γ) (keepFr live i fr) vs
  | [], vs, i, h => by cases h; exact .nil
  | x :: fr, vs, i, h => by
    cases h with
    | cons r h =>
      refine .cons ?_ (keepFr_rel h)
      split
      · exact r
      · trivial
theorem norm_sound' {gl : List Nat} {N m : Nat} {live : List Nat} {s s' : St} {Γ Γ0 : Env} {a : Act} {w w0 : World} (hI : Inv gl N Γ s a w) (hE : Ext Γ0 w0 Γ) (h0 : ∀ n, m ≤ n → Γ0.μ n = none) (h : norm m live s = some s') :
    ∃ Γ', Ext Γ0 w0 Γ' ∧ Inv gl N Γ' s' a w ∧ Γ'.kp = Γ.kp ∧ Γ'.er = Γ.er := by
  unfold norm at h
  simp only at h
  split at h
  case h_2 => cases h
  rename_i rg hrg
  cases h
  obtain ⟨Γ', h1, hren, hro, h2, h3, h4, hkp⟩ := narrow_all hI hE h0 hrg
  refine ⟨Γ', h1, ⟨h2, ?_, h3, h4, by obtain ⟨l, h5, h6, h7⟩ := hI.df; exact ⟨l, h5, h6, fun D hD => ⟨(h7 D hD).1, by rw [hkp]; exact (h7 D hD).2⟩⟩⟩, hkp, by rw [h1.le.er, hE.le.er]⟩
  refine R2.map_left (keepFr_rel (live := live) (i := 0) hI.fr) fun x v r => ?_
  cases hm : mapNS (mapNC (posIn (List.range m ++ (reach s 256 (List.range m ++ (keepFr live 0 s.fr).flatMap NS.names) []).filter fun n => decide (m ≤ n)))) x with
  | none => trivial
  | some y => exact mapNS_rel hren (fun _ => hro) r hm
theorem norm_sound {gl : List Nat} {N m : Nat} {live : List Nat} {s s' : St} {Γ Γ0 : Env} {a : Act} {w w0 : World} (hI : Inv gl N Γ s a w) (hE : Ext Γ0 w0 Γ) (h0 : ∀ n, m ≤ n → Γ0.μ n = none) (h : norm m live s = some s') :
    ∃ Γ', Ext Γ0 w0 Γ' ∧ Inv gl N Γ' s' a w := by
  obtain ⟨Γ', h1, h2, -, -⟩ := norm_sound' hI hE h0 h
  exact ⟨Γ', h1, h2⟩

def toExit : NExit → Exit
  | .normal => .normal
  | .exit id => .exit id
  | .ret => .ret

/-- A LOOP IS WHAT ITS TREE SAYS. -/
def LOk (P : Program) (gl : List Nat) (m : Nat) (id : Nat) (body : Code) (L : St → Tr (NExit × St)) : Prop :=
  ∀ (Γ0 : Env) (w0 : World), (∀ n, m ≤ n → Γ0.μ n = none) → ∀ (s : St) (Γ : Env) (a : Act) (w : World) (R : NExit × St → Prop) (Q : Exit → Act → World → Prop), Inv gl w0.heap.size Γ s a w → Ext Γ0 w0 Γ → Wd w0 w → (L s).run R →
    (∀ e s' a' w' Γ', R (e, s') → Ext Γ0 w0 Γ' → Wd w0 w' → Inv gl w0.heap.size Γ' s' a' w' → Q (toExit e) a' w') → (Code.block id (.loop body)).wp P Q a w
/-- A RANGE OVER A FUNCTION IS WHAT ITS TREE SAYS. -/
def RgOk (P : Program) (gl : List Nat) (m : Nat) (id : Nat) (c : Code) (L : St → Tr (NExit × St)) : Prop :=
  ∀ (Γ0 : Env) (w0 : World), (∀ n, m ≤ n → Γ0.μ n = none) → ∀ (s : St) (Γ : Env) (a : Act) (w : World) (R : NExit × St → Prop) (Q : Exit → Act → World → Prop), Inv gl w0.heap.size Γ s a w → Ext Γ0 w0 Γ → Wd w0 w → (L s).run R →
    (∀ e s' a' w' Γ', R (e, s') → Ext Γ0 w0 Γ' → Wd w0 w' → Inv gl w0.heap.size Γ' s' a' w' → Q (toExit e) a' w') → (Code.block id c).wp P Q a w
structure LAll (X : Cx) (c : Code) : Prop where
  loops : ∀ id body, (id, body) ∈ loopsIn c → ∀ x, X.loops.find? (·.1 == id) = some x → LOk X.P X.glob X.m id body x.2.2
  ranges : ∀ id b, (id, b) ∈ rangesIn c → ∀ x, X.loops.find? (·.1 == id) = some x → RgOk X.P X.glob X.m id b x.2.2
theorem LAll.seq1 {X : Cx} {x y : Code} (h : LAll X (.seq x y)) : LAll X x := ⟨fun id b hb => h.loops id b (by simp [loopsIn, hb]), fun id b hb => h.ranges id b (by simp [rangesIn, hb])⟩
theorem LAll.seq2 {X : Cx} {x y : Code} (h : LAll X (.seq x y)) : LAll X y := ⟨fun id b hb => h.loops id b (by simp [loopsIn, hb]), fun id b hb => h.ranges id b (by simp [rangesIn, hb])⟩
theorem LAll.cond1 {X : Cx} {c : Operand} {x y : Code} (h : LAll X (.cond c x y)) : LAll X x := ⟨fun id b hb => h.loops id b (by simp [loopsIn, hb]), fun id b hb => h.ranges id b (by simp [rangesIn, hb])⟩
theorem LAll.cond2 {X : Cx} {c : Operand} {x y : Code} (h : LAll X (.cond c x y)) : LAll X y := ⟨fun id b hb => h.loops id b (by simp [loopsIn, hb]), fun id b hb => h.ranges id b (by simp [rangesIn, hb])⟩

theorem nwp_block {β : Type} {X : Cx} {id : Nat} {c : Code} {s : St} {K : NExit → St → Tr β} (h : ∀ b, c ≠ .loop b) (h' : ∀ g ps a b, c ≠ .rangeFunc g ps a b) : nwp X (.block id c) s K = nwp X c s (fun e s' => match e with
    | .exit j => if j = id then K .normal s' else K (.exit j) s'
    | e => K e s') := by
  cases c <;> first | rfl | exact (h _ rfl).elim | exact (h' _ _ _ _ rfl).elim
theorem rangesIn_block {id : Nat} {c : Code} (h : ∀ b, c ≠ .loop b) (h' : ∀ g ps a b, c ≠ .rangeFunc g ps a b) : rangesIn (.block id c) = rangesIn c := by
  cases c <;> first | rfl | exact (h _ rfl).elim | exact (h' _ _ _ _ rfl).elim
theorem loopsIn_block {id : Nat} {c : Code} (h : ∀ b, c ≠ .loop b) : loopsIn (.block id c) = loopsIn c := by
  cases c <;> first | rfl | exact (h _ rfl).elim

theorem nwp_sound {X : Cx} (hcon : ∀ f T, X.con f = some T → Known X.P X.glob f T) (hm : X.P.follows .mixedOrders = true) {Γ0 : Env} {w0 : World} (h0 : ∀ n, X.m ≤ n → Γ0.μ n = none) :
    ∀ (c : Code) {β : Type}, LAll X c → ∀ {s : St} {Γ : Env} {a : Act} {w : World} {K : NExit → St → Tr β} {R : β → Prop} {Q : Exit → Act → World → Prop}, Inv X.glob w0.heap.size Γ s a w → Ext Γ0 w0 Γ → Wd w0 w → (nwp X c s K).run R →
      (∀ e s' a' w' Γ', (K e s').run R → Ext Γ0 w0 Γ' → Wd w0 w' → Inv X.glob w0.heap.size Γ' s' a' w' → Q (toExit e) a' w') → c.wp X.P Q a w := by
  intro c
  induction c with
  | skip =>
    intro β hl s Γ a w K R Q hI hE hW h hK
    exact wp_skip (hK .normal s a w Γ h hE hW hI)
  | exit id =>
    intro β hl s Γ a w K R Q hI hE hW h hK
    exact wp_exit (hK (.exit id) s a w Γ h hE hW hI)
  | ret =>
    intro β hl s Γ a w K R Q hI hE hW h hK
    exact wp_ret (hK .ret s a w Γ h hE hW hI)
  | seq x y ihx ihy =>
    intro β hl s Γ a w K R Q hI hE hW h hK
    refine wp_seq (ihx hl.seq1 hI hE hW h fun e s' a' w' Γ' h' hE' hW' hI' => ?_)
    cases e with
    | normal => exact ihy hl.seq2 hI' hE' hW' h' hK
    | exit id => exact hK (.exit id) s' a' w' Γ' h' hE' hW' hI'
    | ret => exact hK .ret s' a' w' Γ' h' hE' hW' hI'
  | cond c x y ihx ihy =>
    intro β hl s Γ a w K R Q hI hE hW h hK
    have hlx : LAll X x := hl.cond1
    have hly : LAll X y := hl.cond2
    have hb : ∀ b, s.ev c = .v (.c (.b b)) → a.eval c = .bool b := fun b hb => by
      have := ev_rel hI.fr c
      rw [hb] at this
      exact this.1
    simp only [nwp] at h
    split at h
    · rename_i t b he
      have hslot : s.fr[t]? = some (.v (.c (.b b))) := by
        have : s.fr.getD t .dead = .v (.c (.b b)) := he
        rw [List.getD_eq_getElem?_getD] at this
        cases e : s.fr[t]? with
        | none => rw [e] at this; cases this
        | some z => rw [e] at this; simpa using this
      refine wp_cond (hb b he) ?_
      rcases sel_iff.1 h with ⟨rfl, h⟩ | ⟨rfl, h⟩
      · rw [put_lit hslot] at h; exact ihx hlx hI hE hW h hK
      · rw [put_lit hslot] at h; exact ihy hly hI hE hW h hK
    · rename_i b hne he
      refine wp_cond (hb b he) ?_
      rcases sel_iff.1 h with ⟨rfl, h⟩ | ⟨rfl, h⟩
      · exact ihx hlx hI hE hW h hK
      · exact ihy hly hI hE hW h hK
    · exact h.elim
  | block id c ih =>
    intro β hl s Γ a w K R Q hI hE hW h hK
    by_cases hc : ∃ b, c = .loop b
    · obtain ⟨body, rfl⟩ := hc
      simp only [nwp] at h
      split at h
      case h_2 => exact h.elim
      rename_i y live L hf
      split at h
      case h_2 => exact h.elim
      rename_i s' hn
      rw [Tr.run_bind] at h
      obtain ⟨Γ', hE', hI'⟩ := norm_sound hI hE h0 hn
      exact hl.loops id body (by simp [loopsIn]) _ hf Γ0 w0 h0 s' Γ' a w _ Q hI' hE' hW h fun e s2 a2 w2 Γ2 k1 k2 k3 k4 => hK e s2 a2 w2 Γ2 k1 k2 k3 k4
    by_cases hcr : ∃ g ps a b, c = .rangeFunc g ps a b
    · obtain ⟨g, ps, ac, bc, rfl⟩ := hcr
      simp only [nwp] at h
      split at h
      case h_2 => exact h.elim
      rename_i y live L hf
      split at h
      case h_2 => exact h.elim
      rename_i s' hn
      rw [Tr.run_bind] at h
      obtain ⟨Γ', hE', hI'⟩ := norm_sound hI hE h0 hn
      exact hl.ranges id _ (by simp [rangesIn]) _ hf Γ0 w0 h0 s' Γ' a w _ Q hI' hE' hW h fun e s2 a2 w2 Γ2 k1 k2 k3 k4 => hK e s2 a2 w2 Γ2 k1 k2 k3 k4
    · have hc' : ∀ b, c ≠ .loop b := fun b e => hc ⟨b, e⟩
      have hc2 : ∀ g ps a b, c ≠ .rangeFunc g ps a b := fun g ps a b e => hcr ⟨g, ps, a, b, e⟩
      rw [nwp_block hc' hc2] at h
      refine wp_block (ih ⟨fun i b hb => hl.loops i b (by rw [loopsIn_block hc']; exact hb), fun i b hb => hl.ranges i b (by rw [rangesIn_block hc' hc2]; exact hb)⟩ hI hE hW h fun e s' a' w' Γ' h' hE' hW' hI' => ?_)
      cases e with
      | normal => exact hK .normal s' a' w' Γ' h' hE' hW' hI'
      | ret => exact hK .ret s' a' w' Γ' h' hE' hW' hI'
      | exit j =>
        simp only at h'
        show if j = id then _ else _
        split at h'
        · rename_i e; rw [if_pos e]; exact hK .normal s' a' w' Γ' h' hE' hW' hI'
        · rename_i e; rw [if_neg e]; exact hK (.exit j) s' a' w' Γ' h' hE' hW' hI'
  | region id ops d =>
    intro β hl s Γ a w K R Q hI hE hW h hK
    have hk : ∀ s' a' w' Γ', (K .normal s').run R → Ext Γ w Γ' → Wd w w' → Inv X.glob w0.heap.size Γ' s' a' w' → Q .normal a' w' := fun s' a' w' Γ' h1 h2 h3 h4 => hK .normal s' a' w' Γ' h1 (hE.trans hW h2) (hW.trans h3) h4
    cases d with
    | false => exact wp_region_list (nops_sound hcon ops.toList hI h hk)
    | true =>
      simp only [nwp] at h
      split at h
      · rename_i hok
        exact draw_sound hcon hm hI hok h hk
      · exact h.elim
  | _ =>
    intro β hl s Γ a w K R Q hI hE hW h hK
    exact h.elim

/-! ### loops -/
inductive RO where
  | next (s : St)
  | done (e : NExit) (s : St)
/-- One round; behind it the slots 'live' are kept, behind the loop 'out'. -/
def roundT (X : Cx) (id : Nat) (live out : List Nat) (body : Code) (s : St) : Tr RO :=
  nwp X body s fun e s' => match e with
    | .normal => (match norm X.m live s' with
      | some s'' => .ret (.next s'')
      | none => .fail)
    | .exit j => (match norm X.m out s' with
      | some s'' => if j = id then .ret (.done .normal s'') else .ret (.done (.exit j) s'')
      | none => .fail)
    | .ret => (match norm X.m out s' with
      | some s'' => .ret (.done .ret s'')
      | none => .fail)

/-- A LOOP BY ITS ROUNDS: the states at its head are h of something that a measure lowers. -/
theorem loop_ok {X : Cx} (hcon : ∀ f T, X.con f = some T → Known X.P X.glob f T) (hm : X.P.follows .mixedOrders = true) {id : Nat} {body : Code} {L : St → Tr (NExit × St)} (hl : LAll X body) (live out : List Nat) {α : Type} (h : α → St) (μ : α → Nat) (Pre : α → (NExit × St → Prop) → Prop)
    (start : ∀ s R, (L s).run R → ∃ x, s = h x ∧ Pre x R)
    (round : ∀ x R, Pre x R → (roundT X id live out body (h x)).run fun o => match o with
      | .next s => ∃ y, s = h y ∧ μ y < μ x ∧ Pre y R
      | .done e s => R (e, s)) : LOk X.P X.glob X.m id body L := by
  intro Γ0 w0 h0 s Γ a w R Q hI hE hW hL hK
  obtain ⟨x, rfl, hp⟩ := start s R hL
  refine wp_block (wp_loop_ghost (fun n a w => ∃ x Γ, μ x = n ∧ Pre x R ∧ Inv X.glob w0.heap.size Γ (h x) a w ∧ Ext Γ0 w0 Γ ∧ Wd w0 w) (μ x) ⟨x, Γ, rfl, hp, hI, hE, hW⟩ ?_)
  rintro n a1 w1 ⟨y, Γ1, rfl, hp1, hI1, hE1, hW1⟩
  refine nwp_sound hcon hm h0 body hl hI1 hE1 hW1 (round y R hp1) fun e s' a' w' Γ' h' hE' hW' hI' => ?_
  cases e with
  | normal =>
    simp only at h'
    split at h'
    · rename_i s2 hn
      obtain ⟨z, hz, hlt, hpz⟩ := h'
      obtain ⟨Γ2, hE2, hI2⟩ := norm_sound hI' hE' h0 hn
      subst hz
      exact ⟨μ z, hlt, z, Γ2, rfl, hpz, hI2, hE2, hW'⟩
    · exact h'.elim
  | exit j =>
    simp only at h'
    show if j = id then _ else _
    split at h'
    · rename_i s2 hn
      obtain ⟨Γ2, hE2, hI2⟩ := norm_sound hI' hE' h0 hn
      split at h'
      · rename_i e; rw [if_pos e]; exact hK .normal s2 a' w' Γ2 h' hE2 hW' hI2
      · rename_i e; rw [if_neg e]; exact hK (.exit j) s2 a' w' Γ2 h' hE2 hW' hI2
    · exact h'.elim
  | ret =>
    simp only at h'
    split at h'
    · rename_i s2 hn
      obtain ⟨Γ2, hE2, hI2⟩ := norm_sound hI' hE' h0 hn
      exact hK .ret s2 a' w' Γ2 h' hE2 hW' hI2
    · exact h'.elim

/-- A loop that is walked round by round, n rounds at most. -/
def unroll (X : Cx) (id : Nat) (live out : List Nat) (body : Code) : Nat → St → Tr (NExit × St)
  | 0, _ => .fail
  | n + 1, s => (roundT X id live out body s).bind fun o => match o with
    | .next s' => unroll X id live out body n s'
    | .done e s' => .ret (e, s')
theorem unroll_ok {X : Cx} (hcon : ∀ f T, X.con f = some T → Known X.P X.glob f T) (hm : X.P.follows .mixedOrders = true) {id : Nat} {body : Code} (hl : LAll X body) (live out : List Nat) (n : Nat) : LOk X.P X.glob X.m id body (unroll X id live out body n) := by
  refine loop_ok hcon hm hl live out (α := Nat × St) (·.2) (·.1) (fun x R => (unroll X id live out body x.1 x.2).run R) (fun s R h => ⟨(n, s), rfl, h⟩) ?_
  rintro ⟨k, s⟩ R h
  cases k with
  | zero => exact h.elim
  | succ k =>
    simp only [unroll] at h
    rw [Tr.run_bind] at h
    refine Tr.run_mono _ (fun o ho => ?_) h
    cases o with
    | next s' => exact ⟨(k, s'), rfl, Nat.lt_succ_self k, ho⟩
    | done e s' => exact ho

/-- A loop that is known by what it does from a state at its head, h of x. -/
def sumL {α : Type} (h : α → St) (x : St → α) (f : α → Tr (NExit × St)) (s : St) : Tr (NExit × St) := .must (s = h (x s)) (f (x s))
theorem sumL_ok {X : Cx} (hcon : ∀ f T, X.con f = some T → Known X.P X.glob f T) (hm : X.P.follows .mixedOrders = true) {id : Nat} {body : Code} (hl : LAll X body) (live out : List Nat) {α : Type} (h : α → St) (x : St → α) (f : α → Tr (NExit × St)) (μ : α → Nat)
    (round : ∀ a R, (f a).run R → (roundT X id live out body (h a)).run fun o => match o with
      | .next s => ∃ b, s = h b ∧ μ b < μ a ∧ (f b).run R
      | .done e s => R (e, s)) : LOk X.P X.glob X.m id body (sumL h x f) :=
  loop_ok hcon hm hl live out h μ (fun a R => (f a).run R) (fun s _ hr => ⟨x s, hr.1, hr.2⟩) round
/-- What a state holds. -/
def St.int (s : St) (j : Nat) : Int := match s.fr[j]? with
  | some (.v (.c (.i _ n))) => n
  | _ => 0
def St.bool (s : St) (j : Nat) : Bool := match s.fr[j]? with
  | some (.v (.c (.b x))) => x
  | _ => false
def St.ints (s : St) (j : Nat) : List Int := match s.fr[j]? with
  | some (.v (.c (.l _ xs))) => xs
  | _ => []
def St.rints (s : St) (r : Nat) : List Int := match s.rg[r]? with
  | some (some { body := .ints _ xs, .. }) => xs
  | _ => []
def St.rrecs (s : St) (r : Nat) : List (List Sc) := match s.rg[r]? with
  | some (some { body := .recs _ xs, .. }) => xs
  | _ => []
/-- A frame of n slots that holds these, and nothing else. -/
def frame (n : Nat) (l : List (Nat × NS)) : List NS := (List.range n).map fun j => match l.find? (·.1 == j) with
  | some x => x.2
  | none => .dead

/-! ### functions -/
theorem nload_ptr {P : Program} {gl : List Nat} {s : St} {Γ : Env} {t : TypeId} {x : NC} {v : Value} {r : List Bool × NS} (hx : CR Γ x v) (h : nload P gl s t x = some r) : ∃ ad, v = .pointer (some ad) := by
  cases x with
  | p r i c => obtain ⟨⟨B, -, h⟩, -⟩ := hx; exact ⟨_, h⟩
  | pl k xs i => obtain ⟨⟨b, o, h, -⟩, -⟩ := hx; exact ⟨_, h⟩
  | pr ks xs i c => obtain ⟨⟨b, o, h, -⟩, -⟩ := hx; exact ⟨_, h⟩
  | g x => obtain ⟨h, -⟩ := hx; exact ⟨_, h⟩
  | _ => cases h
/-- What one result variable gives. -/
def rvRun (a : Act) (rv : ResultVar) : Sem Value :=
  match rv with
  | .tmp t => pure (a.tmps.getD t undef)
  | .cell c t => do loadVar t (← asAddr (a.tmps.getD c undef))
theorem resOf_rel {P : Program} {gl : List Nat} {N : Nat} {s : St} {Γ : Env} {a : Act} {w : World} {rv : ResultVar} {x : NV} (hI : Inv gl N Γ s a w) (h : resOf P gl s rv = some x) :
    ∃ v, (rvRun a rv).run P w = .ok v w ∧ VRel Γ x v := by
  cases rv with
  | tmp t => exact ⟨_, rfl, nv_rel (ev_rel hI.fr (.tmp t)) h⟩
  | cell c t =>
    simp only [resOf] at h
    split at h
    case h_2 => cases h
    rename_i y hy
    split at h
    case h_2 => cases h
    rename_i z hz
    split at h
    case h_2 => cases h
    rename_i d hu
    cases h
    have hc := nc_rel (ev_rel hI.fr (.tmp c)) hy
    obtain ⟨u, h1, h2⟩ := nload_sound hI.wr hI.gl (by rw [hu]; rfl) hc hz (fun _ h => by cases h)
    refine ⟨u, ?_, h2⟩
    obtain ⟨ad, hp⟩ := nload_ptr hc hz
    rw [hp] at h1
    have hp' : a.tmps.getD c undef = .pointer (some ad) := hp
    simpa [rvRun, hp', Instr.loadAt, Instr.sureAddr, asAddr] using h1
theorem ress_rel {P : Program} {gl : List Nat} {N : Nat} {s : St} {Γ : Env} {a : Act} {w : World} (hI : Inv gl N Γ s a w) : ∀ {l : List ResultVar} {xs : List NV}, mapL (resOf P gl s) l = some xs →
    ∃ vs : List Value, (l.mapM (rvRun a)).run P w = .ok vs w ∧ R2 (VRel Γ) xs vs
  | [], xs, h => by simp [mapL] at h; subst h; exact ⟨[], by simp, .nil⟩
  | rv :: l, xs, h => by
    simp only [mapL] at h
    split at h
    · rename_i x r h1 h2
      cases h
      obtain ⟨v, e1, r1⟩ := resOf_rel hI h1
      obtain ⟨vs, e2, r2⟩ := ress_rel hI h2
      refine ⟨v :: vs, ?_, .cons r1 r2⟩
      rw [List.mapM_cons]
      simp only [Sem.run_bind]
      rw [e1]
      simp only [Result.andThen_ok]
      rw [e2]
      simp
    · cases h
theorem results_rel {P : Program} {gl : List Nat} {N : Nat} {s : St} {Γ : Env} {a : Act} {w : World} {fn : Func} {x : NS} (hI : Inv gl N Γ s a w) (h : ressOf P gl s fn.results.toList = some x) :
    ∃ v, (results fn a.tmps).run P w = .ok v w ∧ SRel Γ x v := by
  have key : ∀ xs, mapL (resOf P gl s) fn.results.toList = some xs → ∃ vs : List Value, (results fn a.tmps).run P w = .ok (if h : vs.toArray.size = 1 then vs.toArray[0] else .tuple vs.toArray) w ∧ R2 (VRel Γ) xs vs := by
    intro xs hxs
    obtain ⟨vs, e, r⟩ := ress_rel hI hxs
    refine ⟨vs, ?_, r⟩
    have e0 : results fn a.tmps = (do
        let vs ← fn.results.mapM (rvRun a)
        pure (if h : vs.size = 1 then vs[0] else .tuple vs)) := by
      unfold results
      congr 1
    rw [e0, Array.mapM_eq_mapM_toList]
    simp only [Sem.run_bind, Sem.run_map]
    rw [e]
    rfl
  unfold ressOf at h
  split at h
  · rename_i y hy
    cases h
    obtain ⟨vs, e, r⟩ := key _ hy
    cases r with
    | cons r1 r2 => cases r2; exact ⟨_, e, r1⟩
  · rename_i l hne hl
    cases h
    obtain ⟨vs, e, r⟩ := key _ hl
    refine ⟨_, e, ?_⟩
    rw [dif_neg]
    · exact ⟨vs, rfl, r⟩
    · intro h1
      have hlen := r.length
      simp only [List.size_toArray] at h1
      rw [h1] at hlen
      match l, hlen with
      | [y], _ => exact hne y rfl
  · cases h

/-- A FUNCTION BY ITS TEXT. -/
theorem known_of {P : Program} {gl : List Nat} {f : FuncId} {fn : Func} {c : Code} {T : Con} (hf : P.funcs[f]? = some fn) (hb : fn.body = some c) (hname : (fn.name == "runtime.NumGoroutine") = false) (hm : P.follows .mixedOrders = true)
    (hT : ∀ args regs R, (T args regs).run R → ∃ con loops, (∀ f T, con f = some T → Known P gl f T) ∧ LAll { P := P, con := con, glob := gl, m := regs.length, loops := loops } c ∧ (nfun P gl con loops fn args regs).run R) : Known P gl f T := by
  refine ⟨fun args w => ?_, ?_⟩
  · have h1 : fn.name ≠ "runtime.NumGoroutine" := by simpa using hname
    simp [callFunc, hf, h1, hb]
  · intro args regs R hR Γ w vs hw hG hargs hout
    obtain ⟨con, loops, hcon, hl, h⟩ := hT args regs R hR
    refine (callsIn_wide (n := 0)).1 (callsIn_of_wp_marks hf hb trivial (wpIn_wide.2 ?_) rfl)
    unfold nfun at h
    rw [hb] at h
    simp only at h
    have hlen := hargs.length
    have hI : Inv gl w.heap.size Γ (enter fn args regs) { tmps := vs.toArray ++ Array.replicate (fn.ntmps - vs.toArray.size) undef, defers := [] } w := by
      refine ⟨hw, ?_, hG, fun n hn => hout n (by simpa [enter] using hn), Df.nil _ _⟩
      show R2 (SRel Γ) (args.map .v ++ List.replicate (fn.ntmps - args.length) .dead) _
      have e : (vs.toArray ++ Array.replicate (fn.ntmps - vs.toArray.size) undef).toList = vs ++ List.replicate (fn.ntmps - args.length) undef := by simp [hlen]
      rw [e]
      have e1 : R2 (SRel Γ) (args.map .v) vs := R2.map_left hargs fun _ _ r => r
      have e2 : R2 (SRel Γ) (List.replicate (fn.ntmps - args.length) .dead) (List.replicate (fn.ntmps - args.length) undef) := R2.replicate _ (show SRel Γ .dead undef from trivial)
      exact e1.append e2
    refine nwp_sound (X := { P := P, con := con, glob := gl, m := regs.length, loops := loops }) hcon hm (Γ0 := Γ) (w0 := w) hout c hl hI (Ext.refl Γ w) (Wd.refl w) h fun e s' a' w' Γ' h' hE' hW' hI' => ?_
    have key : (match outOf P gl regs.length fn s' with | some o => Tr.ret o | none => .fail).run R → LeavesInM Fence.wide 0 P fn a'.tmps (fun e w' => ∃ o v Γ', R o ∧ e = .returned v ∧ Ext Γ w Γ' ∧ SRel Γ' o.res v ∧ WRel Γ' o.rg w' ∧ Wd w w') a'.defers .returning w' := by
      intro h'
      obtain ⟨l, Γs, hd, hnd, hheap, hEs, hIs, -, -⟩ := hI'.shut hE' hw (Nat.le_refl _)
      rw [hd]
      refine leaves_marks l hnd hheap ?_
      split at h'
      case h_2 => exact h'.elim
      rename_i o ho
      unfold outOf at ho
      split at ho
      case h_2 => cases ho
      rename_i res hres
      simp only at ho
      split at ho
      case h_2 => cases ho
      rename_i res' rg' hmr hrg
      cases ho
      obtain ⟨v, hv, hr⟩ := results_rel hIs hres
      obtain ⟨Γ2, h1, hren, hro, h2, h3, h4⟩ := narrow_all hIs hEs hout hrg
      exact ⟨v, hv, _, v, Γ2, h', rfl, h1, mapNS_rel hren (fun _ => hro) hr hmr, h2, hW'.trans (shut_wd l w')⟩
    cases e with
    | normal => exact key h'
    | ret => exact key h'
    | exit j => exact h'.elim

end Go.Nx
