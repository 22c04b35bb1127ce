/-
  The engine, part 17: a region that draws its order: whatever the order.
-/
import Derived.Test.YtnhadghddkgjdaaEng16
namespace Go.Nx
open Go

/-- What holds of an activation inside such a region; the operations that are still to come have their names free. -/
structure InvD (gl : List Nat) (ops : Array Oper) (base : Nat) (todo : Nat → Prop) (N : Nat) (Γ : Env) (s : St) (a : Act) (w : World) : Prop where
  wr : WRel Γ s.rg w
  fr : FrRel Γ s.fr a.tmps
  gl : GlobOk gl Γ
  nw : ∀ n, base + 8 * ops.size ≤ n → Γ.μ n = none
  fresh : ∀ i, todo i → ∀ n, base + 8 * i ≤ n → n < base + 8 * i + 8 → Γ.μ n = none
  df : Df N Γ a.defers
  len : base + 8 * ops.size ≤ s.rg.length

section
variable {X : Cx} {ops : Array Oper} {base N : Nat}

theorem deffD_sound (hcon : ∀ f T, X.con f = some T → Known X.P X.glob f T) {i : Nat} {o : Oper} {s : St} {Γ : Env} {w : World} {a : Act} {R : Eff → Prop}
    (hw : WRel Γ s.rg w) (hG : GlobOk X.glob Γ) (hfr : FrRel Γ s.fr a.tmps) (hnm : ∀ k, base + 8 * i ≤ k → k < base + 8 * i + 8 → Γ.μ k = none) (h : (deffD X ops base i o s).run R) {K : Act → World → Prop} {Q : Exit → Act → World → Prop}
    (hK : ∀ x u w', R x → EffOk Γ s w (base + 8 * i) x u w' → K (a.put o.dst u) w') : o.wp X.P a w K Q := by
  unfold deffD at h
  split at h
  · rw [Tr.run_bind] at h
    refine deff_sound hcon hw hG hfr hnm h fun x u w' hR hE => hK x u w' ?_ hE
    split at hR
    · exact hR
    · exact hR.elim
  · exact h.elim

theorem InvD.app {gl : List Nat} {N : Nat} {todo : Nat → Prop} {Γ : Env} {s : St} {a : Act} {w w' : World} {x : Eff} {u : Value} {dst : Option Tmp} {i : Nat} (h : InvD gl ops base todo N Γ s a w) (hi : i < ops.size) (hE : EffOk Γ s w (base + 8 * i) x u w') :
    ∃ Γ', Ext Γ w Γ' ∧ Wd w w' ∧ InvD gl ops base (fun j => todo j ∧ j ≠ i) N Γ' (s.app x dst) (a.put dst u) w' := by
  obtain ⟨Γ', h1, h2, h3, h4, h5⟩ := hE
  refine ⟨Γ', h1, h4, by rw [St.app, put_rg]; exact h3, ?_, h.gl.mono h1.le, fun n hn => h5 n (h.nw n hn) (by omega), fun j hj n hn hn' => h5 n (h.fresh j hj.1 n hn hn') (by have := hj.2; omega), by rw [put_defers]; exact h.df.mono h1.le, Nat.le_trans h.len (app_len _ _ _)⟩
  refine FrRel.put ?_ dst h2
  rw [ups_fr]; exact h.fr.mono h1.le
theorem InvD.put {gl : List Nat} {N : Nat} {todo todo' : Nat → Prop} {Γ : Env} {s : St} {a : Act} {w : World} {x : NS} {u : Value} {dst : Option Tmp} (h : InvD gl ops base todo N Γ s a w) (r : SRel Γ x u) (ht : ∀ j, todo' j → todo j) : InvD gl ops base todo' N Γ (s.put dst x) (a.put dst u) w :=
  ⟨by rw [put_rg]; exact h.wr, h.fr.put dst r, h.gl, h.nw, fun j hj => h.fresh j (ht j hj), by rw [put_defers]; exact h.df, by rw [put_rg]; exact h.len⟩

theorem TD_sound (hcon : ∀ f T, X.con f = some T → Known X.P X.glob f T) {i : Nat} {o : Oper} {s : St} {Γ : Env} {w : World} {a : Act} {todo : Nat → Prop} {R : St → Prop} {K' : Act → World → Prop} {Q : Exit → Act → World → Prop} (ho : ops[i]? = some o) (ht : todo i)
    (hI : InvD X.glob ops base todo N Γ s a w) (h : (TD X ops base i o s).run fun e => R (s.app e o.dst))
    (hK : ∀ s' a' w' Γ', R s' → Ext Γ w Γ' → Wd w w' → InvD X.glob ops base (fun j => todo j ∧ j ≠ i) N Γ' s' a' w' → K' a' w') :
    wpOp X.P ops Q i K' a w := by
  have hi : i < ops.size := (Array.getElem?_eq_some_iff.1 ho).1
  have run : ((deffD X ops base i o s).run fun e => R (s.app e o.dst)) → o.wp X.P a w K' Q := by
    intro h2
    refine deffD_sound hcon hI.wr hI.gl hI.fr (hI.fresh i ht) h2 fun x u w' hR hE => ?_
    obtain ⟨Γ', h3, h4, h5⟩ := hI.app hi hE
    exact hK _ _ _ Γ' hR h3 h4 h5
  unfold wpOp
  rw [ho]
  simp only
  unfold TD estep at h
  split at h
  · rename_i hg
    have : Region.wanted o (yielded ops a.tmps) = true := by simp [Region.wanted, hg]
    rw [if_pos this]
    exact .inl (run h)
  · rename_i j want hg
    split at h
    case h_2 => exact h.elim
    rename_i d hd
    split at h
    case h_3 => exact h.elim
    case h_2 hx =>
      have hy : yielded ops a.tmps j = Option.none := by
        obtain ⟨v, h1, h2⟩ := R2.get hI.fr hx
        obtain ⟨vs, rfl, h2⟩ := h2
        cases h2
        have h3 : a.tmps[d]? = some (.tuple #[]) := by simpa using h1
        have h4 : (ops[j]?).bind (·.dst) = some d := hd
        unfold yielded
        rw [h4, Option.bind_some, h3]
      have hwant : Region.wanted o (yielded ops a.tmps) = false := by simp [Region.wanted, hg, hy]
      rw [hwant, if_neg (by decide)]
      exact hK _ _ _ Γ h (Ext.refl Γ w) (Wd.refl w) (hI.put ⟨[], rfl, .nil⟩ fun _ hj => hj.1)
    rename_i x hx
    have hy : yielded ops a.tmps j = some x := by
      obtain ⟨v, h1, h2⟩ := R2.get hI.fr hx
      obtain ⟨h2, -⟩ := h2
      have h2' : v = .bool x := h2
      subst h2'
      have h3 : a.tmps[d]? = some (.bool x) := by simpa using h1
      have h4 : (ops[j]?).bind (·.dst) = some d := hd
      unfold yielded
      rw [h4, Option.bind_some, h3]
    have hwant : Region.wanted o (yielded ops a.tmps) = (x == want) := by simp [Region.wanted, hg, hy]
    rw [hwant]
    split at h
    · rename_i e
      rw [if_pos (by simp [e])]
      exact .inl (run h)
    · rename_i e
      rw [if_neg (by simp [e])]
      exact hK _ _ _ Γ h (Ext.refl Γ w) (Wd.refl w) (hI.put ⟨[], rfl, .nil⟩ fun j hj => hj.1)

theorem ahead_lt (hd : ∀ (i : Nat) (o : Oper), ops[i]? = some o → ∀ m ∈ depsOf o, m < i) : ∀ (fuel : Nat) {k i : Nat}, ahead ops fuel k i = true → k < i
  | 0, _, _, h => by simp [ahead] at h
  | fuel + 1, k, i, h => by
    simp only [ahead] at h
    split at h
    · rename_i o ho
      rw [List.any_eq_true] at h
      obtain ⟨m, hm, h⟩ := h
      have h1 := hd i o ho m hm
      rw [Bool.or_eq_true, beq_iff_eq] at h
      rcases h with rfl | h
      · exact h1
      · exact Nat.lt_trans (ahead_lt hd fuel h) h1
    · cases h
theorem ahead_listed {L : Nat → Prop} (hdown : ∀ (i : Nat) (o : Oper), L i → ops[i]? = some o → ∀ m ∈ depsOf o, L m) : ∀ (fuel : Nat) {k i : Nat}, (∀ o, ops[i]? = some o → ∀ m ∈ depsOf o, L m) → ahead ops fuel k i = true → L k
  | 0, _, _, _, h => by simp [ahead] at h
  | fuel + 1, k, i, hi, h => by
    simp only [ahead] at h
    split at h
    · rename_i o ho
      rw [List.any_eq_true] at h
      obtain ⟨m, hm, h⟩ := h
      have h1 := hi o ho m hm
      rw [Bool.or_eq_true, beq_iff_eq] at h
      rcases h with rfl | h
      · exact h1
      · exact ahead_listed hdown fuel (fun o' ho' => hdown m o' h1 ho') h
    · cases h

theorem mem_depsOf {o : Oper} {m : Nat} : m ∈ depsOf o ↔ ∃ e ∈ o.after, Region.binds .any e = true ∧ e.on = m := by
  unfold depsOf
  simp only [List.mem_map, List.mem_filter, Array.mem_toList_iff, and_assoc]

/-- What is still to come, in the order of the text. -/
def todoOf (ops : Array Oper) (listed : Array Bool) : List Nat := (List.range ops.size).filter fun i => !listed.getD i true
theorem mem_todoOf {listed : Array Bool} {i : Nat} : i ∈ todoOf ops listed ↔ i < ops.size ∧ listed.getD i true = false := by
  unfold todoOf
  rw [List.mem_filter, List.mem_range, Bool.not_eq_eq_eq_not, Bool.not_true]
theorem filter_first {p q : Nat → Bool} {i : Nat} : ∀ {l : List Nat}, l.Pairwise (· < ·) → i ∈ l → p i = true → (∀ j, q j = (p j && decide (j ≠ i))) → ∃ l1 l2, l.filter p = l1 ++ i :: l2 ∧ l.filter q = l1 ++ l2 ∧ ∀ k ∈ l1, k < i ∧ p k = true
  | [], _, hi, _, _ => by cases hi
  | x :: l, hl, hi, hp, hq => by
    rw [List.pairwise_cons] at hl
    by_cases hx : x = i
    · subst hx
      refine ⟨[], l.filter p, by simp [hp], ?_, by simp⟩
      have : (x :: l).filter q = l.filter q := by simp [hq]
      rw [this, List.nil_append]
      refine List.filter_congr fun j hj => ?_
      have : j ≠ x := by have := hl.1 j hj; omega
      simp [hq, this]
    · have hi' : i ∈ l := by simpa [Ne.symm hx] using hi
      obtain ⟨l1, l2, h1, h2, h3⟩ := filter_first hl.2 hi' hp hq
      by_cases hpx : p x = true
      · refine ⟨x :: l1, l2, by simp [hpx, h1], by simp [hq, hpx, hx, h2], fun k hk => ?_⟩
        rcases List.mem_cons.1 hk with rfl | hk
        · exact ⟨hl.1 i hi', hpx⟩
        · exact h3 k hk
      · exact ⟨l1, l2, by simp [hpx, h1], by simp [hq, hpx, h2], h3⟩

theorem drawOk_spec {P : Program} (h : drawOk P ops = true) : (∀ (i : Nat) (o : Oper), ops[i]? = some o → ∀ m ∈ depsOf o, m < i) ∧
    ∀ k i, k < i → i < ops.size → ahead ops ops.size k i = false → ∀ x y, ops[k]? = some x → ops[i]? = some y → free2 P ops x y = true := by
  unfold drawOk at h
  rw [List.all_eq_true] at h
  refine ⟨fun i o ho m hm => ?_, fun k i hki hi ha x y hx hy => ?_⟩
  · have := h i (List.mem_range.2 (Array.getElem?_eq_some_iff.1 ho).1)
    rw [ho] at this
    simp only [Bool.and_eq_true, List.all_eq_true, decide_eq_true_eq] at this
    exact this.1 m hm
  · have := h i (List.mem_range.2 hi)
    rw [hy] at this
    simp only [Bool.and_eq_true, List.all_eq_true, decide_eq_true_eq] at this
    have := this.2 k (List.mem_range.2 hki)
    rw [ha, hx] at this
    simpa using this

theorem wpAny_of (hcon : ∀ f T, X.con f = some T → Known X.P X.glob f T) (hok : drawOk X.P ops = true) {Q : Exit → Act → World → Prop} :
    ∀ (fuel : Nat) {listed : Array Bool} {s : St} {Γ : Env} {a : Act} {w : World} {K : St → Prop}, listed.size = ops.size → (∀ (i : Nat) (o : Oper), listed.getD i false = true → ops[i]? = some o → ∀ m ∈ depsOf o, listed.getD m false = true) →
      (todoOf ops listed).length ≤ fuel → InvD X.glob ops base (fun i => i ∈ todoOf ops listed) N Γ s a w → ndops' X ops base (todoOf ops listed) s K →
      (∀ s' a' w' Γ', K s' → Ext Γ w Γ' → Wd w w' → InvD X.glob ops base (fun _ => False) N Γ' s' a' w' → Q .normal a' w') →
      wpAny X.P .any ops Q fuel listed a w := by
  obtain ⟨hdep, hfree⟩ := drawOk_spec hok
  intro fuel
  induction fuel with
  | zero =>
    intro listed s Γ a w K hsz hdown hlen hI h hK
    have h0 : todoOf ops listed = [] := List.length_eq_zero_iff.1 (by omega)
    rw [h0] at h hI
    refine ⟨?_, hK s a w Γ h (Ext.refl Γ w) (Wd.refl w) ⟨hI.wr, hI.fr, hI.gl, hI.nw, fun _ h => h.elim, hI.df, hI.len⟩⟩
    refine List.eq_nil_iff_forall_not_mem.2 fun i hi => ?_
    obtain ⟨h1, o, ho, -⟩ := mem_ready.1 hi
    have : i ∈ todoOf ops listed := mem_todoOf.2 ⟨(Array.getElem?_eq_some_iff.1 ho).1, h1⟩
    rw [h0] at this
    cases this
  | succ fuel ih =>
    intro listed s Γ a w K hsz hdown hlen hI h hK
    refine ⟨fun hr => ?_, fun i hi => ?_⟩
    · -- nothing is ready: nothing is to come
      have h0 : todoOf ops listed = [] := by
        refine List.eq_nil_iff_forall_not_mem.2 fun i => ?_
        induction i using Nat.strongRecOn with
        | _ i ihi =>
          intro hi
          obtain ⟨h1, h2⟩ := mem_todoOf.1 hi
          have : i ∈ Region.ready .any ops listed := by
            refine mem_ready.2 ⟨h2, ops[i], Array.getElem?_eq_getElem h1, fun e he hb => ?_⟩
            have hlt := hdep i _ (Array.getElem?_eq_getElem h1) e.on (mem_depsOf.2 ⟨e, he, hb, rfl⟩)
            have hnot := ihi e.on hlt
            rw [mem_todoOf] at hnot
            have hlt2 : e.on < listed.size := by omega
            have hno : ¬ listed.getD e.on true = false := fun h => hnot ⟨by omega, h⟩
            simp only [Array.getD_eq_getD_getElem?, Array.getElem?_eq_getElem hlt2, Option.getD_some] at hno ⊢
            simpa using hno
          rw [hr] at this
          cases this
      rw [h0] at h hI
      exact hK s a w Γ h (Ext.refl Γ w) (Wd.refl w) ⟨hI.wr, hI.fr, hI.gl, hI.nw, fun _ h => h.elim, hI.df, hI.len⟩
    · obtain ⟨hun, o, ho, hall⟩ := mem_ready.1 hi
      have his : i < ops.size := (Array.getElem?_eq_some_iff.1 ho).1
      have hil : i < listed.size := by omega
      have hid : ∀ m ∈ depsOf o, listed.getD m false = true := fun m hm => by
        obtain ⟨e, he, hb, rfl⟩ := mem_depsOf.1 hm
        exact hall e he hb
      obtain ⟨l1, l2, e1, e2, e3⟩ := filter_first (p := fun j => !listed.getD j true) (q := fun j => !(listed.setIfInBounds i true).getD j true) (i := i) (l := List.range ops.size) List.pairwise_lt_range (List.mem_range.2 his) (by rw [hun]; rfl) (fun j => by
        by_cases hj : j = i
        · subst hj; simp [hil]
        · rw [getD_set_ne true (Ne.symm hj)]; simp [hj])
      have e2' : todoOf ops (listed.setIfInBounds i true) = l1 ++ l2 := e2
      have e1' : todoOf ops listed = l1 ++ i :: l2 := e1
      rw [e1'] at h
      have h1 := ndops'_first hI.len (fun k hk => ?_) h
      · obtain ⟨o', ho', h2⟩ := h1
        rw [ho] at ho'; cases ho'
        refine TD_sound hcon (todo := fun j => j ∈ todoOf ops listed) (R := fun s' => ndops' X ops base (l1 ++ l2) s' K) ho (by rw [e1']; simp) hI h2 fun s' a' w' Γ' k1 k2 k3 k4 => ?_
        refine ih (listed := listed.setIfInBounds i true) (s := s') (Γ := Γ') (K := K) (by simpa using hsz) ?_ ?_ ?_ ?_ fun s2 a2 w2 Γ2 j1 j2 j3 j4 => hK s2 a2 w2 Γ2 j1 (k2.trans k3 j2) (k3.trans j3) j4
        · intro j oj hj hoj m hm
          by_cases hji : j = i
          · subst hji
            rw [ho] at hoj; cases hoj
            exact getD_set_true (hid m hm)
          · rw [getD_set_ne false (Ne.symm hji)] at hj
            exact getD_set_true (hdown j oj hj hoj m hm)
        · rw [e2']
          rw [e1'] at hlen
          simp only [List.length_append, List.length_cons] at hlen ⊢
          omega
        · refine ⟨k4.wr, k4.fr, k4.gl, k4.nw, fun j hj => k4.fresh j ?_, k4.df, k4.len⟩
          rw [mem_todoOf] at hj ⊢
          by_cases hji : j = i
          · subst hji
            exfalso
            have := hj.2
            simp [hil] at this
          · rw [getD_set_ne true (Ne.symm hji)] at hj
            exact ⟨hj, hji⟩
        · rw [e2']; exact k1
      · obtain ⟨h2, h3⟩ := e3 k hk
        have hka : ahead ops ops.size k i = false := by
          cases hh : ahead ops ops.size k i with
          | false => rfl
          | true =>
            exfalso
            have := ahead_listed (L := fun m => listed.getD m false = true) (fun i o h1 h2 => hdown i o h1 h2) ops.size (fun o' ho' => by rw [ho] at ho'; cases ho'; exact hid) hh
            have hks : k < listed.size := by omega
            simp only [Array.getD_eq_getD_getElem?, Array.getElem?_eq_getElem hks, Option.getD_some] at this h3
            rw [this] at h3
            cases h3
        refine ⟨h2, hka, ?_, hfree k i h2 his hka⟩
        cases hh : ahead ops ops.size i k with
        | false => rfl
        | true => have := ahead_lt hdep ops.size hh; omega

theorem draw_sound {β : Type} (hcon : ∀ f T, X.con f = some T → Known X.P X.glob f T) (hm : X.P.follows .mixedOrders = true) {id : Nat} {Q : Exit → Act → World → Prop} {s : St} {Γ : Env} {w : World} {a : Act} {K : St → Tr β} {R : β → Prop} (hI : Inv X.glob N Γ s a w)
    (hok : drawOk X.P ops = true) (h : (ndops X ops s.rg.length (List.range ops.size) { s with rg := s.rg ++ List.replicate (8 * ops.size) none } K).run R)
    (hK : ∀ s' a' w' Γ', (K s').run R → Ext Γ w Γ' → Wd w w' → Inv X.glob N Γ' s' a' w' → Q .normal a' w') : (Code.region id ops true).wp X.P Q a w := by
  refine wp_region_any hm ?_
  have h0 : todoOf ops (Array.replicate ops.size false) = List.range ops.size := by
    unfold todoOf
    refine List.filter_eq_self.2 fun i hi => ?_
    rw [List.mem_range] at hi
    simp [hi]
  have hlive : ∀ n, live (s.rg ++ List.replicate (8 * ops.size) none) n → live s.rg n := by
    rintro n ⟨g, hg⟩
    rw [List.getElem?_append] at hg
    split at hg
    · exact ⟨g, hg⟩
    · rw [List.getElem?_replicate] at hg
      split at hg
      · cases hg
      · cases hg
  have hw' : WRel Γ (s.rg ++ List.replicate (8 * ops.size) none) { w with drawn := w.drawn + 1 } := by
    refine ⟨fun n g hg => ?_, fun n m B B' hne ln lm => hI.wr.inj n m B B' hne (hlive n ln) (hlive m lm), hI.wr.kp, fun n B ln => hI.wr.apart n B (hlive n ln), hI.wr.ro⟩
    obtain ⟨g', hg'⟩ := hlive n ⟨g, hg⟩
    have : g' = g := by
      have hn : n < s.rg.length := (List.getElem?_eq_some_iff.1 hg').1
      rw [List.getElem?_append_left hn, hg'] at hg
      cases hg; rfl
    subst this
    obtain ⟨B, hB, hr⟩ := hI.wr.live n g' hg'
    exact ⟨B, hB, hr.heap rfl⟩
  refine wpAny_of (base := s.rg.length) (N := N) hcon hok ops.size (Γ := Γ) (s := { s with rg := s.rg ++ List.replicate (8 * ops.size) none }) (K := fun s' => (K s').run R) (by simp) (fun i o hi => ?_) (by rw [h0]; simp) ?_ (by rw [h0]; exact ndops_to h) fun s' a' w' Γ' h1 h2 h3 h4 => ?_
  · exfalso
    simp only [Array.getD_eq_getD_getElem?, Array.getElem?_replicate] at hi
    split at hi <;> simp at hi
  · exact ⟨hw', hI.fr, hI.gl, fun n hn => hI.nw n (by omega), fun i _ n hn _ => hI.nw n (by omega), hI.df, by simp⟩
  · have hwd : Wd w { w with drawn := w.drawn + 1 } := ⟨rfl, rfl, rfl, Nat.le_refl _⟩
    refine hK s' a' w' Γ' h1 ⟨h2.le, h2.ro, h2.nw⟩ (hwd.trans h3) ⟨h4.wr, h4.fr, h4.gl, fun n hn => h4.nw n (Nat.le_trans h4.len hn), h4.df⟩
end

end Go.Nx
