/-
  The engine, part 16: a region that draws its order.
-/
import Derived.Test.YtnhadghddkgjdaaEng15
import Derived.Orders
namespace Go.Nx
open Go

/-- One operation under its guard, as a tree. -/
def estep (ops : Array Oper) (o : Oper) (E : St → Tr Eff) (s : St) : Tr Eff :=
  match o.guard with
  | none => E s
  | some (j, want) =>
    match guardSlot ops j with
    | some d =>
      (match s.fr[d]? with
       | some (.v (.c (.b x))) => if x = want then E s else .ret { up := [], v := .tu [] }
       | some (.tu []) => .ret { up := [], v := .tu [] }
       | _ => .fail)
    | none => .fail

theorem put_lit {s : St} {d : Tmp} {x : Bool} (hd : s.fr[d]? = some (.v (.c (.b x)))) : s.put (some d) (lit x) = s := by
  show St.mk (s.fr.set d _) s.rg = s
  have : s.fr.set d (Nx.lit x) = s.fr := List.ext_getElem? fun j => by
    rw [List.getElem?_set]
    split
    · rename_i e; subst e
      split
      · rw [hd]; rfl
      · rename_i hl; rw [List.getElem?_eq_none (by omega)] at hd; cases hd
    · rfl
  rw [this]
theorem nstep_estep {β : Type} {ops : Array Oper} {o : Oper} {E : St → Tr Eff} {s : St} {K : St → Tr β} {R : β → Prop} (h : (nstep ops o E s K).run R) : (estep ops o E s).run fun e => (K (s.app e o.dst)).run R := by
  unfold nstep at h
  unfold estep
  split at h
  · rename_i hg; rw [hg]; rw [Tr.run_bind] at h; exact h
  · rename_i j want hg
    rw [hg]
    simp only
    split at h
    case h_2 => exact h.elim
    rename_i d hd
    rw [hd]
    simp only
    split at h
    case h_3 => exact h.elim
    case h_2 hx =>
      rw [hx]
      exact h
    rename_i x hx
    rw [hx]
    simp only
    have h' := sel_iff.1 h
    clear h
    rcases h' with ⟨rfl, h⟩ | ⟨rfl, h⟩ <;> rw [put_lit hx] at h <;> cases want <;> simp only [if_true, if_false, Bool.false_eq_true, Bool.true_eq_false] <;> first | exact h | (rw [Tr.run_bind] at h; exact h)

theorem flatMap_congr' {α β : Type} {f g : α → List β} : ∀ {l : List α}, (∀ x ∈ l, f x = g x) → l.flatMap f = l.flatMap g
  | [], _ => rfl
  | x :: l, h => by rw [List.flatMap_cons, List.flatMap_cons, h x (by simp), flatMap_congr' fun y hy => h y (by simp [hy])]

section
variable {X : Cx} {ops : Array Oper} {base : Nat}

def TD (X : Cx) (ops : Array Oper) (base i : Nat) (o : Oper) (s : St) : Tr Eff := estep ops o (deffD X ops base i o) s
def ndops' (X : Cx) (ops : Array Oper) (base : Nat) : List Nat → St → (St → Prop) → Prop
  | [], s, K => K s
  | i :: rest, s, K => ∃ o, ops[i]? = some o ∧ (TD X ops base i o s).run fun e => ndops' X ops base rest (s.app e o.dst) K

theorem ndops_to {β : Type} : ∀ {l : List Nat} {s : St} {K : St → Tr β} {R : β → Prop}, (ndops X ops base l s K).run R → ndops' X ops base l s (fun s' => (K s').run R)
  | [], _, _, _, h => h
  | i :: l, s, K, R, h => by
    simp only [ndops] at h
    split at h
    · rename_i o ho
      exact ⟨o, ho, Tr.run_mono _ (fun e he => ndops_to he) (nstep_estep h)⟩
    · exact h.elim

/-- What an effect's updates may be. -/
def Good (P : Program) (ops : Array Oper) (base i : Nat) (o : Oper) (s : St) (e : Eff) : Prop :=
  ((still o.op || look o.op) = true → e.up = []) ∧ (mildN P ops i o = true → mildEff base i e = true) ∧ (∀ t, storeAt ops o = some t → ∀ p ∈ e.up, p.1 ∈ (s.ev (.tmp t)).names ∧ p.1 < base) ∧ (e.up = [] ∨ apartOk P ops base s i o = true) ∧ (mildL P ops i o = true → ∀ p ∈ e.up, base ≤ p.1 ∧ p.1 < base + 8 * ops.size)
theorem storeAt_spec {o : Oper} {t : Tmp} (h : storeAt ops o = some t) : (∃ ty v, o.op = .store ty (.tmp t) v) ∧ ∀ (k : Nat) (x : Oper), ops[k]? = some x → x.dst ≠ some t := by
  unfold storeAt at h
  split at h
  · rename_i ty u v ho
    split at h
    · rename_i hall
      cases h
      refine ⟨⟨ty, v, ho⟩, fun k x hx => ?_⟩
      rw [List.all_eq_true] at hall
      have := hall x (by rw [← Array.getElem?_toList] at hx; exact List.mem_of_getElem? hx)
      simpa using this
    · cases h
  · cases h
theorem nstore_at {P : Program} {s : St} {t : TypeId} {a : NC} {x : NV} {c : List Bool} {n : Nat} {g : Reg} (h : nstore P s t a x = some (c, n, g)) : n ∈ names a := by
  unfold nstore at h
  split at h
  case isFalse => cases h
  split at h
  case h_2 => cases h
  rename_i r i cc
  split at h
  case h_2 => cases h
  show n ∈ [r]
  rw [List.mem_singleton]
  repeat' (first | (cases h; done) | (cases h; rfl) | split at h)
theorem store_eff {t : TypeId} {a v : Operand} {nm : Nat} {s : St} {R : Eff → Prop} (hr : (deff X (.store t a v) nm s).run R) : (deff X (.store t a v) nm s).run fun e => (∀ p ∈ e.up, p.1 ∈ (s.ev a).names) ∧ R e := by
  have e : deff X (.store t a v) nm s = (light X.P X.glob s (.store t a v)).eff nm := rfl
  rw [e] at hr ⊢
  simp only [light] at hr ⊢
  split at hr
  · rename_i ti y z h1 h2 h3
    split at hr
    · rename_i c n g hn
      obtain ⟨h4, h5⟩ := (chkT_run _ _ _).1 hr
      refine (chkT_run _ _ _).2 ⟨h4, fun p hp => ?_, h5⟩
      rw [List.mem_singleton] at hp
      rw [hp, nc_names h2]
      exact nstore_at hn
    · exact hr
  · exact hr

theorem still_eff {op : Op} {nm : Nat} {s : St} {R : Eff → Prop} (h0 : (still op || look op) = true) (hr : (deff X op nm s).run R) : (deff X op nm s).run fun e => e.up = [] ∧ R e := by
  have val : ∀ {r : R1}, (∀ c g v, r ≠ .new c g v) → (∀ c n g, r ≠ .upd c n g) → (r.eff nm).run R → (r.eff nm).run fun e => e.up = [] ∧ R e := by
    intro r h1 h2 h
    cases r with
    | no => exact h
    | val c v => obtain ⟨h3, h4⟩ := (chkT_run _ _ _).1 h; exact (chkT_run _ _ _).2 ⟨h3, rfl, h4⟩
    | new c g v => exact (h1 _ _ _ rfl).elim
    | upd c n g => exact (h2 _ _ _ rfl).elim
  have ofv : ∀ x, (∀ c g v, ofV x ≠ .new c g v) ∧ (∀ c n g, ofV x ≠ .upd c n g) := by
    intro x
    cases x with
    | none => exact ⟨fun _ _ _ h => by simp [ofV] at h, fun _ _ _ h => by simp [ofV] at h⟩
    | some x => exact ⟨fun _ _ _ h => by simp [ofV] at h, fun _ _ _ h => by simp [ofV] at h⟩
  have hl : (∀ c g v, light X.P X.glob s op ≠ .new c g v) ∧ (∀ c n g, light X.P X.glob s op ≠ .upd c n g) := by
    rw [Bool.or_eq_true] at h0
    rcases h0 with h | h
    · unfold still at h
      split at h <;> first
        | (cases h; done)
        | (simp only [light]; constructor <;> intro a b c <;> repeat' (first | (exact (ofv _).1 _ _ _) | (exact (ofv _).2 _ _ _) | (intro h'; cases h'; done) | split))
    · unfold look at h
      split at h <;> first
        | (cases h; done)
        | (simp only [light]; constructor <;> intro a b c <;> repeat' (first | (exact (ofv _).1 _ _ _) | (exact (ofv _).2 _ _ _) | (intro h'; cases h'; done) | split))
  unfold deff at hr ⊢
  split at hr
  · split at hr
    · simp only [Tr.run] at hr ⊢
      rcases sel_iff.1 hr with ⟨h1, h2⟩ | ⟨h1, h2⟩
      · exact sel_iff.2 (.inl ⟨h1, fun i hi => ⟨trivial, h2 i hi⟩⟩)
      · exact sel_iff.2 (.inr ⟨h1, trivial, h2⟩)
    · exact val hl.1 hl.2 hr
  · split at hr
    · simp only [Tr.run] at hr ⊢
      rcases sel_iff.1 hr with ⟨h1, h2⟩ | ⟨h1, h2⟩
      · exact sel_iff.2 (.inl ⟨h1, trivial, h2⟩)
      · exact sel_iff.2 (.inr ⟨h1, trivial, h2⟩)
    · exact hr
  · rename_i c
    split at hr
    · exfalso
      rw [Bool.or_eq_true] at h0
      rcases h0 with h | h
      · unfold still at h
        split at h <;> first | (cases h; done) | (simp_all; done)
      · unfold look at h
        split at h <;> first | (cases h; done) | (simp_all; done)
    · exfalso
      rw [Bool.or_eq_true] at h0
      rcases h0 with h | h
      · unfold still at h
        split at h <;> first | (cases h; done) | (simp_all; done)
      · unfold look at h
        split at h <;> first | (cases h; done) | (simp_all; done)
    · exact val hl.1 hl.2 hr
  · simp [still, look] at h0
  · simp [still, look] at h0
  · exact val hl.1 hl.2 hr

theorem deffD_good {i : Nat} {o : Oper} {s : St} {R : Eff → Prop} (hr : (deffD X ops base i o s).run R) : (deffD X ops base i o s).run fun e => Good X.P ops base i o s e ∧ R e := by
  unfold deffD at hr ⊢
  split at hr
  · rename_i hcond
    have hok : apartOk X.P ops base s i o = true := by
      rw [Bool.and_eq_true, Bool.and_eq_true] at hcond
      exact hcond.1.2
    rw [Tr.run_bind] at hr ⊢
    have key : (deff X o.op (base + 8 * i) s).run fun e => (((still o.op || look o.op) = true → e.up = []) ∧ (∀ t, storeAt ops o = some t → ∀ p ∈ e.up, p.1 ∈ (s.ev (.tmp t)).names ∧ p.1 < base)) ∧ (match (!mildN X.P ops i o || mildEff base i e) && (!mildL X.P ops i o || upOk base ops.size e) with | true => Tr.ret e | false => Tr.fail).run R := by
      by_cases hs : (still o.op || look o.op) = true
      · refine Tr.run_mono _ (fun e he => ⟨⟨fun _ => he.1, fun t ht => ?_⟩, he.2⟩) (still_eff hs hr)
        obtain ⟨⟨ty, v, hop⟩, -⟩ := storeAt_spec ht
        rw [hop] at hs
        cases hs
      · cases hst : storeAt ops o with
        | none => exact Tr.run_mono _ (fun e he => ⟨⟨fun h => (hs h).elim, fun t ht => by cases ht⟩, he⟩) hr
        | some t =>
          obtain ⟨⟨ty, v, hop⟩, -⟩ := storeAt_spec hst
          have hlt : ∀ n ∈ (s.ev (.tmp t)).names, n < base := by
            unfold apartOk at hok
            have hn : near X.P ops o = true := by unfold near; rw [hst]; rfl
            have hs' : still o.op = false := by rw [hop]; rfl
            rw [hs', hn, hst] at hok
            simp only [Bool.not_true, Bool.or_self, Bool.false_or, Bool.and_eq_true, List.all_eq_true, decide_eq_true_eq] at hok
            exact hok.1
          rw [hop] at hr ⊢
          refine Tr.run_mono _ (fun e he => ⟨⟨fun h => absurd h Bool.false_ne_true, fun t' ht' p hp => ?_⟩, he.2⟩) (store_eff hr)
          cases ht'
          exact ⟨he.1 p hp, hlt _ (he.1 p hp)⟩
    refine Tr.run_mono _ (fun e he => ?_) key
    obtain ⟨⟨h1, h1'⟩, h2⟩ := he
    cases hm : ((!mildN X.P ops i o || mildEff base i e) && (!mildL X.P ops i o || upOk base ops.size e)) with
    | false => rw [hm] at h2; exact h2
    | true =>
      rw [hm] at h2
      rw [Bool.and_eq_true] at hm
      refine ⟨⟨h1, fun h => ?_, h1', .inr hok, fun h p hp => ?_⟩, h2⟩
      · have hm := hm.1
        rw [h] at hm
        simpa using hm
      · have hm := hm.2
        rw [h] at hm
        have hm : upOk base ops.size e = true := by simpa using hm
        unfold upOk at hm
        have := List.all_eq_true.1 hm p hp
        simpa [Bool.and_eq_true] using this
  · exact hr
theorem TD_good {i : Nat} {o : Oper} {s : St} {R : Eff → Prop} (hr : (TD X ops base i o s).run R) : (TD X ops base i o s).run fun e => Good X.P ops base i o s e ∧ R e := by
  unfold TD estep at hr ⊢
  split at hr
  · exact deffD_good hr
  · split at hr
    · split at hr
      · split at hr
        · rename_i h; rw [if_pos h]; exact deffD_good hr
        · rename_i h
          rw [if_neg h]
          exact ⟨⟨fun _ => rfl, fun _ => rfl, fun _ _ _ hp => absurd hp (by simp), .inl rfl, fun _ p hp => absurd hp (by simp)⟩, hr⟩
      · exact ⟨⟨fun _ => rfl, fun _ => rfl, fun _ _ _ hp => absurd hp (by simp), .inl rfl, fun _ p hp => absurd hp (by simp)⟩, hr⟩
      · exact hr
    · exact hr

theorem putAt_comm {l : List (Option Reg)} {n m : Nat} {x y : Option Reg} (hn : n < l.length) (hm : m < l.length) (hne : n ≠ m) : putAt (putAt l n x) m y = putAt (putAt l m y) n x := by
  simp only [putAt, hn, hm, if_true, List.length_set]
  exact List.set_comm _ _ hne
theorem putAt_len {l : List (Option Reg)} {n : Nat} {x : Option Reg} (hn : n < l.length) : (putAt l n x).length = l.length := by simp [putAt, hn]
/-- Updates of different names, all of them listed. -/
theorem ups_put_comm {s : St} {u : List (Nat × Option Reg)} {n : Nat} {x : Option Reg} (hn : n < s.rg.length) (hu : ∀ p ∈ u, p.1 < s.rg.length ∧ p.1 ≠ n) : (s.setReg n x).ups u = (s.ups u).setReg n x := by
  induction u generalizing s with
  | nil => rfl
  | cons p u ih =>
    obtain ⟨m, y⟩ := p
    obtain ⟨h1, h2⟩ := hu (m, y) (by simp)
    simp only [St.ups]
    have e : (s.setReg n x).setReg m y = (s.setReg m y).setReg n x := by
      show St.mk s.fr (putAt (putAt s.rg n x) m y) = St.mk s.fr (putAt (putAt s.rg m y) n x)
      rw [putAt_comm hn h1 (Ne.symm h2)]
    rw [e]
    refine ih (s := s.setReg m y) ?_ fun p hp => ?_
    · show n < (putAt s.rg m y).length
      rw [putAt_len h1]; exact hn
    · show p.1 < (putAt s.rg m y).length ∧ _
      rw [putAt_len h1]; exact hu p (by simp [hp])
theorem ups_comm {s : St} {u v : List (Nat × Option Reg)} (hu : ∀ p ∈ u, p.1 < s.rg.length) (hv : ∀ p ∈ v, p.1 < s.rg.length) (hd : ∀ p ∈ u, ∀ q ∈ v, q.1 ≠ p.1) : (s.ups u).ups v = (s.ups v).ups u := by
  induction u generalizing s with
  | nil => rfl
  | cons p u ih =>
    obtain ⟨n, x⟩ := p
    have hn := hu (n, x) (by simp)
    simp only [St.ups]
    have hl : ∀ m, m < s.rg.length → m < (s.setReg n x).rg.length := fun m hm => by
      show m < (putAt s.rg n x).length
      rw [putAt_len hn]; exact hm
    rw [ih (s := s.setReg n x) (fun p hp => hl _ (hu p (by simp [hp]))) (fun q hq => hl _ (hv q hq)) (fun p hp => hd p (by simp [hp])),
      ups_put_comm hn fun q hq => ⟨hv q hq, hd (n, x) (by simp) q hq⟩]
theorem ups_reg {s : St} {u : List (Nat × Option Reg)} {n : Nat} (hu : ∀ p ∈ u, p.1 < s.rg.length) (h : ∀ p ∈ u, p.1 ≠ n) : (s.ups u).reg n = s.reg n := by
  induction u generalizing s with
  | nil => rfl
  | cons p u ih =>
    obtain ⟨m, x⟩ := p
    have hm := hu (m, x) (by simp)
    have h1 := h (m, x) (by simp)
    simp only [St.ups]
    rw [ih (s := s.setReg m x) (fun p hp => by
      show p.1 < (putAt s.rg m x).length
      rw [putAt_len hm]; exact hu p (by simp [hp])) (fun p hp => h p (by simp [hp]))]
    unfold St.reg St.setReg
    simp only [putAt]
    rw [if_pos hm, List.getElem?_set_ne h1]

theorem ev_app {s : St} {e : Eff} {dst : Option Tmp} {x : Operand} (h : ∀ d, dst = some d → x ≠ .tmp d) : (s.app e dst).ev x = s.ev x := by
  unfold St.app
  cases x with
  | tmp t =>
    cases dst with
    | none => simp only [St.ev, St.put, ups_fr]
    | some d =>
      have : d ≠ t := fun hh => h d rfl (by rw [hh])
      simp only [St.ev, St.put, ups_fr, List.getD_eq_getElem?_getD]
      rw [List.getElem?_set_ne this]
  | _ => cases dst <;> rfl
theorem mem_looksAt {o : Oper} {t : Tmp} (h : Operand.tmp t ∈ o.op.operands.toList) : t ∈ o.looksAt ops :=
  List.mem_append_left _ (List.mem_filterMap.2 ⟨.tmp t, h, rfl⟩)
theorem guard_looksAt {o : Oper} {j : Nat} {want : Bool} {d : Tmp} (h : o.guard = some (j, want)) (hd : guardSlot ops j = some d) : d ∈ o.looksAt ops := by
  refine List.mem_append_right _ ?_
  rw [h]
  have hd' : (ops[j]?).bind (·.dst) = some d := hd
  simp only [hd', Option.toList]
  simp
theorem app_reg (s : St) (e : Eff) (dst : Option Tmp) (n : Nat) : (s.app e dst).reg n = (s.ups e.up).reg n := by cases dst <;> rfl

theorem nsSeeds_same {s s' : St} {x : NS} (h : ∀ n ∈ x.names, s.reg n = s'.reg n) : x.seeds s = x.seeds s' := by
  cases x with
  | v x =>
    show x.cells.flatMap (seeds s) = x.cells.flatMap (seeds s')
    refine flatMap_congr' fun c hc => seeds_same fun n hn => h n ?_
    show n ∈ x.cells.flatMap names
    rw [List.mem_flatMap]
    exact ⟨c, hc, hn⟩
  | _ => rfl
/-- Two operations that do not see each other's work. -/
def Free (P : Program) (ops : Array Oper) (x y : Oper) : Prop :=
  still x.op = true ∨ still y.op = true ∨ (mild P x.op = true ∧ mild P y.op = true) ∨ ((storeAt ops x).isSome = true ∧ near P ops y = true) ∨ ((storeAt ops y).isSome = true ∧ near P ops x = true)
theorem Free.swap {P : Program} {x y : Oper} (h : Free P ops x y) : Free P ops y x := by
  rcases h with h | h | ⟨h, h'⟩ | h | h
  · exact .inr (.inl h)
  · exact .inl h
  · exact .inr (.inr (.inl ⟨h', h⟩))
  · exact .inr (.inr (.inr (.inr h)))
  · exact .inr (.inr (.inr (.inl h)))
theorem near_cases {P : Program} {o : Oper} (h : near P ops o = true) : (∃ t, storeAt ops o = some t) ∨ (mild P o.op = true ∧ isCall o.op = false) := by
  unfold near at h
  rw [Bool.or_eq_true, Bool.and_eq_true] at h
  rcases h with h | h
  · exact .inl (Option.isSome_iff_exists.1 h)
  · exact .inr ⟨h.1, by simpa using h.2⟩
theorem apartOk_get {P : Program} {s : St} {i k : Nat} {o x : Oper} {t : Tmp} (h : apartOk P ops base s i o = true) (hn : near P ops o = true) (hs : still o.op = false) (hx : ops[k]? = some x) (ht : storeAt ops x = some t) (hki : k ≠ i)
    (h1 : ahead ops ops.size k i = false) (h2 : ahead ops ops.size i k = false) : ∀ n ∈ (s.ev (.tmp t)).names, n < base ∧ n ∉ o.op.operands.toList.flatMap fun x => (s.ev x).names := by
  unfold apartOk at h
  rw [hs, hn] at h
  simp only [Bool.not_true, Bool.or_self, Bool.false_or, Bool.and_eq_true] at h
  have h3 := List.all_eq_true.1 h.2 k (List.mem_range.2 (Array.getElem?_eq_some_iff.1 hx).1)
  have hki' : (k == i) = false := by simpa using hki
  rw [hx] at h3
  simp only [ht, hki', h1, h2, Bool.or_self, Bool.false_or] at h3
  intro n hmem
  have h4 := List.all_eq_true.1 h3 n hmem
  simp only [Bool.and_eq_true, decide_eq_true_eq, Bool.not_eq_true'] at h4
  refine ⟨h4.1, fun hc => ?_⟩
  have h5 := List.contains_iff_mem.2 hc
  rw [h4.2] at h5
  cases h5
theorem mildEff_range {i : Nat} {e : Eff} (h : mildEff base i e = true) : ∀ p ∈ e.up, base + 8 * i ≤ p.1 ∧ p.1 < base + 8 * i + 8 := by
  intro p hp
  unfold mildEff at h
  have := List.all_eq_true.1 h p hp
  simp only [Bool.and_eq_true, decide_eq_true_eq] at this
  exact this.1

theorem lone_not {i k : Nat} {x : Oper} (hx : ops[k]? = some x) (hs : still x.op = false) (hki : k ≠ i) (h1 : ahead ops ops.size k i = false) (h2 : ahead ops ops.size i k = false) : lone ops i = false := by
  cases h : lone ops i with
  | false => rfl
  | true =>
    unfold lone at h
    have h3 := List.all_eq_true.1 h k (List.mem_range.2 (Array.getElem?_eq_some_iff.1 hx).1)
    have hki' : (k == i) = false := by simpa using hki
    rw [hx] at h3
    simp only [hki', h1, h2, hs, Bool.or_self] at h3
    cases h3
theorem mildN_of {P : Program} {i k : Nat} {x o : Oper} (hx : ops[k]? = some x) (hs : still x.op = false) (hki : k ≠ i) (h1 : ahead ops ops.size k i = false) (h2 : ahead ops ops.size i k = false) (hm : mild P o.op = true) : mildN P ops i o = true ∨ (look x.op = true ∧ mildL P ops i o = true ∧ deep P o.op = true) := by
  unfold mildN mildL
  rw [hm, lone_not hx hs hki h1 h2]
  cases hd : (deep P o.op && loneL ops i) with
  | false => exact .inl rfl
  | true =>
    rw [Bool.and_eq_true] at hd
    refine .inr ⟨?_, rfl, hd.1⟩
    have h3 := List.all_eq_true.1 hd.2 k (List.mem_range.2 (Array.getElem?_eq_some_iff.1 hx).1)
    have hki' : (k == i) = false := by simpa using hki
    rw [hx] at h3
    simp only [hki', h1, h2, hs, Bool.or_self, Bool.false_or] at h3
    exact h3
theorem lookOk_get {P : Program} {i k : Nat} {x y : Oper} {s : St} (h : lookOk P ops base s i y = true) (hl : look y.op = true) (hx : ops[k]? = some x) (hd : deep P x.op = true) (hki : k ≠ i) (h1 : ahead ops ops.size k i = false) (h2 : ahead ops ops.size i k = false) :
    ∀ n ∈ y.op.operands.toList.flatMap (fun z => (s.ev z).names), n < base := by
  unfold lookOk at h
  rw [hl] at h
  simp only [Bool.not_true, Bool.false_or, Bool.or_eq_true] at h
  rcases h with h | h
  · have h3 := List.all_eq_true.1 h k (List.mem_range.2 (Array.getElem?_eq_some_iff.1 hx).1)
    have hki' : (k == i) = false := by simpa using hki
    rw [hx] at h3
    simp only [hki', h1, h2, hd, Bool.or_self, Bool.not_true] at h3
    cases h3
  · intro n hn
    exact of_decide_eq_true (List.all_eq_true.1 h n hn)

/-- An operation does not see what another one, which is apart from it, did. -/
theorem TD_same {i k : Nat} {x y : Oper} {s : St} {e : Eff} (hlen : base + 8 * ops.size ≤ s.rg.length) (hx : ops[k]? = some x) (hy : ops[i]? = some y) (hki : k ≠ i) (hap : ∀ d, x.dst = some d → d ∉ y.looksAt ops)
    (hfree : Free X.P ops x y) (hg : Good X.P ops base k x s e) (hah : ahead ops ops.size k i = false) (hai : ahead ops ops.size i k = false) :
    TD X ops base i y (s.app e x.dst) = TD X ops base i y s := by
  have hk : k < ops.size := (Array.getElem?_eq_some_iff.1 hx).1
  have hev : ∀ z ∈ y.op.operands.toList, (s.app e x.dst).ev z = s.ev z := fun z hz => ev_app fun d hd hzd => hap d hd (mem_looksAt (by rw [← hzd]; exact hz))
  have hevt : ∀ (j : Nat) (o : Oper) (t : Tmp), ops[j]? = some o → storeAt ops o = some t → (s.app e x.dst).ev (.tmp t) = s.ev (.tmp t) := fun j o t _ ht => ev_app fun d hd hzd => by
    cases hzd
    exact (storeAt_spec ht).2 k x hx hd
  have e3 : (y.op.operands.toList.flatMap fun z => ((s.app e x.dst).ev z).names) = (y.op.operands.toList.flatMap fun z => (s.ev z).names) := flatMap_congr' fun z hz => by rw [hev z hz]
  have mx : still y.op = false → mild X.P x.op = true → mildN X.P ops k x = true ∨ (look y.op = true ∧ mildL X.P ops k x = true ∧ deep X.P x.op = true) := fun hs hm => mildN_of hy hs (Ne.symm hki) hai hah hm
  have hD : deffD X ops base i y (s.app e x.dst) = deffD X ops base i y s := by
    have e1 : namesOk ops base (s.app e x.dst) i y = namesOk ops base s i y := by
      unfold namesOk
      congr 1
    have freshN : namesOk ops base s i y = true → mildN X.P ops k x = true → ∀ n ∈ y.op.operands.toList.flatMap (fun z => (s.ev z).names), (s.app e x.dst).reg n = s.reg n := by
      intro hc1 h1 n hn
      rw [app_reg]
      unfold namesOk at hc1
      rw [List.all_eq_true] at hc1
      have hn2 := hc1 n hn
      have hb := mildEff_range (hg.2.1 h1)
      refine ups_reg (fun p hp => ?_) fun p hp hpn => ?_
      · have := hb p hp; omega
      · obtain ⟨h3, h4⟩ := hb p hp
        rw [hpn] at h3 h4
        rw [Bool.or_eq_true, decide_eq_true_eq] at hn2
        rcases hn2 with h5 | h5
        · omega
        · have : (n - base) / 8 = k := by omega
          rw [this, hah] at h5
          cases h5
    have e2 : namesOk ops base s i y = true → (!(mildN X.P ops i y && isCall y.op) || (y.op.operands.toList.flatMap fun z => ((s.app e x.dst).ev z).seeds (s.app e x.dst)).isEmpty) = (!(mildN X.P ops i y && isCall y.op) || (y.op.operands.toList.flatMap fun z => (s.ev z).seeds s).isEmpty) := by
      intro hn
      cases hmc : (mildN X.P ops i y && isCall y.op) with
      | false => rfl
      | true =>
        rw [Bool.and_eq_true] at hmc
        have hst : storeAt ops y = none := by
          unfold storeAt
          cases hop : y.op <;> first | rfl | (rw [hop] at hmc; simp [isCall] at hmc)
        have hnear : near X.P ops y = false := by
          unfold near
          rw [hst, hmc.2]
          simp
        have hstill : still y.op = false := by
          cases hop : y.op <;> first | rfl | (rw [hop] at hmc; simp [isCall] at hmc; done) | skip
          rename_i c
          obtain ⟨cal, a1, a2⟩ := c
          rw [hop] at hmc
          cases cal with
          | builtin b => simp [isCall] at hmc
          | invoke r m => simp [isCall] at hmc
          | value f => rfl
        have hreg : ∀ n ∈ y.op.operands.toList.flatMap (fun z => (s.ev z).names), (s.app e x.dst).reg n = s.reg n := by
          rcases hfree with h | h | ⟨h1, -⟩ | ⟨-, h⟩ | ⟨h, -⟩
          · intro n _
            rw [app_reg, hg.1 (by rw [h]; rfl)]; rfl
          · rw [hstill] at h; cases h
          · rcases mx hstill h1 with h5 | ⟨h5, -⟩
            · exact freshN hn h5
            · exfalso
              cases hop : y.op <;> rw [hop] at h5 hmc <;> first | (cases h5; done) | (simp [isCall] at hmc)
          · rw [hnear] at h; cases h
          · rw [hst] at h; cases h
        have e5 : (y.op.operands.toList.flatMap fun z => ((s.app e x.dst).ev z).seeds (s.app e x.dst)) = (y.op.operands.toList.flatMap fun z => (s.ev z).seeds s) := by
          refine flatMap_congr' fun z hz => ?_
          rw [hev z hz]
          refine nsSeeds_same fun n hn => hreg n ?_
          rw [List.mem_flatMap]
          exact ⟨z, hz, hn⟩
        rw [e5]
    have e4 : apartOk X.P ops base (s.app e x.dst) i y = apartOk X.P ops base s i y := by
      unfold apartOk
      rw [e3]
      congr 1
      congr 1
      · cases hy : storeAt ops y with
        | none => rfl
        | some t =>
          obtain ⟨⟨ty, v, hop⟩, -⟩ := storeAt_spec hy
          simp only
          rw [hev (.tmp t) (by rw [hop]; simp [Op.operands])]
      · refine List.all_congr rfl fun j => ?_
        cases hj : ops[j]? with
        | none => rfl
        | some o =>
          cases ho : storeAt ops o with
          | none => simp only [ho]
          | some t => simp only [ho]; rw [hevt j o t hj ho]
    have e7 : lookOk X.P ops base (s.app e x.dst) i y = lookOk X.P ops base s i y := by
      unfold lookOk
      rw [e3]
    have e6 : (namesOk ops base (s.app e x.dst) i y && (!(mildN X.P ops i y && isCall y.op) || (y.op.operands.toList.flatMap fun z => ((s.app e x.dst).ev z).seeds (s.app e x.dst)).isEmpty) && apartOk X.P ops base (s.app e x.dst) i y && lookOk X.P ops base (s.app e x.dst) i y) = (namesOk ops base s i y && (!(mildN X.P ops i y && isCall y.op) || (y.op.operands.toList.flatMap fun z => (s.ev z).seeds s).isEmpty) && apartOk X.P ops base s i y && lookOk X.P ops base s i y) := by
      rw [e1, e4, e7]
      cases hn : namesOk ops base s i y with
      | false => rfl
      | true => rw [e2 hn]
    unfold deffD
    rw [e6]
    split
    · rename_i hc
      rw [Bool.and_eq_true, Bool.and_eq_true, Bool.and_eq_true] at hc
      obtain ⟨⟨⟨hc1, hc2⟩, hc3⟩, hc4⟩ := hc
      have fresh := freshN hc1
      have stored : ∀ t, storeAt ops x = some t → near X.P ops y = true → still y.op = false → ∀ n ∈ y.op.operands.toList.flatMap (fun z => (s.ev z).names), (s.app e x.dst).reg n = s.reg n := by
        intro t ht hn hs n hmem
        rw [app_reg]
        have hd := apartOk_get hc3 hn hs hx ht hki hah hai
        refine ups_reg (fun p hp => ?_) fun p hp hpn => ?_
        · have := (hg.2.2.1 t ht p hp).2; omega
        · have h1 := (hg.2.2.1 t ht p hp).1
          rw [hpn] at h1
          exact (hd n h1).2 hmem
      have fin : (∀ n ∈ y.op.operands.toList.flatMap (fun z => (s.ev z).names), (s.app e x.dst).reg n = s.reg n) → near X.P ops y = true → deff X y.op (base + 8 * i) (s.app e x.dst) = deff X y.op (base + 8 * i) s := by
        intro hr hn
        rcases near_cases hn with ⟨t, ht⟩ | ⟨h1, h2⟩
        · obtain ⟨⟨ty, v, hop⟩, -⟩ := storeAt_spec ht
          rw [hop] at hev hr e3 ⊢
          exact deff_store_same hev fun n hn => hr n (by rw [← e3]; exact hn)
        · exact deff_same hev (.inr (.inr ⟨h1, fun h => absurd (h2.symm.trans h) Bool.false_ne_true, fun n hn => hr n (by rw [← e3]; exact hn)⟩))
      have hdeff : deff X y.op (base + 8 * i) (s.app e x.dst) = deff X y.op (base + 8 * i) s := by
        by_cases hs : still y.op = true
        · exact deff_same hev (.inl hs)
        have hs' : still y.op = false := by simpa using hs
        by_cases hsx : (still x.op || look x.op) = true
        · refine deff_same hev (.inr (.inl fun n => ?_))
          rw [app_reg, hg.1 hsx]; rfl
        have hsx2 : still x.op = false ∧ look x.op = false := by simpa using hsx
        have hsx' : still x.op = false := hsx2.1
        have fresh2 : mild X.P x.op = true → ∀ n ∈ y.op.operands.toList.flatMap (fun z => (s.ev z).names), (s.app e x.dst).reg n = s.reg n := by
          intro hm
          rcases mx hs' hm with h5 | ⟨h5, h6, h7⟩
          · exact fresh h5
          · intro n hn
            have hb := lookOk_get hc4 h5 hx h7 hki hah hai n hn
            have hu := hg.2.2.2.2 h6
            rw [app_reg]
            refine ups_reg (fun p hp => ?_) fun p hp => ?_
            · have := hu p hp
              omega
            · have := hu p hp
              omega
        rcases hfree with h | h | ⟨h1, h2⟩ | ⟨h1, h2⟩ | ⟨h1, h2⟩
        · rw [hsx'] at h; cases h
        · exact (hs h).elim
        · refine deff_same hev (.inr (.inr ⟨h2, fun hcall => ?_, fun n hn => fresh2 h1 n (by rw [← e3]; exact hn)⟩))
          have hc3 := (e2 hc1).trans hc2
          rcases mildN_of hx hsx' hki hah hai h2 with h5 | ⟨h5, -⟩
          · rw [h5, hcall] at hc3
            simpa using hc3
          · rw [hsx2.2] at h5
            cases h5
        · obtain ⟨t, ht⟩ := Option.isSome_iff_exists.1 h1
          exact fin (stored t ht h2 hs') h2
        · have hny : near X.P ops y = true := by unfold near; rw [h1]; rfl
          rcases near_cases h2 with ⟨t, ht⟩ | ⟨hm, -⟩
          · exact fin (stored t ht hny hs') hny
          · exact fin (fresh2 hm) hny
      rw [hdeff]
    · rfl
  unfold TD estep
  rw [hD]
  split
  · rfl
  · rename_i j want hgd
    split
    · rename_i d hd
      have hdl := guard_looksAt hgd hd
      have : (s.app e x.dst).fr[d]? = s.fr[d]? := by
        unfold St.app
        cases hx : x.dst with
        | none => simp only [St.put, ups_fr]
        | some d' =>
          have : d' ≠ d := fun hh => hap d' hx (hh ▸ hdl)
          simp only [St.put, ups_fr]
          rw [List.getElem?_set_ne this]
      rw [this]
    · rfl

theorem free2_spec {P : Program} {x y : Oper} (h : free2 P ops x y = true) : Free P ops x y ∧ Oper.apart ops x y = true := by
  unfold free2 at h
  simp only [Bool.and_eq_true, Bool.or_eq_true] at h
  refine ⟨?_, h.2⟩
  rcases h.1 with (((h | h) | h) | h) | h
  · exact .inl h
  · exact .inr (.inl h)
  · exact .inr (.inr (.inl h))
  · exact .inr (.inr (.inr (.inl h)))
  · exact .inr (.inr (.inr (.inr h)))

theorem app_comm {i k : Nat} {x y : Oper} {s : St} {e f : Eff} (hlen : base + 8 * ops.size ≤ s.rg.length) (hx : ops[k]? = some x) (hy : ops[i]? = some y) (hne : k ≠ i) (hd : ∀ d, x.dst = some d → y.dst ≠ some d)
    (hah : ahead ops ops.size k i = false) (hai : ahead ops ops.size i k = false) (hfree : Free X.P ops x y) (hg : Good X.P ops base k x s e) (hg' : Good X.P ops base i y s f) :
    (s.app e x.dst).app f y.dst = (s.app f y.dst).app e x.dst := by
  have hk : k < ops.size := (Array.getElem?_eq_some_iff.1 hx).1
  have hi : i < ops.size := (Array.getElem?_eq_some_iff.1 hy).1
  have e1 : ∀ (t : St) (u : List (Nat × Option Reg)) (d : Option Tmp) (v : NS), (t.put d v).ups u = (t.ups u).put d v := by
    intro t u d v
    induction u generalizing t with
    | nil => rfl
    | cons p u ih =>
      obtain ⟨n, g⟩ := p
      simp only [St.ups]
      have : (t.put d v).setReg n g = (t.setReg n g).put d v := by cases d <;> rfl
      rw [this, ih]
  have e2 : ∀ (t : St) (v u : NS), (t.put x.dst v).put y.dst u = (t.put y.dst u).put x.dst v := by
    intro t v u
    cases hx : x.dst with
    | none => rfl
    | some d =>
      cases hy : y.dst with
      | none => rfl
      | some d' =>
        have : d ≠ d' := fun hh => hd d hx (by rw [hy, hh])
        simp only [St.put]
        rw [List.set_comm _ _ this]
  have b1 : (still y.op || look y.op) = false → mild X.P x.op = true → ∀ p ∈ e.up, base + 8 * k ≤ p.1 ∧ p.1 < base + 8 * k + 8 := fun hs h => by
    rw [Bool.or_eq_false_iff] at hs
    rcases mildN_of hy hs.1 (Ne.symm hne) hai hah h with h5 | ⟨h5, -⟩
    · exact mildEff_range (hg.2.1 h5)
    · rw [hs.2] at h5; cases h5
  have b2 : (still x.op || look x.op) = false → mild X.P y.op = true → ∀ p ∈ f.up, base + 8 * i ≤ p.1 ∧ p.1 < base + 8 * i + 8 := fun hs h => by
    rw [Bool.or_eq_false_iff] at hs
    rcases mildN_of hx hs.1 hne hah hai h with h5 | ⟨h5, -⟩
    · exact mildEff_range (hg'.2.1 h5)
    · rw [hs.2] at h5; cases h5
  have two : ∀ t t', storeAt ops x = some t → storeAt ops y = some t' → ∀ p ∈ e.up, ∀ q ∈ f.up, q.1 ≠ p.1 := by
    intro t t' ht ht' p hp q hq hpq
    rcases hg'.2.2.2.1 with h0 | hok
    · rw [h0] at hq; cases hq
    · obtain ⟨⟨ty, v, hop⟩, -⟩ := storeAt_spec ht'
      have hn : near X.P ops y = true := by unfold near; rw [ht']; rfl
      have hs : still y.op = false := by rw [hop]; rfl
      refine (apartOk_get hok hn hs hx ht hne hah hai p.1 (hg.2.2.1 t ht p hp).1).2 ?_
      rw [hop, ← hpq]
      have := (hg'.2.2.1 t' ht' q hq).1
      simp [Op.operands, this]
  have hu : (s.ups e.up).ups f.up = (s.ups f.up).ups e.up := by
    by_cases hsx : (still x.op || look x.op) = true
    · rw [hg.1 hsx]; rfl
    by_cases hsy : (still y.op || look y.op) = true
    · rw [hg'.1 hsy]; rfl
    have b1 := b1 (by simpa using hsy)
    have b2 := b2 (by simpa using hsx)
    rcases hfree with h | h | ⟨h1, h2⟩ | ⟨h1, h2⟩ | ⟨h1, h2⟩
    · rw [hg.1 (by rw [h]; rfl)]; rfl
    · rw [hg'.1 (by rw [h]; rfl)]; rfl
    · refine ups_comm (fun p hp => ?_) (fun p hp => ?_) fun p hp q hq => ?_
      · have := b1 h1 p hp; omega
      · have := b2 h2 p hp; omega
      · have h3 := b1 h1 p hp; have h4 := b2 h2 q hq; omega
    · obtain ⟨t, ht⟩ := Option.isSome_iff_exists.1 h1
      rcases near_cases h2 with ⟨t', ht'⟩ | ⟨hm, -⟩
      · refine ups_comm (fun p hp => ?_) (fun p hp => ?_) (two t t' ht ht')
        · have := (hg.2.2.1 t ht p hp).2; omega
        · have := (hg'.2.2.1 t' ht' p hp).2; omega
      · refine ups_comm (fun p hp => ?_) (fun p hp => ?_) fun p hp q hq => ?_
        · have := (hg.2.2.1 t ht p hp).2; omega
        · have := b2 hm p hp; omega
        · have h3 := (hg.2.2.1 t ht p hp).2; have h4 := b2 hm q hq; omega
    · obtain ⟨t', ht'⟩ := Option.isSome_iff_exists.1 h1
      rcases near_cases h2 with ⟨t, ht⟩ | ⟨hm, -⟩
      · refine ups_comm (fun p hp => ?_) (fun p hp => ?_) (two t t' ht ht')
        · have := (hg.2.2.1 t ht p hp).2; omega
        · have := (hg'.2.2.1 t' ht' p hp).2; omega
      · refine ups_comm (fun p hp => ?_) (fun p hp => ?_) fun p hp q hq => ?_
        · have := b1 hm p hp; omega
        · have := (hg'.2.2.1 t' ht' p hp).2; omega
        · have h3 := (hg'.2.2.1 t' ht' q hq).2; have h4 := b1 hm p hp; omega
  simp only [St.app]
  rw [e1, e1, hu, e2]

theorem ndops'_mono : ∀ {l : List Nat} {s : St} {K K' : St → Prop}, (∀ s, K s → K' s) → ndops' X ops base l s K → ndops' X ops base l s K'
  | [], _, _, _, hk, h => hk _ h
  | _ :: _, _, _, _, hk, h => by
    obtain ⟨o, ho, h⟩ := h
    exact ⟨o, ho, Tr.run_mono _ (fun _ he => ndops'_mono hk he) h⟩

theorem app_len (s : St) (e : Eff) (d : Option Tmp) : s.rg.length ≤ (s.app e d).rg.length := by
  rw [St.app, put_rg]; exact ups_le _ _

/-- Two operations, the other way round. -/
theorem ndops'_swap {k i : Nat} {l : List Nat} {s : St} {K : St → Prop} (hlen : base + 8 * ops.size ≤ s.rg.length) (hki : k < i) (hah : ahead ops ops.size k i = false) (hai : ahead ops ops.size i k = false)
    (hfree : ∀ x y, ops[k]? = some x → ops[i]? = some y → free2 X.P ops x y = true) (h : ndops' X ops base (k :: i :: l) s K) : ndops' X ops base (i :: k :: l) s K := by
  obtain ⟨x, hx, h⟩ := h
  cases hy : ops[i]? with
  | none =>
    refine (Tr.run_false _ (Tr.run_mono _ (fun e he => ?_) h)).elim
    obtain ⟨y, hy', -⟩ := he
    rw [hy] at hy'; cases hy'
  | some y =>
    obtain ⟨hf, hap⟩ := free2_spec (hfree x y hx hy)
    obtain ⟨a1, a2, a3⟩ := Oper.apart_spec hap
    have h1 : (TD X ops base k x s).run fun e => (TD X ops base i y s).run fun f => Good X.P ops base k x s e ∧ ndops' X ops base l ((s.app e x.dst).app f y.dst) K := by
      refine Tr.run_mono _ (fun e he => ?_) (TD_good h)
      obtain ⟨hge, y', hy', h2⟩ := he
      rw [hy] at hy'; cases hy'
      rw [TD_same hlen hx hy (Nat.ne_of_lt hki) a1 hf hge hah hai] at h2
      exact Tr.run_mono _ (fun f hf => ⟨hge, hf⟩) h2
    refine ⟨y, hy, Tr.run_mono _ (fun f hf' => ?_) (TD_good (Tr.run_swap _ _ h1))⟩
    obtain ⟨hgf, h4⟩ := hf'
    refine ⟨x, hx, ?_⟩
    rw [TD_same hlen hy hx (Nat.ne_of_gt hki) a3 hf.swap hgf hai hah]
    refine Tr.run_mono _ (fun e he => ?_) h4
    rw [← app_comm hlen hx hy (Nat.ne_of_lt hki) a2 hah hai hf he.1 hgf]
    exact he.2

theorem ndops'_first {i : Nat} {l2 : List Nat} : ∀ {l1 : List Nat} {s : St} {K : St → Prop}, base + 8 * ops.size ≤ s.rg.length → (∀ k ∈ l1, k < i ∧ ahead ops ops.size k i = false ∧ ahead ops ops.size i k = false ∧ ∀ x y, ops[k]? = some x → ops[i]? = some y → free2 X.P ops x y = true) →
    ndops' X ops base (l1 ++ i :: l2) s K → ndops' X ops base (i :: (l1 ++ l2)) s K
  | [], _, _, _, _, h => h
  | k :: l1, s, K, hlen, hk, h => by
    obtain ⟨h1, h2, h3, h4⟩ := hk k (by simp)
    refine ndops'_swap hlen h1 h2 h3 h4 ?_
    obtain ⟨x, hx, h⟩ := h
    exact ⟨x, hx, Tr.run_mono _ (fun e he => ndops'_first (Nat.le_trans hlen (app_len _ _ _)) (fun k hk' => hk k (by simp [hk'])) he) h⟩
end

end Go.Nx
