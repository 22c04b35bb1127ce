/-
  The screen: signs are written, repeated; events.
-/
import Derived.Test.YtdijbpokklgjlaaGreatDoorScE
set_option linter.unusedVariables false
namespace Go.Proofs.YtdijbpokklgjlaaGreatDoor.scr
open Go Go.Nx
set_option maxRecDepth 100000

theorem stepT_in {s : Scr} {wide : Bool} {R : Out → Prop} (h : RowOk s ∧ 0 ≤ s.col ∧ s.col ≤ 39) (hR : R (done (stepW s wide))) : stepT s wide R := by
  have hb : (bif wide then (2 : Int) else 1) = 2 ∨ (bif wide then (2 : Int) else 1) = 1 := by cases wide; exact .inr rfl; exact .inl rfl
  unfold stepT
  unfold stepW at hR
  generalize (bif wide then (2 : Int) else 1) = b at hb hR
  have hw : w64 (s.col + b) = s.col + b := w64_id (by omega)
  rw [hw]
  refine sel_by (fun e => ?_) fun e => sel_eq (fun e2 => ?_) fun e2 => ?_
  · rw [if_pos e] at hR; exact hR
  · rw [if_neg e, if_pos e2] at hR; exact hR
  · rw [if_neg e, if_neg e2] at hR; exact ⟨h.1, hR⟩
noncomputable def tWrite : Con := fun args regs => onS args regs fun l s => onE l fun e => .must (On s ∧ GoodE e) (.ret (done (writeS e s)))
set_option maxRecDepth 100000 in
theorem kWrite : Known Tryz.prog [] 53 tWrite := by
  refine k_write.less fun args regs R h => Box.out ?_
  obtain ⟨l, s, rfl, rfl, h'⟩ := onS_in h
  clear h
  obtain ⟨e, rfl, h2⟩ := onE_in h'
  clear h'
  obtain ⟨⟨ho, hg⟩, h2⟩ := h2
  have h2 : R (done (writeS e s)) := h2
  unfold writeS at h2
  refine Box.of_eq (write_tree s e R) ⟨hg, ?_⟩
  have fin : ∀ {tall wide : Bool}, tallB s e = tall → wideB s e = wide → layT s e tall wide R := by
    intro tall wide ht hw
    rw [ht, hw] at h2
    refine ⟨⟨ho, fun h => ?_, fun h => ?_⟩, stepT_in ⟨ho.1, ho.2.1⟩ h2⟩
    · rw [h] at ht
      unfold tallB at ht
      have : s.row > 1 := by
        rw [Bool.and_eq_true, decide_eq_true_eq] at ht
        exact ht.2
      show 1 ≤ s.row
      omega
    · rw [h] at hw
      unfold wideB at hw
      have : s.col < 39 := by
        rw [Bool.and_eq_true, decide_eq_true_eq] at hw
        exact hw.2
      show s.col ≤ 38
      omega
  refine sel_b (fun hm => ?_) fun hm => sel_b (fun ha => sel_b (fun hb => ?_) fun hb => ?_) fun ha => sel_b (fun hb => ?_) fun hb => ?_
  · exact fin (by unfold tallB; rw [hm]; rfl) (by unfold wideB; rw [hm]; rfl)
  · exact fin (by unfold tallB; rw [hm, ha]; rfl) (by unfold wideB; rw [hm, hb]; rfl)
  · exact fin (by unfold tallB; rw [hm, ha]; rfl) (by unfold wideB; rw [hm, hb]; rfl)
  · exact fin (by unfold tallB; rw [hm, ha]; rfl) (by unfold wideB; rw [hm, hb]; rfl)
  · exact fin (by unfold tallB; rw [hm, ha]; rfl) (by unfold wideB; rw [hm, hb]; rfl)
theorem stepW_on {s : Scr} {wide : Bool} (h : On s) : On (stepW s wide) := by
  have hb : (bif wide then (2 : Int) else 1) = 2 ∨ (bif wide then (2 : Int) else 1) = 1 := by cases wide; exact .inr rfl; exact .inl rfl
  unfold stepW
  generalize (bif wide then (2 : Int) else 1) = b at hb
  obtain ⟨h1, h2, h3, h4⟩ := h
  split
  · exact ⟨h1, ⟨by show 0 ≤ s.col + b; omega, by show s.col + b ≤ 39; omega⟩, h3, h4⟩
  · split
    · exact ⟨h1, ⟨by show (0 : Int) ≤ 39; omega, by show (39 : Int) ≤ 39; omega⟩, h3, h4⟩
    · unfold downS
      split
      · exact ⟨h3, ⟨by show (0 : Int) ≤ 0; omega, by show (0 : Int) ≤ 39; omega⟩, h3, h4⟩
      · split
        · exact ⟨⟨by show 0 ≤ s.row + 1; omega, by rename_i hh; have hh : s.row < 24 := hh; show s.row + 1 ≤ 24; omega⟩, ⟨by show (0 : Int) ≤ 0; omega, by show (0 : Int) ≤ 39; omega⟩, h3, h4⟩
        · split
          · exact ⟨h1, ⟨by show (0 : Int) ≤ 0; omega, by show (0 : Int) ≤ 39; omega⟩, h3, h4⟩
          · exact ⟨⟨by show (0 : Int) ≤ 1; omega, by show (1 : Int) ≤ 24; omega⟩, ⟨by show (0 : Int) ≤ 0; omega, by show (0 : Int) ≤ 39; omega⟩, h3, h4⟩
theorem layS_on {s : Scr} {x : Sl} {a b : Bool} (h : On s) : On (layS s x a b) := h
theorem slotS_on {s : Scr} {e : Ev} (h : On s) : On (slotS s e) := h
theorem wroteS_on {s : Scr} {e : Ev} (h : On s) : On (wroteS s e) := h
theorem writeS_on {e : Ev} {s : Scr} (h : On s) : On (writeS e s) := stepW_on (layS_on (slotS_on (wroteS_on h)))
/-- The sign that was written last. -/
def evOf (s : Scr) : Ev := ⟨s.e0, s.e1, s.e2, s.e3, s.e4, s.e5, s.e6⟩
theorem evOf_down (s : Scr) : evOf (downS s) = evOf s := by
  unfold downS
  split
  · rfl
  · split
    · rfl
    · split <;> rfl
theorem evOf_step (s : Scr) (wide : Bool) : evOf (stepW s wide) = evOf s := by
  unfold stepW
  split
  · rfl
  · split
    · rfl
    · exact evOf_down _
theorem evOf_write (e : Ev) (s : Scr) : evOf (writeS e s) = e := by
  unfold writeS
  rw [evOf_step]
  rfl

/-! ### again -/
noncomputable def againN : Nat → Scr → Scr
  | 0, s => s
  | n + 1, s => againN n (writeS (evOf s) s)
noncomputable def againS (a : Int) (s : Scr) : Scr := if s.e0 = 1 then againN (many 0 63 a).toNat s else s
noncomputable def c_again : FuncId → Option Con := conOf [(53, tWrite)]
theorem kc_again : ∀ f T, c_again f = some T → Known Tryz.prog [] f T := (Knowns.cons kWrite Knowns.nil).get
noncomputable def X_again : Cx := { P := Tryz.prog, con := c_again, glob := [], m := 1, loops := [] }
noncomputable def p_again : List Pat := pats 22 [(0, .p 0 0 0), (12, .i .i64), (13, .i .i64)]
noncomputable def b_again : Code := bodyLoop Tryz.f54 0
noncomputable def s_again (n i : Int) (s : Scr) : St := stS p_again [.i n, .i i] s
noncomputable def e_again (s : Scr) : St := { fr := frame 22 [], rg := [some (scr s)] }
theorem round_again (n i : Int) (s : Scr) (R : RO → Prop) : (roundT X_again 0 [0, 12, 13] [] b_again (s_again n i s)).run R =
    sel (decide (i < n)) ((On s ∧ GoodE (evOf s)) ∧ R (.next (s_again n (w64 (i + 1)) (writeS (evOf s) s)))) (R (.done .normal (e_again s))) := by kernel_rfl
noncomputable def l_again : List Leaf → Scr → Tr (NExit × St) := fun a s => match a with
  | [.i n, .i i] => .must (0 ≤ i ∧ n ≤ 63 ∧ On s ∧ GoodE (evOf s)) (.ret (.normal, e_again (againN (n - i).toNat s)))
  | _ => .fail
theorem loop_again : LOk Tryz.prog [] 1 0 b_again (sumS p_again l_again) := by
  refine sumS_ok (X := X_again) kc_again mixed (LAll.none (by kernel_rfl)) [0, 12, 13] [] _ _ (fun a x => match a with
    | [.i n, .i i] => (n - i).toNat
    | _ => 0) ?_
  intro a s R h
  unfold l_again at h
  split at h
  case h_2 => exact h.elim
  rename_i n i
  obtain ⟨⟨h1, h2, h3, h4⟩, h⟩ := h
  have h' : R (.normal, e_again (againN (n - i).toNat s)) := h
  clear h
  refine Box.out (Box.of_eq (round_again n i s _) (sel_by (fun e => ?_) fun e => ?_))
  · obtain ⟨k, hk⟩ : ∃ k : Nat, (n - i).toNat = k + 1 := ⟨(n - i).toNat - 1, by omega⟩
    have hw : w64 (i + 1) = i + 1 := w64_id (by omega)
    have hk' : (n - (i + 1)).toNat = k := by omega
    rw [hk] at h'
    rw [hw]
    refine ⟨⟨h3, h4⟩, [.i n, .i (i + 1)], _, rfl, by show (n - (i + 1)).toNat < (n - i).toNat; omega, ⟨by omega, h2, writeS_on h3, by rw [evOf_write]; exact h4⟩, ?_⟩
    show R (.normal, e_again (againN (n - (i + 1)).toNat (writeS (evOf s) s)))
    rw [hk']
    exact h'
  · have hz : (n - i).toNat = 0 := by omega
    rw [hz] at h'
    exact h'
noncomputable def t_again : Con := fun args regs => if regs.length = 1 then nfun Tryz.prog [] c_again [(0, [0, 12, 13], sumS p_again l_again)] Tryz.f54 args regs else .fail
theorem k_again : Known Tryz.prog [] 54 t_again := known_loops 1 Tryz.func54 rfl (by kernel_rfl) mixed kc_again (LAll.one (id := 0) (body := b_again) (by kernel_rfl) rfl loop_again)
theorem again_tree (a : Int) (s : Scr) (R : Out → Prop) : (t_again [.c (.p 0 0 0), .c (.i .i64 a)] [scr s]).run R =
    sel (s.e0 != 1) (R (done s)) (((0 : Int) ≤ 0 ∧ many 0 63 a ≤ 63 ∧ On s ∧ GoodE (evOf s)) ∧ R (done (againN (many 0 63 a - 0).toNat s))) := by kernel_rfl
noncomputable def tAgain : Con := con1 (fun _ s => On s ∧ (s.e0 = 1 → GoodE (evOf s))) againS
theorem kAgain : Known Tryz.prog [] 54 tAgain := by
  refine k_again.less fun args regs R h => Box.out ?_
  obtain ⟨a, s, rfl, rfl, ⟨h1, h1'⟩, h2⟩ := con1_in h
  clear h
  unfold againS at h2
  by_cases e : s.e0 = 1
  · rw [if_pos e] at h2
    refine Box.of_eq (again_tree a s R) (selF (by rw [e]; rfl) ⟨⟨Int.le_refl 0, (many_eq (n := a) (by omega : (0 : Int) ≤ 63)).2.1, h1, h1' e⟩, ?_⟩)
    rw [Int.sub_zero]; exact h2
  · rw [if_neg e] at h2
    exact Box.of_eq (again_tree a s R) (selT (bne_iff_ne.2 e) h2)
theorem againN_on : ∀ (n : Nat) {s : Scr}, On s → On (againN n s)
  | 0, _, h => h
  | n + 1, s, h => againN_on n (writeS_on h)

/-! ### events -/
noncomputable def eventS (e : Ev) (s : Scr) : Scr :=
  if e.k = 1 then writeS e s else if e.k = 7 then againS e.a s else if e.k = 2 then moveS e.a e.b s else if e.k = 3 then clearS e.a s else if e.k = 4 then homeS s else if e.k = 5 then goToS e.a e.b s else if e.k = 6 then attrS e.a s
  else if e.k = 8 then { s with bells := w64 (s.bells + 1) } else if e.k = 9 then { s with cu := e.a == 1 } else if e.k = 11 then (if e.a = 1 then eraPS e.b s else if e.a = 2 then eraRS e.b s else s) else s
/-- What must hold ahead of an event. -/
def PreE (e : Ev) (s : Scr) : Prop := On s ∧ (e.k = 1 → GoodE e) ∧ (s.e0 = 1 → GoodE (evOf s))
noncomputable def c_event : FuncId → Option Con := conOf [(53, tWrite), (54, tAgain), (55, tMove), (56, tClear), (57, tHome),
  (58, tGoTo), (59, tAttr), (60, tEraP), (61, tEraR)]
theorem kc_event : ∀ f T, c_event f = some T → Known Tryz.prog [] f T := (Knowns.cons kWrite (Knowns.cons kAgain (Knowns.cons kMove (Knowns.cons kClear (Knowns.cons kHome (Knowns.cons kGoTo (Knowns.cons kAttr (Knowns.cons kEraP (Knowns.cons kEraR Knowns.nil))))))))).get
noncomputable def t_event : Con := fun args regs => nfun Tryz.prog [] c_event [] Tryz.f42 args regs
theorem k_event : Known Tryz.prog [] 42 t_event := known_inl Tryz.func42 rfl (by kernel_rfl) mixed kc_event (by kernel_rfl)
theorem event_tree (e : Ev) (s : Scr) (R : Out → Prop) : (t_event [.c (.p 0 0 0), .ag (evC e)] [scr s]).run R =
    sel (e.k == 1) ((On s ∧ GoodE e) ∧ R (done (writeS e s))) (sel (e.k == 7) ((On s ∧ (s.e0 = 1 → GoodE (evOf s))) ∧ R (done (againS e.a s))) (sel (e.k == 2) (On s ∧ R (done (moveS e.a e.b s))) (sel (e.k == 3) (On s ∧ R (done (clearS e.a s)))
      (sel (e.k == 4) (True ∧ R (done (homeS s))) (sel (e.k == 5) (True ∧ R (done (goToS e.a e.b s))) (sel (e.k == 6) (R (done (attrS e.a s))) (sel (e.k == 8) (R (done { s with bells := w64 (s.bells + 1) })) (sel (e.k == 9) (R (done { s with cu := e.a == 1 }))
        (sel (e.k == 11) (sel (e.a == 1) (On s ∧ R (done (eraPS e.b s))) (sel (e.a == 2) (On s ∧ R (done (eraRS e.b s))) (R (done s)))) (R (done s))))))))))) := by kernel_rfl
noncomputable def tEvent : Con := fun args regs => onS args regs fun l s => onE l fun e => .must (PreE e s) (.ret (done (eventS e s)))
set_option maxRecDepth 100000 in
theorem kEvent : Known Tryz.prog [] 42 tEvent := by
  refine k_event.less fun args regs R h => Box.out ?_
  obtain ⟨l, s, rfl, rfl, h'⟩ := onS_in h
  clear h
  obtain ⟨e, rfl, h2⟩ := onE_in h'
  clear h'
  obtain ⟨⟨ho, hg, hw⟩, h2⟩ := h2
  have h2 : R (done (eventS e s)) := h2
  unfold eventS at h2
  refine Box.of_eq (event_tree e s R) (sel_eq (fun a => ?_) fun a => sel_eq (fun b => ?_) fun b => sel_eq (fun c => ?_) fun c => sel_eq (fun d => ?_) fun d => ?_)
  · rw [if_pos a] at h2; exact ⟨⟨ho, hg a⟩, h2⟩
  · rw [if_neg a, if_pos b] at h2; exact ⟨⟨ho, hw⟩, h2⟩
  · rw [if_neg a, if_neg b, if_pos c] at h2; exact ⟨ho, h2⟩
  · rw [if_neg a, if_neg b, if_neg c, if_pos d] at h2; exact ⟨ho, h2⟩
  rw [if_neg a, if_neg b, if_neg c, if_neg d] at h2
  clear a b c d
  refine sel_eq (fun a => ?_) fun a => sel_eq (fun b => ?_) fun b => sel_eq (fun c => ?_) fun c => sel_eq (fun d => ?_) fun d => sel_eq (fun f => ?_) fun f => sel_eq (fun g => ?_) fun g => ?_
  · rw [if_pos a] at h2; exact ⟨trivial, h2⟩
  · rw [if_neg a, if_pos b] at h2; exact ⟨trivial, h2⟩
  · rw [if_neg a, if_neg b, if_pos c] at h2; exact h2
  · rw [if_neg a, if_neg b, if_neg c, if_pos d] at h2; exact h2
  · rw [if_neg a, if_neg b, if_neg c, if_neg d, if_pos f] at h2; exact h2
  · rw [if_neg a, if_neg b, if_neg c, if_neg d, if_neg f, if_pos g] at h2
    refine sel_eq (fun x => ?_) fun x => sel_eq (fun y => ?_) fun y => ?_
    · rw [if_pos x] at h2; exact ⟨ho, h2⟩
    · rw [if_neg x, if_pos y] at h2; exact ⟨ho, h2⟩
    · rw [if_neg x, if_neg y] at h2; exact h2
  · rw [if_neg a, if_neg b, if_neg c, if_neg d, if_neg f, if_neg g] at h2; exact h2

/-! ### State, Rolls -/
noncomputable def tState : Con := fun args regs => onS args regs fun l s => match l with
  | [] => .ret ⟨.v (.ag (stC s)), [some (scr s)]⟩
  | _ => .fail
def rollsS (on : Bool) (s : Scr) : Scr := { s with ro := on }
noncomputable def t_rolls : Con := fun args regs => nfun Tryz.prog [] (fun _ => Option.none) [] Tryz.f44 args regs
theorem k_rolls : Known Tryz.prog [] 44 t_rolls := known_inl Tryz.func44 rfl (by kernel_rfl) mixed con_none (by kernel_rfl)
theorem rolls_tree (on : Bool) (s : Scr) (R : Out → Prop) : (t_rolls [.c (.p 0 0 0), .c (.b on)] [scr s]).run R = R (done (rollsS on s)) := by kernel_rfl
noncomputable def tRolls : Con := fun args regs => onS args regs fun l s => match l with
  | [.c (.b on)] => .ret (done (rollsS on s))
  | _ => .fail
theorem kRolls : Known Tryz.prog [] 44 tRolls := by
  refine k_rolls.less fun args regs R h => Box.out ?_
  obtain ⟨l, s, rfl, rfl, h'⟩ := onS_in h
  clear h
  split at h'
  case h_2 => exact h'.elim
  exact Box.of_eq (rolls_tree _ s R) h'
end Go.Proofs.YtdijbpokklgjlaaGreatDoor.scr
