/-
  The screen: what its functions do, as plain functions on its state: the cursor.
-/
import Derived.Test.YtdijbpokklgjlaaGreatDoorScA
set_option linter.unusedVariables false
namespace Go.Proofs.YtdijbpokklgjlaaGreatDoor.scr
open Go Go.Nx

theorem selT {c : Bool} {A B : Prop} (h : c = true) (hA : A) : sel c A B := sel_iff.2 (.inl ⟨h, hA⟩)
theorem selF {c : Bool} {A B : Prop} (h : c = false) (hB : B) : sel c A B := sel_iff.2 (.inr ⟨h, hB⟩)
theorem dT {p : Prop} [Decidable p] (h : p) : decide p = true := decide_eq_true h
theorem dF {p : Prop} [Decidable p] (h : ¬ p) : decide p = false := decide_eq_false h
theorem bF {x y : Int} (h : x ≠ y) : (x == y) = false := by rw [beq_eq_false_iff_ne]; exact h
theorem bT {x y : Int} (h : x = y) : (x == y) = true := by rw [beq_iff_eq]; exact h
theorem sel_by {p : Prop} [Decidable p] {A B : Prop} (ha : p → A) (hb : ¬ p → B) : sel (decide p) A B := by
  by_cases h : p
  · exact selT (decide_eq_true h) (ha h)
  · exact selF (decide_eq_false h) (hb h)
theorem sel_eq {x y : Int} {A B : Prop} (ha : x = y → A) (hb : x ≠ y → B) : sel (x == y) A B := by
  by_cases h : x = y
  · exact selT (bT h) (ha h)
  · exact selF (bF h) (hb h)
theorem sel_b {c : Bool} {A B : Prop} (ha : c = true → A) (hb : c = false → B) : sel c A B := by
  cases c
  · exact selF rfl (hb rfl)
  · exact selT rfl (ha rfl)
structure Box (p : Prop) : Prop where
  out : p
theorem Box.of_eq {p q : Prop} (h : p = q) (hq : q) : Box p := ⟨h.mpr hq⟩
def w64 (x : Int) : Int := IntKind.i64.wrap x
theorem w64_id {x : Int} (h : -9223372036854775808 ≤ x ∧ x ≤ 9223372036854775807) : w64 x = x := by unfold w64; rw [IntKind.wrap_i64]; omega

/-- A region that is a screen. -/
noncomputable def rdS (g : Option Reg) : Option Scr := match g with
  | some ⟨st, e, .sg [.cells [.i .i64 row, .i .i64 col, .i .i64 fg, .i .i64 bg, .b fl, .b iv, .b un, .b co, .b ta, .b wi, .b cu, .b ro, .b ma, .i .i64 bells], .recs ks n sl,
      .cells [.b wt, .i .i64 kr, .i .i64 kc, .i .i64 e0, .i .i64 e1, .i .i64 e2, .i .i64 e3, .i .i64 e4, .i .i64 e5, .i .i64 e6]]⟩ =>
    if st = 10024 ∧ e = 77 ∧ ks = KS ∧ n = 1000 then some ⟨row, col, fg, bg, fl, iv, un, co, ta, wi, cu, ro, ma, bells, sl, wt, kr, kc, e0, e1, e2, e3, e4, e5, e6⟩ else none
  | _ => none
set_option maxRecDepth 100000 in
theorem rdS_in {g : Option Reg} {s : Scr} (h : rdS g = some s) : g = some (scr s) := by
  unfold rdS at h
  split at h
  case h_2 => cases h
  split at h
  case isFalse => cases h
  rename_i hc
  obtain ⟨rfl, rfl, rfl, rfl⟩ := hc
  cases h
  rfl
/-- A function that is handed a screen. -/
noncomputable def onScr (regs : List Reg) (F : Scr → Tr Out) : Tr Out := match regs with
  | [g] => (match rdS (some g) with
    | some s => F s
    | none => .fail)
  | _ => .fail
theorem onScr_in {regs : List Reg} {F : Scr → Tr Out} {R : Out → Prop} (h : (onScr regs F).run R) : ∃ s, regs = [scr s] ∧ (F s).run R := by
  unfold onScr at h
  split at h
  case h_2 => exact h.elim
  split at h
  case h_2 => exact h.elim
  rename_i s hs
  have := rdS_in hs
  cases this
  exact ⟨s, rfl, h⟩
noncomputable def onS (args : List NV) (regs : List Reg) (F : List NV → Scr → Tr Out) : Tr Out := match args with
  | .c (.p 0 0 0) :: l => onScr regs (F l)
  | _ => .fail
theorem onS_in {args : List NV} {regs : List Reg} {F : List NV → Scr → Tr Out} {R : Out → Prop} (h : (onS args regs F).run R) : ∃ l s, args = .c (.p 0 0 0) :: l ∧ regs = [scr s] ∧ (F l s).run R := by
  unfold onS at h
  split at h
  case h_2 => exact h.elim
  obtain ⟨s, rfl, h'⟩ := onScr_in h
  exact ⟨_, s, rfl, rfl, h'⟩
def done (s : Scr) : Out := ⟨.tu [], [some (scr s)]⟩
/-- Without arguments: what it does. -/
noncomputable def con0 (Pre : Scr → Prop) (f : Scr → Scr) : Con := fun args regs => onS args regs fun l s => match l with
  | [] => .must (Pre s) (.ret (done (f s)))
  | _ => .fail
theorem con0_in {Pre : Scr → Prop} {f : Scr → Scr} {args : List NV} {regs : List Reg} {R : Out → Prop} (h : (con0 Pre f args regs).run R) : ∃ s, args = [.c (.p 0 0 0)] ∧ regs = [scr s] ∧ Pre s ∧ R (done (f s)) := by
  obtain ⟨l, s, rfl, rfl, h'⟩ := onS_in h
  clear h
  split at h'
  · exact ⟨s, rfl, rfl, h'.1, h'.2⟩
  · exact h'.elim
/-- With one number. -/
noncomputable def con1 (Pre : Int → Scr → Prop) (f : Int → Scr → Scr) : Con := fun args regs => onS args regs fun l s => match l with
  | [.c (.i .i64 a)] => .must (Pre a s) (.ret (done (f a s)))
  | _ => .fail
theorem con1_in {Pre : Int → Scr → Prop} {f : Int → Scr → Scr} {args : List NV} {regs : List Reg} {R : Out → Prop} (h : (con1 Pre f args regs).run R) : ∃ a s, args = [.c (.p 0 0 0), .c (.i .i64 a)] ∧ regs = [scr s] ∧ Pre a s ∧ R (done (f a s)) := by
  obtain ⟨l, s, rfl, rfl, h'⟩ := onS_in h
  clear h
  split at h'
  · exact ⟨_, s, rfl, rfl, h'.1, h'.2⟩
  · exact h'.elim
/-- With two numbers. -/
noncomputable def con2 (Pre : Int → Int → Scr → Prop) (f : Int → Int → Scr → Scr) : Con := fun args regs => onS args regs fun l s => match l with
  | [.c (.i .i64 a), .c (.i .i64 b)] => .must (Pre a b s) (.ret (done (f a b s)))
  | _ => .fail
theorem con2_in {Pre : Int → Int → Scr → Prop} {f : Int → Int → Scr → Scr} {args : List NV} {regs : List Reg} {R : Out → Prop} (h : (con2 Pre f args regs).run R) : ∃ a b s, args = [.c (.p 0 0 0), .c (.i .i64 a), .c (.i .i64 b)] ∧ regs = [scr s] ∧ Pre a b s ∧ R (done (f a b s)) := by
  obtain ⟨l, s, rfl, rfl, h'⟩ := onS_in h
  clear h
  split at h'
  · exact ⟨_, _, s, rfl, rfl, h'.1, h'.2⟩
  · exact h'.elim
/-- With three numbers. -/
noncomputable def con3 (Pre : Int → Int → Int → Scr → Prop) (f : Int → Int → Int → Scr → Scr) : Con := fun args regs => onS args regs fun l s => match l with
  | [.c (.i .i64 a), .c (.i .i64 b), .c (.i .i64 c)] => .must (Pre a b c s) (.ret (done (f a b c s)))
  | _ => .fail
theorem con3_in {Pre : Int → Int → Int → Scr → Prop} {f : Int → Int → Int → Scr → Scr} {args : List NV} {regs : List Reg} {R : Out → Prop} (h : (con3 Pre f args regs).run R) : ∃ a b c s, args = [.c (.p 0 0 0), .c (.i .i64 a), .c (.i .i64 b), .c (.i .i64 c)] ∧ regs = [scr s] ∧ Pre a b c s ∧ R (done (f a b c s)) := by
  obtain ⟨l, s, rfl, rfl, h'⟩ := onS_in h
  clear h
  split at h'
  · exact ⟨_, _, _, s, rfl, rfl, h'.1, h'.2⟩
  · exact h'.elim

/-- The cursor is on the screen, ahead of row 0, too. -/
def On (s : Scr) : Prop := (0 ≤ s.row ∧ s.row ≤ 24) ∧ (0 ≤ s.col ∧ s.col ≤ 39) ∧ (0 ≤ s.kr ∧ s.kr ≤ 24) ∧ (0 ≤ s.kc ∧ s.kc ≤ 39)

def RowOk (s : Scr) : Prop := 0 ≤ s.row ∧ s.row ≤ 24

/-! ### reset, home, sized, State, Rolls -/
def resetS (s : Scr) : Scr := { s with fg := 7, bg := 0, fl := false, iv := false, un := false, co := false, ta := false, wi := false, wt := false }
noncomputable def t_reset : Con := fun args regs => nfun Tryz.prog [] (fun _ => Option.none) [] Tryz.f83 args regs
theorem k_reset : Known Tryz.prog [] 83 t_reset := known_inl Tryz.func83 rfl (by kernel_rfl) mixed con_none (by kernel_rfl)
theorem reset_tree (s : Scr) (R : Out → Prop) : (t_reset [.c (.p 0 0 0)] [scr s]).run R = R (done (resetS s)) := by kernel_rfl
noncomputable def tReset : Con := con0 (fun _ => True) resetS
theorem kReset : Known Tryz.prog [] 83 tReset := by
  refine k_reset.less fun args regs R h => Box.out ?_
  obtain ⟨s, rfl, rfl, h1, h2⟩ := con0_in h
  exact Box.of_eq (reset_tree s R) h2

/-- Rows go up: what is below the second one, and blanks. -/
def upSl (sl : List (List Sc)) : List (List Sc) := spl (spl sl 40 920 ((sl.drop 80).take 920)) 960 40 (List.replicate 40 blk)
def dnSl (sl : List (List Sc)) : List (List Sc) := spl (spl sl 80 920 ((sl.drop 40).take 920)) 40 40 (List.replicate 40 blk)
def downS (s : Scr) : Scr := if s.row = 0 then { s with row := s.kr, col := s.kc } else if s.row < 24 then { s with row := s.row + 1 } else if s.ro then { s with sl := upSl s.sl } else { s with row := 1 }
noncomputable def c_down : FuncId → Option Con := conOf [(33, tBlanks)]
theorem kc_down : ∀ f T, c_down f = some T → Known Tryz.prog [] f T := (Knowns.cons kBlanks Knowns.nil).get
noncomputable def t_down : Con := fun args regs => nfun Tryz.prog [] c_down [] Tryz.f77 args regs
theorem k_down : Known Tryz.prog [] 77 t_down := known_inl Tryz.func77 rfl (by kernel_rfl) mixed kc_down (by kernel_rfl)
theorem down_tree (s : Scr) (R : Out → Prop) : (t_down [.c (.p 0 0 0)] [scr s]).run R =
    sel (s.row == 0) (R (done { s with row := s.kr, col := s.kc })) (sel (decide (s.row < 24)) (R (done { s with row := w64 (s.row + 1) })) (sel s.ro (R (done { s with sl := upSl s.sl })) (R (done { s with row := 1 })))) := by kernel_rfl
noncomputable def tDown : Con := con0 RowOk downS
theorem kDown : Known Tryz.prog [] 77 tDown := by
  refine k_down.less fun args regs R h => Box.out ?_
  obtain ⟨s, rfl, rfl, h1, h2⟩ := con0_in h
  obtain ⟨r0, r1⟩ := h1
  unfold downS at h2
  refine Box.of_eq (down_tree s R) (sel_eq (fun e => ?_) fun e => sel_by (fun e2 => ?_) fun e2 => sel_b (fun e3 => ?_) fun e3 => ?_)
  · rw [if_pos e] at h2; exact h2
  · rw [if_neg e, if_pos e2] at h2; rw [w64_id (by omega)]; exact h2
  · rw [if_neg e, if_neg e2, if_pos e3] at h2; exact h2
  · rw [if_neg e, if_neg e2, if_neg (by rw [e3]; exact Bool.false_ne_true)] at h2; exact h2
def upS (s : Scr) : Scr := if s.row = 0 then s else if s.row > 1 then { s with row := s.row - 1 } else if s.ro then { s with sl := dnSl s.sl } else { s with row := 24 }
noncomputable def t_up : Con := fun args regs => nfun Tryz.prog [] c_down [] Tryz.f80 args regs
theorem k_up : Known Tryz.prog [] 80 t_up := known_inl Tryz.func80 rfl (by kernel_rfl) mixed kc_down (by kernel_rfl)
theorem up_tree (s : Scr) (R : Out → Prop) : (t_up [.c (.p 0 0 0)] [scr s]).run R =
    sel (s.row == 0) (R (done s)) (sel (decide (s.row > 1)) (R (done { s with row := w64 (s.row - 1) })) (sel s.ro (R (done { s with sl := dnSl s.sl })) (R (done { s with row := 24 })))) := by kernel_rfl
noncomputable def tUp : Con := con0 RowOk upS
theorem kUp : Known Tryz.prog [] 80 tUp := by
  refine k_up.less fun args regs R h => Box.out ?_
  obtain ⟨s, rfl, rfl, h1, h2⟩ := con0_in h
  obtain ⟨r0, r1⟩ := h1
  unfold upS at h2
  refine Box.of_eq (up_tree s R) (sel_eq (fun e => ?_) fun e => sel_by (fun e2 => ?_) fun e2 => sel_b (fun e3 => ?_) fun e3 => ?_)
  · rw [if_pos e] at h2; exact h2
  · rw [if_neg e, if_pos e2] at h2; rw [w64_id (by omega)]; exact h2
  · rw [if_neg e, if_neg e2, if_pos e3] at h2; exact h2
  · rw [if_neg e, if_neg e2, if_neg (by rw [e3]; exact Bool.false_ne_true)] at h2; exact h2
theorem downS_on {s : Scr} (h : On s) : On (downS s) := by
  obtain ⟨h1, h2, h3, h4⟩ := h
  unfold downS
  split
  · exact ⟨h3, h4, h3, h4⟩
  · split
    · exact ⟨⟨by show 0 ≤ s.row + 1; omega, by show s.row + 1 ≤ 24; omega⟩, h2, h3, h4⟩
    · split
      · exact ⟨h1, h2, h3, h4⟩
      · exact ⟨⟨by show (0 : Int) ≤ 1; omega, by show (1 : Int) ≤ 24; omega⟩, h2, h3, h4⟩
theorem upS_on {s : Scr} (h : On s) : On (upS s) := by
  obtain ⟨h1, h2, h3, h4⟩ := h
  unfold upS
  split
  · exact ⟨h1, h2, h3, h4⟩
  · split
    · exact ⟨⟨by show 0 ≤ s.row - 1; omega, by show s.row - 1 ≤ 24; omega⟩, h2, h3, h4⟩
    · split
      · exact ⟨h1, h2, h3, h4⟩
      · exact ⟨⟨by show (0 : Int) ≤ 24; omega, by show (24 : Int) ≤ 24; omega⟩, h2, h3, h4⟩

/-! ### back, on -/
def backS (s : Scr) : Scr := if s.col > 0 then { s with col := s.col - 1 } else if s.row > 0 then { upS s with col := 39 } else s
noncomputable def c_back : FuncId → Option Con := conOf [(80, tUp)]
theorem kc_back : ∀ f T, c_back f = some T → Known Tryz.prog [] f T := (Knowns.cons kUp Knowns.nil).get
noncomputable def t_back : Con := fun args regs => nfun Tryz.prog [] c_back [] Tryz.f78 args regs
theorem k_back : Known Tryz.prog [] 78 t_back := known_inl Tryz.func78 rfl (by kernel_rfl) mixed kc_back (by kernel_rfl)
theorem back_tree (s : Scr) (R : Out → Prop) : (t_back [.c (.p 0 0 0)] [scr s]).run R =
    sel (decide (s.col > 0)) (R (done { s with col := w64 (s.col - 1) })) (sel (decide (s.row > 0)) (RowOk s ∧ R (done { upS s with col := 39 })) (R (done s))) := by kernel_rfl
noncomputable def tBack : Con := con0 On backS
theorem kBack : Known Tryz.prog [] 78 tBack := by
  refine k_back.less fun args regs R h => Box.out ?_
  obtain ⟨s, rfl, rfl, h1, h2⟩ := con0_in h
  have h0 := h1
  obtain ⟨-, ⟨c0, c1⟩, -⟩ := h1
  unfold backS at h2
  refine Box.of_eq (back_tree s R) (sel_by (fun e => ?_) fun e => sel_by (fun e2 => ?_) fun e2 => ?_)
  · rw [if_pos e] at h2; rw [w64_id (by omega)]; exact h2
  · rw [if_neg e, if_pos e2] at h2; exact ⟨h0.1, h2⟩
  · rw [if_neg e, if_neg e2] at h2; exact h2
def fwdS (s : Scr) : Scr := if s.col < 39 then { s with col := s.col + 1 } else if s.row > 0 then { downS s with col := 0 } else s
noncomputable def c_on : FuncId → Option Con := conOf [(77, tDown)]
theorem kc_on : ∀ f T, c_on f = some T → Known Tryz.prog [] f T := (Knowns.cons kDown Knowns.nil).get
noncomputable def t_on : Con := fun args regs => nfun Tryz.prog [] c_on [] Tryz.f79 args regs
theorem k_on : Known Tryz.prog [] 79 t_on := known_inl Tryz.func79 rfl (by kernel_rfl) mixed kc_on (by kernel_rfl)
theorem on_tree (s : Scr) (R : Out → Prop) : (t_on [.c (.p 0 0 0)] [scr s]).run R =
    sel (decide (s.col < 39)) (R (done { s with col := w64 (s.col + 1) })) (sel (decide (s.row > 0)) (RowOk s ∧ R (done { downS s with col := 0 })) (R (done s))) := by kernel_rfl
noncomputable def tOn : Con := con0 On fwdS
theorem kOn : Known Tryz.prog [] 79 tOn := by
  refine k_on.less fun args regs R h => Box.out ?_
  obtain ⟨s, rfl, rfl, h1, h2⟩ := con0_in h
  have h0 := h1
  obtain ⟨-, ⟨c0, c1⟩, -⟩ := h1
  unfold fwdS at h2
  refine Box.of_eq (on_tree s R) (sel_by (fun e => ?_) fun e => sel_by (fun e2 => ?_) fun e2 => ?_)
  · rw [if_pos e] at h2; rw [w64_id (by omega)]; exact h2
  · rw [if_neg e, if_pos e2] at h2; exact ⟨h0.1, h2⟩
  · rw [if_neg e, if_neg e2] at h2; exact h2
theorem backS_on {s : Scr} (h : On s) : On (backS s) := by
  unfold backS
  have hu := upS_on h
  obtain ⟨h1, h2, h3, h4⟩ := h
  split
  · exact ⟨h1, ⟨by show 0 ≤ s.col - 1; omega, by show s.col - 1 ≤ 39; omega⟩, h3, h4⟩
  · split
    · exact ⟨hu.1, ⟨by show (0 : Int) ≤ 39; omega, by show (39 : Int) ≤ 39; omega⟩, hu.2.2⟩
    · exact ⟨h1, h2, h3, h4⟩
theorem fwdS_on {s : Scr} (h : On s) : On (fwdS s) := by
  unfold fwdS
  have hu := downS_on h
  obtain ⟨h1, h2, h3, h4⟩ := h
  split
  · exact ⟨h1, ⟨by show 0 ≤ s.col + 1; omega, by show s.col + 1 ≤ 39; omega⟩, h3, h4⟩
  · split
    · exact ⟨hu.1, ⟨by show (0 : Int) ≤ 0; omega, by show (0 : Int) ≤ 39; omega⟩, hu.2.2⟩
    · exact ⟨h1, h2, h3, h4⟩
end Go.Proofs.YtdijbpokklgjlaaGreatDoor.scr
