/-
  Joined: ScA, ScB, ScC, ScD, ScGl, ScE, ScF.
-/
import Derived.Test.YtjfgphfdaghilaaGreatDoorEngC
import Derived.Test.YtjfgphfdaghilaaGreatDoorRows
set_option linter.unusedVariables false
namespace Go.Proofs.YtjfgphfdaghilaaGreatDoor.scr
open Go Go.Nx

theorem mixed : Tryz.prog.follows .mixedOrders = true := by kernel_rfl
noncomputable def t_blank : Con := fun args regs => nfun Tryz.prog [] (fun _ => Option.none) [] Tryz.f104 args regs
theorem k_blank : Known Tryz.prog [] 104 t_blank := known_inl Tryz.func104 rfl (by kernel_rfl) mixed con_none (by kernel_rfl)
noncomputable def c_blanks : FuncId → Option Con := conOf [(104, t_blank)]
theorem kc_blanks : ∀ f T, c_blanks f = some T → Known Tryz.prog [] f T := (Knowns.cons k_blank Knowns.nil).get
noncomputable def X_blanks : Cx := { P := Tryz.prog, con := c_blanks, glob := [], m := 0, loops := [] }
noncomputable def t_blanks : Con := fun args regs => if regs.length = 0 then nfun Tryz.prog [] c_blanks [(0, [0, 1, 3], unroll X_blanks 0 [0, 1, 3] [0, 1] (bodyLoop Tryz.f65 0) 41)] Tryz.f65 args regs else .fail
theorem k_blanks : Known Tryz.prog [] 65 t_blanks := known_loops 0 Tryz.func65 rfl (by kernel_rfl) mixed kc_blanks (LAll.one (id := 0) (body := bodyLoop Tryz.f65 0) (by kernel_rfl) rfl (unroll_ok (X := X_blanks) kc_blanks mixed (LAll.none (by kernel_rfl)) [0, 1, 3] [0, 1] 41))
/-- The kinds of a slot's cells. -/
def KS : List CK := [.i .i64, .i .i64, .b, .b, .i .i64, .i .i64, .b, .i .i64, .b, .b]
/-- A blank. -/
def blk : List Sc := [.i 32, .i 7, .b false, .b false, .i 0, .i 0, .b false, .i 0, .b false, .b false]
theorem blank_tree (R : Out → Prop) : (t_blank [] []).run R = R ⟨.v (.ag (rowCells KS blk)), []⟩ := by kernel_rfl
theorem blanks_tree (R : Out → Prop) : (t_blanks [] []).run R = R ⟨.v (.sg [.recs KS 40 (List.replicate 40 blk)]), []⟩ := by kernel_rfl
noncomputable def tBlanks : Con := fun args regs => match args, regs with
  | [], [] => .ret ⟨.v (.sg [.recs KS 40 (List.replicate 40 blk)]), []⟩
  | _, _ => .fail
set_option maxRecDepth 100000 in
theorem kBlanks : Known Tryz.prog [] 65 tBlanks := by
  refine k_blanks.less fun args regs R h => ?_
  unfold tBlanks at h
  split at h
  case h_2 => exact h.elim
  rw [blanks_tree]
  exact h
noncomputable def tBlank : Con := fun args regs => match args, regs with
  | [], [] => .ret ⟨.v (.ag (rowCells KS blk)), []⟩
  | _, _ => .fail
set_option maxRecDepth 100000 in
theorem kBlank : Known Tryz.prog [] 104 tBlank := by
  refine k_blank.less fun args regs R h => ?_
  unfold tBlank at h
  split at h
  case h_2 => exact h.elim
  rw [blank_tree]
  exact h

/-- A screen: the cursor, what is set, the slots, what waits. -/
structure Scr where
  row : Int
  col : Int
  fg : Int
  bg : Int
  fl : Bool
  iv : Bool
  un : Bool
  co : Bool
  ta : Bool
  wi : Bool
  cu : Bool
  ro : Bool
  ma : Bool
  bells : Int
  sl : List (List Sc)
  wt : Bool
  kr : Int
  kc : Int
  e0 : Int
  e1 : Int
  e2 : Int
  e3 : Int
  e4 : Int
  e5 : Int
  e6 : Int
/-- The cells of its State. -/
def stC (s : Scr) : List NC := [.i .i64 s.row, .i .i64 s.col, .i .i64 s.fg, .i .i64 s.bg, .b s.fl, .b s.iv, .b s.un, .b s.co, .b s.ta, .b s.wi, .b s.cu, .b s.ro, .b s.ma, .i .i64 s.bells]
def scr (s : Scr) : Reg := ⟨10024, 143, .sg [.cells (stC s), .recs KS 1000 s.sl,
  .cells [.b s.wt, .i .i64 s.kr, .i .i64 s.kc, .i .i64 s.e0, .i .i64 s.e1, .i .i64 s.e2, .i .i64 s.e3, .i .i64 s.e4, .i .i64 s.e5, .i .i64 s.e6]]⟩
def newS : Scr := { row := 1, col := 0, fg := 7, bg := 0, fl := false, iv := false, un := false, co := false, ta := false, wi := false, cu := false, ro := false, ma := true, bells := 0, sl := List.replicate 1000 blk, wt := false, kr := 1, kc := 0, e0 := 0, e1 := 0, e2 := 0, e3 := 0, e4 := 0, e5 := 0, e6 := 0 }
noncomputable def c_new : FuncId → Option Con := conOf [(65, tBlanks)]
theorem kc_new : ∀ f T, c_new f = some T → Known Tryz.prog [] f T := (Knowns.cons kBlanks Knowns.nil).get
noncomputable def X_new : Cx := { P := Tryz.prog, con := c_new, glob := [], m := 0, loops := [] }
noncomputable def t_new : Con := fun args regs => if regs.length = 0 then nfun Tryz.prog [] c_new [(0, [1, 6], unroll X_new 0 [1, 6] [1] (bodyLoop Tryz.f34 0) 26)] Tryz.f34 args regs else .fail
theorem k_new : Known Tryz.prog [] 34 t_new := known_loops 0 Tryz.func34 rfl (by kernel_rfl) mixed kc_new (LAll.one (id := 0) (body := bodyLoop Tryz.f34 0) (by kernel_rfl) rfl (unroll_ok (X := X_new) kc_new mixed (LAll.none (by kernel_rfl)) [1, 6] [1] 26))
theorem new_tree (R : Out → Prop) : (t_new [] []).run R = R ⟨.v (.c (.p 0 0 0)), [some (scr newS)]⟩ := by kernel_rfl
noncomputable def tNew : Con := fun args regs => match args, regs with
  | [], [] => .ret ⟨.v (.c (.p 0 0 0)), [some (scr newS)]⟩
  | _, _ => .fail
set_option maxRecDepth 100000 in
theorem kNew : Known Tryz.prog [] 34 tNew := by
  refine k_new.less fun args regs R h => ?_
  unfold tNew at h
  split at h
  case h_2 => exact h.elim
  rw [new_tree]
  exact h
end Go.Proofs.YtjfgphfdaghilaaGreatDoor.scr
namespace Go.Proofs.YtjfgphfdaghilaaGreatDoor.scr
open Go Go.Nx

theorem selT {c : Bool} {A B : Prop} (h : c = true) (hA : A) : sel c A B := sel_iff.2 (.inl ⟨h, hA⟩)
theorem selF {c : Bool} {A B : Prop} (h : c = false) (hB : B) : sel c A B := sel_iff.2 (.inr ⟨h, hB⟩)
theorem dT {p : Prop} [Decidable p] (h : p) : decide p = true := decide_eq_true h
theorem dF {p : Prop} [Decidable p] (h : ¬ p) : decide p = false := decide_eq_false h
theorem bF {x y : Int} (h : x ≠ y) : (x == y) = false := by rw [beq_eq_false_iff_ne]; exact h
theorem bT {x y : Int} (h : x = y) : (x == y) = true := by rw [beq_iff_eq]; exact h
theorem sel_by {p : Prop} [Decidable p] {A B : Prop} (ha : p → A) (hb : ¬ p → B) : sel (decide p) A B := by
  by_cases h : p
  · exact selT (decide_eq_true h) (ha h)
  · exact selF (decide_eq_false h) (hb h)
theorem sel_eq {x y : Int} {A B : Prop} (ha : x = y → A) (hb : x ≠ y → B) : sel (x == y) A B := by
  by_cases h : x = y
  · exact selT (bT h) (ha h)
  · exact selF (bF h) (hb h)
theorem sel_b {c : Bool} {A B : Prop} (ha : c = true → A) (hb : c = false → B) : sel c A B := by
  cases c
  · exact selF rfl (hb rfl)
  · exact selT rfl (ha rfl)
structure Box (p : Prop) : Prop where
  out : p
theorem Box.of_eq {p q : Prop} (h : p = q) (hq : q) : Box p := ⟨h.mpr hq⟩
def w64 (x : Int) : Int := IntKind.i64.wrap x
theorem w64_id {x : Int} (h : -9223372036854775808 ≤ x ∧ x ≤ 9223372036854775807) : w64 x = x := by unfold w64; rw [IntKind.wrap_i64]; omega

/-- A region that is a screen. -/
noncomputable def rdS (g : Option Reg) : Option Scr := match g with
  | some ⟨st, e, .sg [.cells [.i .i64 row, .i .i64 col, .i .i64 fg, .i .i64 bg, .b fl, .b iv, .b un, .b co, .b ta, .b wi, .b cu, .b ro, .b ma, .i .i64 bells], .recs ks n sl,
      .cells [.b wt, .i .i64 kr, .i .i64 kc, .i .i64 e0, .i .i64 e1, .i .i64 e2, .i .i64 e3, .i .i64 e4, .i .i64 e5, .i .i64 e6]]⟩ =>
    if st = 10024 ∧ e = 143 ∧ ks = KS ∧ n = 1000 then some ⟨row, col, fg, bg, fl, iv, un, co, ta, wi, cu, ro, ma, bells, sl, wt, kr, kc, e0, e1, e2, e3, e4, e5, e6⟩ else none
  | _ => none
set_option maxRecDepth 100000 in
theorem rdS_in {g : Option Reg} {s : Scr} (h : rdS g = some s) : g = some (scr s) := by
  unfold rdS at h
  split at h
  case h_2 => cases h
  split at h
  case isFalse => cases h
  rename_i hc
  obtain ⟨rfl, rfl, rfl, rfl⟩ := hc
  cases h
  rfl
/-- A function that is handed a screen. -/
noncomputable def onScr (regs : List Reg) (F : Scr → Tr Out) : Tr Out := match regs with
  | [g] => (match rdS (some g) with
    | some s => F s
    | none => .fail)
  | _ => .fail
theorem onScr_in {regs : List Reg} {F : Scr → Tr Out} {R : Out → Prop} (h : (onScr regs F).run R) : ∃ s, regs = [scr s] ∧ (F s).run R := by
  unfold onScr at h
  split at h
  case h_2 => exact h.elim
  split at h
  case h_2 => exact h.elim
  rename_i s hs
  have := rdS_in hs
  cases this
  exact ⟨s, rfl, h⟩
noncomputable def onS (args : List NV) (regs : List Reg) (F : List NV → Scr → Tr Out) : Tr Out := match args with
  | .c (.p 0 0 0) :: l => onScr regs (F l)
  | _ => .fail
theorem onS_in {args : List NV} {regs : List Reg} {F : List NV → Scr → Tr Out} {R : Out → Prop} (h : (onS args regs F).run R) : ∃ l s, args = .c (.p 0 0 0) :: l ∧ regs = [scr s] ∧ (F l s).run R := by
  unfold onS at h
  split at h
  case h_2 => exact h.elim
  obtain ⟨s, rfl, h'⟩ := onScr_in h
  exact ⟨_, s, rfl, rfl, h'⟩
def done (s : Scr) : Out := ⟨.tu [], [some (scr s)]⟩
/-- Without arguments: what it does. -/
noncomputable def con0 (Pre : Scr → Prop) (f : Scr → Scr) : Con := fun args regs => onS args regs fun l s => match l with
  | [] => .must (Pre s) (.ret (done (f s)))
  | _ => .fail
theorem con0_in {Pre : Scr → Prop} {f : Scr → Scr} {args : List NV} {regs : List Reg} {R : Out → Prop} (h : (con0 Pre f args regs).run R) : ∃ s, args = [.c (.p 0 0 0)] ∧ regs = [scr s] ∧ Pre s ∧ R (done (f s)) := by
  obtain ⟨l, s, rfl, rfl, h'⟩ := onS_in h
  clear h
  split at h'
  · exact ⟨s, rfl, rfl, h'.1, h'.2⟩
  · exact h'.elim
/-- With one number. -/
noncomputable def con1 (Pre : Int → Scr → Prop) (f : Int → Scr → Scr) : Con := fun args regs => onS args regs fun l s => match l with
  | [.c (.i .i64 a)] => .must (Pre a s) (.ret (done (f a s)))
  | _ => .fail
theorem con1_in {Pre : Int → Scr → Prop} {f : Int → Scr → Scr} {args : List NV} {regs : List Reg} {R : Out → Prop} (h : (con1 Pre f args regs).run R) : ∃ a s, args = [.c (.p 0 0 0), .c (.i .i64 a)] ∧ regs = [scr s] ∧ Pre a s ∧ R (done (f a s)) := by
  obtain ⟨l, s, rfl, rfl, h'⟩ := onS_in h
  clear h
  split at h'
  · exact ⟨_, s, rfl, rfl, h'.1, h'.2⟩
  · exact h'.elim
/-- With two numbers. -/
noncomputable def con2 (Pre : Int → Int → Scr → Prop) (f : Int → Int → Scr → Scr) : Con := fun args regs => onS args regs fun l s => match l with
  | [.c (.i .i64 a), .c (.i .i64 b)] => .must (Pre a b s) (.ret (done (f a b s)))
  | _ => .fail
theorem con2_in {Pre : Int → Int → Scr → Prop} {f : Int → Int → Scr → Scr} {args : List NV} {regs : List Reg} {R : Out → Prop} (h : (con2 Pre f args regs).run R) : ∃ a b s, args = [.c (.p 0 0 0), .c (.i .i64 a), .c (.i .i64 b)] ∧ regs = [scr s] ∧ Pre a b s ∧ R (done (f a b s)) := by
  obtain ⟨l, s, rfl, rfl, h'⟩ := onS_in h
  clear h
  split at h'
  · exact ⟨_, _, s, rfl, rfl, h'.1, h'.2⟩
  · exact h'.elim
/-- With three numbers. -/
noncomputable def con3 (Pre : Int → Int → Int → Scr → Prop) (f : Int → Int → Int → Scr → Scr) : Con := fun args regs => onS args regs fun l s => match l with
  | [.c (.i .i64 a), .c (.i .i64 b), .c (.i .i64 c)] => .must (Pre a b c s) (.ret (done (f a b c s)))
  | _ => .fail
theorem con3_in {Pre : Int → Int → Int → Scr → Prop} {f : Int → Int → Int → Scr → Scr} {args : List NV} {regs : List Reg} {R : Out → Prop} (h : (con3 Pre f args regs).run R) : ∃ a b c s, args = [.c (.p 0 0 0), .c (.i .i64 a), .c (.i .i64 b), .c (.i .i64 c)] ∧ regs = [scr s] ∧ Pre a b c s ∧ R (done (f a b c s)) := by
  obtain ⟨l, s, rfl, rfl, h'⟩ := onS_in h
  clear h
  split at h'
  · exact ⟨_, _, _, s, rfl, rfl, h'.1, h'.2⟩
  · exact h'.elim

/-- The cursor is on the screen, ahead of row 0, too. -/
def On (s : Scr) : Prop := (0 ≤ s.row ∧ s.row ≤ 24) ∧ (0 ≤ s.col ∧ s.col ≤ 39) ∧ (0 ≤ s.kr ∧ s.kr ≤ 24) ∧ (0 ≤ s.kc ∧ s.kc ≤ 39)

def RowOk (s : Scr) : Prop := 0 ≤ s.row ∧ s.row ≤ 24

/-! ### reset, home, sized, State, Rolls -/
def resetS (s : Scr) : Scr := { s with fg := 7, bg := 0, fl := false, iv := false, un := false, co := false, ta := false, wi := false, wt := false }
noncomputable def t_reset : Con := fun args regs => nfun Tryz.prog [] (fun _ => Option.none) [] Tryz.f232 args regs
theorem k_reset : Known Tryz.prog [] 232 t_reset := known_inl Tryz.func232 rfl (by kernel_rfl) mixed con_none (by kernel_rfl)
theorem reset_tree (s : Scr) (R : Out → Prop) : (t_reset [.c (.p 0 0 0)] [scr s]).run R = R (done (resetS s)) := by kernel_rfl
noncomputable def tReset : Con := con0 (fun _ => True) resetS
theorem kReset : Known Tryz.prog [] 232 tReset := by
  refine k_reset.less fun args regs R h => Box.out ?_
  obtain ⟨s, rfl, rfl, h1, h2⟩ := con0_in h
  exact Box.of_eq (reset_tree s R) h2

/-- Rows go up: what is below the second one, and blanks. -/
def upSl (sl : List (List Sc)) : List (List Sc) := spl (spl sl 40 920 ((sl.drop 80).take 920)) 960 40 (List.replicate 40 blk)
def dnSl (sl : List (List Sc)) : List (List Sc) := spl (spl sl 80 920 ((sl.drop 40).take 920)) 40 40 (List.replicate 40 blk)
def downS (s : Scr) : Scr := if s.row = 0 then { s with row := s.kr, col := s.kc } else if s.row < 24 then { s with row := s.row + 1 } else if s.ro then { s with sl := upSl s.sl } else { s with row := 1 }
noncomputable def c_down : FuncId → Option Con := conOf [(65, tBlanks)]
theorem kc_down : ∀ f T, c_down f = some T → Known Tryz.prog [] f T := (Knowns.cons kBlanks Knowns.nil).get
noncomputable def t_down : Con := fun args regs => nfun Tryz.prog [] c_down [] Tryz.f226 args regs
theorem k_down : Known Tryz.prog [] 226 t_down := known_inl Tryz.func226 rfl (by kernel_rfl) mixed kc_down (by kernel_rfl)
theorem down_tree (s : Scr) (R : Out → Prop) : (t_down [.c (.p 0 0 0)] [scr s]).run R =
    sel (s.row == 0) (R (done { s with row := s.kr, col := s.kc })) (sel (decide (s.row < 24)) (R (done { s with row := w64 (s.row + 1) })) (sel s.ro (R (done { s with sl := upSl s.sl })) (R (done { s with row := 1 })))) := by kernel_rfl
noncomputable def tDown : Con := con0 RowOk downS
theorem kDown : Known Tryz.prog [] 226 tDown := by
  refine k_down.less fun args regs R h => Box.out ?_
  obtain ⟨s, rfl, rfl, h1, h2⟩ := con0_in h
  obtain ⟨r0, r1⟩ := h1
  unfold downS at h2
  refine Box.of_eq (down_tree s R) (sel_eq (fun e => ?_) fun e => sel_by (fun e2 => ?_) fun e2 => sel_b (fun e3 => ?_) fun e3 => ?_)
  · rw [if_pos e] at h2; exact h2
  · rw [if_neg e, if_pos e2] at h2; rw [w64_id (by omega)]; exact h2
  · rw [if_neg e, if_neg e2, if_pos e3] at h2; exact h2
  · rw [if_neg e, if_neg e2, if_neg (by rw [e3]; exact Bool.false_ne_true)] at h2; exact h2
def upS (s : Scr) : Scr := if s.row = 0 then s else if s.row > 1 then { s with row := s.row - 1 } else if s.ro then { s with sl := dnSl s.sl } else { s with row := 24 }
noncomputable def t_up : Con := fun args regs => nfun Tryz.prog [] c_down [] Tryz.f229 args regs
theorem k_up : Known Tryz.prog [] 229 t_up := known_inl Tryz.func229 rfl (by kernel_rfl) mixed kc_down (by kernel_rfl)
theorem up_tree (s : Scr) (R : Out → Prop) : (t_up [.c (.p 0 0 0)] [scr s]).run R =
    sel (s.row == 0) (R (done s)) (sel (decide (s.row > 1)) (R (done { s with row := w64 (s.row - 1) })) (sel s.ro (R (done { s with sl := dnSl s.sl })) (R (done { s with row := 24 })))) := by kernel_rfl
noncomputable def tUp : Con := con0 RowOk upS
theorem kUp : Known Tryz.prog [] 229 tUp := by
  refine k_up.less fun args regs R h => Box.out ?_
  obtain ⟨s, rfl, rfl, h1, h2⟩ := con0_in h
  obtain ⟨r0, r1⟩ := h1
  unfold upS at h2
  refine Box.of_eq (up_tree s R) (sel_eq (fun e => ?_) fun e => sel_by (fun e2 => ?_) fun e2 => sel_b (fun e3 => ?_) fun e3 => ?_)
  · rw [if_pos e] at h2; exact h2
  · rw [if_neg e, if_pos e2] at h2; rw [w64_id (by omega)]; exact h2
  · rw [if_neg e, if_neg e2, if_pos e3] at h2; exact h2
  · rw [if_neg e, if_neg e2, if_neg (by rw [e3]; exact Bool.false_ne_true)] at h2; exact h2
theorem downS_on {s : Scr} (h : On s) : On (downS s) := by
  obtain ⟨h1, h2, h3, h4⟩ := h
  unfold downS
  split
  · exact ⟨h3, h4, h3, h4⟩
  · split
    · exact ⟨⟨by show 0 ≤ s.row + 1; omega, by show s.row + 1 ≤ 24; omega⟩, h2, h3, h4⟩
    · split
      · exact ⟨h1, h2, h3, h4⟩
      · exact ⟨⟨by show (0 : Int) ≤ 1; omega, by show (1 : Int) ≤ 24; omega⟩, h2, h3, h4⟩
theorem upS_on {s : Scr} (h : On s) : On (upS s) := by
  obtain ⟨h1, h2, h3, h4⟩ := h
  unfold upS
  split
  · exact ⟨h1, h2, h3, h4⟩
  · split
    · exact ⟨⟨by show 0 ≤ s.row - 1; omega, by show s.row - 1 ≤ 24; omega⟩, h2, h3, h4⟩
    · split
      · exact ⟨h1, h2, h3, h4⟩
      · exact ⟨⟨by show (0 : Int) ≤ 24; omega, by show (24 : Int) ≤ 24; omega⟩, h2, h3, h4⟩

/-! ### back, on -/
def backS (s : Scr) : Scr := if s.col > 0 then { s with col := s.col - 1 } else if s.row > 0 then { upS s with col := 39 } else s
noncomputable def c_back : FuncId → Option Con := conOf [(229, tUp)]
theorem kc_back : ∀ f T, c_back f = some T → Known Tryz.prog [] f T := (Knowns.cons kUp Knowns.nil).get
noncomputable def t_back : Con := fun args regs => nfun Tryz.prog [] c_back [] Tryz.f227 args regs
theorem k_back : Known Tryz.prog [] 227 t_back := known_inl Tryz.func227 rfl (by kernel_rfl) mixed kc_back (by kernel_rfl)
theorem back_tree (s : Scr) (R : Out → Prop) : (t_back [.c (.p 0 0 0)] [scr s]).run R =
    sel (decide (s.col > 0)) (R (done { s with col := w64 (s.col - 1) })) (sel (decide (s.row > 0)) (RowOk s ∧ R (done { upS s with col := 39 })) (R (done s))) := by kernel_rfl
noncomputable def tBack : Con := con0 On backS
theorem kBack : Known Tryz.prog [] 227 tBack := by
  refine k_back.less fun args regs R h => Box.out ?_
  obtain ⟨s, rfl, rfl, h1, h2⟩ := con0_in h
  have h0 := h1
  obtain ⟨-, ⟨c0, c1⟩, -⟩ := h1
  unfold backS at h2
  refine Box.of_eq (back_tree s R) (sel_by (fun e => ?_) fun e => sel_by (fun e2 => ?_) fun e2 => ?_)
  · rw [if_pos e] at h2; rw [w64_id (by omega)]; exact h2
  · rw [if_neg e, if_pos e2] at h2; exact ⟨h0.1, h2⟩
  · rw [if_neg e, if_neg e2] at h2; exact h2
def fwdS (s : Scr) : Scr := if s.col < 39 then { s with col := s.col + 1 } else if s.row > 0 then { downS s with col := 0 } else s
noncomputable def c_on : FuncId → Option Con := conOf [(226, tDown)]
theorem kc_on : ∀ f T, c_on f = some T → Known Tryz.prog [] f T := (Knowns.cons kDown Knowns.nil).get
noncomputable def t_on : Con := fun args regs => nfun Tryz.prog [] c_on [] Tryz.f228 args regs
theorem k_on : Known Tryz.prog [] 228 t_on := known_inl Tryz.func228 rfl (by kernel_rfl) mixed kc_on (by kernel_rfl)
theorem on_tree (s : Scr) (R : Out → Prop) : (t_on [.c (.p 0 0 0)] [scr s]).run R =
    sel (decide (s.col < 39)) (R (done { s with col := w64 (s.col + 1) })) (sel (decide (s.row > 0)) (RowOk s ∧ R (done { downS s with col := 0 })) (R (done s))) := by kernel_rfl
noncomputable def tOn : Con := con0 On fwdS
theorem kOn : Known Tryz.prog [] 228 tOn := by
  refine k_on.less fun args regs R h => Box.out ?_
  obtain ⟨s, rfl, rfl, h1, h2⟩ := con0_in h
  have h0 := h1
  obtain ⟨-, ⟨c0, c1⟩, -⟩ := h1
  unfold fwdS at h2
  refine Box.of_eq (on_tree s R) (sel_by (fun e => ?_) fun e => sel_by (fun e2 => ?_) fun e2 => ?_)
  · rw [if_pos e] at h2; rw [w64_id (by omega)]; exact h2
  · rw [if_neg e, if_pos e2] at h2; exact ⟨h0.1, h2⟩
  · rw [if_neg e, if_neg e2] at h2; exact h2
theorem backS_on {s : Scr} (h : On s) : On (backS s) := by
  unfold backS
  have hu := upS_on h
  obtain ⟨h1, h2, h3, h4⟩ := h
  split
  · exact ⟨h1, ⟨by show 0 ≤ s.col - 1; omega, by show s.col - 1 ≤ 39; omega⟩, h3, h4⟩
  · split
    · exact ⟨hu.1, ⟨by show (0 : Int) ≤ 39; omega, by show (39 : Int) ≤ 39; omega⟩, hu.2.2⟩
    · exact ⟨h1, h2, h3, h4⟩
theorem fwdS_on {s : Scr} (h : On s) : On (fwdS s) := by
  unfold fwdS
  have hu := downS_on h
  obtain ⟨h1, h2, h3, h4⟩ := h
  split
  · exact ⟨h1, ⟨by show 0 ≤ s.col + 1; omega, by show s.col + 1 ≤ 39; omega⟩, h3, h4⟩
  · split
    · exact ⟨hu.1, ⟨by show (0 : Int) ≤ 0; omega, by show (0 : Int) ≤ 39; omega⟩, hu.2.2⟩
    · exact ⟨h1, h2, h3, h4⟩
end Go.Proofs.YtjfgphfdaghilaaGreatDoor.scr
section
namespace Go.Proofs.YtjfgphfdaghilaaGreatDoor.scr
open Go Go.Nx
set_option maxRecDepth 100000

/-! ### loops over a screen -/
/-- A state: slots by a shape, and a screen. -/
noncomputable def stS (fp : List Pat) (a : List Leaf) (x : Scr) : St := { fr := makeL Pat.makeS fp a, rg := [some (scr x)] }
noncomputable def sumS (fp : List Pat) (f : List Leaf → Scr → Tr (NExit × St)) (s : St) : Tr (NExit × St) :=
  match readL Pat.readS fp s.fr, s.rg with
  | some a, [g] => (match rdS g with
    | some x => f a x
    | none => .fail)
  | _, _ => .fail
theorem sumS_ok {X : Cx} (hcon : ∀ f T, X.con f = some T → Known X.P X.glob f T) (hm : X.P.follows .mixedOrders = true) {id : Nat} {body : Code} (hl : LAll X body) (live out : List Nat) (fp : List Pat) (f : List Leaf → Scr → Tr (NExit × St)) (μ : List Leaf → Scr → Nat)
    (round : ∀ a x R, (f a x).run R → (roundT X id live out body (stS fp a x)).run fun o => match o with
      | .next s => ∃ b y, s = stS fp b y ∧ μ b y < μ a x ∧ (f b y).run R
      | .done e s => R (e, s)) : LOk X.P X.glob X.m id body (sumS fp f) := by
  refine loop_ok hcon hm hl live out (fun x : List Leaf × Scr => stS fp x.1 x.2) (fun x => μ x.1 x.2) (fun x R => (f x.1 x.2).run R) (fun s R h => ?_) (fun x R h => ?_)
  · unfold sumS at h
    split at h
    case h_2 => exact h.elim
    rename_i a g h1 h2
    split at h
    case h_2 => exact h.elim
    rename_i x hx
    refine ⟨(a, x), ?_, h⟩
    unfold stS
    rw [readL_spec (fun p x l h => Pat.readS_spec h) h1, ← rdS_in hx, ← h2]
  · refine Tr.run_mono _ (fun o ho => ?_) (round x.1 x.2 R h)
    cases o with
    | next s =>
      obtain ⟨b, y, h1, h2, h3⟩ := ho
      exact ⟨(b, y), h1, h2, h3⟩
    | done e s => exact ho
def iterF (f : Scr → Scr) : Nat → Scr → Scr
  | 0, s => s
  | n + 1, s => iterF f n (f s)
theorem iterF_on {f : Scr → Scr} (hf : ∀ s, On s → On (f s)) : ∀ (n : Nat) {s : Scr}, On s → On (iterF f n s)
  | 0, _, h => h
  | n + 1, s, h => iterF_on hf n (hf s h)

/-! ### move -/
def stepS (how : Int) (s : Scr) : Scr := if how = 1 then backS s else if how = 2 then fwdS s else if how = 3 then downS s else if how = 4 then upS s else s
theorem stepS_on (how : Int) {s : Scr} (h : On s) : On (stepS how s) := by
  unfold stepS
  split
  · exact backS_on h
  · split
    · exact fwdS_on h
    · split
      · exact downS_on h
      · split
        · exact upS_on h
        · exact h
noncomputable def c_move : FuncId → Option Con := conOf [(227, tBack), (228, tOn), (226, tDown), (229, tUp)]
theorem kc_move : ∀ f T, c_move f = some T → Known Tryz.prog [] f T := (Knowns.cons kBack (Knowns.cons kOn (Knowns.cons kDown (Knowns.cons kUp Knowns.nil)))).get
noncomputable def X_move : Cx := { P := Tryz.prog, con := c_move, glob := [], m := 1, loops := [] }
noncomputable def p_move : List Pat := pats 35 [(0, .p 0 0 0), (1, .i .i64), (14, .i .i64), (15, .i .i64)]
noncomputable def b_move : Code := bodyLoop Tryz.f153 0
noncomputable def s_move (how n i : Int) (s : Scr) : St := stS p_move [.i how, .i n, .i i] s
noncomputable def e_move (s : Scr) : St := { fr := frame 35 [], rg := [some (scr s)] }
theorem round_move (how n i : Int) (s : Scr) (R : RO → Prop) : (roundT X_move 0 [0, 1, 14, 15] [] b_move (s_move how n i s)).run R =
    sel (decide (i < n)) (sel (how == 1) (On s ∧ R (.next (s_move how n (w64 (i + 1)) (backS s)))) (sel (how == 2) (On s ∧ R (.next (s_move how n (w64 (i + 1)) (fwdS s))))
      (sel (how == 3) (RowOk s ∧ R (.next (s_move how n (w64 (i + 1)) (downS s)))) (sel (how == 4) (RowOk s ∧ R (.next (s_move how n (w64 (i + 1)) (upS s)))) (R (.next (s_move how n (w64 (i + 1)) s)))))))
      (R (.done .normal (e_move s))) := by kernel_rfl
noncomputable def l_move : List Leaf → Scr → Tr (NExit × St) := fun a s => match a with
  | [.i how, .i n, .i i] => .must (0 ≤ i ∧ n ≤ 99 ∧ On s) (.ret (.normal, e_move (iterF (stepS how) (n - i).toNat s)))
  | _ => .fail
theorem loop_move : LOk Tryz.prog [] 1 0 b_move (sumS p_move l_move) := by
  refine sumS_ok (X := X_move) kc_move mixed (LAll.none (by kernel_rfl)) [0, 1, 14, 15] [] _ _ (fun a x => match a with
    | [.i _, .i n, .i i] => (n - i).toNat
    | _ => 0) ?_
  intro a s R h
  unfold l_move at h
  split at h
  case h_2 => exact h.elim
  rename_i how n i
  obtain ⟨⟨h1, h2, h3⟩, h⟩ := h
  have h' : R (.normal, e_move (iterF (stepS how) (n - i).toNat s)) := h
  clear h
  refine Box.out (Box.of_eq (round_move how n i s _) (sel_by (fun e => ?_) fun e => ?_))
  · obtain ⟨k, hk⟩ : ∃ k : Nat, (n - i).toNat = k + 1 := ⟨(n - i).toNat - 1, by omega⟩
    have hw : w64 (i + 1) = i + 1 := w64_id (by omega)
    have hk' : (n - (i + 1)).toNat = k := by omega
    rw [hk] at h'
    have fin : ∀ s', On s' → s' = stepS how s → (∃ b y, s_move how n (w64 (i + 1)) s' = stS p_move b y ∧ (match b with
        | [.i _, .i n, .i i] => (n - i).toNat
        | _ => 0) < (n - i).toNat ∧ (l_move b y).run R) := fun s' ho he => by
      rw [hw]
      refine ⟨[.i how, .i n, .i (i + 1)], s', rfl, by show (n - (i + 1)).toNat < _; omega, ⟨by omega, h2, ho⟩, ?_⟩
      show R (.normal, e_move (iterF (stepS how) (n - (i + 1)).toNat s'))
      rw [hk', he]
      exact h'
    refine sel_eq (fun e1 => ⟨h3, fin _ (backS_on h3) ?_⟩) fun e1 => sel_eq (fun e2 => ⟨h3, fin _ (fwdS_on h3) ?_⟩) fun e2 => sel_eq (fun e3 => ⟨h3.1, fin _ (downS_on h3) ?_⟩) fun e3 => sel_eq (fun e4 => ⟨h3.1, fin _ (upS_on h3) ?_⟩) fun e4 => fin _ h3 ?_
    · unfold stepS; rw [if_pos e1]
    · unfold stepS; rw [if_neg e1, if_pos e2]
    · unfold stepS; rw [if_neg e1, if_neg e2, if_pos e3]
    · unfold stepS; rw [if_neg e1, if_neg e2, if_neg e3, if_pos e4]
    · unfold stepS; rw [if_neg e1, if_neg e2, if_neg e3, if_neg e4]
  · have hz : (n - i).toNat = 0 := by omega
    rw [hz] at h'
    exact h'
noncomputable def t_move : Con := fun args regs => if regs.length = 1 then nfun Tryz.prog [] c_move [(0, [0, 1, 14, 15], sumS p_move l_move)] Tryz.f153 args regs else .fail
theorem k_move : Known Tryz.prog [] 153 t_move := known_loops 1 Tryz.func153 rfl (by kernel_rfl) mixed kc_move (LAll.one (id := 0) (body := b_move) (by kernel_rfl) rfl loop_move)
def mmI (less : Bool) (m n : Int) : Int := bif (match less with | true => decide (n < m) | false => decide (n > m)) then n else m
/-- How often. -/
def many (lo hi n : Int) : Int := mmI true (mmI false n lo) hi
theorem many_eq {lo hi n : Int} (h : lo ≤ hi) : lo ≤ many lo hi n ∧ many lo hi n ≤ hi ∧ (lo ≤ n → n ≤ hi → many lo hi n = n) ∧ (n ≤ lo → many lo hi n = lo) ∧ (hi ≤ n → many lo hi n = hi) := by
  unfold many mmI
  simp only []
  by_cases h1 : lo > n <;> by_cases h2 : hi < lo <;> by_cases h3 : hi < n <;> simp [h1, h2, h3] <;> omega
theorem move_tree (how n : Int) (s : Scr) (R : Out → Prop) : (t_move [.c (.p 0 0 0), .c (.i .i64 how), .c (.i .i64 n)] [scr s]).run R =
    sel (how == 5) (R (done { s with col := 0 })) (((0 : Int) ≤ 0 ∧ many 1 99 n ≤ 99 ∧ On s) ∧ R (done (iterF (stepS how) (many 1 99 n - 0).toNat s))) := by kernel_rfl
def moveS (how n : Int) (s : Scr) : Scr := if how = 5 then { s with col := 0 } else iterF (stepS how) (many 1 99 n).toNat s
theorem moveS_on {how n : Int} {s : Scr} (h : On s) : On (moveS how n s) := by
  unfold moveS
  split
  · exact ⟨h.1, ⟨by show (0 : Int) ≤ 0; omega, by show (0 : Int) ≤ 39; omega⟩, h.2.2⟩
  · exact iterF_on (fun s => stepS_on how) _ h
noncomputable def tMove : Con := con2 (fun _ _ => On) moveS
theorem kMove : Known Tryz.prog [] 153 tMove := by
  refine k_move.less fun args regs R h => Box.out ?_
  obtain ⟨how, n, s, rfl, rfl, h1, h2⟩ := con2_in h
  clear h
  unfold moveS at h2
  refine Box.of_eq (move_tree how n s R) (sel_eq (fun e => ?_) fun e => ?_)
  · rw [if_pos e] at h2; exact h2
  · rw [if_neg e] at h2
    refine ⟨⟨Int.le_refl 0, (many_eq (n := n) (by omega : (1 : Int) ≤ 99)).2.1, h1⟩, ?_⟩
    rw [Int.sub_zero]; exact h2

/-! ### blanks -/
def wipeN : List (List Sc) → Nat → Nat → List (List Sc)
  | sl, _, 0 => sl
  | sl, i, n + 1 => wipeN (sl.set i blk) (i + 1) n
def wipeS (row from_ to : Int) (s : Scr) : Scr := { s with sl := wipeN s.sl (row.toNat * 40 + from_.toNat) (to + 1 - from_).toNat }
noncomputable def c_wipe : FuncId → Option Con := conOf [(104, tBlank)]
theorem kc_wipe : ∀ f T, c_wipe f = some T → Known Tryz.prog [] f T := (Knowns.cons kBlank Knowns.nil).get
noncomputable def X_wipe : Cx := { P := Tryz.prog, con := c_wipe, glob := [], m := 1, loops := [] }
noncomputable def p_wipe : List Pat := pats 23 [(0, .p 0 0 0), (1, .i .i64), (3, .i .i64), (8, .i .i64)]
noncomputable def b_wipe : Code := bodyLoop Tryz.f231 0
noncomputable def s_wipe (row to k : Int) (s : Scr) : St := stS p_wipe [.i row, .i to, .i k] s
noncomputable def e_wipe (s : Scr) : St := { fr := frame 23 [], rg := [some (scr s)] }
theorem round_wipe (row to k : Int) (s : Scr) (R : RO → Prop) : (roundT X_wipe 0 [0, 1, 3, 8] [] b_wipe (s_wipe row to k s)).run R =
    sel (decide (k ≤ to)) (sel (decide (0 ≤ row)) (sel (decide (row < 25)) (sel (decide (0 ≤ k)) (sel (decide (k < 40)) (sel (decide (row.toNat * 40 + k.toNat + 1 ≤ 1000))
      (R (.next (s_wipe row to (w64 (k + 1)) { s with sl := s.sl.set (row.toNat * 40 + k.toNat) blk }))) False) False) False) False) False)
      (R (.done .normal (e_wipe s))) := by kernel_rfl
noncomputable def l_wipe : List Leaf → Scr → Tr (NExit × St) := fun a s => match a with
  | [.i row, .i to, .i k] => .must ((0 ≤ row ∧ row ≤ 24) ∧ 0 ≤ k ∧ to ≤ 39) (.ret (.normal, e_wipe { s with sl := wipeN s.sl (row.toNat * 40 + k.toNat) (to + 1 - k).toNat }))
  | _ => .fail
theorem loop_wipe : LOk Tryz.prog [] 1 0 b_wipe (sumS p_wipe l_wipe) := by
  refine sumS_ok (X := X_wipe) kc_wipe mixed (LAll.none (by kernel_rfl)) [0, 1, 3, 8] [] _ _ (fun a x => match a with
    | [.i _, .i to, .i k] => (to + 1 - k).toNat
    | _ => 0) ?_
  intro a s R h
  unfold l_wipe at h
  split at h
  case h_2 => exact h.elim
  rename_i row to k
  obtain ⟨⟨⟨h1, h1'⟩, h2, h3⟩, h⟩ := h
  have h' : R (.normal, e_wipe { s with sl := wipeN s.sl (row.toNat * 40 + k.toNat) (to + 1 - k).toNat }) := h
  clear h
  refine Box.out (Box.of_eq (round_wipe row to k s _) (sel_by (fun e => ?_) fun e => ?_))
  · refine selT (dT h1) (selT (dT (by omega)) (selT (dT h2) (selT (dT (by omega)) (selT (dT (by omega)) ?_))))
    obtain ⟨n, hn⟩ : ∃ n : Nat, (to + 1 - k).toNat = n + 1 := ⟨(to - k).toNat, by omega⟩
    have hw : w64 (k + 1) = k + 1 := w64_id (by omega)
    rw [hw]
    refine ⟨[.i row, .i to, .i (k + 1)], _, rfl, by show (to + 1 - (k + 1)).toNat < (to + 1 - k).toNat; omega, ⟨⟨h1, h1'⟩, by omega, h3⟩, ?_⟩
    show R (.normal, e_wipe { s with sl := wipeN (s.sl.set (row.toNat * 40 + k.toNat) blk) (row.toNat * 40 + (k + 1).toNat) (to + 1 - (k + 1)).toNat })
    have e1 : (to + 1 - (k + 1)).toNat = n := by omega
    have e2 : row.toNat * 40 + (k + 1).toNat = row.toNat * 40 + k.toNat + 1 := by omega
    rw [hn] at h'
    rw [e1, e2]
    exact h'
  · have hz : (to + 1 - k).toNat = 0 := by omega
    rw [hz] at h'
    exact h'
noncomputable def t_wipe : Con := fun args regs => if regs.length = 1 then nfun Tryz.prog [] c_wipe [(0, [0, 1, 3, 8], sumS p_wipe l_wipe)] Tryz.f231 args regs else .fail
theorem k_wipe : Known Tryz.prog [] 231 t_wipe := known_loops 1 Tryz.func231 rfl (by kernel_rfl) mixed kc_wipe (LAll.one (id := 0) (body := b_wipe) (by kernel_rfl) rfl loop_wipe)
theorem wipe_tree (row from_ to : Int) (s : Scr) (R : Out → Prop) : (t_wipe [.c (.p 0 0 0), .c (.i .i64 row), .c (.i .i64 from_), .c (.i .i64 to)] [scr s]).run R =
    (((0 ≤ row ∧ row ≤ 24) ∧ 0 ≤ from_ ∧ to ≤ 39) ∧ R (done (wipeS row from_ to s))) := by kernel_rfl
noncomputable def tWipe : Con := con3 (fun row from_ to _ => (0 ≤ row ∧ row ≤ 24) ∧ 0 ≤ from_ ∧ to ≤ 39) wipeS
theorem kWipe : Known Tryz.prog [] 231 tWipe := by
  refine k_wipe.less fun args regs R h => Box.out ?_
  obtain ⟨row, from_, to, s, rfl, rfl, h1, h2⟩ := con3_in h
  exact Box.of_eq (wipe_tree row from_ to s R) ⟨h1, h2⟩
def rowsN : List (List Sc) → Nat → Nat → List (List Sc)
  | sl, _, 0 => sl
  | sl, r, n + 1 => rowsN (spl sl (r * 40) 40 (List.replicate 40 blk)) (r + 1) n
def wipeRS (from_ to : Int) (s : Scr) : Scr := { s with sl := rowsN s.sl from_.toNat (to + 1 - from_).toNat }
noncomputable def X_wiper : Cx := { P := Tryz.prog, con := c_down, glob := [], m := 1, loops := [] }
noncomputable def p_wiper : List Pat := pats 19 [(0, .p 0 0 0), (2, .i .i64), (6, .i .i64)]
noncomputable def b_wiper : Code := bodyLoop Tryz.f230 0
noncomputable def s_wiper (to r : Int) (s : Scr) : St := stS p_wiper [.i to, .i r] s
noncomputable def e_wiper (s : Scr) : St := { fr := frame 19 [], rg := [some (scr s)] }
theorem round_wiper (to r : Int) (s : Scr) (R : RO → Prop) : (roundT X_wiper 0 [0, 2, 6] [] b_wiper (s_wiper to r s)).run R =
    sel (decide (r ≤ to)) (sel (decide (0 ≤ r)) (sel (decide (r < 25)) (sel (decide (r.toNat * 40 + 40 ≤ 1000))
      (R (.next (s_wiper to (w64 (r + 1)) { s with sl := spl s.sl (r.toNat * 40) 40 (List.replicate 40 blk) }))) False) False) False)
      (R (.done .normal (e_wiper s))) := by kernel_rfl
noncomputable def l_wiper : List Leaf → Scr → Tr (NExit × St) := fun a s => match a with
  | [.i to, .i r] => .must (0 ≤ r ∧ to ≤ 24) (.ret (.normal, e_wiper { s with sl := rowsN s.sl r.toNat (to + 1 - r).toNat }))
  | _ => .fail
theorem loop_wiper : LOk Tryz.prog [] 1 0 b_wiper (sumS p_wiper l_wiper) := by
  refine sumS_ok (X := X_wiper) kc_down mixed (LAll.none (by kernel_rfl)) [0, 2, 6] [] _ _ (fun a x => match a with
    | [.i to, .i r] => (to + 1 - r).toNat
    | _ => 0) ?_
  intro a s R h
  unfold l_wiper at h
  split at h
  case h_2 => exact h.elim
  rename_i to r
  obtain ⟨⟨h1, h2⟩, h⟩ := h
  have h' : R (.normal, e_wiper { s with sl := rowsN s.sl r.toNat (to + 1 - r).toNat }) := h
  clear h
  refine Box.out (Box.of_eq (round_wiper to r s _) (sel_by (fun e => ?_) fun e => ?_))
  · refine selT (dT h1) (selT (dT (by omega)) (selT (dT (by omega)) ?_))
    obtain ⟨n, hn⟩ : ∃ n : Nat, (to + 1 - r).toNat = n + 1 := ⟨(to - r).toNat, by omega⟩
    have hw : w64 (r + 1) = r + 1 := w64_id (by omega)
    rw [hw]
    refine ⟨[.i to, .i (r + 1)], _, rfl, by show (to + 1 - (r + 1)).toNat < (to + 1 - r).toNat; omega, ⟨by omega, h2⟩, ?_⟩
    show R (.normal, e_wiper { s with sl := rowsN (spl s.sl (r.toNat * 40) 40 (List.replicate 40 blk)) (r + 1).toNat (to + 1 - (r + 1)).toNat })
    have e1 : (to + 1 - (r + 1)).toNat = n := by omega
    have e2 : (r + 1).toNat = r.toNat + 1 := by omega
    rw [hn] at h'
    rw [e1, e2]
    exact h'
  · have hz : (to + 1 - r).toNat = 0 := by omega
    rw [hz] at h'
    exact h'
noncomputable def t_wiper : Con := fun args regs => if regs.length = 1 then nfun Tryz.prog [] c_down [(0, [0, 2, 6], sumS p_wiper l_wiper)] Tryz.f230 args regs else .fail
theorem k_wiper : Known Tryz.prog [] 230 t_wiper := known_loops 1 Tryz.func230 rfl (by kernel_rfl) mixed kc_down (LAll.one (id := 0) (body := b_wiper) (by kernel_rfl) rfl loop_wiper)
theorem wiper_tree (from_ to : Int) (s : Scr) (R : Out → Prop) : (t_wiper [.c (.p 0 0 0), .c (.i .i64 from_), .c (.i .i64 to)] [scr s]).run R = ((0 ≤ from_ ∧ to ≤ 24) ∧ R (done (wipeRS from_ to s))) := by kernel_rfl
noncomputable def tWipeR : Con := con2 (fun from_ to _ => 0 ≤ from_ ∧ to ≤ 24) wipeRS
theorem kWipeR : Known Tryz.prog [] 230 tWipeR := by
  refine k_wiper.less fun args regs R h => Box.out ?_
  obtain ⟨from_, to, s, rfl, rfl, h1, h2⟩ := con2_in h
  exact Box.of_eq (wiper_tree from_ to s R) ⟨h1, h2⟩

/-! ### home, clear, erase, a place -/
def homeS (s : Scr) : Scr := resetS { s with row := 1, col := 0 }
noncomputable def c_home : FuncId → Option Con := conOf [(232, tReset)]
theorem kc_home : ∀ f T, c_home f = some T → Known Tryz.prog [] f T := (Knowns.cons kReset Knowns.nil).get
noncomputable def t_home : Con := fun args regs => nfun Tryz.prog [] c_home [] Tryz.f155 args regs
theorem k_home : Known Tryz.prog [] 155 t_home := known_inl Tryz.func155 rfl (by kernel_rfl) mixed kc_home (by kernel_rfl)
theorem home_tree (s : Scr) (R : Out → Prop) : (t_home [.c (.p 0 0 0)] [scr s]).run R = (True ∧ R (done (homeS s))) := by kernel_rfl
noncomputable def tHome : Con := con0 (fun _ => True) homeS
theorem kHome : Known Tryz.prog [] 155 tHome := by
  refine k_home.less fun args regs R h => Box.out ?_
  obtain ⟨s, rfl, rfl, h1, h2⟩ := con0_in h
  exact Box.of_eq (home_tree s R) ⟨h1, h2⟩
def clearS (what : Int) (s : Scr) : Scr := if what = 1 then homeS (wipeRS 1 24 s) else if what = 2 then wipeS s.row s.col 39 s else s
noncomputable def c_clear : FuncId → Option Con := conOf [(230, tWipeR), (231, tWipe), (155, tHome)]
theorem kc_clear : ∀ f T, c_clear f = some T → Known Tryz.prog [] f T := (Knowns.cons kWipeR (Knowns.cons kWipe (Knowns.cons kHome Knowns.nil))).get
noncomputable def t_clear : Con := fun args regs => nfun Tryz.prog [] c_clear [] Tryz.f154 args regs
theorem k_clear : Known Tryz.prog [] 154 t_clear := known_inl Tryz.func154 rfl (by kernel_rfl) mixed kc_clear (by kernel_rfl)
theorem clear_tree (what : Int) (s : Scr) (R : Out → Prop) : (t_clear [.c (.p 0 0 0), .c (.i .i64 what)] [scr s]).run R =
    sel (what == 1) (((0 : Int) ≤ 1 ∧ (24 : Int) ≤ 24) ∧ True ∧ R (done (homeS (wipeRS 1 24 s)))) (sel (what == 2) (((0 ≤ s.row ∧ s.row ≤ 24) ∧ 0 ≤ s.col ∧ (39 : Int) ≤ 39) ∧ R (done (wipeS s.row s.col 39 s))) (R (done s))) := by kernel_rfl
noncomputable def tClear : Con := con1 (fun _ => On) clearS
theorem kClear : Known Tryz.prog [] 154 tClear := by
  refine k_clear.less fun args regs R h => Box.out ?_
  obtain ⟨what, s, rfl, rfl, h1, h2⟩ := con1_in h
  unfold clearS at h2
  refine Box.of_eq (clear_tree what s R) (sel_eq (fun e => ?_) fun e => sel_eq (fun e2 => ?_) fun e2 => ?_)
  · rw [if_pos e] at h2; exact ⟨⟨by omega, by omega⟩, trivial, h2⟩
  · rw [if_neg e, if_pos e2] at h2; exact ⟨⟨h1.1, h1.2.1.1, by omega⟩, h2⟩
  · rw [if_neg e, if_neg e2] at h2; exact h2
def eraRS (how : Int) (s : Scr) : Scr := if how = 0 then wipeS s.row s.col 39 s else if how = 1 then wipeS s.row 0 s.col s else if how = 2 then wipeS s.row 0 39 s else s
noncomputable def t_erar : Con := fun args regs => nfun Tryz.prog [] c_clear [] Tryz.f159 args regs
theorem k_erar : Known Tryz.prog [] 159 t_erar := known_inl Tryz.func159 rfl (by kernel_rfl) mixed kc_clear (by kernel_rfl)
theorem erar_tree (how : Int) (s : Scr) (R : Out → Prop) : (t_erar [.c (.p 0 0 0), .c (.i .i64 how)] [scr s]).run R =
    sel (how == 0) (((0 ≤ s.row ∧ s.row ≤ 24) ∧ 0 ≤ s.col ∧ (39 : Int) ≤ 39) ∧ R (done (wipeS s.row s.col 39 s)))
      (sel (how == 1) (((0 ≤ s.row ∧ s.row ≤ 24) ∧ (0 : Int) ≤ 0 ∧ s.col ≤ 39) ∧ R (done (wipeS s.row 0 s.col s)))
        (sel (how == 2) (((0 ≤ s.row ∧ s.row ≤ 24) ∧ (0 : Int) ≤ 0 ∧ (39 : Int) ≤ 39) ∧ R (done (wipeS s.row 0 39 s))) (R (done s)))) := by kernel_rfl
noncomputable def tEraR : Con := con1 (fun _ => On) eraRS
theorem kEraR : Known Tryz.prog [] 159 tEraR := by
  refine k_erar.less fun args regs R h => Box.out ?_
  obtain ⟨how, s, rfl, rfl, h1, h2⟩ := con1_in h
  unfold eraRS at h2
  refine Box.of_eq (erar_tree how s R) (sel_eq (fun e => ?_) fun e => sel_eq (fun e2 => ?_) fun e2 => sel_eq (fun e3 => ?_) fun e3 => ?_)
  · rw [if_pos e] at h2; exact ⟨⟨h1.1, h1.2.1.1, by omega⟩, h2⟩
  · rw [if_neg e, if_pos e2] at h2; exact ⟨⟨h1.1, by omega, h1.2.1.2⟩, h2⟩
  · rw [if_neg e, if_neg e2, if_pos e3] at h2; exact ⟨⟨h1.1, by omega, by omega⟩, h2⟩
  · rw [if_neg e, if_neg e2, if_neg e3] at h2; exact h2
def eraPS (how : Int) (s : Scr) : Scr := if how = 0 then (if s.row > 0 then eraRS how (wipeRS (s.row + 1) 24 s) else eraRS how s) else if how = 1 then eraRS how (wipeRS 1 (s.row - 1) s) else if how = 2 then wipeRS 1 24 s else s
noncomputable def c_erap : FuncId → Option Con := conOf [(230, tWipeR), (159, tEraR)]
theorem kc_erap : ∀ f T, c_erap f = some T → Known Tryz.prog [] f T := (Knowns.cons kWipeR (Knowns.cons kEraR Knowns.nil)).get
noncomputable def t_erap : Con := fun args regs => nfun Tryz.prog [] c_erap [] Tryz.f158 args regs
theorem k_erap : Known Tryz.prog [] 158 t_erap := known_inl Tryz.func158 rfl (by kernel_rfl) mixed kc_erap (by kernel_rfl)
theorem erap_tree (how : Int) (s : Scr) (R : Out → Prop) : (t_erap [.c (.p 0 0 0), .c (.i .i64 how)] [scr s]).run R =
    sel (how == 0) (sel (decide (s.row > 0)) ((0 ≤ w64 (s.row + 1) ∧ (24 : Int) ≤ 24) ∧ On (wipeRS (w64 (s.row + 1)) 24 s) ∧ R (done (eraRS how (wipeRS (w64 (s.row + 1)) 24 s)))) (On s ∧ R (done (eraRS how s))))
      (sel (how == 1) (((0 : Int) ≤ 1 ∧ w64 (s.row - 1) ≤ 24) ∧ On (wipeRS 1 (w64 (s.row - 1)) s) ∧ R (done (eraRS how (wipeRS 1 (w64 (s.row - 1)) s))))
        (sel (how == 2) (((0 : Int) ≤ 1 ∧ (24 : Int) ≤ 24) ∧ R (done (wipeRS 1 24 s))) (R (done s)))) := by kernel_rfl
noncomputable def tEraP : Con := con1 (fun _ => On) eraPS
theorem kEraP : Known Tryz.prog [] 158 tEraP := by
  refine k_erap.less fun args regs R h => Box.out ?_
  obtain ⟨how, s, rfl, rfl, h1, h2⟩ := con1_in h
  obtain ⟨⟨r0, r1⟩, -⟩ := id h1
  unfold eraPS at h2
  refine Box.of_eq (erap_tree how s R) (sel_eq (fun e => sel_by (fun e2 => ?_) fun e2 => ?_) fun e => sel_eq (fun e2 => ?_) fun e2 => sel_eq (fun e3 => ?_) fun e3 => ?_)
  · rw [if_pos e, if_pos e2] at h2; rw [w64_id (by omega)]; exact ⟨⟨by omega, by omega⟩, h1, h2⟩
  · rw [if_pos e, if_neg e2] at h2; exact ⟨h1, h2⟩
  · rw [if_neg e, if_pos e2] at h2; rw [w64_id (by omega)]; exact ⟨⟨by omega, by omega⟩, h1, h2⟩
  · rw [if_neg e, if_neg e2, if_pos e3] at h2; exact ⟨⟨by omega, by omega⟩, h2⟩
  · rw [if_neg e, if_neg e2, if_neg e3] at h2; exact h2
def goToS (row col : Int) (s : Scr) : Scr := if row < 0 ∨ row > 24 ∨ col < 1 ∨ col > 40 then s else if row = 0 ∧ s.row > 0 then resetS { s with row := row, col := col - 1, kr := s.row, kc := s.col } else resetS { s with row := row, col := col - 1 }
noncomputable def t_goTo : Con := fun args regs => nfun Tryz.prog [] c_home [] Tryz.f156 args regs
theorem k_goTo : Known Tryz.prog [] 156 t_goTo := known_inl Tryz.func156 rfl (by kernel_rfl) mixed kc_home (by kernel_rfl)
theorem goTo_tree (row col : Int) (s : Scr) (R : Out → Prop) : (t_goTo [.c (.p 0 0 0), .c (.i .i64 row), .c (.i .i64 col)] [scr s]).run R =
    sel (decide (row < 0)) (R (done s)) (sel (decide (row > 24)) (R (done s)) (sel (decide (col < 1)) (R (done s)) (sel (decide (col > 40)) (R (done s))
     (sel (row == 0) (sel (decide (s.row > 0)) (True ∧ R (done (resetS { s with row := row, col := w64 (col - 1), kr := s.row, kc := s.col }))) (True ∧ R (done (resetS { s with row := row, col := w64 (col - 1) }))))
      (True ∧ R (done (resetS { s with row := row, col := w64 (col - 1) }))))))) := by kernel_rfl
noncomputable def tGoTo : Con := con2 (fun _ _ _ => True) goToS
theorem kGoTo : Known Tryz.prog [] 156 tGoTo := by
  refine k_goTo.less fun args regs R h => Box.out ?_
  obtain ⟨row, col, s, rfl, rfl, -, h2⟩ := con2_in h
  unfold goToS at h2
  refine Box.of_eq (goTo_tree row col s R) (sel_by (fun a => ?_) fun a => sel_by (fun b => ?_) fun b => sel_by (fun c => ?_) fun c => sel_by (fun d => ?_) fun d => ?_)
  · rw [if_pos (.inl a)] at h2; exact h2
  · rw [if_pos (.inr (.inl b))] at h2; exact h2
  · rw [if_pos (.inr (.inr (.inl c)))] at h2; exact h2
  · rw [if_pos (.inr (.inr (.inr d)))] at h2; exact h2
  · rw [if_neg (by omega)] at h2
    rw [w64_id (by omega)]
    refine sel_eq (fun e => sel_by (fun f => ?_) fun f => ?_) fun e => ?_
    · rw [if_pos ⟨e, f⟩] at h2; exact ⟨trivial, h2⟩
    · rw [if_neg (fun x => f x.2)] at h2; exact ⟨trivial, h2⟩
    · rw [if_neg (fun x => e x.1)] at h2; exact ⟨trivial, h2⟩
theorem goToS_on {row col : Int} {s : Scr} (h : On s) : On (goToS row col s) := by
  obtain ⟨h1, h2, h3, h4⟩ := h
  unfold goToS
  split
  · exact ⟨h1, h2, h3, h4⟩
  · split
    · exact ⟨⟨by show 0 ≤ row; omega, by show row ≤ 24; omega⟩, ⟨by show 0 ≤ col - 1; omega, by show col - 1 ≤ 39; omega⟩, h1, h2⟩
    · exact ⟨⟨by show 0 ≤ row; omega, by show row ≤ 24; omega⟩, ⟨by show 0 ≤ col - 1; omega, by show col - 1 ≤ 39; omega⟩, h3, h4⟩
theorem wipeRS_on {a b : Int} {s : Scr} (h : On s) : On (wipeRS a b s) := h
theorem wipeS_on {a b c : Int} {s : Scr} (h : On s) : On (wipeS a b c s) := h
theorem homeS_on {s : Scr} (h : On s) : On (homeS s) := ⟨⟨by show (0 : Int) ≤ 1; omega, by show (1 : Int) ≤ 24; omega⟩, ⟨by show (0 : Int) ≤ 0; omega, by show (0 : Int) ≤ 39; omega⟩, h.2.2⟩
theorem clearS_on {what : Int} {s : Scr} (h : On s) : On (clearS what s) := by
  unfold clearS
  split
  · exact homeS_on (wipeRS_on h)
  · split
    · exact wipeS_on h
    · exact h
theorem eraRS_on {how : Int} {s : Scr} (h : On s) : On (eraRS how s) := by
  unfold eraRS
  split
  · exact wipeS_on h
  · split
    · exact wipeS_on h
    · split
      · exact wipeS_on h
      · exact h
theorem eraPS_on {how : Int} {s : Scr} (h : On s) : On (eraPS how s) := by
  unfold eraPS
  split
  · split
    · exact eraRS_on (wipeRS_on h)
    · exact eraRS_on h
  · split
    · exact eraRS_on (wipeRS_on h)
    · split
      · exact wipeRS_on h
      · exact h
end Go.Proofs.YtjfgphfdaghilaaGreatDoor.scr
end
section
namespace Go.Proofs.YtjfgphfdaghilaaGreatDoor.scr
open Go Go.Nx
set_option maxRecDepth 100000

/-! ### attributes -/
def waitS (a : Int) (s : Scr) : Scr := if a = 88 ∨ a = 95 then { s with co := a == 88, wt := true } else if a = 90 ∨ a = 89 then { s with un := a == 90, wt := true } else { s with bg := w64 (a - 80), wt := true }
/-- With one number, whatever it is. -/
noncomputable def conR1 (f : Int → Scr → Scr) : Con := fun args regs => onS args regs fun l s => match l with
  | [.c (.i .i64 a)] => .ret (done (f a s))
  | _ => .fail
theorem conR1_in {f : Int → Scr → Scr} {args : List NV} {regs : List Reg} {R : Out → Prop} (h : (conR1 f args regs).run R) : ∃ a s, args = [.c (.p 0 0 0), .c (.i .i64 a)] ∧ regs = [scr s] ∧ R (done (f a s)) := by
  obtain ⟨l, s, rfl, rfl, h'⟩ := onS_in h
  clear h
  split at h'
  · exact ⟨_, s, rfl, rfl, h'⟩
  · exact h'.elim
noncomputable def t_waiting : Con := fun args regs => nfun Tryz.prog [] (fun _ => Option.none) [] Tryz.f233 args regs
theorem k_waiting : Known Tryz.prog [] 233 t_waiting := known_inl Tryz.func233 rfl (by kernel_rfl) mixed con_none (by kernel_rfl)
theorem waiting_tree (a : Int) (s : Scr) (R : Out → Prop) : (t_waiting [.c (.p 0 0 0), .c (.i .i64 a)] [scr s]).run R =
    sel (a == 88) (R (done { s with co := a == 88, wt := true })) (sel (a == 95) (R (done { s with co := a == 88, wt := true })) (sel (a == 90) (R (done { s with un := a == 90, wt := true })) (sel (a == 89) (R (done { s with un := a == 90, wt := true }))
      (R (done { s with bg := w64 (a - 80), wt := true }))))) := by kernel_rfl
noncomputable def tWaiting : Con := conR1 waitS
theorem kWaiting : Known Tryz.prog [] 233 tWaiting := by
  refine k_waiting.less fun args regs R h => Box.out ?_
  obtain ⟨a, s, rfl, rfl, h2⟩ := conR1_in h
  unfold waitS at h2
  refine Box.of_eq (waiting_tree a s R) (sel_eq (fun e => ?_) fun e => sel_eq (fun e2 => ?_) fun e2 => sel_eq (fun e3 => ?_) fun e3 => sel_eq (fun e4 => ?_) fun e4 => ?_)
  · rw [if_pos (.inl e)] at h2; exact h2
  · rw [if_pos (.inr e2)] at h2; exact h2
  · rw [if_neg (by omega), if_pos (.inl e3)] at h2; exact h2
  · rw [if_neg (by omega), if_pos (.inr e4)] at h2; exact h2
  · rw [if_neg (by omega), if_neg (by omega)] at h2; exact h2
def sizedS (a b : Bool) (s : Scr) : Scr := { s with ta := a, wi := b }
noncomputable def t_sized : Con := fun args regs => nfun Tryz.prog [] (fun _ => Option.none) [] Tryz.f234 args regs
theorem k_sized : Known Tryz.prog [] 234 t_sized := known_inl Tryz.func234 rfl (by kernel_rfl) mixed con_none (by kernel_rfl)
theorem sized_tree (a b : Bool) (s : Scr) (R : Out → Prop) : (t_sized [.c (.p 0 0 0), .c (.b a), .c (.b b)] [scr s]).run R = R (done (sizedS a b s)) := by kernel_rfl
noncomputable def tSized : Con := fun args regs => onS args regs fun l s => match l with
  | [.c (.b a), .c (.b b)] => .ret (done (sizedS a b s))
  | _ => .fail
theorem kSized : Known Tryz.prog [] 234 tSized := by
  refine k_sized.less fun args regs R h => Box.out ?_
  obtain ⟨l, s, rfl, rfl, h'⟩ := onS_in h
  clear h
  split at h'
  case h_2 => exact h'.elim
  exact Box.of_eq (sized_tree _ _ s R) h'
def attrB (a : Int) (s : Scr) : Scr := if a = 72 ∨ a = 73 then { s with fl := a == 72 } else if a = 76 ∨ a = 77 ∨ a = 78 ∨ a = 79 then sizedS (a == 77 || a == 79) (a == 78 || a == 79) s else if a = 92 ∨ a = 93 then { s with iv := a == 93 } else s
def attrS (a : Int) (s : Scr) : Scr := attrB a (if 64 ≤ a ∧ a < 72 then { s with fg := a - 64 } else if (80 ≤ a ∧ a < 88) ∨ a = 88 ∨ a = 95 ∨ a = 90 ∨ a = 89 then waitS a s else s)
noncomputable def c_attr : FuncId → Option Con := conOf [(233, tWaiting), (234, tSized)]
theorem kc_attr : ∀ f T, c_attr f = some T → Known Tryz.prog [] f T := (Knowns.cons kWaiting (Knowns.cons kSized Knowns.nil)).get
noncomputable def t_attr : Con := fun args regs => nfun Tryz.prog [] c_attr [] Tryz.f157 args regs
theorem k_attr : Known Tryz.prog [] 157 t_attr := known_inl Tryz.func157 rfl (by kernel_rfl) mixed kc_attr (by kernel_rfl)
theorem attr_64 (s : Scr) (R : Out → Prop) : (t_attr [.c (.p 0 0 0), .c (.i .i64 64)] [scr s]).run R = R (done (attrS 64 s)) := by kernel_rfl
theorem attr_65 (s : Scr) (R : Out → Prop) : (t_attr [.c (.p 0 0 0), .c (.i .i64 65)] [scr s]).run R = R (done (attrS 65 s)) := by kernel_rfl
theorem attr_66 (s : Scr) (R : Out → Prop) : (t_attr [.c (.p 0 0 0), .c (.i .i64 66)] [scr s]).run R = R (done (attrS 66 s)) := by kernel_rfl
theorem attr_67 (s : Scr) (R : Out → Prop) : (t_attr [.c (.p 0 0 0), .c (.i .i64 67)] [scr s]).run R = R (done (attrS 67 s)) := by kernel_rfl
theorem attr_68 (s : Scr) (R : Out → Prop) : (t_attr [.c (.p 0 0 0), .c (.i .i64 68)] [scr s]).run R = R (done (attrS 68 s)) := by kernel_rfl
theorem attr_69 (s : Scr) (R : Out → Prop) : (t_attr [.c (.p 0 0 0), .c (.i .i64 69)] [scr s]).run R = R (done (attrS 69 s)) := by kernel_rfl
theorem attr_70 (s : Scr) (R : Out → Prop) : (t_attr [.c (.p 0 0 0), .c (.i .i64 70)] [scr s]).run R = R (done (attrS 70 s)) := by kernel_rfl
theorem attr_71 (s : Scr) (R : Out → Prop) : (t_attr [.c (.p 0 0 0), .c (.i .i64 71)] [scr s]).run R = R (done (attrS 71 s)) := by kernel_rfl
theorem attr_72 (s : Scr) (R : Out → Prop) : (t_attr [.c (.p 0 0 0), .c (.i .i64 72)] [scr s]).run R = R (done (attrS 72 s)) := by kernel_rfl
theorem attr_73 (s : Scr) (R : Out → Prop) : (t_attr [.c (.p 0 0 0), .c (.i .i64 73)] [scr s]).run R = R (done (attrS 73 s)) := by kernel_rfl
theorem attr_74 (s : Scr) (R : Out → Prop) : (t_attr [.c (.p 0 0 0), .c (.i .i64 74)] [scr s]).run R = R (done (attrS 74 s)) := by kernel_rfl
theorem attr_75 (s : Scr) (R : Out → Prop) : (t_attr [.c (.p 0 0 0), .c (.i .i64 75)] [scr s]).run R = R (done (attrS 75 s)) := by kernel_rfl
theorem attr_76 (s : Scr) (R : Out → Prop) : (t_attr [.c (.p 0 0 0), .c (.i .i64 76)] [scr s]).run R = R (done (attrS 76 s)) := by kernel_rfl
theorem attr_77 (s : Scr) (R : Out → Prop) : (t_attr [.c (.p 0 0 0), .c (.i .i64 77)] [scr s]).run R = R (done (attrS 77 s)) := by kernel_rfl
theorem attr_78 (s : Scr) (R : Out → Prop) : (t_attr [.c (.p 0 0 0), .c (.i .i64 78)] [scr s]).run R = R (done (attrS 78 s)) := by kernel_rfl
theorem attr_79 (s : Scr) (R : Out → Prop) : (t_attr [.c (.p 0 0 0), .c (.i .i64 79)] [scr s]).run R = R (done (attrS 79 s)) := by kernel_rfl
theorem attr_80 (s : Scr) (R : Out → Prop) : (t_attr [.c (.p 0 0 0), .c (.i .i64 80)] [scr s]).run R = R (done (attrS 80 s)) := by kernel_rfl
theorem attr_81 (s : Scr) (R : Out → Prop) : (t_attr [.c (.p 0 0 0), .c (.i .i64 81)] [scr s]).run R = R (done (attrS 81 s)) := by kernel_rfl
theorem attr_82 (s : Scr) (R : Out → Prop) : (t_attr [.c (.p 0 0 0), .c (.i .i64 82)] [scr s]).run R = R (done (attrS 82 s)) := by kernel_rfl
theorem attr_83 (s : Scr) (R : Out → Prop) : (t_attr [.c (.p 0 0 0), .c (.i .i64 83)] [scr s]).run R = R (done (attrS 83 s)) := by kernel_rfl
theorem attr_84 (s : Scr) (R : Out → Prop) : (t_attr [.c (.p 0 0 0), .c (.i .i64 84)] [scr s]).run R = R (done (attrS 84 s)) := by kernel_rfl
theorem attr_85 (s : Scr) (R : Out → Prop) : (t_attr [.c (.p 0 0 0), .c (.i .i64 85)] [scr s]).run R = R (done (attrS 85 s)) := by kernel_rfl
theorem attr_86 (s : Scr) (R : Out → Prop) : (t_attr [.c (.p 0 0 0), .c (.i .i64 86)] [scr s]).run R = R (done (attrS 86 s)) := by kernel_rfl
theorem attr_87 (s : Scr) (R : Out → Prop) : (t_attr [.c (.p 0 0 0), .c (.i .i64 87)] [scr s]).run R = R (done (attrS 87 s)) := by kernel_rfl
theorem attr_88 (s : Scr) (R : Out → Prop) : (t_attr [.c (.p 0 0 0), .c (.i .i64 88)] [scr s]).run R = R (done (attrS 88 s)) := by kernel_rfl
theorem attr_89 (s : Scr) (R : Out → Prop) : (t_attr [.c (.p 0 0 0), .c (.i .i64 89)] [scr s]).run R = R (done (attrS 89 s)) := by kernel_rfl
theorem attr_90 (s : Scr) (R : Out → Prop) : (t_attr [.c (.p 0 0 0), .c (.i .i64 90)] [scr s]).run R = R (done (attrS 90 s)) := by kernel_rfl
theorem attr_91 (s : Scr) (R : Out → Prop) : (t_attr [.c (.p 0 0 0), .c (.i .i64 91)] [scr s]).run R = R (done (attrS 91 s)) := by kernel_rfl
theorem attr_92 (s : Scr) (R : Out → Prop) : (t_attr [.c (.p 0 0 0), .c (.i .i64 92)] [scr s]).run R = R (done (attrS 92 s)) := by kernel_rfl
theorem attr_93 (s : Scr) (R : Out → Prop) : (t_attr [.c (.p 0 0 0), .c (.i .i64 93)] [scr s]).run R = R (done (attrS 93 s)) := by kernel_rfl
theorem attr_94 (s : Scr) (R : Out → Prop) : (t_attr [.c (.p 0 0 0), .c (.i .i64 94)] [scr s]).run R = R (done (attrS 94 s)) := by kernel_rfl
theorem attr_95 (s : Scr) (R : Out → Prop) : (t_attr [.c (.p 0 0 0), .c (.i .i64 95)] [scr s]).run R = R (done (attrS 95 s)) := by kernel_rfl
def w_lo (a : Int) : List RC := [.f (decide (a ≥ 64)), .F 3, .f (decide (a ≥ 80)), .F 3, .f (a == 88), .f (a == 95), .f (a == 90), .f (a == 89), .f (a == 72), .f (a == 73), .f (a == 76), .f (a == 77), .f (a == 78), .f (a == 79), .f (a == 93), .f (a == 92)]
theorem r_lo (a : Int) (s : Scr) (R : Out → Prop) : ((t_attr [.c (.p 0 0 0), .c (.i .i64 a)] [scr s]).fol (Nx.scr (w_lo a))).run R = road (w_lo a) (R (done s)) := by kernel_rfl
def w_hi (a : Int) : List RC := [.t (decide (a ≥ 64)), .T 2, .f (decide (a < 72)), .t (decide (a ≥ 80)), .T 2, .f (decide (a < 88)), .f (a == 88), .f (a == 95), .f (a == 90), .f (a == 89), .f (a == 72), .f (a == 73), .f (a == 76), .f (a == 77), .f (a == 78), .f (a == 79), .f (a == 93), .f (a == 92)]
theorem r_hi (a : Int) (s : Scr) (R : Out → Prop) : ((t_attr [.c (.p 0 0 0), .c (.i .i64 a)] [scr s]).fol (Nx.scr (w_hi a))).run R = road (w_hi a) (R (done s)) := by kernel_rfl
noncomputable def tAttr : Con := conR1 attrS
theorem kAttr : Known Tryz.prog [] 157 tAttr := by
  refine k_attr.less fun args regs R h => Box.out ?_
  obtain ⟨a, s, rfl, rfl, h2⟩ := conR1_in h
  clear h
  by_cases hlo : a < 64
  · have e : attrS a s = s := by unfold attrS attrB; rw [if_neg (by omega), if_neg (by omega), if_neg (by omega), if_neg (by omega), if_neg (by omega)]
    rw [e] at h2
    refine ⟨by_road (r_lo a s R) ?_ h2⟩
    exact ⟨dF (by omega), dF (by omega), bF (by omega), bF (by omega), bF (by omega), bF (by omega), bF (by omega), bF (by omega), bF (by omega), bF (by omega), bF (by omega), bF (by omega), bF (by omega), bF (by omega), trivial⟩
  by_cases hhi : 95 < a
  · have e : attrS a s = s := by unfold attrS attrB; rw [if_neg (by omega), if_neg (by omega), if_neg (by omega), if_neg (by omega), if_neg (by omega)]
    rw [e] at h2
    refine ⟨by_road (r_hi a s R) ?_ h2⟩
    exact ⟨dT (by omega), dF (by omega), dT (by omega), dF (by omega), bF (by omega), bF (by omega), bF (by omega), bF (by omega), bF (by omega), bF (by omega), bF (by omega), bF (by omega), bF (by omega), bF (by omega), bF (by omega), bF (by omega), trivial⟩
  have hc : a = 64 ∨ a = 65 ∨ a = 66 ∨ a = 67 ∨ a = 68 ∨ a = 69 ∨ a = 70 ∨ a = 71 ∨ a = 72 ∨ a = 73 ∨ a = 74 ∨ a = 75 ∨ a = 76 ∨ a = 77 ∨ a = 78 ∨ a = 79 ∨ a = 80 ∨ a = 81 ∨ a = 82 ∨ a = 83 ∨ a = 84 ∨ a = 85 ∨ a = 86 ∨ a = 87 ∨ a = 88 ∨ a = 89 ∨ a = 90 ∨ a = 91 ∨ a = 92 ∨ a = 93 ∨ a = 94 ∨ a = 95 := by omega
  rcases hc with rfl | rfl | rfl | rfl | rfl | rfl | rfl | rfl | rfl | rfl | rfl | rfl | rfl | rfl | rfl | rfl | rfl | rfl | rfl | rfl | rfl | rfl | rfl | rfl | rfl | rfl | rfl | rfl | rfl | rfl | rfl | rfl
  · exact Box.of_eq (attr_64 s R) h2
  · exact Box.of_eq (attr_65 s R) h2
  · exact Box.of_eq (attr_66 s R) h2
  · exact Box.of_eq (attr_67 s R) h2
  · exact Box.of_eq (attr_68 s R) h2
  · exact Box.of_eq (attr_69 s R) h2
  · exact Box.of_eq (attr_70 s R) h2
  · exact Box.of_eq (attr_71 s R) h2
  · exact Box.of_eq (attr_72 s R) h2
  · exact Box.of_eq (attr_73 s R) h2
  · exact Box.of_eq (attr_74 s R) h2
  · exact Box.of_eq (attr_75 s R) h2
  · exact Box.of_eq (attr_76 s R) h2
  · exact Box.of_eq (attr_77 s R) h2
  · exact Box.of_eq (attr_78 s R) h2
  · exact Box.of_eq (attr_79 s R) h2
  · exact Box.of_eq (attr_80 s R) h2
  · exact Box.of_eq (attr_81 s R) h2
  · exact Box.of_eq (attr_82 s R) h2
  · exact Box.of_eq (attr_83 s R) h2
  · exact Box.of_eq (attr_84 s R) h2
  · exact Box.of_eq (attr_85 s R) h2
  · exact Box.of_eq (attr_86 s R) h2
  · exact Box.of_eq (attr_87 s R) h2
  · exact Box.of_eq (attr_88 s R) h2
  · exact Box.of_eq (attr_89 s R) h2
  · exact Box.of_eq (attr_90 s R) h2
  · exact Box.of_eq (attr_91 s R) h2
  · exact Box.of_eq (attr_92 s R) h2
  · exact Box.of_eq (attr_93 s R) h2
  · exact Box.of_eq (attr_94 s R) h2
  · exact Box.of_eq (attr_95 s R) h2
end Go.Proofs.YtjfgphfdaghilaaGreatDoor.scr
end
section
namespace Go.Proofs.YtjfgphfdaghilaaGreatDoor.scr
open Go Go.Nx
set_option maxRecDepth 100000

noncomputable def t_plain0 : Con := fun args regs => nfun Tryz.prog [] (fun _ => Option.none) [] Tryz.f317 args regs
theorem k_plain0 : Known Tryz.prog [] 317 t_plain0 := known_inl Tryz.func317 rfl (by kernel_rfl) mixed con_none (by kernel_rfl)
noncomputable def t_french : Con := fun args regs => nfun Tryz.prog [] (fun _ => Option.none) [] Tryz.f318 args regs
theorem k_french : Known Tryz.prog [] 318 t_french := known_inl Tryz.func318 rfl (by kernel_rfl) mixed con_none (by kernel_rfl)
noncomputable def t_mglyph : Con := fun args regs => nfun Tryz.prog [] (fun _ => Option.none) [] Tryz.f121 args regs
theorem k_mglyph : Known Tryz.prog [] 121 t_mglyph := known_inl Tryz.func121 rfl (by kernel_rfl) mixed con_none (by kernel_rfl)
noncomputable def X_special : Cx := { P := Tryz.prog, con := (fun _ => Option.none), glob := [], m := 0, loops := [] }
noncomputable def t_special : Con := fun args regs => if regs.length = 0 then nfun Tryz.prog [] (fun _ => Option.none) [(0, [0, 5, 10, 11, 12], unroll X_special 0 [0, 5, 10, 11, 12] [2, 3] (bodyLoop Tryz.f319 0) 18)] Tryz.f319 args regs else .fail
theorem k_special : Known Tryz.prog [] 319 t_special := known_loops 0 Tryz.func319 rfl (by kernel_rfl) mixed con_none (LAll.one (id := 0) (body := bodyLoop Tryz.f319 0) (by kernel_rfl) rfl (unroll_ok (X := X_special) con_none mixed (LAll.none (by kernel_rfl)) [0, 5, 10, 11, 12] [2, 3] 18))
noncomputable def t_amore : Con := fun args regs => nfun Tryz.prog [] (fun _ => Option.none) [] Tryz.f320 args regs
theorem k_amore : Known Tryz.prog [] 320 t_amore := known_inl Tryz.func320 rfl (by kernel_rfl) mixed con_none (by kernel_rfl)
noncomputable def c_apairs : FuncId → Option Con := conOf [(320, t_amore)]
theorem kc_apairs : ∀ f T, c_apairs f = some T → Known Tryz.prog [] f T := (Knowns.cons k_amore Knowns.nil).get
noncomputable def t_apairs : Con := fun args regs => nfun Tryz.prog [] c_apairs [] Tryz.f304 args regs
theorem k_apairs : Known Tryz.prog [] 304 t_apairs := known_inl Tryz.func304 rfl (by kernel_rfl) mixed kc_apairs (by kernel_rfl)
noncomputable def t_lplain : Con := fun args regs => nfun Tryz.prog [] (fun _ => Option.none) [] Tryz.f305 args regs
theorem k_lplain : Known Tryz.prog [] 305 t_lplain := known_inl Tryz.func305 rfl (by kernel_rfl) mixed con_none (by kernel_rfl)
noncomputable def c_ajoin : FuncId → Option Con := conOf [(304, t_apairs), (305, t_lplain)]
theorem kc_ajoin : ∀ f T, c_ajoin f = some T → Known Tryz.prog [] f T := (Knowns.cons k_apairs (Knowns.cons k_lplain Knowns.nil)).get
noncomputable def X_ajoin : Cx := { P := Tryz.prog, con := c_ajoin, glob := [], m := 0, loops := [] }
noncomputable def t_ajoin : Con := fun args regs => if regs.length = 0 then nfun Tryz.prog [] c_ajoin [(0, [0, 1, 16, 17, 18], unroll X_ajoin 0 [0, 1, 16, 17, 18] [0, 1, 4] (bodyLoop Tryz.f288 0) 22)] Tryz.f288 args regs else .fail
theorem k_ajoin : Known Tryz.prog [] 288 t_ajoin := known_loops 0 Tryz.func288 rfl (by kernel_rfl) mixed kc_ajoin (LAll.one (id := 0) (body := bodyLoop Tryz.f288 0) (by kernel_rfl) rfl (unroll_ok (X := X_ajoin) kc_ajoin mixed (LAll.none (by kernel_rfl)) [0, 1, 16, 17, 18] [0, 1, 4] 22))
noncomputable def t_maccent : Con := fun args regs => nfun Tryz.prog [] (fun _ => Option.none) [] Tryz.f316 args regs
theorem k_maccent : Known Tryz.prog [] 316 t_maccent := known_inl Tryz.func316 rfl (by kernel_rfl) mixed con_none (by kernel_rfl)
noncomputable def c_mchar : FuncId → Option Con := conOf [(317, t_plain0), (318, t_french), (121, t_mglyph), (319, t_special)]
theorem kc_mchar : ∀ f T, c_mchar f = some T → Known Tryz.prog [] f T := (Knowns.cons k_plain0 (Knowns.cons k_french (Knowns.cons k_mglyph (Knowns.cons k_special Knowns.nil)))).get
noncomputable def t_mchar : Con := fun args regs => nfun Tryz.prog [] c_mchar [] Tryz.f301 args regs
theorem k_mchar : Known Tryz.prog [] 301 t_mchar := known_inl Tryz.func301 rfl (by kernel_rfl) mixed kc_mchar (by kernel_rfl)

def gO (n : Int) : Out := ⟨.v (.c (.i .i64 n)), []⟩
theorem sel_val {c : Bool} {R : Int → Prop} {a b : Int} {A B : Prop} (h : R (bif c then a else b)) (ha : R a → A) (hb : R b → B) : sel c A B := by
  cases c
  · exact selF rfl (hb h)
  · exact selT rfl (ha h)
/-! ### choices by a list -/
def valP (ps : List (Int × Int)) (c : Int) (V : Int → Int) (d : Int) : Int := ps.foldr (fun p r => bif p.1 == c then V p.2 else r) d
def runP (ps : List (Int × Int)) (c : Int) (K : Int → Prop) (E : Prop) : Prop := ps.foldr (fun p r => sel (p.1 == c) (K p.2) r) E
theorem runP_in {R : Int → Prop} {c : Int} {V : Int → Int} {d : Int} {K : Int → Prop} {E : Prop} (hK : ∀ g, R (V g) → K g) (hE : R d → E) : ∀ {ps : List (Int × Int)}, R (valP ps c V d) → runP ps c K E
  | [], h => hE h
  | p :: ps, h => sel_val (R := R) (c := p.1 == c) (a := V p.2) (b := valP ps c V d) h (hK p.2) (fun h => runP_in hK hE h)
def valQ (ps : List (Int × Int)) (c : Int) (d : Int) : Int := ps.foldr (fun p r => bif c == p.1 then p.2 else r) d
def runQ (ps : List (Int × Int)) (c : Int) (K : Int → Prop) (E : Prop) : Prop := ps.foldr (fun p r => sel (c == p.1) (K p.2) r) E
theorem runQ_in {R : Int → Prop} {c : Int} {d : Int} {E : Prop} (hE : R d → E) : ∀ {ps : List (Int × Int)}, R (valQ ps c d) → runQ ps c R E
  | [], h => hE h
  | p :: ps, h => sel_val (R := R) (c := c == p.1) (a := p.2) (b := valQ ps c d) h id (fun h => runQ_in hE h)

/-! ### a sign of a set -/
def ps0 : List (Int × Int) := [(94, 8593), (96, 9472), (123, 9615), (125, 9621), (126, 9620), (127, 9632)]
def ps2 : List (Int × Int) := [(0x23, 0xa3), (0x24, 0x24), (0x26, 0x23), (0x27, 0xa7), (0x2c, 0x2190), (0x2d, 0x2191), (0x2e, 0x2192), (0x2f, 0x2193), (0x30, 0xb0), (0x31, 0xb1), (0x38, 0xf7), (0x3c, 0xbc), (0x3d, 0xbd), (0x3e, 0xbe), (0x6a, 0x152), (0x7a, 0x153), (0x7b, 0xdf)]
def b7 (l : Int) : Int := bits .and .u8 l 127
def mos1 (x : Int) : Int := bits .or .i64 1048576 (bits .and .i64 (bits .or .i64 (w64 (bits .and .u8 x 31)) 32) 63)
def mos0 (x : Int) : Int := bits .or .i64 1048576 (bits .and .i64 (w64 (bits .and .u8 x 31)) 63)
def chV (set l : Int) : Int := bif decide (b7 l < 32) then 32 else bif set == 0 then valQ ps0 (b7 l) (w64 (b7 l)) else
  bif set == 1 then (bif decide (b7 (b7 l) < 32) then 1048576 else bif bits .and .u8 (b7 (b7 l)) 64 != 0 then mos1 (b7 (b7 l)) else mos0 (b7 (b7 l))) else
  bif set == 2 then valP ps2 (b7 (b7 l)) id 9632 else 32
theorem char_tree (set l : Int) (R : Out → Prop) : (t_mchar [.c (.i .i64 set), .c (.i .u8 l), .c (.b false)] []).run R =
    sel (decide (b7 l < 32)) (R (gO 32)) (sel (set == 0) (runQ ps0 (b7 l) (fun g => R (gO g)) (R (gO (w64 (b7 l))))) (sel (set == 1)
      (sel (decide (b7 (b7 l) < 32)) (R (gO 1048576)) (sel (bits .and .u8 (b7 (b7 l)) 64 != 0) (R (gO (mos1 (b7 (b7 l))))) (R (gO (mos0 (b7 (b7 l)))))))
      (sel (set == 2) (runP ps2 (b7 (b7 l)) (fun g => R (gO g)) (R (gO 9632))) (R (gO 32))))) := by kernel_rfl
noncomputable def tChar : Con := fun args regs => match args, regs with
  | [.c (.i .i64 set), .c (.i .u8 l), .c (.b false)], [] => .ret (gO (chV set l))
  | _, _ => .fail
theorem kChar : Known Tryz.prog [] 301 tChar := by
  refine k_mchar.less fun args regs R h => Box.out ?_
  unfold tChar at h
  split at h
  case h_2 => exact h.elim
  rename_i set l
  have h : (fun n => R (gO n)) (chV set l) := h
  unfold chV at h
  have sv := fun {c : Bool} {a b : Int} {A B : Prop} => @sel_val c (fun n => R (gO n)) a b A B
  refine Box.of_eq (char_tree set l R) (sv h id fun h => sv h (fun h => runQ_in (R := fun n => R (gO n)) id h) fun h => sv h (fun h => sv h id fun h => sv h id id) fun h => sv h (fun h => runP_in (R := fun n => R (gO n)) (V := id) (fun g h => h) id h) id)

/-! ### a letter with a mark -/
def accC (m : Int) : Nat := bif b7 m == 65 then 1 else bif b7 m == 66 then 2 else bif b7 m == 67 then 3 else bif b7 m == 72 then 4 else bif b7 m == 75 then 5 else 0
def accN (j : Nat) : Int := [0, 1, 2, 3, 8, 11].getD j 0
def accB (j : Nat) : Bool := [false, true, true, true, true, true].getD j false
def accO (n : Int) (b : Bool) : Out := ⟨.tu [.c (.i .i64 n), .c (.b b)], []⟩
theorem acc_tree (m : Int) (R : Out → Prop) : (t_maccent [.c (.i .u8 m)] []).run R =
    (let K := R (accO (w64 (bits .and .u8 (b7 m) 15)) true)
     sel (b7 m == 65) K (sel (b7 m == 66) K (sel (b7 m == 67) K (sel (b7 m == 72) K (sel (b7 m == 75) K (R (accO 0 false))))))) := by kernel_rfl
noncomputable def tAccJ (j : Nat) : Con := fun args regs => match args, regs with
  | [.c (.i .u8 m)], [] => .must (accC m = j) (.ret (accO (accN j) (accB j)))
  | _, _ => .fail
theorem kAccJ (j : Nat) : Known Tryz.prog [] 316 (tAccJ j) := by
  refine k_maccent.less fun args regs R h => Box.out ?_
  unfold tAccJ at h
  split at h
  case h_2 => exact h.elim
  rename_i m
  obtain ⟨hj, h⟩ := h
  have h : R (accO (accN j) (accB j)) := h
  subst hj
  unfold accC at h
  have key : ∀ {v : Int} {n : Nat}, b7 m = v → w64 (bits .and .u8 v 15) = accN n → accB n = true → R (accO (accN n) (accB n)) → R (accO (w64 (bits .and .u8 (b7 m) 15)) true) := fun e1 e2 e3 h => by
    rw [e1, e2, ← e3]; exact h
  refine Box.of_eq (acc_tree m R) (sel_eq (fun e => ?_) fun e1 => sel_eq (fun e => ?_) fun e2 => sel_eq (fun e => ?_) fun e3 => sel_eq (fun e => ?_) fun e4 => sel_eq (fun e => ?_) fun e5 => ?_)
  · rw [bT e] at h; exact key (n := 1) e (by decide +kernel) rfl h
  · rw [bF e1, bT e] at h; exact key (n := 2) e (by decide +kernel) rfl h
  · rw [bF e1, bF e2, bT e] at h; exact key (n := 3) e (by decide +kernel) rfl h
  · rw [bF e1, bF e2, bF e3, bT e] at h; exact key (n := 4) e (by decide +kernel) rfl h
  · rw [bF e1, bF e2, bF e3, bF e4, bT e] at h; exact key (n := 5) e (by decide +kernel) rfl h
  · rw [bF e1, bF e2, bF e3, bF e4, bF e5] at h; exact h
def psA (j : Nat) : List (Int × Int) := match j with
  | 1 => [(65, 0xc0), (69, 0xc8), (73, 0xcc), (79, 0xd2), (85, 0xd9), (97, 0xe0), (101, 0xe8), (105, 0xec), (111, 0xf2), (117, 0xf9)]
  | 2 => [(65, 0xc1), (69, 0xc9), (73, 0xcd), (79, 0xd3), (85, 0xda), (89, 0xdd), (67, 0x106), (78, 0x143), (83, 0x15a), (90, 0x179), (97, 0xe1), (101, 0xe9), (105, 0xed), (111, 0xf3), (117, 0xfa), (121, 0xfd), (99, 0x107), (110, 0x144), (115, 0x15b), (122, 0x17a)]
  | 3 => [(65, 0xc2), (69, 0xca), (73, 0xce), (79, 0xd4), (85, 0xdb), (97, 0xe2), (101, 0xea), (105, 0xee), (111, 0xf4), (117, 0xfb)]
  | 4 => [(65, 0xc4), (69, 0xcb), (73, 0xcf), (79, 0xd6), (85, 0xdc), (97, 0xe4), (101, 0xeb), (105, 0xef), (111, 0xf6), (117, 0xfc), (121, 0xff)]
  | 5 => [(67, 0xc7), (83, 0x15e), (84, 0x162), (99, 0xe7), (115, 0x15f), (116, 0x163)]
  | _ => []
def plV (x : Int) (K : Int → Int) : Int := bif decide (x < 32) then K 32 else bif x == 127 then K 9632 else K (w64 x)
def plR (x : Int) (K : Int → Prop) : Prop := sel (decide (x < 32)) (K 32) (sel (x == 127) (K 9632) (K (w64 x)))
theorem plR_in {R : Int → Prop} {x : Int} {V : Int → Int} {K : Int → Prop} (hK : ∀ p, R (V p) → K p) (h : R (plV x V)) : plR x K :=
  sel_val h (hK _) fun h => sel_val h (hK _) (hK _)
def aftV (l g : Int) : Int := plV (b7 l) fun p => bif g != p then g else chV 0 l
def jnV (j : Nat) (l : Int) : Int := match j with
  | 0 => chV 0 l
  | j => valP (psA j) (b7 l) (aftV l) (plV (b7 (b7 l)) (aftV l))
noncomputable def c_joinJ (j : Nat) : FuncId → Option Con := conOf [(316, tAccJ j), (288, t_ajoin), (305, t_lplain), (301, tChar)]
theorem kc_joinJ (j : Nat) : ∀ f T, c_joinJ j f = some T → Known Tryz.prog [] f T := (Knowns.cons (kAccJ j) (Knowns.cons k_ajoin (Knowns.cons k_lplain (Knowns.cons kChar Knowns.nil)))).get
noncomputable def t_joinJ (j : Nat) : Con := fun args regs => nfun Tryz.prog [] (c_joinJ j) [] Tryz.f300 args regs
theorem k_joinJ (j : Nat) : Known Tryz.prog [] 300 (t_joinJ j) := known_inl Tryz.func300 rfl (by kernel_rfl) mixed (kc_joinJ j) (by kernel_rfl)
def aftR (l g : Int) (R : Out → Prop) : Prop := plR (b7 l) fun p => sel (g != p) (R (gO g)) (R (gO (chV 0 l)))
def tailR (l : Int) (R : Out → Prop) : Prop := plR (b7 (b7 l)) fun g => aftR l g R
def joinR (j : Nat) (m l : Int) (R : Out → Prop) : Prop := accC m = j ∧ runP (psA j) (b7 l) (fun g => aftR l g R) (sel (b7 l == 42) (tailR l R) (tailR l R))
theorem join_0 (m l : Int) (R : Out → Prop) : (t_joinJ 0 [.c (.i .u8 m), .c (.i .u8 l)] []).run R = (accC m = 0 ∧ R (gO (chV 0 l))) := by kernel_rfl
theorem join_1 (m l : Int) (R : Out → Prop) : (t_joinJ 1 [.c (.i .u8 m), .c (.i .u8 l)] []).run R = joinR 1 m l R := by kernel_rfl
theorem join_2 (m l : Int) (R : Out → Prop) : (t_joinJ 2 [.c (.i .u8 m), .c (.i .u8 l)] []).run R = joinR 2 m l R := by kernel_rfl
theorem join_3 (m l : Int) (R : Out → Prop) : (t_joinJ 3 [.c (.i .u8 m), .c (.i .u8 l)] []).run R = joinR 3 m l R := by kernel_rfl
theorem join_4 (m l : Int) (R : Out → Prop) : (t_joinJ 4 [.c (.i .u8 m), .c (.i .u8 l)] []).run R = joinR 4 m l R := by kernel_rfl
theorem join_5 (m l : Int) (R : Out → Prop) : (t_joinJ 5 [.c (.i .u8 m), .c (.i .u8 l)] []).run R = joinR 5 m l R := by kernel_rfl
theorem accC_lt (m : Int) : accC m ≤ 5 := by
  unfold accC
  cases (b7 m == 65) <;> cases (b7 m == 66) <;> cases (b7 m == 67) <;> cases (b7 m == 72) <;> cases (b7 m == 75) <;> decide
theorem aft_in {l g : Int} {R : Out → Prop} (h : R (gO (aftV l g))) : aftR l g R :=
  plR_in (R := fun n => R (gO n)) (V := fun p => bif g != p then g else chV 0 l) (fun p h => sel_val (R := fun n => R (gO n)) h id id) h
theorem tail_in {l : Int} {R : Out → Prop} (h : R (gO (plV (b7 (b7 l)) (aftV l)))) : tailR l R :=
  plR_in (R := fun n => R (gO n)) (V := aftV l) (fun g h => aft_in h) h
theorem join_in {j : Nat} {m l : Int} {R : Out → Prop} (hj : accC m = j) (h : R (gO (valP (psA j) (b7 l) (aftV l) (plV (b7 (b7 l)) (aftV l))))) : joinR j m l R :=
  ⟨hj, runP_in (R := fun n => R (gO n)) (V := aftV l) (fun g h => aft_in h) (fun h => sel_b (fun _ => tail_in h) fun _ => tail_in h) h⟩
theorem Known_pickG {P : Program} {gl : List Nat} {f : FuncId} {ι : Type} {T : ι → Con} (h : ∀ i, Known P gl f (T i)) (p : List NV → List Reg → ι) (i0 : ι) : Known P gl f fun args regs => T (p args regs) args regs :=
  ⟨(h i0).goes, fun args regs R hR => (h (p args regs)).sound args regs R hR⟩
def pickJ : List NV → List Reg → Nat
  | .c (.i _ m) :: _, _ => accC m
  | _, _ => 0
noncomputable def tMJoin : Con := fun args regs => match args, regs with
  | [.c (.i .u8 m), .c (.i .u8 l)], [] => .ret (gO (jnV (accC m) l))
  | _, _ => .fail
theorem kMJoin : Known Tryz.prog [] 300 tMJoin := by
  refine (Known_pickG k_joinJ pickJ 0).less fun args regs R h => Box.out ?_
  unfold tMJoin at h
  split at h
  case h_2 => exact h.elim
  rename_i m l
  have h : R (gO (jnV (accC m) l)) := h
  refine ⟨?_⟩
  show (t_joinJ (accC m) [.c (.i .u8 m), .c (.i .u8 l)] []).run R
  have hb := accC_lt m
  generalize hj : accC m = j at h hb ⊢
  refine Box.out ?_
  match j, hb, h with
  | 0, _, h => exact Box.of_eq (join_0 m l R) ⟨hj, h⟩
  | 1, _, h => exact Box.of_eq (join_1 m l R) (join_in hj h)
  | 2, _, h => exact Box.of_eq (join_2 m l R) (join_in hj h)
  | 3, _, h => exact Box.of_eq (join_3 m l R) (join_in hj h)
  | 4, _, h => exact Box.of_eq (join_4 m l R) (join_in hj h)
  | 5, _, h => exact Box.of_eq (join_5 m l R) (join_in hj h)
  | j + 6, hb, _ => exact absurd hb (by omega)
/-! ### none is below a blank -/
theorem u8_fin (x : Int) (h : 0 ≤ x ∧ x ≤ 255) : ∃ i : Fin 256, x = ((i.val : Nat) : Int) := ⟨⟨x.toNat, by omega⟩, by simp; omega⟩
theorem chV_ge (set l : Int) (h : 0 ≤ l ∧ l ≤ 255) : 32 ≤ chV set l := by
  obtain ⟨i, rfl⟩ := u8_fin l h
  have k0 : ∀ i : Fin 256, 32 ≤ chV 0 ((i.val : Nat) : Int) := by decide +kernel
  have k1 : ∀ i : Fin 256, 32 ≤ chV 1 ((i.val : Nat) : Int) := by decide +kernel
  have k2 : ∀ i : Fin 256, 32 ≤ chV 2 ((i.val : Nat) : Int) := by decide +kernel
  by_cases h0 : set = 0
  · rw [h0]; exact k0 i
  by_cases h1 : set = 1
  · rw [h1]; exact k1 i
  by_cases h2 : set = 2
  · rw [h2]; exact k2 i
  unfold chV
  rw [bF h0, bF h1, bF h2]
  cases decide (b7 ((i.val : Nat) : Int) < 32) <;> (show (32 : Int) ≤ 32; omega)
theorem jnV_ge (m l : Int) (h : 0 ≤ l ∧ l ≤ 255) : 32 ≤ jnV (accC m) l := by
  obtain ⟨i, rfl⟩ := u8_fin l h
  have k0 : ∀ i : Fin 256, 32 ≤ jnV 0 ((i.val : Nat) : Int) := by decide +kernel
  have k1 : ∀ i : Fin 256, 32 ≤ jnV 1 ((i.val : Nat) : Int) := by decide +kernel
  have k2 : ∀ i : Fin 256, 32 ≤ jnV 2 ((i.val : Nat) : Int) := by decide +kernel
  have k3 : ∀ i : Fin 256, 32 ≤ jnV 3 ((i.val : Nat) : Int) := by decide +kernel
  have k4 : ∀ i : Fin 256, 32 ≤ jnV 4 ((i.val : Nat) : Int) := by decide +kernel
  have k5 : ∀ i : Fin 256, 32 ≤ jnV 5 ((i.val : Nat) : Int) := by decide +kernel
  have hb := accC_lt m
  generalize accC m = j at hb ⊢
  match j, hb with
  | 0, _ => exact k0 i
  | 1, _ => exact k1 i
  | 2, _ => exact k2 i
  | 3, _ => exact k3 i
  | 4, _ => exact k4 i
  | 5, _ => exact k5 i
  | j + 6, hb => exact absurd hb (by omega)
end Go.Proofs.YtjfgphfdaghilaaGreatDoor.scr
end
section
namespace Go.Proofs.YtjfgphfdaghilaaGreatDoor.scr
open Go Go.Nx
set_option maxRecDepth 100000

noncomputable def t_mof : Con := fun args regs => nfun Tryz.prog [] (fun _ => Option.none) [] Tryz.f120 args regs
theorem k_mof : Known Tryz.prog [] 120 t_mof := known_inl Tryz.func120 rfl (by kernel_rfl) mixed con_none (by kernel_rfl)
/-- An event. -/
structure Ev where
  k : Int
  a : Int
  b : Int
  c : Int
  d : Int
  set : Int
  code : Int
def evC (e : Ev) : List NC := [.i .i64 e.k, .i .i64 e.a, .i .i64 e.b, .i .i64 e.c, .i .i64 e.d, .i .i64 e.set, .i .i64 e.code]
/-- A sign's glyph. -/
def gvE (e : Ev) : Int := bif e.set == 2 then bif e.a != 0 then jnV (accC (IntKind.u8.wrap e.a)) (IntKind.u8.wrap e.code) else chV e.set (IntKind.u8.wrap e.code) else chV e.set (IntKind.u8.wrap e.code)
def GoodE (_ : Ev) : Prop := True
noncomputable def c_glyph : FuncId → Option Con := conOf [(300, tMJoin), (301, tChar)]
theorem kc_glyph : ∀ f T, c_glyph f = some T → Known Tryz.prog [] f T := (Knowns.cons kMJoin (Knowns.cons kChar Knowns.nil)).get
noncomputable def t_glyph : Con := fun args regs => nfun Tryz.prog [] c_glyph [] Tryz.f274 args regs
theorem k_glyph : Known Tryz.prog [] 274 t_glyph := known_inl Tryz.func274 rfl (by kernel_rfl) mixed kc_glyph (by kernel_rfl)
theorem glyph_tree (e : Ev) (R : Out → Prop) : (t_glyph [.ag (evC e)] []).run R =
    sel (e.set == 2) (sel (e.a != 0) (R (gO (jnV (accC (IntKind.u8.wrap e.a)) (IntKind.u8.wrap e.code)))) (R (gO (chV e.set (IntKind.u8.wrap e.code))))) (R (gO (chV e.set (IntKind.u8.wrap e.code)))) := by kernel_rfl
def c7 (code : Int) : Int := bits .and .u8 (IntKind.u8.wrap code) 127
def c77 (code : Int) : Int := bits .and .u8 (c7 code) 127
def plainG (code : Int) : Int := bif decide (c7 code < 32) then 32 else bif c7 code == 94 then 0x2191 else bif c7 code == 96 then 0x2500 else bif c7 code == 123 then 0x258f else bif c7 code == 125 then 0x2595 else bif c7 code == 126 then 0x2594 else bif c7 code == 127 then 0x25a0 else w64 (c7 code)
theorem gvE_0 {e : Ev} (h : e.set = 0) : GoodE e ∧ gvE e = plainG e.code := by
  refine ⟨trivial, ?_⟩
  unfold gvE
  rw [h]
  rfl
theorem gvE_ge (e : Ev) : 32 ≤ gvE e := by
  have hw : ∀ x : Int, 0 ≤ IntKind.u8.wrap x ∧ IntKind.u8.wrap x ≤ 255 := fun x => by rw [IntKind.wrap_u8]; omega
  unfold gvE
  cases (e.set == 2) <;> cases (e.a != 0)
  · exact chV_ge _ _ (hw _)
  · exact chV_ge _ _ (hw _)
  · exact chV_ge _ _ (hw _)
  · exact jnV_ge _ _ (hw _)
/-- A function that is handed an event. -/
noncomputable def onE (l : List NV) (F : Ev → Tr Out) : Tr Out := match l with
  | [.ag [.i .i64 k, .i .i64 a, .i .i64 b, .i .i64 c, .i .i64 d, .i .i64 set, .i .i64 code]] => F ⟨k, a, b, c, d, set, code⟩
  | _ => .fail
theorem onE_in {l : List NV} {F : Ev → Tr Out} {R : Out → Prop} (h : (onE l F).run R) : ∃ e, l = [.ag (evC e)] ∧ (F e).run R := by
  unfold onE at h
  split at h
  case h_2 => exact h.elim
  exact ⟨_, rfl, h⟩
noncomputable def tGlyph : Con := fun args regs => match regs with
  | [] => onE args fun e => .must (GoodE e) (.ret (gO (gvE e)))
  | _ => .fail
theorem kGlyph : Known Tryz.prog [] 274 tGlyph := by
  refine k_glyph.less fun args regs R h => Box.out ?_
  unfold tGlyph at h
  split at h
  case h_2 => exact h.elim
  obtain ⟨e, rfl, h'⟩ := onE_in h
  have h' : (fun n => R (gO n)) (gvE e) := h'.2
  unfold gvE at h'
  have sv := fun {c : Bool} {a b : Int} {A B : Prop} => @sel_val c (fun n => R (gO n)) a b A B
  exact Box.of_eq (glyph_tree e R) (sv h' (fun h => sv h id id) id)
/-- Is a glyph a mosaic's? -/
def isMos (g : Int) : Bool := !(decide (w64 (g - 1048576) < 0)) && !(decide (w64 (g - 1048576) ≥ 128))
noncomputable def patV (g : Int) : Int := bits .and .i64 (w64 (g - 1048576)) 63
noncomputable def parV (g : Int) : Bool := bits .and .i64 (w64 (g - 1048576)) 64 != 0
theorem of_tree (g : Int) (R : Out → Prop) : (t_mof [.c (.i .i64 g)] []).run R =
    sel (decide (w64 (g - 1048576) < 0)) (R ⟨.tu [.c (.i .i64 0), .c (.b false), .c (.b false)], []⟩) (sel (decide (w64 (g - 1048576) ≥ 128)) (R ⟨.tu [.c (.i .i64 0), .c (.b false), .c (.b false)], []⟩)
      (R ⟨.tu [.c (.i .i64 (patV g)), .c (.b (parV g)), .c (.b true)], []⟩)) := by kernel_rfl
noncomputable def tOf : Con := fun args regs => match args, regs with
  | [.c (.i .i64 g)], [] => .br (isMos g) (.ret ⟨.tu [.c (.i .i64 (patV g)), .c (.b (parV g)), .c (.b true)], []⟩) (.ret ⟨.tu [.c (.i .i64 0), .c (.b false), .c (.b false)], []⟩)
  | _, _ => .fail
theorem kOf : Known Tryz.prog [] 120 tOf := by
  refine k_mof.less fun args regs R h => Box.out ?_
  unfold tOf at h
  split at h
  case h_2 => exact h.elim
  rename_i g
  refine Box.of_eq (of_tree g R) ?_
  have h2 : sel (isMos g) (R ⟨.tu [.c (.i .i64 (patV g)), .c (.b (parV g)), .c (.b true)], []⟩) (R ⟨.tu [.c (.i .i64 0), .c (.b false), .c (.b false)], []⟩) := h
  clear h
  unfold isMos at h2
  refine sel_by (fun e => ?_) fun e => sel_by (fun e2 => ?_) fun e2 => ?_
  · rw [dT e] at h2; exact h2
  · rw [dF e, dT e2] at h2; exact h2
  · rw [dF e, dF e2] at h2; exact h2

/-! ### a slot -/
def space (e : Ev) : Bool := e.set == 0 && bits .and .i64 e.code 127 == 32
noncomputable def marks (s : Scr) (e : Ev) : Bool := s.wt && (isMos (gvE e) || space e)
noncomputable def slotR (s : Scr) (e : Ev) : List Sc := [.i (gvE e), .i s.fg, .b s.fl, .b s.iv, .i 0, .i 0, .b (marks s e), .i (if (isMos (gvE e) || marks s e) = true then s.bg else 0), .b (marks s e && s.un), .b (marks s e && s.co)]
noncomputable def slotS (s : Scr) (e : Ev) : Scr := { s with wt := s.wt && !marks s e }
noncomputable def c_slot : FuncId → Option Con := conOf [(274, tGlyph), (120, tOf)]
theorem kc_slot : ∀ f T, c_slot f = some T → Known Tryz.prog [] f T := (Knowns.cons kGlyph (Knowns.cons kOf Knowns.nil)).get
noncomputable def t_slot : Con := fun args regs => nfun Tryz.prog [] c_slot [] Tryz.f224 args regs
theorem k_slot : Known Tryz.prog [] 224 t_slot := known_inl Tryz.func224 rfl (by kernel_rfl) mixed kc_slot (by kernel_rfl)
noncomputable def sO (g fg : Int) (fl iv mk : Bool) (bg : Int) (un co : Bool) (s : Scr) : Out := ⟨.v (.ag (rowCells KS [.i g, .i fg, .b fl, .b iv, .i 0, .i 0, .b mk, .i bg, .b un, .b co])), [some (scr s)]⟩
theorem slot_tree (s : Scr) (e : Ev) (R : Out → Prop) : (t_slot [.c (.p 0 0 0), .ag (evC e)] [scr s]).run R = (GoodE e ∧
    sel (isMos (gvE e)) (sel s.wt (R (sO (gvE e) s.fg s.fl s.iv true s.bg s.un s.co { s with wt := false })) (R (sO (gvE e) s.fg s.fl s.iv false s.bg false false s)))
      (sel s.wt (sel (e.set == 0) (sel (bits .and .i64 e.code 127 == 32) (R (sO (gvE e) s.fg s.fl s.iv true s.bg s.un s.co { s with wt := false })) (R (sO (gvE e) s.fg s.fl s.iv false 0 false false s)))
        (R (sO (gvE e) s.fg s.fl s.iv false 0 false false s))) (R (sO (gvE e) s.fg s.fl s.iv false 0 false false s)))) := by kernel_rfl
noncomputable def tSlot : Con := fun args regs => onS args regs fun l s => onE l fun e => .must (GoodE e) (.ret ⟨.v (.ag (rowCells KS (slotR s e))), [some (scr (slotS s e))]⟩)
set_option maxRecDepth 100000 in
theorem kSlot : Known Tryz.prog [] 224 tSlot := by
  refine k_slot.less fun args regs R h => Box.out ?_
  obtain ⟨l, s, rfl, rfl, h'⟩ := onS_in h
  clear h
  obtain ⟨e, rfl, h2⟩ := onE_in h'
  clear h'
  obtain ⟨hg, h2⟩ := h2
  have h2 : R ⟨.v (.ag (rowCells KS (slotR s e))), [some (scr (slotS s e))]⟩ := h2
  refine Box.of_eq (slot_tree s e R) ⟨hg, ?_⟩
  have leaf : ∀ {mk : Bool} {bg : Int} {un co : Bool} {s' : Scr}, marks s e = mk → (if (isMos (gvE e) || marks s e) = true then s.bg else 0) = bg → (marks s e && s.un) = un → (marks s e && s.co) = co → slotS s e = s' →
      R (sO (gvE e) s.fg s.fl s.iv mk bg un co s') := by
    intro mk bg un co s' a b c d e'
    unfold slotR at h2
    rw [b, c, d, a, e'] at h2
    exact h2
  have mkT : ∀ {b : Bool}, s.wt = true → (isMos (gvE e) || space e) = b → marks s e = b := fun h1 h2 => by unfold marks; rw [h1, h2]; rfl
  have mkF : s.wt = false → marks s e = false := fun h1 => by unfold marks; rw [h1]; rfl
  have sF : marks s e = false → slotS s e = s := fun h1 => by
    unfold slotS; rw [h1]
    show { s with wt := s.wt && true } = s
    rw [Bool.and_true]
  have sT : marks s e = true → slotS s e = { s with wt := false } := fun h1 => by
    unfold slotS; rw [h1]
    show { s with wt := s.wt && false } = _
    rw [Bool.and_false]
  refine sel_b (fun hm => sel_b (fun hw => ?_) fun hw => ?_) fun hm => sel_b (fun hw => sel_b (fun hz => sel_b (fun hc => ?_) fun hc => ?_) fun hz => ?_) fun hw => ?_
  · have hk := mkT (b := true) hw (by rw [hm]; rfl)
    exact leaf hk (by rw [hm]; rfl) (by rw [hk]; rfl) (by rw [hk]; rfl) (sT hk)
  · have hk := mkF hw
    exact leaf hk (by rw [hm]; rfl) (by rw [hk]; rfl) (by rw [hk]; rfl) (sF hk)
  · have hk := mkT (b := true) hw (by rw [hm]; unfold space; rw [hz, hc]; rfl)
    exact leaf hk (by rw [hm, hk]; rfl) (by rw [hk]; rfl) (by rw [hk]; rfl) (sT hk)
  · have hk := mkT (b := false) hw (by rw [hm]; unfold space; rw [hz, hc]; rfl)
    exact leaf hk (by rw [hm, hk]; rfl) (by rw [hk]; rfl) (by rw [hk]; rfl) (sF hk)
  · have hk := mkT (b := false) hw (by rw [hm]; unfold space; rw [hz]; rfl)
    exact leaf hk (by rw [hm, hk]; rfl) (by rw [hk]; rfl) (by rw [hk]; rfl) (sF hk)
  · have hk := mkF hw
    exact leaf hk (by rw [hm, hk]; rfl) (by rw [hk]; rfl) (by rw [hk]; rfl) (sF hk)

/-! ### laying -/
/-- A slot's row. -/
structure Sl where
  g : Int
  fg : Int
  fl : Bool
  iv : Bool
  h : Int
  w : Int
  mrk : Bool
  bg : Int
  un : Bool
  co : Bool
def slR (x : Sl) (h w : Int) : List Sc := [.i x.g, .i x.fg, .b x.fl, .b x.iv, .i h, .i w, .b x.mrk, .i x.bg, .b x.un, .b x.co]
def layR (sl : List (List Sc)) (r c : Nat) (x : Sl) (h : Int) (wide : Bool) : List (List Sc) :=
  bif wide then (sl.set (r * 40 + c) (slR x h 1)).set (r * 40 + (c + 1)) (slR x h 2) else sl.set (r * 40 + c) (slR x h x.w)
def layS (s : Scr) (x : Sl) (tall wide : Bool) : Scr := { s with sl := bif tall then layR (layR s.sl s.row.toNat s.col.toNat x 2 wide) (s.row.toNat - 1) s.col.toNat x 1 wide else layR s.sl s.row.toNat s.col.toNat x 0 wide }
noncomputable def X_lay : Cx := { P := Tryz.prog, con := (fun _ => Option.none), glob := [], m := 1, loops := [] }
noncomputable def t_lay : Con := fun args regs => if regs.length = 1 then nfun Tryz.prog [] (fun _ => Option.none) [(0, [0, 3, 5, 15, 16, 17], unroll X_lay 0 [0, 3, 5, 15, 16, 17] [3] (bodyLoop Tryz.f225 0) 4)] Tryz.f225 args regs else .fail
theorem k_lay : Known Tryz.prog [] 225 t_lay := known_loops 1 Tryz.func225 rfl (by kernel_rfl) mixed con_none (LAll.one (id := 0) (body := bodyLoop Tryz.f225 0) (by kernel_rfl) rfl (unroll_ok (X := X_lay) con_none mixed (LAll.none (by kernel_rfl)) [0, 3, 5, 15, 16, 17] [3] 4))
def layA (x : Sl) (tall wide : Bool) : List NV := [.c (.p 0 0 0), .ag (rowCells KS (slR x x.h x.w)), .c (.b tall), .c (.b wide)]
/-- A place's checks. -/
def chkP (r c : Int) (A : Prop) : Prop := sel (decide (0 ≤ r)) (sel (decide (r < 25)) (sel (decide (0 ≤ c)) (sel (decide (c < 40)) (sel (decide (r.toNat * 40 + c.toNat + 1 ≤ 1000)) A False) False) False) False) False
theorem chkP_in {r c : Int} {A : Prop} (h1 : 0 ≤ r ∧ r ≤ 24) (h2 : 0 ≤ c ∧ c ≤ 39) (hA : A) : chkP r c A := selT (dT h1.1) (selT (dT (by omega)) (selT (dT h2.1) (selT (dT (by omega)) (selT (dT (by omega)) hA))))
def lO (n : Int) (s : Scr) : Out := ⟨.v (.c (.i .i64 n)), [some (scr s)]⟩
theorem lay_ff (s : Scr) (x : Sl) (R : Out → Prop) : (t_lay (layA x false false) [scr s]).run R =
    chkP (w64 (s.row - 0)) s.col (R (lO 1 { s with sl := s.sl.set ((w64 (s.row - 0)).toNat * 40 + s.col.toNat) (slR x 0 x.w) })) := by kernel_rfl
theorem lay_ft (s : Scr) (x : Sl) (R : Out → Prop) : (t_lay (layA x false true) [scr s]).run R =
    chkP (w64 (s.row - 0)) s.col (chkP (w64 (s.row - 0)) (w64 (s.col + 1)) (R (lO 2 { s with sl := (s.sl.set ((w64 (s.row - 0)).toNat * 40 + s.col.toNat) (slR x 0 1)).set ((w64 (s.row - 0)).toNat * 40 + (w64 (s.col + 1)).toNat) (slR x 0 2) }))) := by kernel_rfl
theorem lay_tf (s : Scr) (x : Sl) (R : Out → Prop) : (t_lay (layA x true false) [scr s]).run R =
    chkP (w64 (s.row - 0)) s.col (chkP (w64 (s.row - 1)) s.col (R (lO 1 { s with sl := (s.sl.set ((w64 (s.row - 0)).toNat * 40 + s.col.toNat) (slR x 2 x.w)).set ((w64 (s.row - 1)).toNat * 40 + s.col.toNat) (slR x 1 x.w) }))) := by kernel_rfl
theorem lay_tt (s : Scr) (x : Sl) (R : Out → Prop) : (t_lay (layA x true true) [scr s]).run R =
    chkP (w64 (s.row - 0)) s.col (chkP (w64 (s.row - 0)) (w64 (s.col + 1)) (chkP (w64 (s.row - 1)) s.col (chkP (w64 (s.row - 1)) (w64 (s.col + 1))
      (R (lO 2 { s with sl := (((s.sl.set ((w64 (s.row - 0)).toNat * 40 + s.col.toNat) (slR x 2 1)).set ((w64 (s.row - 0)).toNat * 40 + (w64 (s.col + 1)).toNat) (slR x 2 2)).set ((w64 (s.row - 1)).toNat * 40 + s.col.toNat) (slR x 1 1)).set ((w64 (s.row - 1)).toNat * 40 + (w64 (s.col + 1)).toNat) (slR x 1 2) }))))) := by kernel_rfl
def layPre (s : Scr) (tall wide : Bool) : Prop := On s ∧ (tall = true → 1 ≤ s.row) ∧ (wide = true → s.col ≤ 38)
noncomputable def tLay : Con := fun args regs => onS args regs fun l s => match l with
  | [.ag [.i .i64 g, .i .i64 fg, .b fl, .b iv, .i .i64 h, .i .i64 w, .b mk, .i .i64 bg, .b un, .b co], .c (.b tall), .c (.b wide)] =>
    .must (layPre s tall wide) (.ret (lO (bif wide then 2 else 1) (layS s ⟨g, fg, fl, iv, h, w, mk, bg, un, co⟩ tall wide)))
  | _ => .fail
theorem kLay : Known Tryz.prog [] 225 tLay := by
  refine k_lay.less fun args regs R h => Box.out ?_
  obtain ⟨l, s, rfl, rfl, h'⟩ := onS_in h
  clear h
  split at h'
  case h_2 => exact h'.elim
  rename_i g fg fl iv h w mk bg un co tall wide
  obtain ⟨⟨ho, h1, h2⟩, hR⟩ := h'
  have hR : R (lO (bif wide then 2 else 1) (layS s ⟨g, fg, fl, iv, h, w, mk, bg, un, co⟩ tall wide)) := hR
  obtain ⟨⟨r0, r1⟩, ⟨c0, c1⟩, -⟩ := ho
  have e0 : w64 (s.row - 0) = s.row := by rw [Int.sub_zero]; exact w64_id (by omega)
  generalize hx : (⟨g, fg, fl, iv, h, w, mk, bg, un, co⟩ : Sl) = x at hR
  have hA : (NV.c (.p 0 0 0) :: [.ag [.i .i64 g, .i .i64 fg, .b fl, .b iv, .i .i64 h, .i .i64 w, .b mk, .i .i64 bg, .b un, .b co], .c (.b tall), .c (.b wide)]) = layA x tall wide := by rw [← hx]; rfl
  rw [hA]
  unfold layS layR at hR
  have e1 : 1 ≤ s.row → w64 (s.row - 1) = s.row - 1 ∧ (s.row - 1).toNat = s.row.toNat - 1 := fun h => ⟨w64_id (by omega), by omega⟩
  have e2 : w64 (s.col + 1) = s.col + 1 ∧ (s.col + 1).toNat = s.col.toNat + 1 := ⟨w64_id (by omega), by omega⟩
  cases tall <;> cases wide
  · refine Box.of_eq (lay_ff s x R) ?_
    rw [e0]
    exact chkP_in ⟨r0, r1⟩ ⟨c0, c1⟩ hR
  · have := h2 rfl
    refine Box.of_eq (lay_ft s x R) ?_
    rw [e0, e2.1, e2.2]
    exact chkP_in ⟨r0, r1⟩ ⟨c0, c1⟩ (chkP_in ⟨r0, r1⟩ ⟨by omega, by omega⟩ hR)
  · have := h1 rfl
    refine Box.of_eq (lay_tf s x R) ?_
    rw [e0, (e1 this).1, (e1 this).2]
    exact chkP_in ⟨r0, r1⟩ ⟨c0, c1⟩ (chkP_in ⟨by omega, by omega⟩ ⟨c0, c1⟩ hR)
  · have h1 := h1 rfl
    have h2 := h2 rfl
    refine Box.of_eq (lay_tt s x R) ?_
    rw [e0, (e1 h1).1, (e1 h1).2, e2.1, e2.2]
    exact chkP_in ⟨r0, r1⟩ ⟨c0, c1⟩ (chkP_in ⟨r0, r1⟩ ⟨by omega, by omega⟩ (chkP_in ⟨by omega, by omega⟩ ⟨c0, c1⟩ (chkP_in ⟨by omega, by omega⟩ ⟨by omega, by omega⟩ hR)))

/-! ### a sign is written -/
def wroteS (s : Scr) (e : Ev) : Scr := { s with e0 := e.k, e1 := e.a, e2 := e.b, e3 := e.c, e4 := e.d, e5 := e.set, e6 := e.code }
noncomputable def slX (s : Scr) (e : Ev) : Sl := ⟨gvE e, s.fg, s.fl, s.iv, 0, 0, marks s e, (if (isMos (gvE e) || marks s e) = true then s.bg else 0), (marks s e && s.un), (marks s e && s.co)⟩
/-- The cursor behind it. -/
def stepW (s : Scr) (wide : Bool) : Scr := if s.col + (bif wide then 2 else 1) ≤ 39 then { s with col := s.col + (bif wide then 2 else 1) } else if s.row = 0 then { s with col := 39 } else { downS { s with col := s.col + (bif wide then 2 else 1) } with col := 0 }
noncomputable def tallB (s : Scr) (e : Ev) : Bool := !isMos (gvE e) && s.ta && decide (s.row > 1)
noncomputable def wideB (s : Scr) (e : Ev) : Bool := !isMos (gvE e) && s.wi && decide (s.col < 39)
noncomputable def writeS (e : Ev) (s : Scr) : Scr := stepW (layS (slotS (wroteS s e) e) (slX (wroteS s e) e) (tallB s e) (wideB s e)) (wideB s e)
noncomputable def c_write : FuncId → Option Con := conOf [(224, tSlot), (120, tOf), (225, tLay), (226, tDown)]
theorem kc_write : ∀ f T, c_write f = some T → Known Tryz.prog [] f T := (Knowns.cons kSlot (Knowns.cons kOf (Knowns.cons kLay (Knowns.cons kDown Knowns.nil)))).get
noncomputable def t_write : Con := fun args regs => nfun Tryz.prog [] c_write [] Tryz.f151 args regs
theorem k_write : Known Tryz.prog [] 151 t_write := known_inl Tryz.func151 rfl (by kernel_rfl) mixed kc_write (by kernel_rfl)
def stepT (s : Scr) (wide : Bool) (R : Out → Prop) : Prop :=
  sel (decide (w64 (s.col + (bif wide then 2 else 1)) ≤ 39)) (R (done { s with col := w64 (s.col + (bif wide then 2 else 1)) })) (sel (s.row == 0) (R (done { s with col := 39 }))
    (RowOk s ∧ R (done { downS { s with col := w64 (s.col + (bif wide then 2 else 1)) } with col := 0 })))
noncomputable def layT (s : Scr) (e : Ev) (tall wide : Bool) (R : Out → Prop) : Prop :=
  layPre (slotS (wroteS s e) e) tall wide ∧ stepT (layS (slotS (wroteS s e) e) (slX (wroteS s e) e) tall wide) wide R
theorem write_tree (s : Scr) (e : Ev) (R : Out → Prop) : (t_write [.c (.p 0 0 0), .ag (evC e)] [scr s]).run R = (GoodE e ∧
    sel (isMos (gvE e)) (layT s e false false R) (sel s.ta (sel s.wi (layT s e (decide (s.row > 1)) (decide (s.col < 39)) R) (layT s e (decide (s.row > 1)) false R)) (sel s.wi (layT s e false (decide (s.col < 39)) R) (layT s e false false R)))) := by kernel_rfl
end Go.Proofs.YtjfgphfdaghilaaGreatDoor.scr
end
section
namespace Go.Proofs.YtjfgphfdaghilaaGreatDoor.scr
open Go Go.Nx
set_option maxRecDepth 100000

theorem stepT_in {s : Scr} {wide : Bool} {R : Out → Prop} (h : RowOk s ∧ 0 ≤ s.col ∧ s.col ≤ 39) (hR : R (done (stepW s wide))) : stepT s wide R := by
  have hb : (bif wide then (2 : Int) else 1) = 2 ∨ (bif wide then (2 : Int) else 1) = 1 := by cases wide; exact .inr rfl; exact .inl rfl
  unfold stepT
  unfold stepW at hR
  generalize (bif wide then (2 : Int) else 1) = b at hb hR
  have hw : w64 (s.col + b) = s.col + b := w64_id (by omega)
  rw [hw]
  refine sel_by (fun e => ?_) fun e => sel_eq (fun e2 => ?_) fun e2 => ?_
  · rw [if_pos e] at hR; exact hR
  · rw [if_neg e, if_pos e2] at hR; exact hR
  · rw [if_neg e, if_neg e2] at hR; exact ⟨h.1, hR⟩
noncomputable def tWrite : Con := fun args regs => onS args regs fun l s => onE l fun e => .must (On s ∧ GoodE e) (.ret (done (writeS e s)))
set_option maxRecDepth 100000 in
theorem kWrite : Known Tryz.prog [] 151 tWrite := by
  refine k_write.less fun args regs R h => Box.out ?_
  obtain ⟨l, s, rfl, rfl, h'⟩ := onS_in h
  clear h
  obtain ⟨e, rfl, h2⟩ := onE_in h'
  clear h'
  obtain ⟨⟨ho, hg⟩, h2⟩ := h2
  have h2 : R (done (writeS e s)) := h2
  unfold writeS at h2
  refine Box.of_eq (write_tree s e R) ⟨hg, ?_⟩
  have fin : ∀ {tall wide : Bool}, tallB s e = tall → wideB s e = wide → layT s e tall wide R := by
    intro tall wide ht hw
    rw [ht, hw] at h2
    refine ⟨⟨ho, fun h => ?_, fun h => ?_⟩, stepT_in ⟨ho.1, ho.2.1⟩ h2⟩
    · rw [h] at ht
      unfold tallB at ht
      have : s.row > 1 := by
        rw [Bool.and_eq_true, decide_eq_true_eq] at ht
        exact ht.2
      show 1 ≤ s.row
      omega
    · rw [h] at hw
      unfold wideB at hw
      have : s.col < 39 := by
        rw [Bool.and_eq_true, decide_eq_true_eq] at hw
        exact hw.2
      show s.col ≤ 38
      omega
  refine sel_b (fun hm => ?_) fun hm => sel_b (fun ha => sel_b (fun hb => ?_) fun hb => ?_) fun ha => sel_b (fun hb => ?_) fun hb => ?_
  · exact fin (by unfold tallB; rw [hm]; rfl) (by unfold wideB; rw [hm]; rfl)
  · exact fin (by unfold tallB; rw [hm, ha]; rfl) (by unfold wideB; rw [hm, hb]; rfl)
  · exact fin (by unfold tallB; rw [hm, ha]; rfl) (by unfold wideB; rw [hm, hb]; rfl)
  · exact fin (by unfold tallB; rw [hm, ha]; rfl) (by unfold wideB; rw [hm, hb]; rfl)
  · exact fin (by unfold tallB; rw [hm, ha]; rfl) (by unfold wideB; rw [hm, hb]; rfl)
theorem stepW_on {s : Scr} {wide : Bool} (h : On s) : On (stepW s wide) := by
  have hb : (bif wide then (2 : Int) else 1) = 2 ∨ (bif wide then (2 : Int) else 1) = 1 := by cases wide; exact .inr rfl; exact .inl rfl
  unfold stepW
  generalize (bif wide then (2 : Int) else 1) = b at hb
  obtain ⟨h1, h2, h3, h4⟩ := h
  split
  · exact ⟨h1, ⟨by show 0 ≤ s.col + b; omega, by show s.col + b ≤ 39; omega⟩, h3, h4⟩
  · split
    · exact ⟨h1, ⟨by show (0 : Int) ≤ 39; omega, by show (39 : Int) ≤ 39; omega⟩, h3, h4⟩
    · unfold downS
      split
      · exact ⟨h3, ⟨by show (0 : Int) ≤ 0; omega, by show (0 : Int) ≤ 39; omega⟩, h3, h4⟩
      · split
        · exact ⟨⟨by show 0 ≤ s.row + 1; omega, by rename_i hh; have hh : s.row < 24 := hh; show s.row + 1 ≤ 24; omega⟩, ⟨by show (0 : Int) ≤ 0; omega, by show (0 : Int) ≤ 39; omega⟩, h3, h4⟩
        · split
          · exact ⟨h1, ⟨by show (0 : Int) ≤ 0; omega, by show (0 : Int) ≤ 39; omega⟩, h3, h4⟩
          · exact ⟨⟨by show (0 : Int) ≤ 1; omega, by show (1 : Int) ≤ 24; omega⟩, ⟨by show (0 : Int) ≤ 0; omega, by show (0 : Int) ≤ 39; omega⟩, h3, h4⟩
theorem layS_on {s : Scr} {x : Sl} {a b : Bool} (h : On s) : On (layS s x a b) := h
theorem slotS_on {s : Scr} {e : Ev} (h : On s) : On (slotS s e) := h
theorem wroteS_on {s : Scr} {e : Ev} (h : On s) : On (wroteS s e) := h
theorem writeS_on {e : Ev} {s : Scr} (h : On s) : On (writeS e s) := stepW_on (layS_on (slotS_on (wroteS_on h)))
/-- The sign that was written last. -/
def evOf (s : Scr) : Ev := ⟨s.e0, s.e1, s.e2, s.e3, s.e4, s.e5, s.e6⟩
theorem evOf_down (s : Scr) : evOf (downS s) = evOf s := by
  unfold downS
  split
  · rfl
  · split
    · rfl
    · split <;> rfl
theorem evOf_step (s : Scr) (wide : Bool) : evOf (stepW s wide) = evOf s := by
  unfold stepW
  split
  · rfl
  · split
    · rfl
    · exact evOf_down _
theorem evOf_write (e : Ev) (s : Scr) : evOf (writeS e s) = e := by
  unfold writeS
  rw [evOf_step]
  rfl

/-! ### again -/
noncomputable def againN : Nat → Scr → Scr
  | 0, s => s
  | n + 1, s => againN n (writeS (evOf s) s)
noncomputable def againS (a : Int) (s : Scr) : Scr := if s.e0 = 1 then againN (many 0 63 a).toNat s else s
noncomputable def c_again : FuncId → Option Con := conOf [(151, tWrite)]
theorem kc_again : ∀ f T, c_again f = some T → Known Tryz.prog [] f T := (Knowns.cons kWrite Knowns.nil).get
noncomputable def X_again : Cx := { P := Tryz.prog, con := c_again, glob := [], m := 1, loops := [] }
noncomputable def p_again : List Pat := pats 22 [(0, .p 0 0 0), (12, .i .i64), (13, .i .i64)]
noncomputable def b_again : Code := bodyLoop Tryz.f152 0
noncomputable def s_again (n i : Int) (s : Scr) : St := stS p_again [.i n, .i i] s
noncomputable def e_again (s : Scr) : St := { fr := frame 22 [], rg := [some (scr s)] }
theorem round_again (n i : Int) (s : Scr) (R : RO → Prop) : (roundT X_again 0 [0, 12, 13] [] b_again (s_again n i s)).run R =
    sel (decide (i < n)) ((On s ∧ GoodE (evOf s)) ∧ R (.next (s_again n (w64 (i + 1)) (writeS (evOf s) s)))) (R (.done .normal (e_again s))) := by kernel_rfl
noncomputable def l_again : List Leaf → Scr → Tr (NExit × St) := fun a s => match a with
  | [.i n, .i i] => .must (0 ≤ i ∧ n ≤ 63 ∧ On s ∧ GoodE (evOf s)) (.ret (.normal, e_again (againN (n - i).toNat s)))
  | _ => .fail
theorem loop_again : LOk Tryz.prog [] 1 0 b_again (sumS p_again l_again) := by
  refine sumS_ok (X := X_again) kc_again mixed (LAll.none (by kernel_rfl)) [0, 12, 13] [] _ _ (fun a x => match a with
    | [.i n, .i i] => (n - i).toNat
    | _ => 0) ?_
  intro a s R h
  unfold l_again at h
  split at h
  case h_2 => exact h.elim
  rename_i n i
  obtain ⟨⟨h1, h2, h3, h4⟩, h⟩ := h
  have h' : R (.normal, e_again (againN (n - i).toNat s)) := h
  clear h
  refine Box.out (Box.of_eq (round_again n i s _) (sel_by (fun e => ?_) fun e => ?_))
  · obtain ⟨k, hk⟩ : ∃ k : Nat, (n - i).toNat = k + 1 := ⟨(n - i).toNat - 1, by omega⟩
    have hw : w64 (i + 1) = i + 1 := w64_id (by omega)
    have hk' : (n - (i + 1)).toNat = k := by omega
    rw [hk] at h'
    rw [hw]
    refine ⟨⟨h3, h4⟩, [.i n, .i (i + 1)], _, rfl, by show (n - (i + 1)).toNat < (n - i).toNat; omega, ⟨by omega, h2, writeS_on h3, by rw [evOf_write]; exact h4⟩, ?_⟩
    show R (.normal, e_again (againN (n - (i + 1)).toNat (writeS (evOf s) s)))
    rw [hk']
    exact h'
  · have hz : (n - i).toNat = 0 := by omega
    rw [hz] at h'
    exact h'
noncomputable def t_again : Con := fun args regs => if regs.length = 1 then nfun Tryz.prog [] c_again [(0, [0, 12, 13], sumS p_again l_again)] Tryz.f152 args regs else .fail
theorem k_again : Known Tryz.prog [] 152 t_again := known_loops 1 Tryz.func152 rfl (by kernel_rfl) mixed kc_again (LAll.one (id := 0) (body := b_again) (by kernel_rfl) rfl loop_again)
theorem again_tree (a : Int) (s : Scr) (R : Out → Prop) : (t_again [.c (.p 0 0 0), .c (.i .i64 a)] [scr s]).run R =
    sel (s.e0 != 1) (R (done s)) (((0 : Int) ≤ 0 ∧ many 0 63 a ≤ 63 ∧ On s ∧ GoodE (evOf s)) ∧ R (done (againN (many 0 63 a - 0).toNat s))) := by kernel_rfl
noncomputable def tAgain : Con := con1 (fun _ s => On s ∧ (s.e0 = 1 → GoodE (evOf s))) againS
theorem kAgain : Known Tryz.prog [] 152 tAgain := by
  refine k_again.less fun args regs R h => Box.out ?_
  obtain ⟨a, s, rfl, rfl, ⟨h1, h1'⟩, h2⟩ := con1_in h
  clear h
  unfold againS at h2
  by_cases e : s.e0 = 1
  · rw [if_pos e] at h2
    refine Box.of_eq (again_tree a s R) (selF (by rw [e]; rfl) ⟨⟨Int.le_refl 0, (many_eq (n := a) (by omega : (0 : Int) ≤ 63)).2.1, h1, h1' e⟩, ?_⟩)
    rw [Int.sub_zero]; exact h2
  · rw [if_neg e] at h2
    exact Box.of_eq (again_tree a s R) (selT (bne_iff_ne.2 e) h2)
theorem againN_on : ∀ (n : Nat) {s : Scr}, On s → On (againN n s)
  | 0, _, h => h
  | n + 1, s, h => againN_on n (writeS_on h)

/-! ### events -/
noncomputable def eventS (e : Ev) (s : Scr) : Scr :=
  if e.k = 1 then writeS e s else if e.k = 7 then againS e.a s else if e.k = 2 then moveS e.a e.b s else if e.k = 3 then clearS e.a s else if e.k = 4 then homeS s else if e.k = 5 then goToS e.a e.b s else if e.k = 6 then attrS e.a s
  else if e.k = 8 then { s with bells := w64 (s.bells + 1) } else if e.k = 9 then { s with cu := e.a == 1 } else if e.k = 11 then (if e.a = 1 then eraPS e.b s else if e.a = 2 then eraRS e.b s else s) else s
/-- What must hold ahead of an event. -/
def PreE (e : Ev) (s : Scr) : Prop := On s ∧ (e.k = 1 → GoodE e) ∧ (s.e0 = 1 → GoodE (evOf s))
noncomputable def c_event : FuncId → Option Con := conOf [(151, tWrite), (152, tAgain), (153, tMove), (154, tClear), (155, tHome),
  (156, tGoTo), (157, tAttr), (158, tEraP), (159, tEraR)]
theorem kc_event : ∀ f T, c_event f = some T → Known Tryz.prog [] f T := (Knowns.cons kWrite (Knowns.cons kAgain (Knowns.cons kMove (Knowns.cons kClear (Knowns.cons kHome (Knowns.cons kGoTo (Knowns.cons kAttr (Knowns.cons kEraP (Knowns.cons kEraR Knowns.nil))))))))).get
noncomputable def t_event : Con := fun args regs => nfun Tryz.prog [] c_event [] Tryz.f111 args regs
theorem k_event : Known Tryz.prog [] 111 t_event := known_inl Tryz.func111 rfl (by kernel_rfl) mixed kc_event (by kernel_rfl)
theorem event_tree (e : Ev) (s : Scr) (R : Out → Prop) : (t_event [.c (.p 0 0 0), .ag (evC e)] [scr s]).run R =
    sel (e.k == 1) ((On s ∧ GoodE e) ∧ R (done (writeS e s))) (sel (e.k == 7) ((On s ∧ (s.e0 = 1 → GoodE (evOf s))) ∧ R (done (againS e.a s))) (sel (e.k == 2) (On s ∧ R (done (moveS e.a e.b s))) (sel (e.k == 3) (On s ∧ R (done (clearS e.a s)))
      (sel (e.k == 4) (True ∧ R (done (homeS s))) (sel (e.k == 5) (True ∧ R (done (goToS e.a e.b s))) (sel (e.k == 6) (R (done (attrS e.a s))) (sel (e.k == 8) (R (done { s with bells := w64 (s.bells + 1) })) (sel (e.k == 9) (R (done { s with cu := e.a == 1 }))
        (sel (e.k == 11) (sel (e.a == 1) (On s ∧ R (done (eraPS e.b s))) (sel (e.a == 2) (On s ∧ R (done (eraRS e.b s))) (R (done s)))) (R (done s))))))))))) := by kernel_rfl
noncomputable def tEvent : Con := fun args regs => onS args regs fun l s => onE l fun e => .must (PreE e s) (.ret (done (eventS e s)))
set_option maxRecDepth 100000 in
theorem kEvent : Known Tryz.prog [] 111 tEvent := by
  refine k_event.less fun args regs R h => Box.out ?_
  obtain ⟨l, s, rfl, rfl, h'⟩ := onS_in h
  clear h
  obtain ⟨e, rfl, h2⟩ := onE_in h'
  clear h'
  obtain ⟨⟨ho, hg, hw⟩, h2⟩ := h2
  have h2 : R (done (eventS e s)) := h2
  unfold eventS at h2
  refine Box.of_eq (event_tree e s R) (sel_eq (fun a => ?_) fun a => sel_eq (fun b => ?_) fun b => sel_eq (fun c => ?_) fun c => sel_eq (fun d => ?_) fun d => ?_)
  · rw [if_pos a] at h2; exact ⟨⟨ho, hg a⟩, h2⟩
  · rw [if_neg a, if_pos b] at h2; exact ⟨⟨ho, hw⟩, h2⟩
  · rw [if_neg a, if_neg b, if_pos c] at h2; exact ⟨ho, h2⟩
  · rw [if_neg a, if_neg b, if_neg c, if_pos d] at h2; exact ⟨ho, h2⟩
  rw [if_neg a, if_neg b, if_neg c, if_neg d] at h2
  clear a b c d
  refine sel_eq (fun a => ?_) fun a => sel_eq (fun b => ?_) fun b => sel_eq (fun c => ?_) fun c => sel_eq (fun d => ?_) fun d => sel_eq (fun f => ?_) fun f => sel_eq (fun g => ?_) fun g => ?_
  · rw [if_pos a] at h2; exact ⟨trivial, h2⟩
  · rw [if_neg a, if_pos b] at h2; exact ⟨trivial, h2⟩
  · rw [if_neg a, if_neg b, if_pos c] at h2; exact h2
  · rw [if_neg a, if_neg b, if_neg c, if_pos d] at h2; exact h2
  · rw [if_neg a, if_neg b, if_neg c, if_neg d, if_pos f] at h2; exact h2
  · rw [if_neg a, if_neg b, if_neg c, if_neg d, if_neg f, if_pos g] at h2
    refine sel_eq (fun x => ?_) fun x => sel_eq (fun y => ?_) fun y => ?_
    · rw [if_pos x] at h2; exact ⟨ho, h2⟩
    · rw [if_neg x, if_pos y] at h2; exact ⟨ho, h2⟩
    · rw [if_neg x, if_neg y] at h2; exact h2
  · rw [if_neg a, if_neg b, if_neg c, if_neg d, if_neg f, if_neg g] at h2; exact h2

/-! ### State, Rolls -/
noncomputable def t_state : Con := fun args regs => nfun Tryz.prog [] (fun _ => Option.none) [] Tryz.f41 args regs
theorem k_state : Known Tryz.prog [] 41 t_state := known_inl Tryz.func41 rfl (by kernel_rfl) mixed con_none (by kernel_rfl)
theorem state_tree (s : Scr) (R : Out → Prop) : (t_state [.c (.p 0 0 0)] [scr s]).run R = R ⟨.v (.ag (stC s)), [some (scr s)]⟩ := by kernel_rfl
noncomputable def tState : Con := fun args regs => onS args regs fun l s => match l with
  | [] => .ret ⟨.v (.ag (stC s)), [some (scr s)]⟩
  | _ => .fail
theorem kState : Known Tryz.prog [] 41 tState := by
  refine k_state.less fun args regs R h => Box.out ?_
  obtain ⟨l, s, rfl, rfl, h'⟩ := onS_in h
  clear h
  split at h'
  case h_2 => exact h'.elim
  exact Box.of_eq (state_tree s R) h'
def rollsS (on : Bool) (s : Scr) : Scr := { s with ro := on }
noncomputable def t_rolls : Con := fun args regs => nfun Tryz.prog [] (fun _ => Option.none) [] Tryz.f113 args regs
theorem k_rolls : Known Tryz.prog [] 113 t_rolls := known_inl Tryz.func113 rfl (by kernel_rfl) mixed con_none (by kernel_rfl)
theorem rolls_tree (on : Bool) (s : Scr) (R : Out → Prop) : (t_rolls [.c (.p 0 0 0), .c (.b on)] [scr s]).run R = R (done (rollsS on s)) := by kernel_rfl
noncomputable def tRolls : Con := fun args regs => onS args regs fun l s => match l with
  | [.c (.b on)] => .ret (done (rollsS on s))
  | _ => .fail
theorem kRolls : Known Tryz.prog [] 113 tRolls := by
  refine k_rolls.less fun args regs R h => Box.out ?_
  obtain ⟨l, s, rfl, rfl, h'⟩ := onS_in h
  clear h
  split at h'
  case h_2 => exact h'.elim
  exact Box.of_eq (rolls_tree _ s R) h'
end Go.Proofs.YtjfgphfdaghilaaGreatDoor.scr
end
