/-
  The Minitel's protocol: who hears whom.
-/
import Derived.Test.YtdijbpokklgjlaaGreatDoorEngC
import Derived.Test.YtdijbpokklgjlaaGreatDoorEng34
import Derived.Test.YtdijbpokklgjlaaGreatDoorNum
set_option linter.unusedVariables false
namespace Go.Proofs.YtdijbpokklgjlaaGreatDoor.prt
open Go Go.Nx

theorem mixed : Tryz.prog.follows .mixedOrders = true := by kernel_rfl
theorem selT {c : Bool} {A B : Prop} (h : c = true) (hA : A) : sel c A B := sel_iff.2 (.inl ⟨h, hA⟩)
theorem selF {c : Bool} {A B : Prop} (h : c = false) (hB : B) : sel c A B := sel_iff.2 (.inr ⟨h, hB⟩)
theorem dT {p : Prop} [Decidable p] (h : p) : decide p = true := decide_eq_true h
theorem dF {p : Prop} [Decidable p] (h : ¬ p) : decide p = false := decide_eq_false h
theorem bF {x y : Int} (h : x ≠ y) : (x == y) = false := by rw [beq_eq_false_iff_ne]; exact h
theorem bT {x y : Int} (h : x = y) : (x == y) = true := by rw [beq_iff_eq]; exact h
theorem sel_by {p : Prop} [Decidable p] {A B : Prop} (ha : p → A) (hb : ¬ p → B) : sel (decide p) A B := by
  by_cases h : p
  · exact selT (dT h) (ha h)
  · exact selF (dF h) (hb h)
theorem sel_eq {x y : Int} {A B : Prop} (ha : x = y → A) (hb : x ≠ y → B) : sel (x == y) A B := by
  by_cases h : x = y
  · exact selT (bT h) (ha h)
  · exact selF (bF h) (hb h)
theorem sel_b {c : Bool} {A B : Prop} (ha : c = true → A) (hb : c = false → B) : sel c A B := by
  cases c with
  | true => exact selT rfl (ha rfl)
  | false => exact selF rfl (hb rfl)
/-- A tree's run, kept from being opened. -/
structure Box (p : Prop) : Prop where
  out : p
theorem Box.of_eq {p q : Prop} (h : p = q) (hq : q) : Box p := ⟨h.mpr hq⟩
def w64 (x : Int) : Int := IntKind.i64.wrap x
theorem w64_id {x : Int} (h : -9223372036854775808 ≤ x ∧ x ≤ 9223372036854775807) : w64 x = x := by unfold w64; rw [IntKind.wrap_i64]; omega

/-! ### cells of bools -/
def isB : NC → Bool
  | .b _ => true
  | _ => false
def cB : NC → Bool
  | .b x => x
  | _ => false
def mC (M : Nat → Bool) : List NC := (List.range 16).map fun i => .b (M i)
def isM (l : List NC) : Bool := l.length == 16 && l.all isB
def mOf (l : List NC) (i : Nat) : Bool := cB (l.getD i .pn)
theorem isB_eq {x : NC} (h : isB x = true) : x = .b (cB x) := by
  cases x <;> first | rfl | cases h
theorem isM_ok {l : List NC} (h : isM l = true) : l = mC (mOf l) := by
  unfold isM at h
  simp only [Bool.and_eq_true, beq_iff_eq, List.all_eq_true] at h
  obtain ⟨h1, h2⟩ := h
  apply List.ext_getElem
  · simp [mC, h1]
  · intro i hi hi'
    simp only [mC, List.getElem_map, List.getElem_range]
    have := isB_eq (h2 _ (List.getElem_mem hi))
    rw [this]
    simp only [mOf]
    rw [List.getD_eq_getElem?_getD, List.getElem?_eq_getElem hi]
    rfl
def mReg (M : Nat → Bool) : Reg := ⟨16, 53, .cells (mC M)⟩

/-! ### is it a module -/
noncomputable def t_is : Con := fun args regs => nfun Tryz.prog [] (fun _ => Option.none) [] Tryz.f40 args regs
theorem k_is : Known Tryz.prog [] 40 t_is := known_inl Tryz.func40 rfl (by kernel_rfl) mixed con_none (by kernel_rfl)
def bO (b : Bool) : Out := ⟨.v (.c (.b b)), []⟩
theorem is_tree (a : Int) (R : Out → Prop) : (t_is [.c (.i .i64 a)] []).run R = sel (decide (a ≥ 0)) (R (bO (decide (a < 4)))) (R (bO false)) := by kernel_rfl
noncomputable def tIs : Con := fun args regs => match args, regs with
  | [.c (.i .i64 a)], [] => .br (decide (0 ≤ a ∧ a < 4)) (.ret (bO true)) (.ret (bO false))
  | _, _ => .fail
set_option maxRecDepth 100000 in
theorem kIs : Known Tryz.prog [] 40 tIs := by
  refine k_is.less fun args regs R h => Box.out ?_
  unfold tIs at h
  split at h
  case h_2 => exact h.elim
  rename_i a
  have h : sel (decide (0 ≤ a ∧ a < 4)) (R (bO true)) (R (bO false)) := h
  refine Box.of_eq (is_tree a R) (sel_by (fun h0 => ?_) fun h0 => ?_)
  · rcases sel_iff.1 h with ⟨h1, h⟩ | ⟨h1, h⟩
    · have := of_decide_eq_true h1
      rw [dT this.2]; exact h
    · have := of_decide_eq_false h1
      rw [dF (fun e => this ⟨h0, e⟩)]; exact h
  · rcases sel_iff.1 h with ⟨h1, h⟩ | ⟨h1, h⟩
    · exact (h0 (of_decide_eq_true h1).1).elim
    · exact h

/-! ### does it hear -/
def okM (a : Int) : Prop := 0 ≤ a ∧ a < 4
instance (a : Int) : Decidable (okM a) := inferInstanceAs (Decidable (0 ≤ a ∧ a < 4))
def hrs (M : Nat → Bool) (a b : Int) : Bool := bif decide (0 ≤ a ∧ a < 4) && decide (0 ≤ b ∧ b < 4) then M (4 * a.toNat + b.toNat) else false
noncomputable def c_hears : FuncId → Option Con := conOf [(40, tIs)]
theorem kc_hears : ∀ f T, c_hears f = some T → Known Tryz.prog [] f T := (Knowns.cons kIs Knowns.nil).get
noncomputable def t_hears : Con := fun args regs => nfun Tryz.prog [] c_hears [] Tryz.f30 args regs
theorem k_hears : Known Tryz.prog [] 30 t_hears := known_inl Tryz.func30 rfl (by kernel_rfl) mixed kc_hears (by kernel_rfl)
def hO (M : Nat → Bool) (x : Bool) : Out := ⟨.v (.c (.b x)), [some (mReg M)]⟩
theorem hr_00 (M : Nat → Bool) (R : Out → Prop) : (t_hears [.c (.p 0 0 0), .c (.i .i64 0), .c (.i .i64 0)] [mReg M]).run R = R (hO M (M 0)) := by kernel_rfl
theorem hr_01 (M : Nat → Bool) (R : Out → Prop) : (t_hears [.c (.p 0 0 0), .c (.i .i64 0), .c (.i .i64 1)] [mReg M]).run R = R (hO M (M 1)) := by kernel_rfl
theorem hr_02 (M : Nat → Bool) (R : Out → Prop) : (t_hears [.c (.p 0 0 0), .c (.i .i64 0), .c (.i .i64 2)] [mReg M]).run R = R (hO M (M 2)) := by kernel_rfl
theorem hr_03 (M : Nat → Bool) (R : Out → Prop) : (t_hears [.c (.p 0 0 0), .c (.i .i64 0), .c (.i .i64 3)] [mReg M]).run R = R (hO M (M 3)) := by kernel_rfl
theorem hr_10 (M : Nat → Bool) (R : Out → Prop) : (t_hears [.c (.p 0 0 0), .c (.i .i64 1), .c (.i .i64 0)] [mReg M]).run R = R (hO M (M 4)) := by kernel_rfl
theorem hr_11 (M : Nat → Bool) (R : Out → Prop) : (t_hears [.c (.p 0 0 0), .c (.i .i64 1), .c (.i .i64 1)] [mReg M]).run R = R (hO M (M 5)) := by kernel_rfl
theorem hr_12 (M : Nat → Bool) (R : Out → Prop) : (t_hears [.c (.p 0 0 0), .c (.i .i64 1), .c (.i .i64 2)] [mReg M]).run R = R (hO M (M 6)) := by kernel_rfl
theorem hr_13 (M : Nat → Bool) (R : Out → Prop) : (t_hears [.c (.p 0 0 0), .c (.i .i64 1), .c (.i .i64 3)] [mReg M]).run R = R (hO M (M 7)) := by kernel_rfl
theorem hr_20 (M : Nat → Bool) (R : Out → Prop) : (t_hears [.c (.p 0 0 0), .c (.i .i64 2), .c (.i .i64 0)] [mReg M]).run R = R (hO M (M 8)) := by kernel_rfl
theorem hr_21 (M : Nat → Bool) (R : Out → Prop) : (t_hears [.c (.p 0 0 0), .c (.i .i64 2), .c (.i .i64 1)] [mReg M]).run R = R (hO M (M 9)) := by kernel_rfl
theorem hr_22 (M : Nat → Bool) (R : Out → Prop) : (t_hears [.c (.p 0 0 0), .c (.i .i64 2), .c (.i .i64 2)] [mReg M]).run R = R (hO M (M 10)) := by kernel_rfl
theorem hr_23 (M : Nat → Bool) (R : Out → Prop) : (t_hears [.c (.p 0 0 0), .c (.i .i64 2), .c (.i .i64 3)] [mReg M]).run R = R (hO M (M 11)) := by kernel_rfl
theorem hr_30 (M : Nat → Bool) (R : Out → Prop) : (t_hears [.c (.p 0 0 0), .c (.i .i64 3), .c (.i .i64 0)] [mReg M]).run R = R (hO M (M 12)) := by kernel_rfl
theorem hr_31 (M : Nat → Bool) (R : Out → Prop) : (t_hears [.c (.p 0 0 0), .c (.i .i64 3), .c (.i .i64 1)] [mReg M]).run R = R (hO M (M 13)) := by kernel_rfl
theorem hr_32 (M : Nat → Bool) (R : Out → Prop) : (t_hears [.c (.p 0 0 0), .c (.i .i64 3), .c (.i .i64 2)] [mReg M]).run R = R (hO M (M 14)) := by kernel_rfl
theorem hr_33 (M : Nat → Bool) (R : Out → Prop) : (t_hears [.c (.p 0 0 0), .c (.i .i64 3), .c (.i .i64 3)] [mReg M]).run R = R (hO M (M 15)) := by kernel_rfl
noncomputable def w_hrA (a : Int) : List RC := [.f (decide (0 ≤ a ∧ a < 4)), .F 12]
theorem hr_A (M : Nat → Bool) (a b : Int) (R : Out → Prop) : ((t_hears [.c (.p 0 0 0), .c (.i .i64 a), .c (.i .i64 b)] [mReg M]).fol (scr (w_hrA a))).run R = road (w_hrA a) (R (hO M false)) := by kernel_rfl
noncomputable def w_hrB (a b : Int) : List RC := [.t (decide (0 ≤ a ∧ a < 4)), .T 2, .f (decide (0 ≤ b ∧ b < 4)), .T 1, .F 9]
theorem hr_B (M : Nat → Bool) (a b : Int) (R : Out → Prop) : ((t_hears [.c (.p 0 0 0), .c (.i .i64 a), .c (.i .i64 b)] [mReg M]).fol (scr (w_hrB a b))).run R = road (w_hrB a b) (R (hO M false)) := by kernel_rfl
theorem four {a : Int} (h : 0 ≤ a ∧ a < 4) : a = 0 ∨ a = 1 ∨ a = 2 ∨ a = 3 := by omega
noncomputable def tHears : Con := fun args regs => match args, regs with
  | [.c (.p 0 0 0), .c (.i .i64 a), .c (.i .i64 b)], [⟨16, 53, .cells l⟩] => (match isM l with
    | true => .ret ⟨.v (.c (.b (hrs (mOf l) a b))), [some ⟨16, 53, .cells l⟩]⟩
    | false => .fail)
  | _, _ => .fail
theorem hrs_F {M : Nat → Bool} {a b : Int} (h : ¬ (0 ≤ a ∧ a < 4)) : hrs M a b = false := by unfold hrs; rw [dF h]; rfl
theorem hrs_G {M : Nat → Bool} {a b : Int} (h : ¬ (0 ≤ b ∧ b < 4)) : hrs M a b = false := by unfold hrs; rw [dF h]; simp
set_option maxRecDepth 100000 in
theorem hears_in (M : Nat → Bool) (a b : Int) (R : Out → Prop) (h : R (hO M (hrs M a b))) : Box ((t_hears [.c (.p 0 0 0), .c (.i .i64 a), .c (.i .i64 b)] [mReg M]).run R) := by
  by_cases ha : 0 ≤ a ∧ a < 4
  · by_cases hb : 0 ≤ b ∧ b < 4
    · rcases four ha with rfl | rfl | rfl | rfl <;> rcases four hb with rfl | rfl | rfl | rfl
      · exact Box.of_eq (hr_00 M R) h
      · exact Box.of_eq (hr_01 M R) h
      · exact Box.of_eq (hr_02 M R) h
      · exact Box.of_eq (hr_03 M R) h
      · exact Box.of_eq (hr_10 M R) h
      · exact Box.of_eq (hr_11 M R) h
      · exact Box.of_eq (hr_12 M R) h
      · exact Box.of_eq (hr_13 M R) h
      · exact Box.of_eq (hr_20 M R) h
      · exact Box.of_eq (hr_21 M R) h
      · exact Box.of_eq (hr_22 M R) h
      · exact Box.of_eq (hr_23 M R) h
      · exact Box.of_eq (hr_30 M R) h
      · exact Box.of_eq (hr_31 M R) h
      · exact Box.of_eq (hr_32 M R) h
      · exact Box.of_eq (hr_33 M R) h
    · rw [hrs_G hb] at h
      exact ⟨by_road (hr_B M a b R) ⟨dT ha, dF hb, trivial⟩ h⟩
  · rw [hrs_F ha] at h
    exact ⟨by_road (hr_A M a b R) ⟨dF ha, trivial⟩ h⟩
set_option maxRecDepth 100000 in
theorem kHears : Known Tryz.prog [] 30 tHears := by
  refine k_hears.less fun args regs R h => Box.out ?_
  unfold tHears at h
  split at h
  case h_2 => exact h.elim
  rename_i a b l
  split at h
  case h_2 => exact h.elim
  rename_i hl
  have hl := isM_ok hl
  have h : R ⟨.v (.c (.b (hrs (mOf l) a b))), [some ⟨16, 53, .cells l⟩]⟩ := h
  generalize mOf l = M at *
  subst hl
  exact hears_in M a b R h

/-! ### whom a module hears -/
noncomputable def c_stat : FuncId → Option Con := conOf [(30, tHears)]
theorem kc_stat : ∀ f T, c_stat f = some T → Known Tryz.prog [] f T := (Knowns.cons kHears Knowns.nil).get
noncomputable abbrev f_stat := Tryz.f103
noncomputable def X_stat : Cx := { P := Tryz.prog, con := c_stat, glob := [], m := 1, loops := [] }
noncomputable def t_stat : Con := fun args regs => if regs.length = 1 then nfun Tryz.prog [] c_stat [(0, [0, 1, 5, 7], unroll X_stat 0 [0, 1, 5, 7] [5] (bodyLoop f_stat 0) 5)] f_stat args regs else .fail
theorem k_stat : Known Tryz.prog [] 103 t_stat := known_loops 1 Tryz.func103 rfl (by kernel_rfl) mixed kc_stat (LAll.one (id := 0) (body := bodyLoop f_stat 0) (by kernel_rfl) rfl (unroll_ok (X := X_stat) kc_stat mixed (LAll.none (by kernel_rfl)) [0, 1, 5, 7] [5] 5))
def stN (b0 b1 b2 b3 : Bool) : Int := bif b3 then (bif b2 then (bif b1 then (bif b0 then 79 else 78) else (bif b0 then 77 else 76)) else (bif b1 then (bif b0 then 75 else 74) else (bif b0 then 73 else 72)))
  else (bif b2 then (bif b1 then (bif b0 then 71 else 70) else (bif b0 then 69 else 68)) else (bif b1 then (bif b0 then 67 else 66) else (bif b0 then 65 else 64)))
def statV (M : Nat → Bool) (a : Int) : Int := stN (hrs M a 0) (hrs M a 1) (hrs M a 2) (hrs M a 3)
def uO (M : Nat → Bool) (n : Int) : Out := ⟨.v (.c (.i .u8 n)), [some (mReg M)]⟩
theorem stat_tree (M : Nat → Bool) (a : Int) (R : Out → Prop) : (t_stat [.c (.p 0 0 0), .c (.i .i64 a)] [mReg M]).run R =
    sel (hrs (mOf (mC M)) a 0) (sel (hrs (mOf (mC M)) a 1) (sel (hrs (mOf (mC M)) a 2) (sel (hrs (mOf (mC M)) a 3) (R (uO M 79)) (R (uO M 71))) (sel (hrs (mOf (mC M)) a 3) (R (uO M 75)) (R (uO M 67)))) (sel (hrs (mOf (mC M)) a 2) (sel (hrs (mOf (mC M)) a 3) (R (uO M 77)) (R (uO M 69))) (sel (hrs (mOf (mC M)) a 3) (R (uO M 73)) (R (uO M 65)))))
     (sel (hrs (mOf (mC M)) a 1) (sel (hrs (mOf (mC M)) a 2) (sel (hrs (mOf (mC M)) a 3) (R (uO M 78)) (R (uO M 70))) (sel (hrs (mOf (mC M)) a 3) (R (uO M 74)) (R (uO M 66)))) (sel (hrs (mOf (mC M)) a 2) (sel (hrs (mOf (mC M)) a 3) (R (uO M 76)) (R (uO M 68))) (sel (hrs (mOf (mC M)) a 3) (R (uO M 72)) (R (uO M 64))))) := by kernel_rfl
noncomputable def tStat : Con := fun args regs => match args, regs with
  | [.c (.p 0 0 0), .c (.i .i64 a)], [⟨16, 53, .cells l⟩] => (match isM l with
    | true => .ret ⟨.v (.c (.i .u8 (statV (mOf l) a))), [some ⟨16, 53, .cells l⟩]⟩
    | false => .fail)
  | _, _ => .fail
set_option maxRecDepth 100000 in
theorem kStat : Known Tryz.prog [] 103 tStat := by
  refine k_stat.less fun args regs R h => Box.out ?_
  unfold tStat at h
  split at h
  case h_2 => exact h.elim
  rename_i a l
  split at h
  case h_2 => exact h.elim
  rename_i hl
  have hl := isM_ok hl
  have h : R ⟨.v (.c (.i .u8 (statV (mOf l) a))), [some ⟨16, 53, .cells l⟩]⟩ := h
  have e1 : mOf (mC (mOf l)) = mOf l := by rw [← hl]
  generalize mOf l = M at *
  subst hl
  have h : R (uO M (statV M a)) := h
  refine Box.of_eq (stat_tree M a R) ?_
  rw [e1]
  unfold statV at h
  cases h0 : hrs M a 0 <;> cases h1 : hrs M a 1 <;> cases h2 : hrs M a 2 <;> cases h3 : hrs M a 3 <;> (rw [h0, h1, h2, h3] at h; exact h)

/-! ### setting -/
def okS (a b : Int) : Bool := decide (0 ≤ a ∧ a < 4) && decide (0 ≤ b ∧ b < 4) && !(a == b) && !(b == 0)
def setM (M : Nat → Bool) (a b : Int) (on : Bool) (i : Nat) : Bool := bif okS a b && (i == 4 * a.toNat + b.toNat) then on else M i
noncomputable def t_set : Con := fun args regs => nfun Tryz.prog [] c_hears [] Tryz.f93 args regs
theorem k_set : Known Tryz.prog [] 93 t_set := known_inl Tryz.func93 rfl (by kernel_rfl) mixed kc_hears (by kernel_rfl)
theorem st_00 (M : Nat → Bool) (on : Bool) (R : Out → Prop) : (t_set [.c (.p 0 0 0), .c (.i .i64 0), .c (.i .i64 0), .c (.b on)] [mReg M]).run R = R (hO (setM M 0 0 on) (okS 0 0)) := by kernel_rfl
theorem st_01 (M : Nat → Bool) (on : Bool) (R : Out → Prop) : (t_set [.c (.p 0 0 0), .c (.i .i64 0), .c (.i .i64 1), .c (.b on)] [mReg M]).run R = R (hO (setM M 0 1 on) (okS 0 1)) := by kernel_rfl
theorem st_02 (M : Nat → Bool) (on : Bool) (R : Out → Prop) : (t_set [.c (.p 0 0 0), .c (.i .i64 0), .c (.i .i64 2), .c (.b on)] [mReg M]).run R = R (hO (setM M 0 2 on) (okS 0 2)) := by kernel_rfl
theorem st_03 (M : Nat → Bool) (on : Bool) (R : Out → Prop) : (t_set [.c (.p 0 0 0), .c (.i .i64 0), .c (.i .i64 3), .c (.b on)] [mReg M]).run R = R (hO (setM M 0 3 on) (okS 0 3)) := by kernel_rfl
theorem st_10 (M : Nat → Bool) (on : Bool) (R : Out → Prop) : (t_set [.c (.p 0 0 0), .c (.i .i64 1), .c (.i .i64 0), .c (.b on)] [mReg M]).run R = R (hO (setM M 1 0 on) (okS 1 0)) := by kernel_rfl
theorem st_11 (M : Nat → Bool) (on : Bool) (R : Out → Prop) : (t_set [.c (.p 0 0 0), .c (.i .i64 1), .c (.i .i64 1), .c (.b on)] [mReg M]).run R = R (hO (setM M 1 1 on) (okS 1 1)) := by kernel_rfl
theorem st_12 (M : Nat → Bool) (on : Bool) (R : Out → Prop) : (t_set [.c (.p 0 0 0), .c (.i .i64 1), .c (.i .i64 2), .c (.b on)] [mReg M]).run R = R (hO (setM M 1 2 on) (okS 1 2)) := by kernel_rfl
theorem st_13 (M : Nat → Bool) (on : Bool) (R : Out → Prop) : (t_set [.c (.p 0 0 0), .c (.i .i64 1), .c (.i .i64 3), .c (.b on)] [mReg M]).run R = R (hO (setM M 1 3 on) (okS 1 3)) := by kernel_rfl
theorem st_20 (M : Nat → Bool) (on : Bool) (R : Out → Prop) : (t_set [.c (.p 0 0 0), .c (.i .i64 2), .c (.i .i64 0), .c (.b on)] [mReg M]).run R = R (hO (setM M 2 0 on) (okS 2 0)) := by kernel_rfl
theorem st_21 (M : Nat → Bool) (on : Bool) (R : Out → Prop) : (t_set [.c (.p 0 0 0), .c (.i .i64 2), .c (.i .i64 1), .c (.b on)] [mReg M]).run R = R (hO (setM M 2 1 on) (okS 2 1)) := by kernel_rfl
theorem st_22 (M : Nat → Bool) (on : Bool) (R : Out → Prop) : (t_set [.c (.p 0 0 0), .c (.i .i64 2), .c (.i .i64 2), .c (.b on)] [mReg M]).run R = R (hO (setM M 2 2 on) (okS 2 2)) := by kernel_rfl
theorem st_23 (M : Nat → Bool) (on : Bool) (R : Out → Prop) : (t_set [.c (.p 0 0 0), .c (.i .i64 2), .c (.i .i64 3), .c (.b on)] [mReg M]).run R = R (hO (setM M 2 3 on) (okS 2 3)) := by kernel_rfl
theorem st_30 (M : Nat → Bool) (on : Bool) (R : Out → Prop) : (t_set [.c (.p 0 0 0), .c (.i .i64 3), .c (.i .i64 0), .c (.b on)] [mReg M]).run R = R (hO (setM M 3 0 on) (okS 3 0)) := by kernel_rfl
theorem st_31 (M : Nat → Bool) (on : Bool) (R : Out → Prop) : (t_set [.c (.p 0 0 0), .c (.i .i64 3), .c (.i .i64 1), .c (.b on)] [mReg M]).run R = R (hO (setM M 3 1 on) (okS 3 1)) := by kernel_rfl
theorem st_32 (M : Nat → Bool) (on : Bool) (R : Out → Prop) : (t_set [.c (.p 0 0 0), .c (.i .i64 3), .c (.i .i64 2), .c (.b on)] [mReg M]).run R = R (hO (setM M 3 2 on) (okS 3 2)) := by kernel_rfl
theorem st_33 (M : Nat → Bool) (on : Bool) (R : Out → Prop) : (t_set [.c (.p 0 0 0), .c (.i .i64 3), .c (.i .i64 3), .c (.b on)] [mReg M]).run R = R (hO (setM M 3 3 on) (okS 3 3)) := by kernel_rfl
noncomputable def w_stA (a : Int) : List RC := [.f (decide (0 ≤ a ∧ a < 4)), .T 12]
theorem st_A (M : Nat → Bool) (a b : Int) (on : Bool) (R : Out → Prop) : ((t_set [.c (.p 0 0 0), .c (.i .i64 a), .c (.i .i64 b), .c (.b on)] [mReg M]).fol (scr (w_stA a))).run R = road (w_stA a) (R (hO M false)) := by kernel_rfl
noncomputable def w_stB (a b : Int) : List RC := [.t (decide (0 ≤ a ∧ a < 4)), .F 2, .f (decide (0 ≤ b ∧ b < 4)), .F 2, .T 8]
theorem st_B (M : Nat → Bool) (a b : Int) (on : Bool) (R : Out → Prop) : ((t_set [.c (.p 0 0 0), .c (.i .i64 a), .c (.i .i64 b), .c (.b on)] [mReg M]).fol (scr (w_stB a b))).run R = road (w_stB a b) (R (hO M false)) := by kernel_rfl
theorem okS_F {a b : Int} (h : ¬ (0 ≤ a ∧ a < 4)) : okS a b = false := by unfold okS; rw [dF h]; rfl
theorem okS_G {a b : Int} (h : ¬ (0 ≤ b ∧ b < 4)) : okS a b = false := by unfold okS; rw [dF h]; simp
theorem setM_not {M : Nat → Bool} {a b : Int} {on : Bool} (h : okS a b = false) : setM M a b on = M := by funext i; unfold setM; rw [h]; rfl
noncomputable def tSet : Con := fun args regs => match args, regs with
  | [.c (.p 0 0 0), .c (.i .i64 a), .c (.i .i64 b), .c (.b on)], [⟨16, 53, .cells l⟩] => (match isM l with
    | true => .ret (hO (setM (mOf l) a b on) (okS a b))
    | false => .fail)
  | _, _ => .fail
set_option maxRecDepth 100000 in
theorem set_in (M : Nat → Bool) (a b : Int) (on : Bool) (R : Out → Prop) (h : R (hO (setM M a b on) (okS a b))) : Box ((t_set [.c (.p 0 0 0), .c (.i .i64 a), .c (.i .i64 b), .c (.b on)] [mReg M]).run R) := by
  by_cases ha : 0 ≤ a ∧ a < 4
  · by_cases hb : 0 ≤ b ∧ b < 4
    · rcases four ha with rfl | rfl | rfl | rfl <;> rcases four hb with rfl | rfl | rfl | rfl
      · exact Box.of_eq (st_00 M on R) h
      · exact Box.of_eq (st_01 M on R) h
      · exact Box.of_eq (st_02 M on R) h
      · exact Box.of_eq (st_03 M on R) h
      · exact Box.of_eq (st_10 M on R) h
      · exact Box.of_eq (st_11 M on R) h
      · exact Box.of_eq (st_12 M on R) h
      · exact Box.of_eq (st_13 M on R) h
      · exact Box.of_eq (st_20 M on R) h
      · exact Box.of_eq (st_21 M on R) h
      · exact Box.of_eq (st_22 M on R) h
      · exact Box.of_eq (st_23 M on R) h
      · exact Box.of_eq (st_30 M on R) h
      · exact Box.of_eq (st_31 M on R) h
      · exact Box.of_eq (st_32 M on R) h
      · exact Box.of_eq (st_33 M on R) h
    · rw [setM_not (okS_G hb), okS_G hb] at h
      exact ⟨by_road (st_B M a b on R) ⟨dT ha, dF hb, trivial⟩ h⟩
  · rw [setM_not (okS_F ha), okS_F ha] at h
    exact ⟨by_road (st_A M a b on R) ⟨dF ha, trivial⟩ h⟩
set_option maxRecDepth 100000 in
theorem kSet : Known Tryz.prog [] 93 tSet := by
  refine k_set.less fun args regs R h => Box.out ?_
  unfold tSet at h
  split at h
  case h_2 => exact h.elim
  rename_i a b on l
  split at h
  case h_2 => exact h.elim
  rename_i hl
  have hl := isM_ok hl
  have h : R (hO (setM (mOf l) a b on) (okS a b)) := h
  generalize mOf l = M at *
  subst hl
  exact set_in M a b on R h

end Go.Proofs.YtdijbpokklgjlaaGreatDoor.prt
