/-
  Joined: PrA, PrB, PrC.
-/
import Derived.Test.YtjfgphfdaghilaaGreatDoorEngC
import Derived.Test.YtjfgphfdaghilaaGreatDoorEng34
import Derived.Test.YtjfgphfdaghilaaGreatDoorLxX
set_option linter.unusedVariables false
namespace Go.Proofs.YtjfgphfdaghilaaGreatDoor.prt
open Go Go.Nx

theorem mixed : Tryz.prog.follows .mixedOrders = true := by kernel_rfl
theorem selT {c : Bool} {A B : Prop} (h : c = true) (hA : A) : sel c A B := sel_iff.2 (.inl ⟨h, hA⟩)
theorem selF {c : Bool} {A B : Prop} (h : c = false) (hB : B) : sel c A B := sel_iff.2 (.inr ⟨h, hB⟩)
theorem dT {p : Prop} [Decidable p] (h : p) : decide p = true := decide_eq_true h
theorem dF {p : Prop} [Decidable p] (h : ¬ p) : decide p = false := decide_eq_false h
theorem bF {x y : Int} (h : x ≠ y) : (x == y) = false := by rw [beq_eq_false_iff_ne]; exact h
theorem bT {x y : Int} (h : x = y) : (x == y) = true := by rw [beq_iff_eq]; exact h
theorem sel_by {p : Prop} [Decidable p] {A B : Prop} (ha : p → A) (hb : ¬ p → B) : sel (decide p) A B := by
  by_cases h : p
  · exact selT (dT h) (ha h)
  · exact selF (dF h) (hb h)
theorem sel_eq {x y : Int} {A B : Prop} (ha : x = y → A) (hb : x ≠ y → B) : sel (x == y) A B := by
  by_cases h : x = y
  · exact selT (bT h) (ha h)
  · exact selF (bF h) (hb h)
theorem sel_b {c : Bool} {A B : Prop} (ha : c = true → A) (hb : c = false → B) : sel c A B := by
  cases c with
  | true => exact selT rfl (ha rfl)
  | false => exact selF rfl (hb rfl)
/-- A tree's run, kept from being opened. -/
structure Box (p : Prop) : Prop where
  out : p
theorem Box.of_eq {p q : Prop} (h : p = q) (hq : q) : Box p := ⟨h.mpr hq⟩
def w64 (x : Int) : Int := IntKind.i64.wrap x
theorem w64_id {x : Int} (h : -9223372036854775808 ≤ x ∧ x ≤ 9223372036854775807) : w64 x = x := by unfold w64; rw [IntKind.wrap_i64]; omega

/-! ### cells of bools -/
def isB : NC → Bool
  | .b _ => true
  | _ => false
def cB : NC → Bool
  | .b x => x
  | _ => false
def mC (M : Nat → Bool) : List NC := (List.range 16).map fun i => .b (M i)
def isM (l : List NC) : Bool := l.length == 16 && l.all isB
def mOf (l : List NC) (i : Nat) : Bool := cB (l.getD i .pn)
theorem isB_eq {x : NC} (h : isB x = true) : x = .b (cB x) := by
  cases x <;> first | rfl | cases h
theorem isM_ok {l : List NC} (h : isM l = true) : l = mC (mOf l) := by
  unfold isM at h
  simp only [Bool.and_eq_true, beq_iff_eq, List.all_eq_true] at h
  obtain ⟨h1, h2⟩ := h
  apply List.ext_getElem
  · simp [mC, h1]
  · intro i hi hi'
    simp only [mC, List.getElem_map, List.getElem_range]
    have := isB_eq (h2 _ (List.getElem_mem hi))
    rw [this]
    simp only [mOf]
    rw [List.getD_eq_getElem?_getD, List.getElem?_eq_getElem hi]
    rfl
def mReg (M : Nat → Bool) : Reg := ⟨16, 43, .cells (mC M)⟩

/-! ### is it a module -/
noncomputable def t_is : Con := fun args regs => nfun Tryz.prog [] (fun _ => Option.none) [] Tryz.f109 args regs
theorem k_is : Known Tryz.prog [] 109 t_is := known_inl Tryz.func109 rfl (by kernel_rfl) mixed con_none (by kernel_rfl)
def bO (b : Bool) : Out := ⟨.v (.c (.b b)), []⟩
theorem is_tree (a : Int) (R : Out → Prop) : (t_is [.c (.i .i64 a)] []).run R = sel (decide (a ≥ 0)) (R (bO (decide (a < 4)))) (R (bO false)) := by kernel_rfl
noncomputable def tIs : Con := fun args regs => match args, regs with
  | [.c (.i .i64 a)], [] => .br (decide (0 ≤ a ∧ a < 4)) (.ret (bO true)) (.ret (bO false))
  | _, _ => .fail
set_option maxRecDepth 100000 in
theorem kIs : Known Tryz.prog [] 109 tIs := by
  refine k_is.less fun args regs R h => Box.out ?_
  unfold tIs at h
  split at h
  case h_2 => exact h.elim
  rename_i a
  have h : sel (decide (0 ≤ a ∧ a < 4)) (R (bO true)) (R (bO false)) := h
  refine Box.of_eq (is_tree a R) (sel_by (fun h0 => ?_) fun h0 => ?_)
  · rcases sel_iff.1 h with ⟨h1, h⟩ | ⟨h1, h⟩
    · have := of_decide_eq_true h1
      rw [dT this.2]; exact h
    · have := of_decide_eq_false h1
      rw [dF (fun e => this ⟨h0, e⟩)]; exact h
  · rcases sel_iff.1 h with ⟨h1, h⟩ | ⟨h1, h⟩
    · exact (h0 (of_decide_eq_true h1).1).elim
    · exact h

/-! ### does it hear -/
def okM (a : Int) : Prop := 0 ≤ a ∧ a < 4
instance (a : Int) : Decidable (okM a) := inferInstanceAs (Decidable (0 ≤ a ∧ a < 4))
def hrs (M : Nat → Bool) (a b : Int) : Bool := bif decide (0 ≤ a ∧ a < 4) && decide (0 ≤ b ∧ b < 4) then M (4 * a.toNat + b.toNat) else false
noncomputable def c_hears : FuncId → Option Con := conOf [(109, tIs)]
theorem kc_hears : ∀ f T, c_hears f = some T → Known Tryz.prog [] f T := (Knowns.cons kIs Knowns.nil).get
noncomputable def t_hears : Con := fun args regs => nfun Tryz.prog [] c_hears [] Tryz.f71 args regs
theorem k_hears : Known Tryz.prog [] 71 t_hears := known_inl Tryz.func71 rfl (by kernel_rfl) mixed kc_hears (by kernel_rfl)
def hO (M : Nat → Bool) (x : Bool) : Out := ⟨.v (.c (.b x)), [some (mReg M)]⟩
theorem hr_00 (M : Nat → Bool) (R : Out → Prop) : (t_hears [.c (.p 0 0 0), .c (.i .i64 0), .c (.i .i64 0)] [mReg M]).run R = R (hO M (M 0)) := by kernel_rfl
theorem hr_01 (M : Nat → Bool) (R : Out → Prop) : (t_hears [.c (.p 0 0 0), .c (.i .i64 0), .c (.i .i64 1)] [mReg M]).run R = R (hO M (M 1)) := by kernel_rfl
theorem hr_02 (M : Nat → Bool) (R : Out → Prop) : (t_hears [.c (.p 0 0 0), .c (.i .i64 0), .c (.i .i64 2)] [mReg M]).run R = R (hO M (M 2)) := by kernel_rfl
theorem hr_03 (M : Nat → Bool) (R : Out → Prop) : (t_hears [.c (.p 0 0 0), .c (.i .i64 0), .c (.i .i64 3)] [mReg M]).run R = R (hO M (M 3)) := by kernel_rfl
theorem hr_10 (M : Nat → Bool) (R : Out → Prop) : (t_hears [.c (.p 0 0 0), .c (.i .i64 1), .c (.i .i64 0)] [mReg M]).run R = R (hO M (M 4)) := by kernel_rfl
theorem hr_11 (M : Nat → Bool) (R : Out → Prop) : (t_hears [.c (.p 0 0 0), .c (.i .i64 1), .c (.i .i64 1)] [mReg M]).run R = R (hO M (M 5)) := by kernel_rfl
theorem hr_12 (M : Nat → Bool) (R : Out → Prop) : (t_hears [.c (.p 0 0 0), .c (.i .i64 1), .c (.i .i64 2)] [mReg M]).run R = R (hO M (M 6)) := by kernel_rfl
theorem hr_13 (M : Nat → Bool) (R : Out → Prop) : (t_hears [.c (.p 0 0 0), .c (.i .i64 1), .c (.i .i64 3)] [mReg M]).run R = R (hO M (M 7)) := by kernel_rfl
theorem hr_20 (M : Nat → Bool) (R : Out → Prop) : (t_hears [.c (.p 0 0 0), .c (.i .i64 2), .c (.i .i64 0)] [mReg M]).run R = R (hO M (M 8)) := by kernel_rfl
theorem hr_21 (M : Nat → Bool) (R : Out → Prop) : (t_hears [.c (.p 0 0 0), .c (.i .i64 2), .c (.i .i64 1)] [mReg M]).run R = R (hO M (M 9)) := by kernel_rfl
theorem hr_22 (M : Nat → Bool) (R : Out → Prop) : (t_hears [.c (.p 0 0 0), .c (.i .i64 2), .c (.i .i64 2)] [mReg M]).run R = R (hO M (M 10)) := by kernel_rfl
theorem hr_23 (M : Nat → Bool) (R : Out → Prop) : (t_hears [.c (.p 0 0 0), .c (.i .i64 2), .c (.i .i64 3)] [mReg M]).run R = R (hO M (M 11)) := by kernel_rfl
theorem hr_30 (M : Nat → Bool) (R : Out → Prop) : (t_hears [.c (.p 0 0 0), .c (.i .i64 3), .c (.i .i64 0)] [mReg M]).run R = R (hO M (M 12)) := by kernel_rfl
theorem hr_31 (M : Nat → Bool) (R : Out → Prop) : (t_hears [.c (.p 0 0 0), .c (.i .i64 3), .c (.i .i64 1)] [mReg M]).run R = R (hO M (M 13)) := by kernel_rfl
theorem hr_32 (M : Nat → Bool) (R : Out → Prop) : (t_hears [.c (.p 0 0 0), .c (.i .i64 3), .c (.i .i64 2)] [mReg M]).run R = R (hO M (M 14)) := by kernel_rfl
theorem hr_33 (M : Nat → Bool) (R : Out → Prop) : (t_hears [.c (.p 0 0 0), .c (.i .i64 3), .c (.i .i64 3)] [mReg M]).run R = R (hO M (M 15)) := by kernel_rfl
noncomputable def w_hrA (a : Int) : List RC := [.f (decide (0 ≤ a ∧ a < 4)), .F 12]
theorem hr_A (M : Nat → Bool) (a b : Int) (R : Out → Prop) : ((t_hears [.c (.p 0 0 0), .c (.i .i64 a), .c (.i .i64 b)] [mReg M]).fol (scr (w_hrA a))).run R = road (w_hrA a) (R (hO M false)) := by kernel_rfl
noncomputable def w_hrB (a b : Int) : List RC := [.t (decide (0 ≤ a ∧ a < 4)), .T 2, .f (decide (0 ≤ b ∧ b < 4)), .T 1, .F 9]
theorem hr_B (M : Nat → Bool) (a b : Int) (R : Out → Prop) : ((t_hears [.c (.p 0 0 0), .c (.i .i64 a), .c (.i .i64 b)] [mReg M]).fol (scr (w_hrB a b))).run R = road (w_hrB a b) (R (hO M false)) := by kernel_rfl
theorem four {a : Int} (h : 0 ≤ a ∧ a < 4) : a = 0 ∨ a = 1 ∨ a = 2 ∨ a = 3 := by omega
noncomputable def tHears : Con := fun args regs => match args, regs with
  | [.c (.p 0 0 0), .c (.i .i64 a), .c (.i .i64 b)], [⟨16, 43, .cells l⟩] => (match isM l with
    | true => .ret ⟨.v (.c (.b (hrs (mOf l) a b))), [some ⟨16, 43, .cells l⟩]⟩
    | false => .fail)
  | _, _ => .fail
theorem hrs_F {M : Nat → Bool} {a b : Int} (h : ¬ (0 ≤ a ∧ a < 4)) : hrs M a b = false := by unfold hrs; rw [dF h]; rfl
theorem hrs_G {M : Nat → Bool} {a b : Int} (h : ¬ (0 ≤ b ∧ b < 4)) : hrs M a b = false := by unfold hrs; rw [dF h]; simp
set_option maxRecDepth 100000 in
theorem hears_in (M : Nat → Bool) (a b : Int) (R : Out → Prop) (h : R (hO M (hrs M a b))) : Box ((t_hears [.c (.p 0 0 0), .c (.i .i64 a), .c (.i .i64 b)] [mReg M]).run R) := by
  by_cases ha : 0 ≤ a ∧ a < 4
  · by_cases hb : 0 ≤ b ∧ b < 4
    · rcases four ha with rfl | rfl | rfl | rfl <;> rcases four hb with rfl | rfl | rfl | rfl
      · exact Box.of_eq (hr_00 M R) h
      · exact Box.of_eq (hr_01 M R) h
      · exact Box.of_eq (hr_02 M R) h
      · exact Box.of_eq (hr_03 M R) h
      · exact Box.of_eq (hr_10 M R) h
      · exact Box.of_eq (hr_11 M R) h
      · exact Box.of_eq (hr_12 M R) h
      · exact Box.of_eq (hr_13 M R) h
      · exact Box.of_eq (hr_20 M R) h
      · exact Box.of_eq (hr_21 M R) h
      · exact Box.of_eq (hr_22 M R) h
      · exact Box.of_eq (hr_23 M R) h
      · exact Box.of_eq (hr_30 M R) h
      · exact Box.of_eq (hr_31 M R) h
      · exact Box.of_eq (hr_32 M R) h
      · exact Box.of_eq (hr_33 M R) h
    · rw [hrs_G hb] at h
      exact ⟨by_road (hr_B M a b R) ⟨dT ha, dF hb, trivial⟩ h⟩
  · rw [hrs_F ha] at h
    exact ⟨by_road (hr_A M a b R) ⟨dF ha, trivial⟩ h⟩
set_option maxRecDepth 100000 in
theorem kHears : Known Tryz.prog [] 71 tHears := by
  refine k_hears.less fun args regs R h => Box.out ?_
  unfold tHears at h
  split at h
  case h_2 => exact h.elim
  rename_i a b l
  split at h
  case h_2 => exact h.elim
  rename_i hl
  have hl := isM_ok hl
  have h : R ⟨.v (.c (.b (hrs (mOf l) a b))), [some ⟨16, 43, .cells l⟩]⟩ := h
  generalize mOf l = M at *
  subst hl
  exact hears_in M a b R h

/-! ### whom a module hears -/
noncomputable def c_stat : FuncId → Option Con := conOf [(71, tHears)]
theorem kc_stat : ∀ f T, c_stat f = some T → Known Tryz.prog [] f T := (Knowns.cons kHears Knowns.nil).get
noncomputable abbrev f_stat := Tryz.f278
noncomputable def X_stat : Cx := { P := Tryz.prog, con := c_stat, glob := [], m := 1, loops := [] }
noncomputable def t_stat : Con := fun args regs => if regs.length = 1 then nfun Tryz.prog [] c_stat [(0, [0, 1, 5, 7], unroll X_stat 0 [0, 1, 5, 7] [5] (bodyLoop f_stat 0) 5)] f_stat args regs else .fail
theorem k_stat : Known Tryz.prog [] 278 t_stat := known_loops 1 Tryz.func278 rfl (by kernel_rfl) mixed kc_stat (LAll.one (id := 0) (body := bodyLoop f_stat 0) (by kernel_rfl) rfl (unroll_ok (X := X_stat) kc_stat mixed (LAll.none (by kernel_rfl)) [0, 1, 5, 7] [5] 5))
def stN (b0 b1 b2 b3 : Bool) : Int := bif b3 then (bif b2 then (bif b1 then (bif b0 then 79 else 78) else (bif b0 then 77 else 76)) else (bif b1 then (bif b0 then 75 else 74) else (bif b0 then 73 else 72)))
  else (bif b2 then (bif b1 then (bif b0 then 71 else 70) else (bif b0 then 69 else 68)) else (bif b1 then (bif b0 then 67 else 66) else (bif b0 then 65 else 64)))
def statV (M : Nat → Bool) (a : Int) : Int := stN (hrs M a 0) (hrs M a 1) (hrs M a 2) (hrs M a 3)
def uO (M : Nat → Bool) (n : Int) : Out := ⟨.v (.c (.i .u8 n)), [some (mReg M)]⟩
theorem stat_tree (M : Nat → Bool) (a : Int) (R : Out → Prop) : (t_stat [.c (.p 0 0 0), .c (.i .i64 a)] [mReg M]).run R =
    sel (hrs (mOf (mC M)) a 0) (sel (hrs (mOf (mC M)) a 1) (sel (hrs (mOf (mC M)) a 2) (sel (hrs (mOf (mC M)) a 3) (R (uO M 79)) (R (uO M 71))) (sel (hrs (mOf (mC M)) a 3) (R (uO M 75)) (R (uO M 67)))) (sel (hrs (mOf (mC M)) a 2) (sel (hrs (mOf (mC M)) a 3) (R (uO M 77)) (R (uO M 69))) (sel (hrs (mOf (mC M)) a 3) (R (uO M 73)) (R (uO M 65)))))
     (sel (hrs (mOf (mC M)) a 1) (sel (hrs (mOf (mC M)) a 2) (sel (hrs (mOf (mC M)) a 3) (R (uO M 78)) (R (uO M 70))) (sel (hrs (mOf (mC M)) a 3) (R (uO M 74)) (R (uO M 66)))) (sel (hrs (mOf (mC M)) a 2) (sel (hrs (mOf (mC M)) a 3) (R (uO M 76)) (R (uO M 68))) (sel (hrs (mOf (mC M)) a 3) (R (uO M 72)) (R (uO M 64))))) := by kernel_rfl
noncomputable def tStat : Con := fun args regs => match args, regs with
  | [.c (.p 0 0 0), .c (.i .i64 a)], [⟨16, 43, .cells l⟩] => (match isM l with
    | true => .ret ⟨.v (.c (.i .u8 (statV (mOf l) a))), [some ⟨16, 43, .cells l⟩]⟩
    | false => .fail)
  | _, _ => .fail
set_option maxRecDepth 100000 in
theorem kStat : Known Tryz.prog [] 278 tStat := by
  refine k_stat.less fun args regs R h => Box.out ?_
  unfold tStat at h
  split at h
  case h_2 => exact h.elim
  rename_i a l
  split at h
  case h_2 => exact h.elim
  rename_i hl
  have hl := isM_ok hl
  have h : R ⟨.v (.c (.i .u8 (statV (mOf l) a))), [some ⟨16, 43, .cells l⟩]⟩ := h
  have e1 : mOf (mC (mOf l)) = mOf l := by rw [← hl]
  generalize mOf l = M at *
  subst hl
  have h : R (uO M (statV M a)) := h
  refine Box.of_eq (stat_tree M a R) ?_
  rw [e1]
  unfold statV at h
  cases h0 : hrs M a 0 <;> cases h1 : hrs M a 1 <;> cases h2 : hrs M a 2 <;> cases h3 : hrs M a 3 <;> (rw [h0, h1, h2, h3] at h; exact h)

/-! ### setting -/
def okS (a b : Int) : Bool := decide (0 ≤ a ∧ a < 4) && decide (0 ≤ b ∧ b < 4) && !(a == b) && !(b == 0)
def setM (M : Nat → Bool) (a b : Int) (on : Bool) (i : Nat) : Bool := bif okS a b && (i == 4 * a.toNat + b.toNat) then on else M i
noncomputable def t_set : Con := fun args regs => nfun Tryz.prog [] c_hears [] Tryz.f242 args regs
theorem k_set : Known Tryz.prog [] 242 t_set := known_inl Tryz.func242 rfl (by kernel_rfl) mixed kc_hears (by kernel_rfl)
theorem st_00 (M : Nat → Bool) (on : Bool) (R : Out → Prop) : (t_set [.c (.p 0 0 0), .c (.i .i64 0), .c (.i .i64 0), .c (.b on)] [mReg M]).run R = R (hO (setM M 0 0 on) (okS 0 0)) := by kernel_rfl
theorem st_01 (M : Nat → Bool) (on : Bool) (R : Out → Prop) : (t_set [.c (.p 0 0 0), .c (.i .i64 0), .c (.i .i64 1), .c (.b on)] [mReg M]).run R = R (hO (setM M 0 1 on) (okS 0 1)) := by kernel_rfl
theorem st_02 (M : Nat → Bool) (on : Bool) (R : Out → Prop) : (t_set [.c (.p 0 0 0), .c (.i .i64 0), .c (.i .i64 2), .c (.b on)] [mReg M]).run R = R (hO (setM M 0 2 on) (okS 0 2)) := by kernel_rfl
theorem st_03 (M : Nat → Bool) (on : Bool) (R : Out → Prop) : (t_set [.c (.p 0 0 0), .c (.i .i64 0), .c (.i .i64 3), .c (.b on)] [mReg M]).run R = R (hO (setM M 0 3 on) (okS 0 3)) := by kernel_rfl
theorem st_10 (M : Nat → Bool) (on : Bool) (R : Out → Prop) : (t_set [.c (.p 0 0 0), .c (.i .i64 1), .c (.i .i64 0), .c (.b on)] [mReg M]).run R = R (hO (setM M 1 0 on) (okS 1 0)) := by kernel_rfl
theorem st_11 (M : Nat → Bool) (on : Bool) (R : Out → Prop) : (t_set [.c (.p 0 0 0), .c (.i .i64 1), .c (.i .i64 1), .c (.b on)] [mReg M]).run R = R (hO (setM M 1 1 on) (okS 1 1)) := by kernel_rfl
theorem st_12 (M : Nat → Bool) (on : Bool) (R : Out → Prop) : (t_set [.c (.p 0 0 0), .c (.i .i64 1), .c (.i .i64 2), .c (.b on)] [mReg M]).run R = R (hO (setM M 1 2 on) (okS 1 2)) := by kernel_rfl
theorem st_13 (M : Nat → Bool) (on : Bool) (R : Out → Prop) : (t_set [.c (.p 0 0 0), .c (.i .i64 1), .c (.i .i64 3), .c (.b on)] [mReg M]).run R = R (hO (setM M 1 3 on) (okS 1 3)) := by kernel_rfl
theorem st_20 (M : Nat → Bool) (on : Bool) (R : Out → Prop) : (t_set [.c (.p 0 0 0), .c (.i .i64 2), .c (.i .i64 0), .c (.b on)] [mReg M]).run R = R (hO (setM M 2 0 on) (okS 2 0)) := by kernel_rfl
theorem st_21 (M : Nat → Bool) (on : Bool) (R : Out → Prop) : (t_set [.c (.p 0 0 0), .c (.i .i64 2), .c (.i .i64 1), .c (.b on)] [mReg M]).run R = R (hO (setM M 2 1 on) (okS 2 1)) := by kernel_rfl
theorem st_22 (M : Nat → Bool) (on : Bool) (R : Out → Prop) : (t_set [.c (.p 0 0 0), .c (.i .i64 2), .c (.i .i64 2), .c (.b on)] [mReg M]).run R = R (hO (setM M 2 2 on) (okS 2 2)) := by kernel_rfl
theorem st_23 (M : Nat → Bool) (on : Bool) (R : Out → Prop) : (t_set [.c (.p 0 0 0), .c (.i .i64 2), .c (.i .i64 3), .c (.b on)] [mReg M]).run R = R (hO (setM M 2 3 on) (okS 2 3)) := by kernel_rfl
theorem st_30 (M : Nat → Bool) (on : Bool) (R : Out → Prop) : (t_set [.c (.p 0 0 0), .c (.i .i64 3), .c (.i .i64 0), .c (.b on)] [mReg M]).run R = R (hO (setM M 3 0 on) (okS 3 0)) := by kernel_rfl
theorem st_31 (M : Nat → Bool) (on : Bool) (R : Out → Prop) : (t_set [.c (.p 0 0 0), .c (.i .i64 3), .c (.i .i64 1), .c (.b on)] [mReg M]).run R = R (hO (setM M 3 1 on) (okS 3 1)) := by kernel_rfl
theorem st_32 (M : Nat → Bool) (on : Bool) (R : Out → Prop) : (t_set [.c (.p 0 0 0), .c (.i .i64 3), .c (.i .i64 2), .c (.b on)] [mReg M]).run R = R (hO (setM M 3 2 on) (okS 3 2)) := by kernel_rfl
theorem st_33 (M : Nat → Bool) (on : Bool) (R : Out → Prop) : (t_set [.c (.p 0 0 0), .c (.i .i64 3), .c (.i .i64 3), .c (.b on)] [mReg M]).run R = R (hO (setM M 3 3 on) (okS 3 3)) := by kernel_rfl
noncomputable def w_stA (a : Int) : List RC := [.f (decide (0 ≤ a ∧ a < 4)), .T 12]
theorem st_A (M : Nat → Bool) (a b : Int) (on : Bool) (R : Out → Prop) : ((t_set [.c (.p 0 0 0), .c (.i .i64 a), .c (.i .i64 b), .c (.b on)] [mReg M]).fol (scr (w_stA a))).run R = road (w_stA a) (R (hO M false)) := by kernel_rfl
noncomputable def w_stB (a b : Int) : List RC := [.t (decide (0 ≤ a ∧ a < 4)), .F 2, .f (decide (0 ≤ b ∧ b < 4)), .F 2, .T 8]
theorem st_B (M : Nat → Bool) (a b : Int) (on : Bool) (R : Out → Prop) : ((t_set [.c (.p 0 0 0), .c (.i .i64 a), .c (.i .i64 b), .c (.b on)] [mReg M]).fol (scr (w_stB a b))).run R = road (w_stB a b) (R (hO M false)) := by kernel_rfl
theorem okS_F {a b : Int} (h : ¬ (0 ≤ a ∧ a < 4)) : okS a b = false := by unfold okS; rw [dF h]; rfl
theorem okS_G {a b : Int} (h : ¬ (0 ≤ b ∧ b < 4)) : okS a b = false := by unfold okS; rw [dF h]; simp
theorem setM_not {M : Nat → Bool} {a b : Int} {on : Bool} (h : okS a b = false) : setM M a b on = M := by funext i; unfold setM; rw [h]; rfl
noncomputable def tSet : Con := fun args regs => match args, regs with
  | [.c (.p 0 0 0), .c (.i .i64 a), .c (.i .i64 b), .c (.b on)], [⟨16, 43, .cells l⟩] => (match isM l with
    | true => .ret (hO (setM (mOf l) a b on) (okS a b))
    | false => .fail)
  | _, _ => .fail
set_option maxRecDepth 100000 in
theorem set_in (M : Nat → Bool) (a b : Int) (on : Bool) (R : Out → Prop) (h : R (hO (setM M a b on) (okS a b))) : Box ((t_set [.c (.p 0 0 0), .c (.i .i64 a), .c (.i .i64 b), .c (.b on)] [mReg M]).run R) := by
  by_cases ha : 0 ≤ a ∧ a < 4
  · by_cases hb : 0 ≤ b ∧ b < 4
    · rcases four ha with rfl | rfl | rfl | rfl <;> rcases four hb with rfl | rfl | rfl | rfl
      · exact Box.of_eq (st_00 M on R) h
      · exact Box.of_eq (st_01 M on R) h
      · exact Box.of_eq (st_02 M on R) h
      · exact Box.of_eq (st_03 M on R) h
      · exact Box.of_eq (st_10 M on R) h
      · exact Box.of_eq (st_11 M on R) h
      · exact Box.of_eq (st_12 M on R) h
      · exact Box.of_eq (st_13 M on R) h
      · exact Box.of_eq (st_20 M on R) h
      · exact Box.of_eq (st_21 M on R) h
      · exact Box.of_eq (st_22 M on R) h
      · exact Box.of_eq (st_23 M on R) h
      · exact Box.of_eq (st_30 M on R) h
      · exact Box.of_eq (st_31 M on R) h
      · exact Box.of_eq (st_32 M on R) h
      · exact Box.of_eq (st_33 M on R) h
    · rw [setM_not (okS_G hb), okS_G hb] at h
      exact ⟨by_road (st_B M a b on R) ⟨dT ha, dF hb, trivial⟩ h⟩
  · rw [setM_not (okS_F ha), okS_F ha] at h
    exact ⟨by_road (st_A M a b on R) ⟨dF ha, trivial⟩ h⟩
set_option maxRecDepth 100000 in
theorem kSet : Known Tryz.prog [] 242 tSet := by
  refine k_set.less fun args regs R h => Box.out ?_
  unfold tSet at h
  split at h
  case h_2 => exact h.elim
  rename_i a b on l
  split at h
  case h_2 => exact h.elim
  rename_i hl
  have hl := isM_ok hl
  have h : R (hO (setM (mOf l) a b on) (okS a b)) := h
  generalize mOf l = M at *
  subst hl
  exact set_in M a b on R h

end Go.Proofs.YtjfgphfdaghilaaGreatDoor.prt
namespace Go.Proofs.YtjfgphfdaghilaaGreatDoor.prt
open Go Go.Nx

structure PS where
  M : Nat → Bool
  ro : Bool
  lo : Bool
  ex : Bool
  c0 : Bool
  sp : Int
  ec : Bool
def pC (p : PS) : List NC := mC p.M ++ [.b p.ro, .b p.lo, .b p.ex, .b p.c0, .i .u8 p.sp, .b p.ec]
def isU : NC → Bool
  | .i .u8 _ => true
  | _ => false
def cI : NC → Int
  | .i _ n => n
  | _ => 0
def isP (l : List NC) : Bool := l.length == 22 && (l.take 16).all isB && isB (l.getD 16 .pn) && isB (l.getD 17 .pn) && isB (l.getD 18 .pn) && isB (l.getD 19 .pn) && isU (l.getD 20 .pn) && isB (l.getD 21 .pn)
def mCut (l : List NC) (i : Nat) : Bool := bif Nat.blt i 16 then mOf l i else false
def pOf (l : List NC) : PS := { M := mCut l, ro := cB (l.getD 16 .pn), lo := cB (l.getD 17 .pn), ex := cB (l.getD 18 .pn), c0 := cB (l.getD 19 .pn), sp := cI (l.getD 20 .pn), ec := cB (l.getD 21 .pn) }
theorem isU_eq {x : NC} (h : isU x = true) : x = .i .u8 (cI x) := by
  unfold isU at h
  split at h
  · rfl
  · cases h
theorem isP_ok {l : List NC} (h : isP l = true) : l = pC (pOf l) := by
  unfold isP at h
  simp only [Bool.and_eq_true, beq_iff_eq] at h
  obtain ⟨⟨⟨⟨⟨⟨⟨h0, h1⟩, h2⟩, h3⟩, h4⟩, h5⟩, h6⟩, h7⟩ := h
  have e1 : l.take 16 = mC (mOf l) := by
    have hm : isM (l.take 16) = true := by
      unfold isM
      rw [h1, List.length_take, h0]; rfl
    have := isM_ok hm
    rw [this]
    unfold mC
    apply List.map_congr_left
    intro i hi
    rw [List.mem_range] at hi
    have : mOf (List.take 16 l) i = mOf l i := by
      unfold mOf
      rw [List.getD_eq_getElem?_getD, List.getD_eq_getElem?_getD, List.getElem?_take, if_pos hi]
    rw [this]
  have e2 : l.drop 16 = [l.getD 16 .pn, l.getD 17 .pn, l.getD 18 .pn, l.getD 19 .pn, l.getD 20 .pn, l.getD 21 .pn] := by
    match l, h0 with
    | [_, _, _, _, _, _, _, _, _, _, _, _, _, _, _, _, _, _, _, _, _, _], _ => rfl
  have e3 : l = l.take 16 ++ l.drop 16 := (List.take_append_drop 16 l).symm
  have e0 : mC (mOf l) = mC (mCut l) := by
    unfold mC
    apply List.map_congr_left
    intro i hi
    rw [List.mem_range] at hi
    have hb : Nat.blt i 16 = true := Nat.blt_eq.mpr hi
    unfold mCut
    rw [hb]
    rfl
  rw [e1, e0, e2] at e3
  rw [isB_eq h2, isB_eq h3, isB_eq h4, isB_eq h5, isU_eq h6, isB_eq h7] at e3
  exact e3
noncomputable def rdP (l : List NC) : Option PS := match isP l with
  | true => some (pOf l)
  | false => none
theorem rdP_in {l : List NC} {p : PS} (h : rdP l = some p) : l = pC p ∧ p = pOf l := by
  unfold rdP at h
  split at h
  · rename_i hl; cases h; exact ⟨isP_ok hl, rfl⟩
  · cases h
theorem mOf_mC {M : Nat → Bool} {i : Nat} (h : i < 16) : mOf (mC M) i = M i := by
  unfold mOf mC
  rw [List.getD_eq_getElem?_getD, List.getElem?_map, List.getElem?_range h]
  rfl
theorem mOf_pC {p : PS} {i : Nat} (h : i < 16) : mOf (pC p) i = p.M i := by
  have e : mOf (pC p) i = mOf (mC p.M) i := by
    unfold mOf pC
    rw [List.getD_eq_getElem?_getD, List.getD_eq_getElem?_getD, List.getElem?_append_left (by simp [mC]; exact h)]
  rw [e, mOf_mC h]
theorem mCut_pC {p : PS} {i : Nat} (h : i < 16) : (pOf (pC p)).M i = p.M i := by
  have hb : Nat.blt i 16 = true := Nat.blt_eq.mpr h
  show mCut (pC p) i = p.M i
  unfold mCut
  rw [hb]
  exact mOf_pC h
theorem hrs_eq {M M' : Nat → Bool} (h : ∀ i, i < 16 → M i = M' i) (a b : Int) : hrs M a b = hrs M' a b := by
  unfold hrs
  by_cases ha : 0 ≤ a ∧ a < 4
  · by_cases hb : 0 ≤ b ∧ b < 4
    · rw [dT ha, dT hb, h _ (by omega)]
    · rw [dF hb]; simp
  · rw [dF ha]; simp
theorem statV_eq {M M' : Nat → Bool} (h : ∀ i, i < 16 → M i = M' i) (a : Int) : statV M a = statV M' a := by
  unfold statV
  rw [hrs_eq h, hrs_eq h, hrs_eq h, hrs_eq h]

/-! ### bytes of modes -/
noncomputable def t_bit : Con := fun args regs => nfun Tryz.prog [] (fun _ => Option.none) [] Tryz.f275 args regs
theorem k_bit : Known Tryz.prog [] 275 t_bit := known_inl Tryz.func275 rfl (by kernel_rfl) mixed con_none (by kernel_rfl)
noncomputable def c_bit : FuncId → Option Con := conOf [(275, t_bit)]
theorem kc_bit : ∀ f T, c_bit f = some T → Known Tryz.prog [] f T := (Knowns.cons k_bit Knowns.nil).get
noncomputable def t_modes : Con := fun args regs => nfun Tryz.prog [] c_bit [] Tryz.f236 args regs
theorem k_modes : Known Tryz.prog [] 236 t_modes := known_inl Tryz.func236 rfl (by kernel_rfl) mixed kc_bit (by kernel_rfl)
noncomputable def t_board : Con := fun args regs => nfun Tryz.prog [] c_bit [] Tryz.f240 args regs
theorem k_board : Known Tryz.prog [] 240 t_board := known_inl Tryz.func240 rfl (by kernel_rfl) mixed kc_bit (by kernel_rfl)
def nO (n : Int) : Out := ⟨.v (.c (.i .u8 n)), []⟩
def modesV (p : PS) : Int := bif p.ro then (bif p.lo then 74 else 66) else (bif p.lo then 72 else 64)
def boardV (p : PS) : Int := bif p.ex then (bif p.c0 then 69 else 65) else (bif p.c0 then 68 else 64)
theorem modes_tree (p : PS) (R : Out → Prop) : (t_modes [.ag (pC p)] []).run R = sel p.ro (sel p.lo (R (nO 74)) (R (nO 66))) (sel p.lo (R (nO 72)) (R (nO 64))) := by kernel_rfl
theorem board_tree (p : PS) (R : Out → Prop) : (t_board [.ag (pC p)] []).run R = sel p.ex (sel p.c0 (R (nO 69)) (R (nO 65))) (sel p.c0 (R (nO 68)) (R (nO 64))) := by kernel_rfl
noncomputable def tModes : Con := fun args regs => match args, regs with
  | [.ag l], [] => (match rdP l with
    | some p => .ret (nO (modesV p))
    | none => .fail)
  | _, _ => .fail
noncomputable def tBoard : Con := fun args regs => match args, regs with
  | [.ag l], [] => (match rdP l with
    | some p => .ret (nO (boardV p))
    | none => .fail)
  | _, _ => .fail
theorem sel4 {a b : Bool} {w x y z : Int} {R : Int → Prop} (h : R (bif a then (bif b then w else x) else (bif b then y else z))) : sel a (sel b (R w) (R x)) (sel b (R y) (R z)) := by
  cases a <;> cases b <;> exact h
set_option maxRecDepth 100000 in
theorem kModes : Known Tryz.prog [] 236 tModes := by
  refine k_modes.less fun args regs R h => Box.out ?_
  unfold tModes at h
  split at h
  case h_2 => exact h.elim
  rename_i l
  split at h
  case h_2 => exact h.elim
  rename_i p hp
  have h : R (nO (modesV p)) := h
  obtain ⟨e, -⟩ := rdP_in hp
  subst e
  exact Box.of_eq (modes_tree p R) (sel4 (R := fun n => R (nO n)) h)
set_option maxRecDepth 100000 in
theorem kBoard : Known Tryz.prog [] 240 tBoard := by
  refine k_board.less fun args regs R h => Box.out ?_
  unfold tBoard at h
  split at h
  case h_2 => exact h.elim
  rename_i l
  split at h
  case h_2 => exact h.elim
  rename_i p hp
  have h : R (nO (boardV p)) := h
  obtain ⟨e, -⟩ := rdP_in hp
  subst e
  exact Box.of_eq (board_tree p R) (sel4 (R := fun n => R (nO n)) h)

/-! ### answers -/
noncomputable def t_short : Con := fun args regs => nfun Tryz.prog [] (fun _ => Option.none) [] Tryz.f235 args regs
theorem k_short : Known Tryz.prog [] 235 t_short := known_inl Tryz.func235 rfl (by kernel_rfl) mixed con_none (by kernel_rfl)
noncomputable def t_long : Con := fun args regs => nfun Tryz.prog [] (fun _ => Option.none) [] Tryz.f239 args regs
theorem k_long : Known Tryz.prog [] 239 t_long := known_inl Tryz.func239 rfl (by kernel_rfl) mixed con_none (by kernel_rfl)
def lO (l : List Int) : Out := ⟨.v (.c (.l .u8 l)), []⟩
def rowO (l : List Int) : Out := ⟨.v (.c (.h 0 0 l.length)), [some ⟨1, 5, .ints .u8 l⟩]⟩
theorem short_tree (a b : Int) (R : Out → Prop) : (t_short [.c (.i .u8 a), .c (.i .u8 b)] []).run R = R (rowO [27, 58, a, b]) := by kernel_rfl
theorem long_tree (a b c : Int) (R : Out → Prop) : (t_long [.c (.i .u8 a), .c (.i .u8 b), .c (.i .u8 c)] []).run R = R (rowO [27, 59, a, b, c]) := by kernel_rfl
def wk (R : Out → Prop) (o : Out) : Prop := ∃ o', Weak o o' ∧ R o'
theorem wk_row {R : Out → Prop} {l : List Int} (h : R (lO l)) : wk R (rowO l) :=
  ⟨_, (Weak.ints (k := 0) (xs := l) rfl).trans (Weak.drop (rg' := []) fun n g hg => by simp at hg), h⟩
noncomputable def tShort : Con := fun args regs => match args, regs with
  | [.c (.i .u8 a), .c (.i .u8 b)], [] => .ret (lO [27, 58, a, b])
  | _, _ => .fail
noncomputable def tLong : Con := fun args regs => match args, regs with
  | [.c (.i .u8 a), .c (.i .u8 b), .c (.i .u8 c)], [] => .ret (lO [27, 59, a, b, c])
  | _, _ => .fail
set_option maxRecDepth 100000 in
theorem kShort : Known Tryz.prog [] 235 tShort := by
  refine k_short.weak fun args regs R h => Box.out ?_
  unfold tShort at h
  split at h
  case h_2 => exact h.elim
  rename_i a b
  have h : R (lO [27, 58, a, b]) := h
  exact Box.of_eq (short_tree a b (wk R)) (wk_row h)
set_option maxRecDepth 100000 in
theorem kLong : Known Tryz.prog [] 239 tLong := by
  refine k_long.weak fun args regs R h => Box.out ?_
  unfold tLong at h
  split at h
  case h_2 => exact h.elim
  rename_i a b c
  have h : R (lO [27, 59, a, b, c]) := h
  exact Box.of_eq (long_tree a b c (wk R)) (wk_row h)

/-! ### codes -/
def codeV (a : Int) : Int := bif decide (0 ≤ a ∧ a < 4) then IntKind.u8.wrap (w64 (88 + a)) else 0
noncomputable def c_code : FuncId → Option Con := conOf [(109, tIs)]
theorem kc_code : ∀ f T, c_code f = some T → Known Tryz.prog [] f T := (Knowns.cons kIs Knowns.nil).get
noncomputable def t_code : Con := fun args regs => nfun Tryz.prog [] c_code [] Tryz.f277 args regs
theorem k_code : Known Tryz.prog [] 277 t_code := known_inl Tryz.func277 rfl (by kernel_rfl) mixed kc_code (by kernel_rfl)
theorem code_tree (a : Int) (R : Out → Prop) : (t_code [.c (.i .i64 a), .c (.b true)] []).run R = sel (decide (0 ≤ a ∧ a < 4)) (R (nO (IntKind.u8.wrap (w64 (88 + a))))) (R (nO 0)) := by kernel_rfl
noncomputable def tCode : Con := fun args regs => match args, regs with
  | [.c (.i .i64 a), .c (.b true)], [] => .ret (nO (codeV a))
  | _, _ => .fail
set_option maxRecDepth 100000 in
theorem kCode : Known Tryz.prog [] 277 tCode := by
  refine k_code.less fun args regs R h => Box.out ?_
  unfold tCode at h
  split at h
  case h_2 => exact h.elim
  rename_i a
  have h : R (nO (codeV a)) := h
  refine Box.of_eq (code_tree a R) ?_
  unfold codeV at h
  cases e : decide (0 ≤ a ∧ a < 4) <;> (rw [e] at h; exact h)
noncomputable def c_linked : FuncId → Option Con := conOf [(277, tCode), (278, tStat), (239, tLong)]
theorem kc_linked : ∀ f T, c_linked f = some T → Known Tryz.prog [] f T := (Knowns.cons kCode (Knowns.cons kStat (Knowns.cons kLong Knowns.nil))).get
noncomputable def t_linked : Con := fun args regs => nfun Tryz.prog [] c_linked [] Tryz.f238 args regs
theorem k_linked : Known Tryz.prog [] 238 t_linked := known_inl Tryz.func238 rfl (by kernel_rfl) mixed kc_linked (by kernel_rfl)
def linkedV (p : PS) (a : Int) : List Int := [27, 59, 99, codeV a, statV p.M a]
theorem linkedV_eq (p : PS) (a : Int) : linkedV (pOf (pC p)) a = linkedV p a := by
  unfold linkedV
  rw [statV_eq (M := (pOf (pC p)).M) (M' := p.M) fun i hi => mCut_pC hi]
theorem linked_tree (p : PS) (a : Int) (R : Out → Prop) : (t_linked [.ag (pC p), .c (.i .i64 a)] []).run R = R (lO [27, 59, 99, codeV a, statV (mOf (mC p.M)) a]) := by kernel_rfl
noncomputable def tLinked : Con := fun args regs => match args, regs with
  | [.ag l, .c (.i .i64 a)], [] => (match rdP l with
    | some p => .ret (lO (linkedV p a))
    | none => .fail)
  | _, _ => .fail
set_option maxRecDepth 100000 in
theorem kLinked : Known Tryz.prog [] 238 tLinked := by
  refine k_linked.less fun args regs R h => Box.out ?_
  unfold tLinked at h
  split at h
  case h_2 => exact h.elim
  rename_i l a
  split at h
  case h_2 => exact h.elim
  rename_i p hp
  have h : R (lO (linkedV p a)) := h
  obtain ⟨e, -⟩ := rdP_in hp
  subst e
  refine Box.of_eq (linked_tree p a R) ?_
  rw [statV_eq (M := mOf (mC p.M)) (M' := p.M) fun i hi => mOf_mC hi]
  exact h

/-! ### modules of codes -/
noncomputable def t_of : Con := fun args regs => nfun Tryz.prog [] c_code [] Tryz.f279 args regs
theorem k_of : Known Tryz.prog [] 279 t_of := known_inl Tryz.func279 rfl (by kernel_rfl) mixed kc_code (by kernel_rfl)
noncomputable def c_of : FuncId → Option Con := conOf [(279, t_of)]
theorem kc_of : ∀ f T, c_of f = some T → Known Tryz.prog [] f T := (Knowns.cons k_of Knowns.nil).get
noncomputable def t_mto : Con := fun args regs => nfun Tryz.prog [] c_of [] Tryz.f276 args regs
theorem k_mto : Known Tryz.prog [] 276 t_mto := known_inl Tryz.func276 rfl (by kernel_rfl) mixed kc_of (by kernel_rfl)
noncomputable def t_from : Con := fun args regs => nfun Tryz.prog [] c_of [] Tryz.f241 args regs
theorem k_from : Known Tryz.prog [] 241 t_from := known_inl Tryz.func241 rfl (by kernel_rfl) mixed kc_of (by kernel_rfl)
noncomputable def c_to : FuncId → Option Con := conOf [(276, t_mto)]
theorem kc_to : ∀ f T, c_to f = some T → Known Tryz.prog [] f T := (Knowns.cons k_mto Knowns.nil).get
noncomputable def t_to : Con := fun args regs => nfun Tryz.prog [] c_to [] Tryz.f237 args regs
theorem k_to : Known Tryz.prog [] 237 t_to := known_inl Tryz.func237 rfl (by kernel_rfl) mixed kc_to (by kernel_rfl)
def ibO (n : Int) (b : Bool) : Out := ⟨.tu [.c (.i .i64 n), .c (.b b)], []⟩
def ofN (c at' : Int) : Int := w64 (w64 c - at')
theorem from_tree (c : Int) (R : Out → Prop) : (t_from [.c (.i .u8 c)] []).run R = sel (decide (0 ≤ ofN c 80 ∧ ofN c 80 < 4)) (R (ibO (ofN c 80) true)) (R (ibO 0 false)) := by kernel_rfl
theorem to_tree (c : Int) (R : Out → Prop) : (t_to [.c (.i .i64 c)] []).run R = sel (decide (c < 0)) (R (ibO 0 false)) (sel (decide (c > 255)) (R (ibO 0 false)) (sel (decide (0 ≤ ofN (IntKind.u8.wrap c) 88 ∧ ofN (IntKind.u8.wrap c) 88 < 4)) (R (ibO (ofN (IntKind.u8.wrap c) 88) true)) (R (ibO 0 false)))) := by kernel_rfl
noncomputable def tTo : Con := fun args regs => match args, regs with
  | [.c (.i .i64 c)], [] => .br (decide (88 ≤ c ∧ c < 92)) (.ret (ibO (c - 88) true)) (.ret (ibO 0 false))
  | _, _ => .fail
noncomputable def tFrom : Con := fun args regs => match args, regs with
  | [.c (.i .u8 c)], [] => .must (0 ≤ c ∧ c < 256) (.br (decide (80 ≤ c ∧ c < 84)) (.ret (ibO (c - 80) true)) (.ret (ibO 0 false)))
  | _, _ => .fail
theorem ofN_eq {c k : Int} (hc : 0 ≤ c ∧ c < 256) (hk : 0 ≤ k ∧ k < 256) : ofN c k = c - k := by
  unfold ofN
  rw [w64_id (x := c) (by omega), w64_id (by omega)]
theorem u8_id {c : Int} (hc : 0 ≤ c ∧ c < 256) : IntKind.u8.wrap c = c := by
  rw [IntKind.wrap_u8]; omega
set_option maxRecDepth 100000 in
theorem kTo : Known Tryz.prog [] 237 tTo := by
  refine k_to.less fun args regs R h => Box.out ?_
  unfold tTo at h
  split at h
  case h_2 => exact h.elim
  rename_i c
  have h : sel (decide (88 ≤ c ∧ c < 92)) (R (ibO (c - 88) true)) (R (ibO 0 false)) := h
  refine Box.of_eq (to_tree c R) (sel_by (fun h0 => ?_) fun h0 => sel_by (fun h1 => ?_) fun h1 => ?_)
  · rw [dF (by omega)] at h; exact h
  · rw [dF (by omega)] at h; exact h
  · rw [u8_id (by omega), ofN_eq (by omega) (by omega)]
    refine sel_by (fun h2 => ?_) fun h2 => ?_
    · rw [dT (by omega)] at h; exact h
    · rw [dF (by omega)] at h; exact h
set_option maxRecDepth 100000 in
theorem kFrom : Known Tryz.prog [] 241 tFrom := by
  refine k_from.less fun args regs R h => Box.out ?_
  unfold tFrom at h
  split at h
  case h_2 => exact h.elim
  rename_i c
  have h1 : 0 ≤ c ∧ c < 256 := h.1
  have h : sel (decide (80 ≤ c ∧ c < 84)) (R (ibO (c - 80) true)) (R (ibO 0 false)) := h.2
  refine Box.of_eq (from_tree c R) ?_
  rw [ofN_eq h1 (by omega)]
  refine sel_by (fun h2 => ?_) fun h2 => ?_
  · rw [dT (by omega)] at h; exact h
  · rw [dF (by omega)] at h; exact h

/-! ### the beginning -/
noncomputable def t_mstart : Con := fun args regs => nfun Tryz.prog [] (fun _ => Option.none) [] Tryz.f66 args regs
theorem k_mstart : Known Tryz.prog [] 66 t_mstart := known_inl Tryz.func66 rfl (by kernel_rfl) mixed con_none (by kernel_rfl)
noncomputable def c_pstart : FuncId → Option Con := conOf [(66, t_mstart)]
theorem kc_pstart : ∀ f T, c_pstart f = some T → Known Tryz.prog [] f T := (Knowns.cons k_mstart Knowns.nil).get
noncomputable def t_pstart : Con := fun args regs => nfun Tryz.prog [] c_pstart [] Tryz.f35 args regs
theorem k_pstart : Known Tryz.prog [] 35 t_pstart := known_inl Tryz.func35 rfl (by kernel_rfl) mixed kc_pstart (by kernel_rfl)
def startP : PS := { M := fun i => i == 2 || i == 9, ro := false, lo := false, ex := false, c0 := false, sp := 100, ec := false }
theorem pstart_tree (R : Out → Prop) : (t_pstart [] []).run R = R ⟨.v (.ag (pC startP)), []⟩ := by kernel_rfl
noncomputable def tPStart : Con := fun args regs => match args, regs with
  | [], [] => .ret ⟨.v (.ag (pC startP)), []⟩
  | _, _ => .fail
set_option maxRecDepth 100000 in
theorem kPStart : Known Tryz.prog [] 35 tPStart := by
  refine k_pstart.less fun args regs R h => ?_
  unfold tPStart at h
  split at h
  case h_2 => exact h.elim
  rw [pstart_tree]
  exact h
end Go.Proofs.YtjfgphfdaghilaaGreatDoor.prt
namespace Go.Proofs.YtjfgphfdaghilaaGreatDoor.prt
open Go Go.Nx

def fO (p : PS) (l : List Int) : Out := ⟨.tu [.ag (pC p), .c (.l .u8 l)], []⟩
def fA (r : PS × List Int) : Out := fO r.1 r.2
noncomputable def c_first : FuncId → Option Con := conOf [(235, tShort), (239, tLong), (236, tModes), (240, tBoard), (35, tPStart), (237, tTo), (241, tFrom), (238, tLinked), (242, tSet)]
theorem kc_first : ∀ f T, c_first f = some T → Known Tryz.prog [] f T := (Knowns.cons kShort (.cons kLong (.cons kModes (.cons kBoard (.cons kPStart (.cons kTo (.cons kFrom (.cons kLinked (.cons kSet .nil))))))))).get
noncomputable def t_first : Con := fun args regs => (nfun Tryz.prog [] c_first [] Tryz.f160 args regs).bind (frz2 .u8 0)
theorem k_first : Known Tryz.prog [] 160 t_first := (known_inlF Tryz.func160 rfl (by kernel_rfl) mixed kc_first (by kernel_rfl)).frz2 .u8 0
noncomputable def t_second : Con := fun args regs => (nfun Tryz.prog [] c_first [] Tryz.f161 args regs).bind (frz2 .u8 0)
theorem k_second : Known Tryz.prog [] 161 t_second := (known_inlF Tryz.func161 rfl (by kernel_rfl) mixed kc_first (by kernel_rfl)).frz2 .u8 0
noncomputable def t_third : Con := fun args regs => (nfun Tryz.prog [] c_first [] Tryz.f162 args regs).bind (frz2 .u8 0)
theorem k_third : Known Tryz.prog [] 162 t_third := (known_inlF Tryz.func162 rfl (by kernel_rfl) mixed kc_first (by kernel_rfl)).frz2 .u8 0

def firstV (p : PS) (b : Int) : PS × List Int :=
  if b = 112 then (p, [27, 58, 113, 74]) else if b = 114 then (p, [27, 58, 115, modesV p]) else if b = 116 then (p, [27, 58, 117, p.sp]) else if b = 118 then (p, [27, 58, 119, 64])
  else if b = 123 then (p, [1, 67, 117, 60, 4]) else if b = 127 then (startP, []) else (p, [])
theorem first_tree (p : PS) (b : Int) (R : Out → Prop) : (t_first [.ag (pC p), .c (.i .i64 b)] []).run R =
    sel (b == 112) (R (fO p [27, 58, 113, 74])) (sel (b == 114) (R (fO p [27, 58, 115, modesV p])) (sel (b == 116) (R (fO p [27, 58, 117, p.sp])) (sel (b == 118) (R (fO p [27, 58, 119, 64]))
      (sel (b == 123) (5 = 5 ∧ R (fO p [1, 67, 117, 60, 4])) (sel (b == 127) (R (fO startP [])) (R (fO p []))))))) := by kernel_rfl
def rollV (p : PS) (b c : Int) : PS × List Int :=
  if c = 67 then ({ p with ro := b == 105 }, [27, 58, 115, modesV { p with ro := b == 105 }]) else if c = 69 then ({ p with lo := b == 105 }, [27, 58, 115, modesV { p with lo := b == 105 }]) else (p, [])
def secondV (p : PS) (b c : Int) : PS × List Int :=
  if b = 105 ∨ b = 106 then rollV p b c
  else if b = 107 then (if c < 64 ∨ c > 127 then (p, []) else ({ p with sp := c }, [27, 58, 117, c]))
  else if b = 98 then (if 88 ≤ c ∧ c < 92 then (p, linkedV p (c - 88)) else (p, []))
  else if b = 114 then (if c = 89 then (p, [27, 59, 115, 89, boardV p]) else (p, []))
  else (p, [])
def rollR (p : PS) (b c : Int) (R : Out → Prop) : Prop :=
  sel (c == 67) (R (fO { p with ro := b == 105 } [27, 58, 115, modesV { p with ro := b == 105 }])) (sel (c == 69) (R (fO { p with lo := b == 105 } [27, 58, 115, modesV { p with lo := b == 105 }])) (R (fO p [])))
theorem second_tree (p : PS) (b c : Int) (R : Out → Prop) : (t_second [.ag (pC p), .c (.i .i64 b), .c (.i .i64 c)] []).run R =
    sel (b == 105) (rollR p b c R) (sel (b == 106) (rollR p b c R) (sel (b == 107) (sel (decide (c < 64)) (R (fO p [])) (sel (decide (c > 127)) (R (fO p [])) (R (fO { p with sp := IntKind.u8.wrap c } [27, 58, 117, IntKind.u8.wrap c]))))
      (sel (b == 98) (sel (decide (88 ≤ c ∧ c < 92)) (R (fO p (linkedV (pOf (pC p)) (c - 88)))) (R (fO p []))) (sel (b == 114) (sel (c == 89) (R (fO p [27, 59, 115, 89, boardV p])) (R (fO p []))) (R (fO p [])))))) := by kernel_rfl
def setP (p : PS) (a b : Int) (on : Bool) : PS := { p with M := setM p.M a b on }
def linkV (p : PS) (b c d : Int) : PS × List Int :=
  if (88 ≤ c ∧ c < 92) ∧ (80 ≤ d ∧ d < 84) then (setP p (c - 88) (d - 80) (b == 97), linkedV (setP p (c - 88) (d - 80) (b == 97)) (c - 88)) else (p, [])
def boaV (p : PS) (b c d : Int) : PS × List Int :=
  if c = 89 ∧ d = 65 then ({ p with ex := b == 105 }, [27, 59, 115, 89, boardV { p with ex := b == 105 }])
  else if c = 89 ∧ d = 67 then ({ p with c0 := b == 105 }, [27, 59, 115, 89, boardV { p with c0 := b == 105 }]) else (p, [])
def thirdV (p : PS) (b c d : Int) : PS × List Int :=
  if b = 96 ∨ b = 97 then linkV p b c d else if b = 105 ∨ b = 106 then boaV p b c d else (p, [])
def linkR (p : PS) (b c d : Int) (R : Out → Prop) : Prop :=
  sel (decide (88 ≤ c ∧ c < 92)) (sel (decide (d < 0)) (R (fO p [])) (sel (decide (d > 255)) (R (fO p [])) ((0 ≤ IntKind.u8.wrap d ∧ IntKind.u8.wrap d < 256) ∧ sel (decide (80 ≤ IntKind.u8.wrap d ∧ IntKind.u8.wrap d < 84))
      (R (fO (setP p (c - 88) (IntKind.u8.wrap d - 80) (b == 97)) (linkedV (pOf (pC (setP p (c - 88) (IntKind.u8.wrap d - 80) (b == 97)))) (c - 88)))) (R (fO p [])))))
    (sel (decide (d < 0)) (R (fO p [])) (sel (decide (d > 255)) (R (fO p [])) (R (fO p []))))
def boaR2 (p : PS) (b c d : Int) (R : Out → Prop) : Prop := sel (c == 89) (sel (d == 67) (R (fO { p with c0 := b == 105 } [27, 59, 115, 89, boardV { p with c0 := b == 105 }])) (R (fO p []))) (R (fO p []))
def boaR (p : PS) (b c d : Int) (R : Out → Prop) : Prop :=
  sel (c == 89) (sel (d == 65) (R (fO { p with ex := b == 105 } [27, 59, 115, 89, boardV { p with ex := b == 105 }])) (boaR2 p b c d R)) (boaR2 p b c d R)
theorem third_tree (p : PS) (b c d : Int) (R : Out → Prop) : (t_third [.ag (pC p), .c (.i .i64 b), .c (.i .i64 c), .c (.i .i64 d)] []).run R =
    sel (b == 96) (linkR p b c d R) (sel (b == 97) (linkR p b c d R) (sel (b == 105) (boaR p b c d R) (sel (b == 106) (boaR p b c d R) (R (fO p []))))) := by kernel_rfl

/-! ### as functions -/
noncomputable def tFirst : Con := fun args regs => match args, regs with
  | [.ag l, .c (.i .i64 b)], [] => (match rdP l with
    | some p => .ret (fA (firstV p b))
    | none => .fail)
  | _, _ => .fail
noncomputable def tSecond : Con := fun args regs => match args, regs with
  | [.ag l, .c (.i .i64 b), .c (.i .i64 c)], [] => (match rdP l with
    | some p => .ret (fA (secondV p b c))
    | none => .fail)
  | _, _ => .fail
noncomputable def tThird : Con := fun args regs => match args, regs with
  | [.ag l, .c (.i .i64 b), .c (.i .i64 c), .c (.i .i64 d)], [] => (match rdP l with
    | some p => .ret (fA (thirdV p b c d))
    | none => .fail)
  | _, _ => .fail
theorem if_in {p : Prop} [Decidable p] {α : Type} {x y : α} {R : α → Prop} (h : R (if p then x else y)) : (p → R x) ∧ (¬ p → R y) :=
  ⟨fun hp => by rw [if_pos hp] at h; exact h, fun hp => by rw [if_neg hp] at h; exact h⟩
set_option maxRecDepth 100000 in
theorem kFirst : Known Tryz.prog [] 160 tFirst := by
  refine k_first.less fun args regs R h => Box.out ?_
  unfold tFirst at h
  split at h
  case h_2 => exact h.elim
  rename_i l b
  split at h
  case h_2 => exact h.elim
  rename_i p hp
  have h : R (fA (firstV p b)) := h
  obtain ⟨e, -⟩ := rdP_in hp
  subst e
  clear hp
  refine Box.of_eq (first_tree p b R) ?_
  unfold firstV at h
  obtain ⟨h1, h⟩ := if_in (R := fun r => R (fA r)) h
  refine sel_eq h1 fun n1 => ?_
  obtain ⟨h1, h⟩ := if_in (R := fun r => R (fA r)) (h n1)
  refine sel_eq h1 fun n1 => ?_
  obtain ⟨h1, h⟩ := if_in (R := fun r => R (fA r)) (h n1)
  refine sel_eq h1 fun n1 => ?_
  obtain ⟨h1, h⟩ := if_in (R := fun r => R (fA r)) (h n1)
  refine sel_eq h1 fun n1 => ?_
  obtain ⟨h1, h⟩ := if_in (R := fun r => R (fA r)) (h n1)
  refine sel_eq (fun e => ⟨rfl, h1 e⟩) fun n1 => ?_
  obtain ⟨h1, h⟩ := if_in (R := fun r => R (fA r)) (h n1)
  exact sel_eq h1 h
theorem rollR_in {p : PS} {b c : Int} {R : Out → Prop} (h : R (fA (rollV p b c))) : rollR p b c R := by
  unfold rollV at h
  obtain ⟨h1, h⟩ := if_in (R := fun r => R (fA r)) h
  refine sel_eq h1 fun n1 => ?_
  obtain ⟨h1, h⟩ := if_in (R := fun r => R (fA r)) (h n1)
  exact sel_eq h1 h
set_option maxRecDepth 100000 in
theorem kSecond : Known Tryz.prog [] 161 tSecond := by
  refine k_second.less fun args regs R h => Box.out ?_
  unfold tSecond at h
  split at h
  case h_2 => exact h.elim
  rename_i l b c
  split at h
  case h_2 => exact h.elim
  rename_i p hp
  have h : R (fA (secondV p b c)) := h
  obtain ⟨e, -⟩ := rdP_in hp
  subst e
  clear hp
  refine Box.of_eq (second_tree p b c R) ?_
  unfold secondV at h
  obtain ⟨h1, h⟩ := if_in (R := fun r => R (fA r)) h
  refine sel_eq (fun e => rollR_in (h1 (.inl e))) fun n1 => sel_eq (fun e => rollR_in (h1 (.inr e))) fun n2 => ?_
  obtain ⟨h1, h⟩ := if_in (R := fun r => R (fA r)) (h (fun e => e.elim n1 n2))
  refine sel_eq (fun e => ?_) fun n3 => ?_
  · obtain ⟨h1, h2⟩ := if_in (R := fun r => R (fA r)) (h1 e)
    refine sel_by (fun e1 => h1 (.inl e1)) fun e1 => sel_by (fun e2 => h1 (.inr e2)) fun e2 => ?_
    rw [u8_id (by omega)]
    exact h2 (fun e => e.elim e1 e2)
  obtain ⟨h1, h⟩ := if_in (R := fun r => R (fA r)) (h n3)
  refine sel_eq (fun e => ?_) fun n4 => ?_
  · obtain ⟨h1, h2⟩ := if_in (R := fun r => R (fA r)) (h1 e)
    refine sel_by (fun e1 => ?_) h2
    rw [linkedV_eq]
    exact h1 e1
  obtain ⟨h1, h⟩ := if_in (R := fun r => R (fA r)) (h n4)
  refine sel_eq (fun e => ?_) h
  obtain ⟨h1, h2⟩ := if_in (R := fun r => R (fA r)) (h1 e)
  exact sel_eq h1 h2
theorem linkR_in {p : PS} {b c d : Int} {R : Out → Prop} (h : R (fA (linkV p b c d))) : linkR p b c d R := by
  unfold linkV at h
  obtain ⟨h1, h2⟩ := if_in (R := fun r => R (fA r)) h
  refine sel_by (fun hc => ?_) fun hc => ?_
  · refine sel_by (fun e => h2 (by omega)) fun e => sel_by (fun e1 => h2 (by omega)) fun e1 => ?_
    have hd : IntKind.u8.wrap d = d := u8_id (by omega)
    rw [hd, linkedV_eq]
    exact ⟨by omega, sel_by (fun e2 => h1 ⟨hc, e2⟩) fun e2 => h2 (by omega)⟩
  · have h3 := h2 (fun e => hc e.1)
    exact sel_by (fun _ => h3) fun _ => sel_by (fun _ => h3) fun _ => h3
theorem boaR_in {p : PS} {b c d : Int} {R : Out → Prop} (h : R (fA (boaV p b c d))) : boaR p b c d R := by
  unfold boaV at h
  obtain ⟨h1, h⟩ := if_in (R := fun r => R (fA r)) h
  have w : ¬ (c = 89 ∧ d = 65) → boaR2 p b c d R := fun n => by
    obtain ⟨h1, h2⟩ := if_in (R := fun r => R (fA r)) (h n)
    exact sel_eq (fun e => sel_eq (fun e1 => h1 ⟨e, e1⟩) fun e1 => h2 (fun e2 => e1 e2.2)) fun e => h2 (fun e2 => e e2.1)
  exact sel_eq (fun e => sel_eq (fun e1 => h1 ⟨e, e1⟩) fun e1 => w (fun e2 => e1 e2.2)) fun e => w (fun e2 => e e2.1)
set_option maxRecDepth 100000 in
theorem kThird : Known Tryz.prog [] 162 tThird := by
  refine k_third.less fun args regs R h => Box.out ?_
  unfold tThird at h
  split at h
  case h_2 => exact h.elim
  rename_i l b c d
  split at h
  case h_2 => exact h.elim
  rename_i p hp
  have h : R (fA (thirdV p b c d)) := h
  obtain ⟨e, -⟩ := rdP_in hp
  subst e
  clear hp
  refine Box.of_eq (third_tree p b c d R) ?_
  unfold thirdV at h
  obtain ⟨h1, h⟩ := if_in (R := fun r => R (fA r)) h
  refine sel_eq (fun e => linkR_in (h1 (.inl e))) fun n1 => sel_eq (fun e => linkR_in (h1 (.inr e))) fun n2 => ?_
  obtain ⟨h1, h⟩ := if_in (R := fun r => R (fA r)) (h (fun e => e.elim n1 n2))
  exact sel_eq (fun e => boaR_in (h1 (.inl e))) fun n3 => sel_eq (fun e => boaR_in (h1 (.inr e))) fun n4 => h (fun e => e.elim n3 n4)

/-! ### what is asked -/
noncomputable def c_ask : FuncId → Option Con := conOf [(160, tFirst), (161, tSecond), (162, tThird), (71, tHears)]
theorem kc_ask : ∀ f T, c_ask f = some T → Known Tryz.prog [] f T := (Knowns.cons kFirst (.cons kSecond (.cons kThird (.cons kHears .nil)))).get
noncomputable def t_ask : Con := fun args regs => (nfun Tryz.prog [] c_ask [] Tryz.f112 args regs).bind (frz2 .u8 0)
theorem k_ask : Known Tryz.prog [] 112 t_ask := (known_inlF Tryz.func112 rfl (by kernel_rfl) mixed kc_ask (by kernel_rfl)).frz2 .u8 0
def evL (k a b c d set code : Int) : List NC := [.i .i64 k, .i .i64 a, .i .i64 b, .i .i64 c, .i .i64 d, .i .i64 set, .i .i64 code]
def ecP (r : PS × List Int) : PS × List Int := ({ r.1 with ec := r.1.M 1 }, r.2)
def askV (p : PS) (k a b c d : Int) : PS × List Int :=
  if k = 10 then (if a = 1 then ecP (firstV p b) else if a = 2 then ecP (secondV p b c) else if a = 3 then ecP (thirdV p b c d) else ecP (p, [])) else (p, [])
theorem ask_tree (p : PS) (k a b c d set code : Int) (R : Out → Prop) : (t_ask [.ag (pC p), .ag (evL k a b c d set code)] []).run R =
    sel (k != 10) (R (fO p [])) (sel (a == 1) (R (fA (ecP (firstV (pOf (pC p)) b)))) (sel (a == 2) (R (fA (ecP (secondV (pOf (pC p)) b c)))) (sel (a == 3) (R (fA (ecP (thirdV (pOf (pC p)) b c d)))) (R (fA (ecP (p, []))))))) := by kernel_rfl
noncomputable def tAsk : Con := fun args regs => match args, regs with
  | [.ag l, .ag [.i .i64 k, .i .i64 a, .i .i64 b, .i .i64 c, .i .i64 d, .i .i64 set, .i .i64 code]], [] => (match rdP l with
    | some p => .ret (fA (askV p k a b c d))
    | none => .fail)
  | _, _ => .fail
set_option maxRecDepth 100000 in
theorem kAsk : Known Tryz.prog [] 112 tAsk := by
  refine k_ask.less fun args regs R h => Box.out ?_
  unfold tAsk at h
  split at h
  case h_2 => exact h.elim
  rename_i l k a b c d set code
  split at h
  case h_2 => exact h.elim
  rename_i p hp
  have h : R (fA (askV p k a b c d)) := h
  obtain ⟨e, e2⟩ := rdP_in hp
  clear hp
  rw [e] at e2
  subst e
  refine Box.of_eq (ask_tree p k a b c d set code R) ?_
  rw [← e2]
  unfold askV at h
  obtain ⟨h1, h2⟩ := if_in (R := fun r => R (fA r)) h
  by_cases hk : k = 10
  · refine selF (by subst hk; rfl) ?_
    obtain ⟨h1, h⟩ := if_in (R := fun r => R (fA r)) (h1 hk)
    refine sel_eq h1 fun n1 => ?_
    obtain ⟨h1, h⟩ := if_in (R := fun r => R (fA r)) (h n1)
    refine sel_eq h1 fun n1 => ?_
    obtain ⟨h1, h⟩ := if_in (R := fun r => R (fA r)) (h n1)
    exact sel_eq h1 h
  · exact selT (by simpa using hk) (h2 hk)
end Go.Proofs.YtjfgphfdaghilaaGreatDoor.prt
