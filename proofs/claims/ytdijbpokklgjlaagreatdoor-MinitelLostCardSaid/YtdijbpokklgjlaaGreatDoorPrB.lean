/-
  The Minitel's protocol: its state; answers.
-/
import Derived.Test.YtdijbpokklgjlaaGreatDoorPrA
set_option linter.unusedVariables false
namespace Go.Proofs.YtdijbpokklgjlaaGreatDoor.prt
open Go Go.Nx

structure PS where
  M : Nat → Bool
  ro : Bool
  lo : Bool
  ex : Bool
  c0 : Bool
  sp : Int
  ec : Bool
def pC (p : PS) : List NC := mC p.M ++ [.b p.ro, .b p.lo, .b p.ex, .b p.c0, .i .u8 p.sp, .b p.ec]
def isU : NC → Bool
  | .i .u8 _ => true
  | _ => false
def cI : NC → Int
  | .i _ n => n
  | _ => 0
def isP (l : List NC) : Bool := l.length == 22 && (l.take 16).all isB && isB (l.getD 16 .pn) && isB (l.getD 17 .pn) && isB (l.getD 18 .pn) && isB (l.getD 19 .pn) && isU (l.getD 20 .pn) && isB (l.getD 21 .pn)
def mCut (l : List NC) (i : Nat) : Bool := bif Nat.blt i 16 then mOf l i else false
def pOf (l : List NC) : PS := { M := mCut l, ro := cB (l.getD 16 .pn), lo := cB (l.getD 17 .pn), ex := cB (l.getD 18 .pn), c0 := cB (l.getD 19 .pn), sp := cI (l.getD 20 .pn), ec := cB (l.getD 21 .pn) }
theorem isU_eq {x : NC} (h : isU x = true) : x = .i .u8 (cI x) := by
  unfold isU at h
  split at h
  · rfl
  · cases h
theorem isP_ok {l : List NC} (h : isP l = true) : l = pC (pOf l) := by
  unfold isP at h
  simp only [Bool.and_eq_true, beq_iff_eq] at h
  obtain ⟨⟨⟨⟨⟨⟨⟨h0, h1⟩, h2⟩, h3⟩, h4⟩, h5⟩, h6⟩, h7⟩ := h
  have e1 : l.take 16 = mC (mOf l) := by
    have hm : isM (l.take 16) = true := by
      unfold isM
      rw [h1, List.length_take, h0]; rfl
    have := isM_ok hm
    rw [this]
    unfold mC
    apply List.map_congr_left
    intro i hi
    rw [List.mem_range] at hi
    have : mOf (List.take 16 l) i = mOf l i := by
      unfold mOf
      rw [List.getD_eq_getElem?_getD, List.getD_eq_getElem?_getD, List.getElem?_take, if_pos hi]
    rw [this]
  have e2 : l.drop 16 = [l.getD 16 .pn, l.getD 17 .pn, l.getD 18 .pn, l.getD 19 .pn, l.getD 20 .pn, l.getD 21 .pn] := by
    match l, h0 with
    | [_, _, _, _, _, _, _, _, _, _, _, _, _, _, _, _, _, _, _, _, _, _], _ => rfl
  have e3 : l = l.take 16 ++ l.drop 16 := (List.take_append_drop 16 l).symm
  have e0 : mC (mOf l) = mC (mCut l) := by
    unfold mC
    apply List.map_congr_left
    intro i hi
    rw [List.mem_range] at hi
    have hb : Nat.blt i 16 = true := Nat.blt_eq.mpr hi
    unfold mCut
    rw [hb]
    rfl
  rw [e1, e0, e2] at e3
  rw [isB_eq h2, isB_eq h3, isB_eq h4, isB_eq h5, isU_eq h6, isB_eq h7] at e3
  exact e3
noncomputable def rdP (l : List NC) : Option PS := match isP l with
  | true => some (pOf l)
  | false => none
theorem rdP_in {l : List NC} {p : PS} (h : rdP l = some p) : l = pC p ∧ p = pOf l := by
  unfold rdP at h
  split at h
  · rename_i hl; cases h; exact ⟨isP_ok hl, rfl⟩
  · cases h
theorem mOf_mC {M : Nat → Bool} {i : Nat} (h : i < 16) : mOf (mC M) i = M i := by
  unfold mOf mC
  rw [List.getD_eq_getElem?_getD, List.getElem?_map, List.getElem?_range h]
  rfl
theorem mOf_pC {p : PS} {i : Nat} (h : i < 16) : mOf (pC p) i = p.M i := by
  have e : mOf (pC p) i = mOf (mC p.M) i := by
    unfold mOf pC
    rw [List.getD_eq_getElem?_getD, List.getD_eq_getElem?_getD, List.getElem?_append_left (by simp [mC]; exact h)]
  rw [e, mOf_mC h]
theorem mCut_pC {p : PS} {i : Nat} (h : i < 16) : (pOf (pC p)).M i = p.M i := by
  have hb : Nat.blt i 16 = true := Nat.blt_eq.mpr h
  show mCut (pC p) i = p.M i
  unfold mCut
  rw [hb]
  exact mOf_pC h
theorem hrs_eq {M M' : Nat → Bool} (h : ∀ i, i < 16 → M i = M' i) (a b : Int) : hrs M a b = hrs M' a b := by
  unfold hrs
  by_cases ha : 0 ≤ a ∧ a < 4
  · by_cases hb : 0 ≤ b ∧ b < 4
    · rw [dT ha, dT hb, h _ (by omega)]
    · rw [dF hb]; simp
  · rw [dF ha]; simp
theorem statV_eq {M M' : Nat → Bool} (h : ∀ i, i < 16 → M i = M' i) (a : Int) : statV M a = statV M' a := by
  unfold statV
  rw [hrs_eq h, hrs_eq h, hrs_eq h, hrs_eq h]

/-! ### bytes of modes -/
noncomputable def t_bit : Con := fun args regs => nfun Tryz.prog [] (fun _ => Option.none) [] Tryz.f100 args regs
theorem k_bit : Known Tryz.prog [] 100 t_bit := known_inl Tryz.func100 rfl (by kernel_rfl) mixed con_none (by kernel_rfl)
noncomputable def c_bit : FuncId → Option Con := conOf [(100, t_bit)]
theorem kc_bit : ∀ f T, c_bit f = some T → Known Tryz.prog [] f T := (Knowns.cons k_bit Knowns.nil).get
noncomputable def t_modes : Con := fun args regs => nfun Tryz.prog [] c_bit [] Tryz.f87 args regs
theorem k_modes : Known Tryz.prog [] 87 t_modes := known_inl Tryz.func87 rfl (by kernel_rfl) mixed kc_bit (by kernel_rfl)
noncomputable def t_board : Con := fun args regs => nfun Tryz.prog [] c_bit [] Tryz.f91 args regs
theorem k_board : Known Tryz.prog [] 91 t_board := known_inl Tryz.func91 rfl (by kernel_rfl) mixed kc_bit (by kernel_rfl)
def nO (n : Int) : Out := ⟨.v (.c (.i .u8 n)), []⟩
def modesV (p : PS) : Int := bif p.ro then (bif p.lo then 74 else 66) else (bif p.lo then 72 else 64)
def boardV (p : PS) : Int := bif p.ex then (bif p.c0 then 69 else 65) else (bif p.c0 then 68 else 64)
theorem modes_tree (p : PS) (R : Out → Prop) : (t_modes [.ag (pC p)] []).run R = sel p.ro (sel p.lo (R (nO 74)) (R (nO 66))) (sel p.lo (R (nO 72)) (R (nO 64))) := by kernel_rfl
theorem board_tree (p : PS) (R : Out → Prop) : (t_board [.ag (pC p)] []).run R = sel p.ex (sel p.c0 (R (nO 69)) (R (nO 65))) (sel p.c0 (R (nO 68)) (R (nO 64))) := by kernel_rfl
noncomputable def tModes : Con := fun args regs => match args, regs with
  | [.ag l], [] => (match rdP l with
    | some p => .ret (nO (modesV p))
    | none => .fail)
  | _, _ => .fail
noncomputable def tBoard : Con := fun args regs => match args, regs with
  | [.ag l], [] => (match rdP l with
    | some p => .ret (nO (boardV p))
    | none => .fail)
  | _, _ => .fail
theorem sel4 {a b : Bool} {w x y z : Int} {R : Int → Prop} (h : R (bif a then (bif b then w else x) else (bif b then y else z))) : sel a (sel b (R w) (R x)) (sel b (R y) (R z)) := by
  cases a <;> cases b <;> exact h
set_option maxRecDepth 100000 in
theorem kModes : Known Tryz.prog [] 87 tModes := by
  refine k_modes.less fun args regs R h => Box.out ?_
  unfold tModes at h
  split at h
  case h_2 => exact h.elim
  rename_i l
  split at h
  case h_2 => exact h.elim
  rename_i p hp
  have h : R (nO (modesV p)) := h
  obtain ⟨e, -⟩ := rdP_in hp
  subst e
  exact Box.of_eq (modes_tree p R) (sel4 (R := fun n => R (nO n)) h)
set_option maxRecDepth 100000 in
theorem kBoard : Known Tryz.prog [] 91 tBoard := by
  refine k_board.less fun args regs R h => Box.out ?_
  unfold tBoard at h
  split at h
  case h_2 => exact h.elim
  rename_i l
  split at h
  case h_2 => exact h.elim
  rename_i p hp
  have h : R (nO (boardV p)) := h
  obtain ⟨e, -⟩ := rdP_in hp
  subst e
  exact Box.of_eq (board_tree p R) (sel4 (R := fun n => R (nO n)) h)

/-! ### answers -/
noncomputable def t_short : Con := fun args regs => nfun Tryz.prog [] (fun _ => Option.none) [] Tryz.f86 args regs
theorem k_short : Known Tryz.prog [] 86 t_short := known_inl Tryz.func86 rfl (by kernel_rfl) mixed con_none (by kernel_rfl)
noncomputable def t_long : Con := fun args regs => nfun Tryz.prog [] (fun _ => Option.none) [] Tryz.f90 args regs
theorem k_long : Known Tryz.prog [] 90 t_long := known_inl Tryz.func90 rfl (by kernel_rfl) mixed con_none (by kernel_rfl)
def lO (l : List Int) : Out := ⟨.v (.c (.l .u8 l)), []⟩
def rowO (l : List Int) : Out := ⟨.v (.c (.h 0 0 l.length)), [some ⟨1, 5, .ints .u8 l⟩]⟩
theorem short_tree (a b : Int) (R : Out → Prop) : (t_short [.c (.i .u8 a), .c (.i .u8 b)] []).run R = R (rowO [27, 58, a, b]) := by kernel_rfl
theorem long_tree (a b c : Int) (R : Out → Prop) : (t_long [.c (.i .u8 a), .c (.i .u8 b), .c (.i .u8 c)] []).run R = R (rowO [27, 59, a, b, c]) := by kernel_rfl
def wk (R : Out → Prop) (o : Out) : Prop := ∃ o', Weak o o' ∧ R o'
theorem wk_row {R : Out → Prop} {l : List Int} (h : R (lO l)) : wk R (rowO l) :=
  ⟨_, (Weak.ints (k := 0) (xs := l) rfl).trans (Weak.drop (rg' := []) fun n g hg => by simp at hg), h⟩
noncomputable def tShort : Con := fun args regs => match args, regs with
  | [.c (.i .u8 a), .c (.i .u8 b)], [] => .ret (lO [27, 58, a, b])
  | _, _ => .fail
noncomputable def tLong : Con := fun args regs => match args, regs with
  | [.c (.i .u8 a), .c (.i .u8 b), .c (.i .u8 c)], [] => .ret (lO [27, 59, a, b, c])
  | _, _ => .fail
set_option maxRecDepth 100000 in
theorem kShort : Known Tryz.prog [] 86 tShort := by
  refine k_short.weak fun args regs R h => Box.out ?_
  unfold tShort at h
  split at h
  case h_2 => exact h.elim
  rename_i a b
  have h : R (lO [27, 58, a, b]) := h
  exact Box.of_eq (short_tree a b (wk R)) (wk_row h)
set_option maxRecDepth 100000 in
theorem kLong : Known Tryz.prog [] 90 tLong := by
  refine k_long.weak fun args regs R h => Box.out ?_
  unfold tLong at h
  split at h
  case h_2 => exact h.elim
  rename_i a b c
  have h : R (lO [27, 59, a, b, c]) := h
  exact Box.of_eq (long_tree a b c (wk R)) (wk_row h)

/-! ### codes -/
def codeV (a : Int) : Int := bif decide (0 ≤ a ∧ a < 4) then IntKind.u8.wrap (w64 (88 + a)) else 0
noncomputable def c_code : FuncId → Option Con := conOf [(40, tIs)]
theorem kc_code : ∀ f T, c_code f = some T → Known Tryz.prog [] f T := (Knowns.cons kIs Knowns.nil).get
noncomputable def t_code : Con := fun args regs => nfun Tryz.prog [] c_code [] Tryz.f102 args regs
theorem k_code : Known Tryz.prog [] 102 t_code := known_inl Tryz.func102 rfl (by kernel_rfl) mixed kc_code (by kernel_rfl)
theorem code_tree (a : Int) (R : Out → Prop) : (t_code [.c (.i .i64 a), .c (.b true)] []).run R = sel (decide (0 ≤ a ∧ a < 4)) (R (nO (IntKind.u8.wrap (w64 (88 + a))))) (R (nO 0)) := by kernel_rfl
noncomputable def tCode : Con := fun args regs => match args, regs with
  | [.c (.i .i64 a), .c (.b true)], [] => .ret (nO (codeV a))
  | _, _ => .fail
set_option maxRecDepth 100000 in
theorem kCode : Known Tryz.prog [] 102 tCode := by
  refine k_code.less fun args regs R h => Box.out ?_
  unfold tCode at h
  split at h
  case h_2 => exact h.elim
  rename_i a
  have h : R (nO (codeV a)) := h
  refine Box.of_eq (code_tree a R) ?_
  unfold codeV at h
  cases e : decide (0 ≤ a ∧ a < 4) <;> (rw [e] at h; exact h)
noncomputable def c_linked : FuncId → Option Con := conOf [(102, tCode), (103, tStat), (90, tLong)]
theorem kc_linked : ∀ f T, c_linked f = some T → Known Tryz.prog [] f T := (Knowns.cons kCode (Knowns.cons kStat (Knowns.cons kLong Knowns.nil))).get
noncomputable def t_linked : Con := fun args regs => nfun Tryz.prog [] c_linked [] Tryz.f89 args regs
theorem k_linked : Known Tryz.prog [] 89 t_linked := known_inl Tryz.func89 rfl (by kernel_rfl) mixed kc_linked (by kernel_rfl)
def linkedV (p : PS) (a : Int) : List Int := [27, 59, 99, codeV a, statV p.M a]
theorem linkedV_eq (p : PS) (a : Int) : linkedV (pOf (pC p)) a = linkedV p a := by
  unfold linkedV
  rw [statV_eq (M := (pOf (pC p)).M) (M' := p.M) fun i hi => mCut_pC hi]
theorem linked_tree (p : PS) (a : Int) (R : Out → Prop) : (t_linked [.ag (pC p), .c (.i .i64 a)] []).run R = R (lO [27, 59, 99, codeV a, statV (mOf (mC p.M)) a]) := by kernel_rfl
noncomputable def tLinked : Con := fun args regs => match args, regs with
  | [.ag l, .c (.i .i64 a)], [] => (match rdP l with
    | some p => .ret (lO (linkedV p a))
    | none => .fail)
  | _, _ => .fail
set_option maxRecDepth 100000 in
theorem kLinked : Known Tryz.prog [] 89 tLinked := by
  refine k_linked.less fun args regs R h => Box.out ?_
  unfold tLinked at h
  split at h
  case h_2 => exact h.elim
  rename_i l a
  split at h
  case h_2 => exact h.elim
  rename_i p hp
  have h : R (lO (linkedV p a)) := h
  obtain ⟨e, -⟩ := rdP_in hp
  subst e
  refine Box.of_eq (linked_tree p a R) ?_
  rw [statV_eq (M := mOf (mC p.M)) (M' := p.M) fun i hi => mOf_mC hi]
  exact h

/-! ### modules of codes -/
noncomputable def t_of : Con := fun args regs => nfun Tryz.prog [] c_code [] Tryz.f104 args regs
theorem k_of : Known Tryz.prog [] 104 t_of := known_inl Tryz.func104 rfl (by kernel_rfl) mixed kc_code (by kernel_rfl)
noncomputable def c_of : FuncId → Option Con := conOf [(104, t_of)]
theorem kc_of : ∀ f T, c_of f = some T → Known Tryz.prog [] f T := (Knowns.cons k_of Knowns.nil).get
noncomputable def t_mto : Con := fun args regs => nfun Tryz.prog [] c_of [] Tryz.f101 args regs
theorem k_mto : Known Tryz.prog [] 101 t_mto := known_inl Tryz.func101 rfl (by kernel_rfl) mixed kc_of (by kernel_rfl)
noncomputable def t_from : Con := fun args regs => nfun Tryz.prog [] c_of [] Tryz.f92 args regs
theorem k_from : Known Tryz.prog [] 92 t_from := known_inl Tryz.func92 rfl (by kernel_rfl) mixed kc_of (by kernel_rfl)
noncomputable def c_to : FuncId → Option Con := conOf [(101, t_mto)]
theorem kc_to : ∀ f T, c_to f = some T → Known Tryz.prog [] f T := (Knowns.cons k_mto Knowns.nil).get
noncomputable def t_to : Con := fun args regs => nfun Tryz.prog [] c_to [] Tryz.f88 args regs
theorem k_to : Known Tryz.prog [] 88 t_to := known_inl Tryz.func88 rfl (by kernel_rfl) mixed kc_to (by kernel_rfl)
def ibO (n : Int) (b : Bool) : Out := ⟨.tu [.c (.i .i64 n), .c (.b b)], []⟩
def ofN (c at' : Int) : Int := w64 (w64 c - at')
theorem from_tree (c : Int) (R : Out → Prop) : (t_from [.c (.i .u8 c)] []).run R = sel (decide (0 ≤ ofN c 80 ∧ ofN c 80 < 4)) (R (ibO (ofN c 80) true)) (R (ibO 0 false)) := by kernel_rfl
theorem to_tree (c : Int) (R : Out → Prop) : (t_to [.c (.i .i64 c)] []).run R = sel (decide (c < 0)) (R (ibO 0 false)) (sel (decide (c > 255)) (R (ibO 0 false)) (sel (decide (0 ≤ ofN (IntKind.u8.wrap c) 88 ∧ ofN (IntKind.u8.wrap c) 88 < 4)) (R (ibO (ofN (IntKind.u8.wrap c) 88) true)) (R (ibO 0 false)))) := by kernel_rfl
noncomputable def tTo : Con := fun args regs => match args, regs with
  | [.c (.i .i64 c)], [] => .br (decide (88 ≤ c ∧ c < 92)) (.ret (ibO (c - 88) true)) (.ret (ibO 0 false))
  | _, _ => .fail
noncomputable def tFrom : Con := fun args regs => match args, regs with
  | [.c (.i .u8 c)], [] => .must (0 ≤ c ∧ c < 256) (.br (decide (80 ≤ c ∧ c < 84)) (.ret (ibO (c - 80) true)) (.ret (ibO 0 false)))
  | _, _ => .fail
theorem ofN_eq {c k : Int} (hc : 0 ≤ c ∧ c < 256) (hk : 0 ≤ k ∧ k < 256) : ofN c k = c - k := by
  unfold ofN
  rw [w64_id (x := c) (by omega), w64_id (by omega)]
theorem u8_id {c : Int} (hc : 0 ≤ c ∧ c < 256) : IntKind.u8.wrap c = c := by
  rw [IntKind.wrap_u8]; omega
set_option maxRecDepth 100000 in
theorem kTo : Known Tryz.prog [] 88 tTo := by
  refine k_to.less fun args regs R h => Box.out ?_
  unfold tTo at h
  split at h
  case h_2 => exact h.elim
  rename_i c
  have h : sel (decide (88 ≤ c ∧ c < 92)) (R (ibO (c - 88) true)) (R (ibO 0 false)) := h
  refine Box.of_eq (to_tree c R) (sel_by (fun h0 => ?_) fun h0 => sel_by (fun h1 => ?_) fun h1 => ?_)
  · rw [dF (by omega)] at h; exact h
  · rw [dF (by omega)] at h; exact h
  · rw [u8_id (by omega), ofN_eq (by omega) (by omega)]
    refine sel_by (fun h2 => ?_) fun h2 => ?_
    · rw [dT (by omega)] at h; exact h
    · rw [dF (by omega)] at h; exact h
set_option maxRecDepth 100000 in
theorem kFrom : Known Tryz.prog [] 92 tFrom := by
  refine k_from.less fun args regs R h => Box.out ?_
  unfold tFrom at h
  split at h
  case h_2 => exact h.elim
  rename_i c
  have h1 : 0 ≤ c ∧ c < 256 := h.1
  have h : sel (decide (80 ≤ c ∧ c < 84)) (R (ibO (c - 80) true)) (R (ibO 0 false)) := h.2
  refine Box.of_eq (from_tree c R) ?_
  rw [ofN_eq h1 (by omega)]
  refine sel_by (fun h2 => ?_) fun h2 => ?_
  · rw [dT (by omega)] at h; exact h
  · rw [dF (by omega)] at h; exact h

/-! ### the beginning -/
noncomputable def t_mstart : Con := fun args regs => nfun Tryz.prog [] (fun _ => Option.none) [] Tryz.f34 args regs
theorem k_mstart : Known Tryz.prog [] 34 t_mstart := known_inl Tryz.func34 rfl (by kernel_rfl) mixed con_none (by kernel_rfl)
noncomputable def c_pstart : FuncId → Option Con := conOf [(34, t_mstart)]
theorem kc_pstart : ∀ f T, c_pstart f = some T → Known Tryz.prog [] f T := (Knowns.cons k_mstart Knowns.nil).get
noncomputable def t_pstart : Con := fun args regs => nfun Tryz.prog [] c_pstart [] Tryz.f23 args regs
theorem k_pstart : Known Tryz.prog [] 23 t_pstart := known_inl Tryz.func23 rfl (by kernel_rfl) mixed kc_pstart (by kernel_rfl)
def startP : PS := { M := fun i => i == 2 || i == 9, ro := false, lo := false, ex := false, c0 := false, sp := 100, ec := false }
theorem pstart_tree (R : Out → Prop) : (t_pstart [] []).run R = R ⟨.v (.ag (pC startP)), []⟩ := by kernel_rfl
noncomputable def tPStart : Con := fun args regs => match args, regs with
  | [], [] => .ret ⟨.v (.ag (pC startP)), []⟩
  | _, _ => .fail
set_option maxRecDepth 100000 in
theorem kPStart : Known Tryz.prog [] 23 tPStart := by
  refine k_pstart.less fun args regs R h => ?_
  unfold tPStart at h
  split at h
  case h_2 => exact h.elim
  rw [pstart_tree]
  exact h
end Go.Proofs.YtdijbpokklgjlaaGreatDoor.prt
