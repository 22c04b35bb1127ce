/-
  The lexer: a byte, with what is begun as any list.
-/
import Derived.Test.YtdijbpokklgjlaaGreatDoorLexX
set_option linter.unusedVariables false
namespace Go.Proofs.YtdijbpokklgjlaaGreatDoor.lxv
open Go Go.Nx Go.Proofs.YtdijbpokklgjlaaGreatDoor.lex

noncomputable def c_byteS : FuncId → Option Con := conOf [(66, tEvenV), (67, tEndsW), (68, t_ignored), (71, t_one), (72, tSignS), (73, tPlaceS), (74, tEscS), (69, tCtlS), (70, t_char)]
theorem kc_byteS : ∀ f T, c_byteS f = some T → Known Tryz.prog [] f T := (Knowns.cons kEvenV (Knowns.cons kEndsW (Knowns.cons k_ignored (Knowns.cons k_one (Knowns.cons kSignS (Knowns.cons kPlaceS (Knowns.cons kEscS (Knowns.cons kCtlS (Knowns.cons k_char Knowns.nil))))))))).get
noncomputable def t_byteS : Con := fun args regs => nfun Tryz.prog [] c_byteS [] Tryz.f52 args regs
theorem k_byteS : Known Tryz.prog [] 52 t_byteS := known_inl Tryz.func52 rfl (by kernel_rfl) mixed kc_byteS (by kernel_rfl)
/-! ### its trees -/
def evR (l : List (List Sc)) : Reg := ⟨7, 75, .recs K7 l⟩
def in5 (c : Int) : Prop := 0 ≤ c ∧ c < 32
def ctl0 (s c : Int) (R : Out → Prop) : Prop := in5 c ∧ ctlE s c R
theorem byte_tree0 (s b : Int) (R : Out → Prop) : (t_byteS [.c (.p 0 0 0), .c (.i .u8 b)] [lx .sn s]).run R =
    ((0 ≤ b ∧ b < 256) ∧ sel (!isEv b) (ctl0 s 26 R) (sel (decide (cB b < 32)) (ctl0 s (cB b) R) (R (ctlO s (ev 1 0 0 0 0 s (w64 (cB b))))))) := by kernel_rfl
def ctl1 (s c : Int) (P : List Int) (R : Out → Prop) : Prop := sel (decide ((P.length : Int) > 0)) (in5 c ∧
  sel (beg c) (R ⟨.v (.c (.h 3 0 1)), [some (lx (.h 2 0 1) s), some (arr P), some (arr [c]), some (evR [ignR])]⟩)
   (sel (shf c) (R ⟨.v (.c (.h 2 0 1)), [some (lx .sn (shC c)), some (arr P), some (evR [ignR])]⟩)
    (R ⟨.v (.c (.h 2 0 2)), [some (lx .sn s), some (arr P), some (evR [ignR, ctlR c])]⟩))) False
def goR (s c : Int) (P : List Int) (go : Bool) (row : List Sc) (R : Out → Prop) : Prop := sel go (R (went s (P ++ [c]))) (R (endS s [row]))
theorem byte_tree1 (s b : Int) (P : List Int) (R : Out → Prop) : (t_byteS [.c (.p 0 0 0), .c (.i .u8 b)] [lx (.h 1 0 P.length) s, arr P]).run R =
    ((0 ≤ b ∧ b < 256) ∧ sel (!isEv b) (ctl1 s 26 P R) (sel (decide (cB b < 32)) (ctl1 s (cB b) P R)
     (sel ((P.length : Int) == 0) (R ⟨.v (.c (.h 2 0 1)), [some (lx (.h 1 0 P.length) s), some (arr P), some (evR [ev 1 0 0 0 0 s (w64 (cB b))])]⟩)
      (sel (decide (0 < (P.length : Int))) (sel (decide (0 + Int.toNat 0 < P.length))
       (sel (P.getD 0 0 == 18) (R (endH s P (ev 7 (low6 (cB b)) 0 0 0 0 0)))
       (sel (P.getD 0 0 == 25) (P.length = P.length ∧ P.length ≤ 100 ∧ goR s (cB b) P (signGo P (cB b)) (signR P (cB b)) R)
       (sel (P.getD 0 0 == 31) (P.length = P.length ∧ P.length ≤ 100 ∧ goR s (cB b) P (placeGo P) (placeR P (cB b)) R)
        (P.length = P.length ∧ escOk P ∧ goR s (cB b) P (escGo P (cB b)) (escR P (cB b)) R)))) False) False)))) := by kernel_rfl

/-! ### what a byte does -/
noncomputable def cc (b : Int) : Int := bif isEv b then cB b else 26
/-- Does what is begun go on? -/
noncomputable def goOn (P : List Int) (c : Int) : Bool := if P.getD 0 0 = 18 then false else if P.getD 0 0 = 25 then signGo P c else if P.getD 0 0 = 31 then placeGo P else escGo P c
/-- The event that ends it. -/
noncomputable def endsR (P : List Int) (c : Int) : List Sc := if P.getD 0 0 = 18 then ev 7 (low6 c) 0 0 0 0 0 else if P.getD 0 0 = 25 then signR P c else if P.getD 0 0 = 31 then placeR P c else escR P c
noncomputable def pend (P : List Int) (c : Int) : List Int := if c < 32 then (if beg c then [c] else []) else if P = [] then [] else if goOn P c then P ++ [c] else []
noncomputable def evts (P : List Int) (s c : Int) : List (List Sc) :=
  if c < 32 then (if P = [] then [] else [ignR]) ++ (if beg c || shf c then [] else [ctlR c])
  else if P = [] then [ev 1 0 0 0 0 s (w64 c)] else if goOn P c then [] else [endsR P c]
noncomputable def shft (s c : Int) : Int := if c < 32 ∧ shf c = true then shC c else s
def tail2 (k : Nat) : List (Option Reg) := if k = 2 then [none] else []
def okP (P : List Int) : Prop := P ≠ [] ∧ P.length ≤ 50 ∧ InBytes P ∧ (1 < P.length → P.getD 0 0 ≠ 18 → P.getD 0 0 ≠ 25 → P.getD 0 0 ≠ 31 → 57 ≤ P.getD 1 0 → P.getD 1 0 ≤ 59 → askOk P)
noncomputable def outA (k : Nat) (P : List Int) (s c : Int) : Out := ⟨rows (evts P s c), some (lx .sn (shft s c)) :: tail2 k⟩
noncomputable def outB (k : Nat) (P : List Int) (s c : Int) : Out := ⟨rows (evts P s c), some (lx (.h k 0 (pend P c).length) (shft s c)) :: tail2 k ++ [some (arr (pend P c))]⟩
noncomputable def outT (k : Nat) (P : List Int) (s b : Int) : Tr Out := .br (pend P (cc b)).isEmpty (.ret (outA k P s (cc b))) (.ret (outB k P s (cc b)))
noncomputable def tByteB : Con := fun args regs => match args, regs with
  | [.c (.p 0 0 0), .c (.i .u8 b)], [⟨2, 58, .cells [.sn, .i .i64 s]⟩] => .must (0 ≤ b ∧ b < 256) (outT 1 [] s b)
  | [.c (.p 0 0 0), .c (.i .u8 b)], [⟨2, 58, .cells [.h 1 0 n, .i .i64 s]⟩, ⟨1, 5, .ints .u8 P⟩] => .must (n = P.length ∧ (0 ≤ b ∧ b < 256) ∧ okP P) (outT 2 P s b)
  | _, _ => .fail
theorem cB_all : ∀ n < 256, 0 ≤ cB (Int.ofNat n) ∧ cB (Int.ofNat n) < 128 := by decide +kernel
theorem cB_of {b : Int} (h : 0 ≤ b ∧ b < 256) : 0 ≤ cB b ∧ cB b < 128 := by
  have e : b = Int.ofNat b.toNat := by show b = ((b.toNat : Nat) : Int); omega
  have := cB_all b.toNat (by omega)
  rwa [← e] at this
theorem cc_of {b : Int} (h : 0 ≤ b ∧ b < 256) : 0 ≤ cc b ∧ cc b < 128 := by
  unfold cc
  cases isEv b
  · exact ⟨show (0 : Int) ≤ 26 by decide, show (26 : Int) < 128 by decide⟩
  · exact cB_of h
theorem fewer0 {x : NS} {g : Reg} {l : List (Option Reg)} : Weak ⟨x, some g :: l⟩ ⟨x, [some g]⟩ := Weak.drop fun n g' hg => by
  match n, hg with
  | 0, hg => exact hg
  | n + 1, hg => simp at hg
theorem fewer1 {x : NS} {g : Reg} {l : List (Option Reg)} : Weak ⟨x, some g :: l⟩ ⟨x, [some g, none]⟩ := Weak.drop fun n g' hg => by
  match n, hg with
  | 0, hg => exact hg
  | 1, hg => simp at hg
  | n + 2, hg => simp at hg
theorem fewer2 {x : NS} {g h : Reg} {a : Option Reg} {l : List (Option Reg)} : Weak ⟨x, some g :: a :: some h :: l⟩ ⟨x, [some g, none, some h]⟩ := Weak.drop fun n g' hg => by
  match n, hg with
  | 0, hg => exact hg
  | 1, hg => simp at hg
  | 2, hg => exact hg
  | n + 3, hg => simp at hg
theorem nilK {rg : List (Option Reg)} : Weak ⟨.v (.c .sn), rg⟩ ⟨rows [], rg⟩ := Weak.nil_rows (by decide)
theorem ctl_in0 {s c : Int} {R : Out → Prop} (hc : in5 c) (h : sel (pend [] c).isEmpty (R (outA 1 [] s c)) (R (outB 1 [] s c))) : ctl0 s c (wk R) := by
  refine ⟨hc, ?_⟩
  have h32 : c < 32 := hc.2
  unfold ctlE
  by_cases hb : beg c = true
  · have e : pend [] c = [c] := by unfold pend; rw [if_pos h32, if_pos hb]
    have ev : evts [] s c = [] := by unfold evts; rw [if_pos h32, if_pos rfl, hb]; rfl
    have es : shft s c = s := by
      have hs : shf c = false := by
        unfold beg at hb; unfold shf
        simp only [Bool.or_eq_true, beq_iff_eq] at hb
        rcases hb with ((rfl | rfl) | rfl) | rfl <;> rfl
      unfold shft; rw [hs, if_neg (fun h => by cases h.2)]
    rw [e] at h
    have h : R (outB 1 [] s c) := h
    unfold outB at h
    rw [e, ev, es] at h
    exact selT hb ⟨_, nilK, h⟩
  · have hb : beg c = false := by simpa using hb
    have e : pend [] c = [] := by unfold pend; rw [if_pos h32, hb]; rfl
    rw [e] at h
    have h : R (outA 1 [] s c) := h
    unfold outA at h
    refine selF hb ?_
    by_cases hs : shf c = true
    · have ev : evts [] s c = [] := by unfold evts; rw [if_pos h32, if_pos rfl, hs, Bool.or_true]; rfl
      have es : shft s c = shC c := by unfold shft; rw [if_pos ⟨h32, hs⟩]
      rw [ev, es] at h
      exact selT hs ⟨_, nilK, h⟩
    · have hs : shf c = false := by simpa using hs
      have ev : evts [] s c = [ctlR c] := by unfold evts; rw [if_pos h32, if_pos rfl, hb, hs]; rfl
      have es : shft s c = s := by unfold shft; rw [hs, if_neg (fun h => by cases h.2)]
      rw [ev, es] at h
      exact selF hs ⟨_, (Weak.rows (k := 1) (xs := [ctlR c]) rfl).trans fewer0, h⟩
theorem ctl_in1 {s c : Int} {P : List Int} {R : Out → Prop} (hP : P ≠ []) (hc : in5 c) (h : sel (pend P c).isEmpty (R (outA 2 P s c)) (R (outB 2 P s c))) : ctl1 s c P (wk R) := by
  have hl : (P.length : Int) > 0 := by
    have := List.length_pos_iff.2 hP
    omega
  refine selT (dT hl) ⟨hc, ?_⟩
  have h32 : c < 32 := hc.2
  by_cases hb : beg c = true
  · have e : pend P c = [c] := by unfold pend; rw [if_pos h32, if_pos hb]
    have ev : evts P s c = [ignR] := by unfold evts; rw [if_pos h32, if_neg hP, hb]; rfl
    have es : shft s c = s := by
      have hs : shf c = false := by
        unfold beg at hb; unfold shf
        simp only [Bool.or_eq_true, beq_iff_eq] at hb
        rcases hb with ((rfl | rfl) | rfl) | rfl <;> rfl
      unfold shft; rw [hs, if_neg (fun h => by cases h.2)]
    rw [e] at h
    have h : R (outB 2 P s c) := h
    unfold outB at h
    rw [e, ev, es] at h
    exact selT hb ⟨_, (Weak.rows (k := 3) (xs := [ignR]) rfl).trans fewer2, h⟩
  · have hb : beg c = false := by simpa using hb
    have e : pend P c = [] := by unfold pend; rw [if_pos h32, hb]; rfl
    rw [e] at h
    have h : R (outA 2 P s c) := h
    unfold outA at h
    refine selF hb ?_
    by_cases hs : shf c = true
    · have ev : evts P s c = [ignR] := by unfold evts; rw [if_pos h32, if_neg hP, hs, Bool.or_true]; rfl
      have es : shft s c = shC c := by unfold shft; rw [if_pos ⟨h32, hs⟩]
      rw [ev, es] at h
      exact selT hs ⟨_, (Weak.rows (k := 2) (xs := [ignR]) rfl).trans fewer1, h⟩
    · have hs : shf c = false := by simpa using hs
      have ev : evts P s c = [ignR, ctlR c] := by unfold evts; rw [if_pos h32, if_neg hP, hb, hs]; rfl
      have es : shft s c = s := by unfold shft; rw [hs, if_neg (fun h => by cases h.2)]
      rw [ev, es] at h
      exact selF hs ⟨_, (Weak.rows (k := 2) (xs := [ignR, ctlR c]) rfl).trans fewer1, h⟩
theorem go_in {s c : Int} {P : List Int} {go : Bool} {row : List Sc} {R : Out → Prop} (hP : P ≠ []) (h32 : ¬ c < 32) (hg : goOn P c = go) (hr : endsR P c = row) (h : sel (pend P c).isEmpty (R (outA 2 P s c)) (R (outB 2 P s c))) : goR s c P go row (wk R) := by
  have es : shft s c = s := by unfold shft; rw [if_neg (fun h => h32 h.1)]
  cases go
  · have e : pend P c = [] := by unfold pend; rw [if_neg h32, if_neg hP, hg]; rfl
    have ev : evts P s c = [row] := by unfold evts; rw [if_neg h32, if_neg hP, hg, hr]; rfl
    rw [e] at h
    have h : R (outA 2 P s c) := h
    unfold outA at h
    rw [ev, es] at h
    exact wk_refl h
  · have e : pend P c = P ++ [c] := by unfold pend; rw [if_neg h32, if_neg hP, hg]; rfl
    have ev : evts P s c = [] := by unfold evts; rw [if_neg h32, if_neg hP, hg]; rfl
    rw [e] at h
    have h : R (outB 2 P s c) := by
      have e2 : (P ++ [c]).isEmpty = false := by cases P <;> rfl
      rw [e2] at h
      exact h
    unfold outB at h
    rw [ev, es, e] at h
    exact ⟨_, nilK, h⟩
set_option maxRecDepth 100000 in
theorem kByteB : Known Tryz.prog [] 52 tByteB := by
  refine k_byteS.weak fun args regs R h => Box.out ?_
  unfold tByteB at h
  split at h
  case h_3 => exact h.elim
  case h_1 =>
    rename_i b s
    have hb := h.1
    have h2 : sel (pend [] (cc b)).isEmpty (R (outA 1 [] s (cc b))) (R (outB 1 [] s (cc b))) := h.2
    clear h
    show Box ((t_byteS [.c (.p 0 0 0), .c (.i .u8 b)] [lx .sn s]).run (wk R))
    refine Box.of_eq (byte_tree0 s b (wk R)) ⟨hb, ?_⟩
    have hc := cB_of hb
    cases he : isEv b with
    | false =>
      have ec : cc b = 26 := by unfold cc; rw [he]; rfl
      rw [ec] at h2
      exact selT rfl (ctl_in0 ⟨by decide, by decide⟩ h2)
    | true =>
      have ec : cc b = cB b := by unfold cc; rw [he]; rfl
      rw [ec] at h2
      refine selF rfl (sel_by (fun hl => ctl_in0 ⟨hc.1, hl⟩ h2) fun hl => ?_)
      have e : pend [] (cB b) = [] := by unfold pend; rw [if_neg hl, if_pos rfl]
      have ev : evts [] s (cB b) = [ev 1 0 0 0 0 s (w64 (cB b))] := by unfold evts; rw [if_neg hl, if_pos rfl]
      have es : shft s (cB b) = s := by unfold shft; rw [if_neg (fun h => hl h.1)]
      rw [e] at h2
      have h2 : R (outA 1 [] s (cB b)) := h2
      unfold outA at h2
      rw [ev, es] at h2
      exact ⟨_, (Weak.rows (k := 1) (xs := [lxv.ev 1 0 0 0 0 s (w64 (cB b))]) rfl).trans fewer0, h2⟩
  case h_2 =>
    rename_i b n s P
    have h1 := h.1
    have h2 : sel (pend P (cc b)).isEmpty (R (outA 2 P s (cc b))) (R (outB 2 P s (cc b))) := h.2
    clear h
    obtain ⟨rfl, hb, hP, h50, hin, hask⟩ := h1
    show Box ((t_byteS [.c (.p 0 0 0), .c (.i .u8 b)] [lx (.h 1 0 P.length) s, arr P]).run (wk R))
    refine Box.of_eq (byte_tree1 s b P (wk R)) ⟨hb, ?_⟩
    have hc := cB_of hb
    cases he : isEv b with
    | false =>
      have ec : cc b = 26 := by unfold cc; rw [he]; rfl
      rw [ec] at h2
      exact selT rfl (ctl_in1 hP ⟨by decide, by decide⟩ h2)
    | true =>
      have ec : cc b = cB b := by unfold cc; rw [he]; rfl
      rw [ec] at h2
      refine selF rfl (sel_by (fun hl => ctl_in1 hP ⟨hc.1, hl⟩ h2) fun hl => ?_)
      have hpos := List.length_pos_iff.2 hP
      refine selF (bF (by omega)) (selT (dT (by omega)) (selT (dT (by simpa using hpos)) ?_))
      have es : shft s (cB b) = s := by unfold shft; rw [if_neg (fun h => hl h.1)]
      by_cases h18 : P.getD 0 0 = 18
      · have hg : goOn P (cB b) = false := by unfold goOn; rw [if_pos h18]
        have e : pend P (cB b) = [] := by unfold pend; rw [if_neg hl, if_neg hP, hg]; rfl
        have ev : evts P s (cB b) = [ev 7 (low6 (cB b)) 0 0 0 0 0] := by unfold evts; rw [if_neg hl, if_neg hP, hg]; unfold endsR; rw [if_pos h18]; rfl
        rw [e] at h2
        have h2 : R (outA 2 P s (cB b)) := h2
        unfold outA at h2
        rw [ev, es] at h2
        exact selT (bT h18) (wk_endH h2)
      refine selF (bF h18) ?_
      by_cases h25 : P.getD 0 0 = 25
      · exact selT (bT h25) ⟨rfl, by omega, go_in hP hl (by unfold goOn; rw [if_neg h18, if_pos h25]) (by unfold endsR; rw [if_neg h18, if_pos h25]) h2⟩
      refine selF (bF h25) ?_
      by_cases h31 : P.getD 0 0 = 31
      · exact selT (bT h31) ⟨rfl, by omega, go_in hP hl (by unfold goOn; rw [if_neg h18, if_neg h25, if_pos h31]) (by unfold endsR; rw [if_neg h18, if_neg h25, if_pos h31]) h2⟩
      exact selF (bF h31) ⟨rfl, ⟨h50, hin, fun h a b => hask h h18 h25 h31 a b⟩, go_in hP hl (by unfold goOn; rw [if_neg h18, if_neg h25, if_neg h31]) (by unfold endsR; rw [if_neg h18, if_neg h25, if_neg h31]) h2⟩
end Go.Proofs.YtdijbpokklgjlaaGreatDoor.lxv
