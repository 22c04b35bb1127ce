/-
  The lexer: the law LexLeft: its first loop as a tree; events that are alike.
-/
import Derived.Test.YtnhadghddkgjdaaLexLb
set_option linter.unusedVariables false
namespace Go.Proofs.Ytnhadghddkgjdaa.lxv
open Go Go.Nx Go.Proofs.Ytnhadghddkgjdaa.lex

/-! ### the first loop as a tree -/
def rdL (s : St × Option NExit) : Option (List Int × Int) := match s.1.fr[(8 : Nat)]?, s.1.rg[(0 : Nat)]? with
  | some (.v (.c (.l _ bs))), some (some { body := .cells (.i _ n :: _), .. }) => some (bs, n)
  | _, _ => none
def a0 (bs : List Int) (n : Int) : AL := ⟨bs, n, ⟨[], [], 0⟩, 0⟩
def pickL {β : Type} (x : LD) (a b c d : Tr β) : Tr β := .br x.E.isEmpty (.br x.P.isEmpty a b) (.br x.P.isEmpty c d)
noncomputable def endL (bs : List Int) (n : Int) (x : LD) : Tr (NExit × St × Option NExit) :=
  pickL x (.ret (stOf (dn1 bs n x.s .sn .sn []))) (.ret (stOf (dn1 bs n x.s .sn (.h 6 0 x.P.length) [some (arr x.P)])))
    (.ret (stOf (dn1 bs n x.s (.h 6 0 x.E.length) .sn [some (evR x.E)]))) (.ret (stOf (dn1 bs n x.s (.h 6 0 x.E.length) (.h 7 0 x.P.length) [some (evR x.E), some (arr x.P)])))
theorem pickL_run {β : Type} {x : LD} {a b c d : Tr β} {R : β → Prop} (h : (pickL x a b c d).run R) : (x.E = [] ∧ x.P = [] ∧ a.run R) ∨ (x.E = [] ∧ x.P ≠ [] ∧ b.run R) ∨ (x.E ≠ [] ∧ x.P = [] ∧ c.run R) ∨ (x.E ≠ [] ∧ x.P ≠ [] ∧ d.run R) := by
  have h : sel x.E.isEmpty (sel x.P.isEmpty (a.run R) (b.run R)) (sel x.P.isEmpty (c.run R) (d.run R)) := h
  rcases sel_iff.1 h with ⟨h1, h⟩ | ⟨h1, h⟩ <;> rcases sel_iff.1 h with ⟨h2, h⟩ | ⟨h2, h⟩
  · exact .inl ⟨by simpa using h1, by simpa using h2, h⟩
  · exact .inr (.inl ⟨by simpa using h1, by simpa using h2, h⟩)
  · exact .inr (.inr (.inl ⟨by simpa using h1, by simpa using h2, h⟩))
  · exact .inr (.inr (.inr ⟨by simpa using h1, by simpa using h2, h⟩))
theorem endL_run {bs : List Int} {n : Int} {x : LD} {R : NExit × St × Option NExit → Prop} (h : (endL bs n x).run R) : R (stOf (hDn bs n x)) := by
  obtain ⟨E, P, s⟩ := x
  rcases pickL_run h with ⟨h1, h2, h⟩ | ⟨h1, h2, h⟩ | ⟨h1, h2, h⟩ | ⟨h1, h2, h⟩
  · simp only at h1 h2; subst h1 h2; exact h
  · simp only at h1 h2; subst h1; rw [hDn_B h2]; exact h
  · simp only at h1 h2; subst h2; rw [hDn_C h1]; exact h
  · rw [hDn_D h1 h2]; exact h
noncomputable def evAll (bs : List Int) : LD := runL bs ⟨[], [], 0⟩
def mustL (m : Nat) (fr : List NS) (s : St × Option NExit) (bs : List Int) (n : Int) : Prop := (m = 6 ∧ fr = fr1 bs) ∧ s = hL (a0 bs n) ∧ inL (a0 bs n)
noncomputable def L1 (m : Nat) (fr : List NS) (s : St × Option NExit) : Tr (NExit × St × Option NExit) := match rdL s with
  | some (bs, n) => .must (mustL m fr s bs n) (endL bs n (evAll bs))
  | none => .fail
set_option maxRecDepth 100000 in
theorem outer_tame : tame outerC = true := by kernel_rfl
theorem inner_ok (m : Nat) (Y : Yh) : LAllI (XIt m) Y KI (lsN m Y) outerC :=
  LAllI.one (id := 2) (body := innerC) (by kernel_rfl) rfl (unrollI_ok (X := XIt m) kcIt (by kernel_rfl) (LAllI.none (by kernel_rfl)) liveN liveO 4)
theorem loop_left1 (bs : List Int) (n : Int) : LOkI Try.prog [] 6 KI (Y1 bs) 0 outerC (fun s => .must (s = hL (a0 bs n) ∧ inL (a0 bs n)) (endL bs n (evAll bs))) := by
  refine loopI_ok (X := XIt 6) (ls := lsN 6 (Y1 bs)) kcIt outer_tame (inner_ok 6 (Y1 bs)) liveO [] (α := { a : AL // a.bs = bs }) (fun a => hL a.1) (fun a => ((a.1.bs.length : Int) - a.1.i).toNat) (fun a R => preL a.1 R) ?_ ?_
  · rintro s R ⟨⟨h2, h3⟩, h4⟩
    exact ⟨⟨a0 bs n, rfl⟩, h2, h3, endL_run h4⟩
  · rintro ⟨a, ha⟩ R h
    subst ha
    refine Tr.run_mono _ (fun o ho => ?_) (round_left1 a R h)
    cases o with
    | done e s p => exact ho
    | next s p =>
      obtain ⟨y, h0, h1, h2, h3⟩ := ho
      exact ⟨⟨y, h0⟩, h1, h2, h3⟩
theorem loop_left1' (m : Nat) (fr : List NS) : LOkI Try.prog [] m KI (bodyY XBody (psOf rg0) (asOf rg0) (bdOf rg0) fr) 0 outerC (L1 m fr) := by
  intro l rc N Γ0 w0 h0 hN h0k h0r hY s p Γ a w R Q hI hE hW hL hK
  unfold L1 at hL
  split at hL
  case h_2 => exact hL.elim
  rename_i bs n hrd
  obtain ⟨⟨⟨rfl, hfr⟩, h2⟩, h4⟩ := hL
  rw [hfr] at hY
  exact loop_left1 bs n l rc N Γ0 w0 h0 hN h0k h0r hY s p Γ a w R Q hI hE hW ⟨h2, h4⟩ hK

/-! ### events that are alike -/
noncomputable def sSame (l : List (List Sc)) (i : Int) : St := { fr := frame 29 [(0, .v (.c (.lr K7 l))), (1, .v (.c (.lr K7 l))), (5, .v (.c (.i .i64 i)))], rg := [] }
def dSame : St := { fr := frame 29 [], rg := [] }
noncomputable def w_sGo (l : List (List Sc)) (i : Int) : List RC := [.t (decide (i < (l.length : Int))), .t (decide (0 ≤ i)), .t (decide (i < (l.length : Int))), .t (decide (i.toNat < l.length)), .t (decide (0 ≤ i)), .t (decide (i < (l.length : Int))), .t (decide (i.toNat < l.length)), .t (((l.getD i.toNat []).getD 0 (Sc.i 0)).n == ((l.getD i.toNat []).getD 0 (Sc.i 0)).n), .T 5, .t (((l.getD i.toNat []).getD (0 + 1) (Sc.i 0)).n == ((l.getD i.toNat []).getD (0 + 1) (Sc.i 0)).n), .T 5, .t (((l.getD i.toNat []).getD (0 + 1 + 1) (Sc.i 0)).n == ((l.getD i.toNat []).getD (0 + 1 + 1) (Sc.i 0)).n), .T 5, .t (((l.getD i.toNat []).getD (0 + 1 + 1 + 1) (Sc.i 0)).n == ((l.getD i.toNat []).getD (0 + 1 + 1 + 1) (Sc.i 0)).n), .T 5, .t (((l.getD i.toNat []).getD (0 + 1 + 1 + 1 + 1) (Sc.i 0)).n == ((l.getD i.toNat []).getD (0 + 1 + 1 + 1 + 1) (Sc.i 0)).n), .T 5, .t (((l.getD i.toNat []).getD (0 + 1 + 1 + 1 + 1 + 1) (Sc.i 0)).n == ((l.getD i.toNat []).getD (0 + 1 + 1 + 1 + 1 + 1) (Sc.i 0)).n), .T 5, .f (!((l.getD i.toNat []).getD (0 + 1 + 1 + 1 + 1 + 1 + 1) (Sc.i 0)).n == ((l.getD i.toNat []).getD (0 + 1 + 1 + 1 + 1 + 1 + 1) (Sc.i 0)).n)]
theorem r_sGo (l : List (List Sc)) (i : Int) (R : RO → Prop) : ((roundT XSame 0 [0, 1, 5] [4] (bodyLoop fSame 0) (sSame l i)).fol (scr (w_sGo l i))).run R = road (w_sGo l i) (R (RO.next (sSame l (w64 (i + 1))))) := by kernel_rfl
noncomputable def w_sEnd (l : List (List Sc)) (i : Int) : List RC := [.f (decide (i < (l.length : Int)))]
theorem r_sEnd (l : List (List Sc)) (i : Int) (R : RO → Prop) : ((roundT XSame 0 [0, 1, 5] [4] (bodyLoop fSame 0) (sSame l i)).fol (scr (w_sEnd l i))).run R = road (w_sEnd l i) (R (RO.done NExit.normal dSame)) := by kernel_rfl
noncomputable def lSame : List Leaf × List (List Leaf) → Tr (NExit × St) := fun x => match x with
  | ([.r l, .r l', .i i], []) => .must (l = l' ∧ 0 ≤ i ∧ i ≤ (l.length : Int) ∧ l.length ≤ 1000) (.ret (.normal, dSame))
  | _ => .fail
noncomputable def pSame : List Pat := pats 29 [(0, .lr K7), (1, .lr K7), (5, .i .i64)]
set_option maxRecDepth 100000 in
theorem loop_same : LOk Try.prog [] 0 0 (bodyLoop fSame 0) (sumP pSame [] lSame) := by
  refine sumP_ok (X := XSame) kcSame mixed (LAll.none (by kernel_rfl)) [0, 1, 5] [4] _ _ _ (fun x => match x with
    | ([.r l, .r _, .i i], []) => ((l.length : Int) - i).toNat
    | _ => 0) ?_
  rintro ⟨p, q⟩ R h
  unfold lSame at h
  split at h
  case h_2 => exact h.elim
  rename_i l l' i he
  cases he
  have h1 := h.1
  have h2 : R (.normal, dSame) := h.2
  clear h
  obtain ⟨rfl, h0, hle, h1000⟩ := h1
  show (roundT XSame 0 [0, 1, 5] [4] (bodyLoop fSame 0) (sSame l i)).run _
  by_cases hlt : i < (l.length : Int)
  · have dlt := dT hlt
    have d0 := dT h0
    have dj := dT (show i.toNat < l.length by omega)
    have hw : w64 (i + 1) = i + 1 := by unfold w64; rw [IntKind.wrap_i64]; omega
    refine by_road (r_sGo l i _) ⟨dlt, d0, dlt, dj, d0, dlt, dj, bT rfl, bT rfl, bT rfl, bT rfl, bT rfl, bT rfl, by rw [bT rfl]; rfl, trivial⟩ ?_
    rw [hw]
    exact ⟨([.r l, .r l, .i (i + 1)], []), rfl, by simp only; omega, ⟨rfl, by omega, by omega, h1000⟩, h2⟩
  · exact by_road (r_sEnd l i _) ⟨dF hlt, trivial⟩ h2
noncomputable def t_sameL : Con := fun args regs => if regs.length = 0 then nfun Try.prog [] cSame [(0, [0, 1, 5], sumP pSame [] lSame)] fSame args regs else .fail
theorem k_sameL : Known Try.prog [] 30 t_sameL := known_loops 0 Try.func30 rfl (by kernel_rfl) mixed kcSame (LAll.one (id := 0) (body := bodyLoop fSame 0) (by kernel_rfl) rfl loop_same)
noncomputable def t_sameN : Con := fun args regs => if regs.length = 0 then nfun Try.prog [] cSame [(0, [0, 1, 5], unroll XSame 0 [0, 1, 5] [4] (bodyLoop fSame 0) 1)] fSame args regs else .fail
theorem k_sameN : Known Try.prog [] 30 t_sameN := known_loops 0 Try.func30 rfl (by kernel_rfl) mixed kcSame (LAll.one (id := 0) (body := bodyLoop fSame 0) (by kernel_rfl) rfl (unroll_ok (X := XSame) kcSame mixed (LAll.none (by kernel_rfl)) [0, 1, 5] [4] 1))
def yesO : Out := ⟨.v (.c (.b true)), []⟩
theorem same_ll (l : List (List Sc)) (R : Out → Prop) : (t_sameL [.c (.lr K7 l), .c (.lr K7 l)] []).run R = sel ((l.length : Int) != (l.length : Int)) (R ⟨.v (.c (.b false)), []⟩) ((l = l ∧ 0 ≤ (0 : Int) ∧ 0 ≤ (l.length : Int) ∧ l.length ≤ 1000) ∧ R yesO) := by kernel_rfl
theorem same_nn (R : Out → Prop) : (t_sameN [.c .sn, .c .sn] []).run R = R yesO := by kernel_rfl
theorem same_nl (R : Out → Prop) : (t_sameN [.c .sn, .c (.lr K7 [])] []).run R = R yesO := by kernel_rfl
noncomputable def tSame : Con := fun args regs => match args, regs with
  | [.c (.lr ks a), .c (.lr ks' b)], [] => .must (ks = K7 ∧ ks' = K7 ∧ a = b ∧ a.length ≤ 1000) (.ret yesO)
  | [.c .sn, .c .sn], [] => .ret yesO
  | [.c .sn, .c (.lr ks b)], [] => .must (ks = K7 ∧ b = []) (.ret yesO)
  | _, _ => .fail
theorem known_or {P : Program} {gl : List Nat} {f : FuncId} {T T1 T2 : Con} (k1 : Known P gl f T1) (k2 : Known P gl f T2) (h : ∀ args regs R, (T args regs).run R → (T1 args regs).run R ∨ (T2 args regs).run R) : Known P gl f T := by
  refine ⟨k1.goes, fun args regs R hR => ?_⟩
  rcases h args regs R hR with h1 | h2
  · exact k1.sound args regs R h1
  · exact k2.sound args regs R h2
set_option maxRecDepth 100000 in
theorem kSame : Known Try.prog [] 30 tSame := by
  refine known_or k_sameL k_sameN fun args regs R h => ?_
  unfold tSame at h
  split at h
  · rename_i ks a ks' b
    left
    obtain ⟨⟨rfl, rfl, rfl, h1⟩, h2⟩ := h
    rw [same_ll]
    exact selF (by simp) ⟨⟨rfl, Int.le_refl _, by omega, h1⟩, h2⟩
  · right
    rw [same_nn]
    exact h
  · rename_i ks b
    right
    obtain ⟨⟨rfl, rfl⟩, h2⟩ := h
    rw [same_nl]
    exact h2
  · exact h.elim
end Go.Proofs.Ytnhadghddkgjdaa.lxv
