/-
  The document's lexer: a byte.
-/
import Derived.Test.YtnhadghddkgjdaaLexH4
set_option linter.unusedVariables false
namespace Go.Proofs.Ytnhadghddkgjdaa.lxr
open Go Go.Nx Go.Proofs.Ytnhadghddkgjdaa.lex Go.Proofs.Ytnhadghddkgjdaa.lxv

/-! ### parity -/
noncomputable def tOddR : Con := fun args regs => match args, regs with
  | [.c (.i .u8 b)], [] => .must (0 ≤ b ∧ b < 256) (.ret ⟨.v (.c (.b (!isEv b))), []⟩)
  | _, _ => .fail
theorem odd_tree (b : Int) (R : Out → Prop) : (t_odd2 [.c (.i .u8 b)] []).run R = ((0 ≤ IntKind.i64.wrap b ∧ IntKind.i64.wrap b < 9223372036854775808) ∧ R ⟨.v (.c (.b ((ones.bl (IntKind.i64.wrap b).toNat : Int).tmod 2 == 1))), []⟩) := by kernel_rfl
theorem isEv_all : ∀ n < 256, isEv (Int.ofNat n) = !(ones.par n 8) := by decide +kernel
theorem kOddR : Known Try.prog [] 24 tOddR := by
  refine k_odd2.less fun args regs R h => ?_
  unfold tOddR at h
  split at h
  case h_2 => exact h.elim
  rename_i b
  have h1 := h.1
  have h2 : R ⟨.v (.c (.b (!isEv b))), []⟩ := h.2
  clear h
  have e : b = Int.ofNat b.toNat := by show b = ((b.toNat : Nat) : Int); omega
  have hn : b.toNat < 256 := by omega
  generalize b.toNat = n at *
  subst e
  have hw : IntKind.i64.wrap (Int.ofNat n) = ((n : Nat) : Int) := by
    rw [IntKind.wrap_i64]
    show (((n : Nat) : Int) + _) % _ - _ = _
    omega
  rw [odd_tree, hw, Int.toNat_natCast]
  refine ⟨⟨by omega, by omega⟩, ?_⟩
  have hp := ones.bl_par 8 n hn
  have hq : ((ones.bl n : Int).tmod 2 == 1) = !isEv (Int.ofNat n) := by
    rw [isEv_all n hn, Bool.not_not, Int.tmod_eq_emod_of_nonneg (Int.natCast_nonneg _)]
    cases hb : ones.par n 8 <;> rw [hb] at hp <;> simp [Bool.toNat] at hp ⊢ <;> omega
  rw [hq]
  exact h2


/-! ### a copy -/
noncomputable abbrev fByt := Try.f53
noncomputable def XByt : Cx := { P := Try.prog, con := fun _ => Option.none, glob := [], m := 0, loops := [] }
noncomputable def sByt (Q E : List Int) (i : Int) : St := { fr := frame 22 [(0, .v (.c (.l .u8 Q))), (3, .v (.c (.h 0 0 E.length))), (4, .v (.c (.i .i64 i)))], rg := [some (arr E)] }
noncomputable def dByt (E : List Int) : St := { fr := frame 22 [(3, .v (.c (.h 0 0 E.length)))], rg := [some (arr E)] }
noncomputable def rndByt (s : St) : Tr RO := roundT XByt 0 [0, 3, 4] [3] (bodyLoop fByt 0) s
noncomputable def sByt' (Q E : List Int) (n : Nat) (i : Int) : St := { fr := frame 22 [(0, .v (.c (.l .u8 Q))), (3, .v (.c (.h 0 0 n))), (4, .v (.c (.i .i64 i)))], rg := [some (arr E)] }
theorem round_byt (Q E : List Int) (i : Int) (R : RO → Prop) : (rndByt (sByt Q E i)).run R =
    sel (decide (i < (Q.length : Int))) (ix i Q (sel (decide (0 + E.length ≤ E.length)) (sel (decide ((E.length + 1) * 1 ≤ 140737488355328)) (sel (decide (E.length + 1 ≤ 9223372036854775807))
      (R (RO.next (sByt' Q (List.take E.length (List.drop 0 E) ++ [Q.getD i.toNat 0]) (E.length + 1) (w64 (i + 1))))) False) False) False))
     (R (RO.done NExit.normal (dByt E))) := by kernel_rfl
structure AY where
  Q : List Int
  i : Int
noncomputable def hByt (a : AY) : St := sByt a.Q (a.Q.take a.i.toNat) a.i
def preByt (a : AY) (R : NExit × St → Prop) : Prop := (a.Q.length ≤ 100 ∧ 0 ≤ a.i ∧ a.i ≤ (a.Q.length : Int)) ∧ R (.normal, dByt a.Q)
def rdY (s : St) : Option (List Int) := match s.fr[(0 : Nat)]? with
  | some (.v (.c (.l _ Q))) => some Q
  | _ => none
noncomputable def lByt (s : St) : Tr (NExit × St) := match rdY s with
  | some Q => .must (s = sByt Q [] 0 ∧ Q.length ≤ 100) (.ret (.normal, dByt Q))
  | none => .fail
def nxtY (a : AY) (R : NExit × St → Prop) (o : RO) : Prop := match o with
  | .next s => ∃ y, s = hByt y ∧ ((y.Q.length : Int) - y.i).toNat < ((a.Q.length : Int) - a.i).toNat ∧ preByt y R
  | .done e s => R (e, s)
set_option maxRecDepth 100000 in
theorem loop_byt : LOk Try.prog [] 0 0 (bodyLoop fByt 0) lByt := by
  refine loop_ok (X := XByt) con_none mixed (LAll.none (by kernel_rfl)) [0, 3, 4] [3] hByt (fun a => ((a.Q.length : Int) - a.i).toNat) preByt ?_ ?_
  · intro s R h
    unfold lByt at h
    split at h
    case h_2 => exact h.elim
    rename_i Q hrd
    obtain ⟨⟨hs, hQ⟩, hR⟩ := h
    exact ⟨⟨Q, 0⟩, hs, ⟨hQ, by simp only; omega, by simp only; omega⟩, hR⟩
  · intro a R h
    obtain ⟨Q, i⟩ := a
    obtain ⟨⟨h1, h2, h3⟩, hR⟩ := h
    simp only at h1 h2 h3 hR
    have hE : (Q.take i.toNat).length = i.toNat := by rw [List.length_take]; omega
    have : Box ((rndByt (hByt ⟨Q, i⟩)).run (nxtY ⟨Q, i⟩ R)) := by
      refine Box.of_eq (round_byt Q (Q.take i.toNat) i (nxtY ⟨Q, i⟩ R)) (sel_by (fun hlt => ix_in ⟨h2, hlt⟩ ?_) fun hlt => ?_)
      · refine selT (dT (by omega)) (selT (dT (by omega)) (selT (dT (by omega)) ?_))
        have hw : w64 (i + 1) = i + 1 := w64_of (by omega)
        have ht : (i + 1).toNat = i.toNat + 1 := by omega
        refine ⟨⟨Q, i + 1⟩, ?_, by simp only; omega, ⟨h1, by simp only; omega, by simp only; omega⟩, hR⟩
        unfold hByt sByt sByt'
        simp only
        rw [hw, ht, List.drop_zero, List.take_length, List.take_add_one, List.getElem?_eq_getElem (by omega), List.getD_eq_getElem?_getD, List.getElem?_eq_getElem (by omega)]
        simp only [Option.toList_some, Option.getD_some, List.length_append, List.length_singleton]
      · have e : Q.take i.toNat = Q := List.take_of_length_le (by omega)
        rw [e]
        exact hR
    refine Tr.run_mono _ (fun o ho => ?_) this.out
    exact ho
noncomputable def t_byt : Con := fun args regs => if regs.length = 0 then nfun Try.prog [] (fun _ => Option.none) [(0, [0, 3, 4], lByt)] fByt args regs else .fail
theorem k_byt : Known Try.prog [] 53 t_byt := known_loops 0 Try.func53 rfl (by kernel_rfl) mixed con_none (LAll.one (id := 0) (body := bodyLoop fByt 0) (by kernel_rfl) rfl loop_byt)
noncomputable def tByt : Con := fun args regs => match args, regs with
  | [.c (.l .u8 Q)], [] => .must (Q.length ≤ 100) (.ret ⟨.v (.c (.h 0 0 Q.length)), [some (arr Q)]⟩)
  | _, _ => .fail
theorem byt_tree (Q : List Int) (R : Out → Prop) : (t_byt [.c (.l .u8 Q)] []).run R =
   sel (decide ((Q.length : Int) * 1 ≤ 140737488355328)) (sel (decide ((Q.length : Int) ≤ 9223372036854775807)) ((sByt Q [] 0 = sByt Q [] 0 ∧ Q.length ≤ 100) ∧ R ⟨.v (.c (.h 0 0 Q.length)), [some (arr Q)]⟩) False) False := by kernel_rfl
set_option maxRecDepth 100000 in
theorem kByt : Known Try.prog [] 53 tByt := by
  refine k_byt.less fun args regs R h => Box.out ?_
  unfold tByt at h
  split at h
  case h_2 => exact h.elim
  rename_i Q
  have h1 := h.1
  have h2 : R ⟨.v (.c (.h 0 0 Q.length)), [some (arr Q)]⟩ := h.2
  clear h
  exact Box.of_eq (byt_tree Q R) (selT (dT (by omega)) (selT (dT (by omega)) ⟨⟨rfl, h1⟩, h2⟩))

/-! ### a control -/
def rx (p : NC) (s : Int) : Reg := ⟨2, 65, .cells [p, .i .i64 s]⟩
noncomputable def t_rign : Con := fun args regs => nfun Try.prog [] (fun _ => Option.none) [] Try.f51 args regs
theorem k_rign : Known Try.prog [] 51 t_rign := known_inl Try.func51 rfl (by kernel_rfl) mixed con_none (by kernel_rfl)
noncomputable def c_rctl : FuncId → Option Con := conOf [(51, t_rign)]
theorem kc_rctl : ∀ f T, c_rctl f = some T → Known Try.prog [] f T := (Knowns.cons k_rign .nil).get
noncomputable def t_rctl : Con := fun args regs => nfun Try.prog [] c_rctl [] Try.f52 args regs
theorem k_rctl : Known Try.prog [] 52 t_rctl := known_inl Try.func52 rfl (by kernel_rfl) mixed kc_rctl (by kernel_rfl)
def rctA (s c : Int) (R : Out → Prop) : Prop :=
  sel (beg c) (R ⟨.v (.c .sn), [some (rx (.h 1 0 1) s), some (arr [c])]⟩) (sel (shf c) (R ⟨.v (.c .sn), [some (rx .sn (shC c))]⟩) (R ⟨.v (.c (.h 1 0 1)), [some (rx .sn s), some (evR [ctlR c])]⟩))
def rctB (s c : Int) (n : Nat) (P : List Int) (R : Out → Prop) : Prop :=
  sel (beg c) (R ⟨.v (.c .sn), [some (rx (.h 2 0 1) s), some (arr P), some (arr [c])]⟩) (sel (shf c) (R ⟨.v (.c .sn), [some (rx (.hz 1 n) (shC c)), some (arr P)]⟩) (R ⟨.v (.c (.h 2 0 1)), [some (rx (.hz 1 n) s), some (arr P), some (evR [ctlR c])]⟩))
theorem rctA_0 (s : Int) (R : Out → Prop) : (t_rctl [.c (.p 0 0 0), .c (.i .u8 0)] [rx .sn s]).run R = rctA s 0 R := by kernel_rfl
theorem rctA_1 (s : Int) (R : Out → Prop) : (t_rctl [.c (.p 0 0 0), .c (.i .u8 1)] [rx .sn s]).run R = rctA s 1 R := by kernel_rfl
theorem rctA_2 (s : Int) (R : Out → Prop) : (t_rctl [.c (.p 0 0 0), .c (.i .u8 2)] [rx .sn s]).run R = rctA s 2 R := by kernel_rfl
theorem rctA_3 (s : Int) (R : Out → Prop) : (t_rctl [.c (.p 0 0 0), .c (.i .u8 3)] [rx .sn s]).run R = rctA s 3 R := by kernel_rfl
theorem rctA_4 (s : Int) (R : Out → Prop) : (t_rctl [.c (.p 0 0 0), .c (.i .u8 4)] [rx .sn s]).run R = rctA s 4 R := by kernel_rfl
theorem rctA_5 (s : Int) (R : Out → Prop) : (t_rctl [.c (.p 0 0 0), .c (.i .u8 5)] [rx .sn s]).run R = rctA s 5 R := by kernel_rfl
theorem rctA_6 (s : Int) (R : Out → Prop) : (t_rctl [.c (.p 0 0 0), .c (.i .u8 6)] [rx .sn s]).run R = rctA s 6 R := by kernel_rfl
theorem rctA_7 (s : Int) (R : Out → Prop) : (t_rctl [.c (.p 0 0 0), .c (.i .u8 7)] [rx .sn s]).run R = rctA s 7 R := by kernel_rfl
theorem rctA_8 (s : Int) (R : Out → Prop) : (t_rctl [.c (.p 0 0 0), .c (.i .u8 8)] [rx .sn s]).run R = rctA s 8 R := by kernel_rfl
theorem rctA_9 (s : Int) (R : Out → Prop) : (t_rctl [.c (.p 0 0 0), .c (.i .u8 9)] [rx .sn s]).run R = rctA s 9 R := by kernel_rfl
theorem rctA_10 (s : Int) (R : Out → Prop) : (t_rctl [.c (.p 0 0 0), .c (.i .u8 10)] [rx .sn s]).run R = rctA s 10 R := by kernel_rfl
theorem rctA_11 (s : Int) (R : Out → Prop) : (t_rctl [.c (.p 0 0 0), .c (.i .u8 11)] [rx .sn s]).run R = rctA s 11 R := by kernel_rfl
theorem rctA_12 (s : Int) (R : Out → Prop) : (t_rctl [.c (.p 0 0 0), .c (.i .u8 12)] [rx .sn s]).run R = rctA s 12 R := by kernel_rfl
theorem rctA_13 (s : Int) (R : Out → Prop) : (t_rctl [.c (.p 0 0 0), .c (.i .u8 13)] [rx .sn s]).run R = rctA s 13 R := by kernel_rfl
theorem rctA_14 (s : Int) (R : Out → Prop) : (t_rctl [.c (.p 0 0 0), .c (.i .u8 14)] [rx .sn s]).run R = rctA s 14 R := by kernel_rfl
theorem rctA_15 (s : Int) (R : Out → Prop) : (t_rctl [.c (.p 0 0 0), .c (.i .u8 15)] [rx .sn s]).run R = rctA s 15 R := by kernel_rfl
theorem rctA_16 (s : Int) (R : Out → Prop) : (t_rctl [.c (.p 0 0 0), .c (.i .u8 16)] [rx .sn s]).run R = rctA s 16 R := by kernel_rfl
theorem rctA_17 (s : Int) (R : Out → Prop) : (t_rctl [.c (.p 0 0 0), .c (.i .u8 17)] [rx .sn s]).run R = rctA s 17 R := by kernel_rfl
theorem rctA_18 (s : Int) (R : Out → Prop) : (t_rctl [.c (.p 0 0 0), .c (.i .u8 18)] [rx .sn s]).run R = rctA s 18 R := by kernel_rfl
theorem rctA_19 (s : Int) (R : Out → Prop) : (t_rctl [.c (.p 0 0 0), .c (.i .u8 19)] [rx .sn s]).run R = rctA s 19 R := by kernel_rfl
theorem rctA_20 (s : Int) (R : Out → Prop) : (t_rctl [.c (.p 0 0 0), .c (.i .u8 20)] [rx .sn s]).run R = rctA s 20 R := by kernel_rfl
theorem rctA_21 (s : Int) (R : Out → Prop) : (t_rctl [.c (.p 0 0 0), .c (.i .u8 21)] [rx .sn s]).run R = rctA s 21 R := by kernel_rfl
theorem rctA_22 (s : Int) (R : Out → Prop) : (t_rctl [.c (.p 0 0 0), .c (.i .u8 22)] [rx .sn s]).run R = rctA s 22 R := by kernel_rfl
theorem rctA_23 (s : Int) (R : Out → Prop) : (t_rctl [.c (.p 0 0 0), .c (.i .u8 23)] [rx .sn s]).run R = rctA s 23 R := by kernel_rfl
theorem rctA_24 (s : Int) (R : Out → Prop) : (t_rctl [.c (.p 0 0 0), .c (.i .u8 24)] [rx .sn s]).run R = rctA s 24 R := by kernel_rfl
theorem rctA_25 (s : Int) (R : Out → Prop) : (t_rctl [.c (.p 0 0 0), .c (.i .u8 25)] [rx .sn s]).run R = rctA s 25 R := by kernel_rfl
theorem rctA_26 (s : Int) (R : Out → Prop) : (t_rctl [.c (.p 0 0 0), .c (.i .u8 26)] [rx .sn s]).run R = rctA s 26 R := by kernel_rfl
theorem rctA_27 (s : Int) (R : Out → Prop) : (t_rctl [.c (.p 0 0 0), .c (.i .u8 27)] [rx .sn s]).run R = rctA s 27 R := by kernel_rfl
theorem rctA_28 (s : Int) (R : Out → Prop) : (t_rctl [.c (.p 0 0 0), .c (.i .u8 28)] [rx .sn s]).run R = rctA s 28 R := by kernel_rfl
theorem rctA_29 (s : Int) (R : Out → Prop) : (t_rctl [.c (.p 0 0 0), .c (.i .u8 29)] [rx .sn s]).run R = rctA s 29 R := by kernel_rfl
theorem rctA_30 (s : Int) (R : Out → Prop) : (t_rctl [.c (.p 0 0 0), .c (.i .u8 30)] [rx .sn s]).run R = rctA s 30 R := by kernel_rfl
theorem rctA_31 (s : Int) (R : Out → Prop) : (t_rctl [.c (.p 0 0 0), .c (.i .u8 31)] [rx .sn s]).run R = rctA s 31 R := by kernel_rfl
theorem rctB_0 (s : Int) (n : Nat) (P : List Int) (R : Out → Prop) : (t_rctl [.c (.p 0 0 0), .c (.i .u8 0)] [rx (.hz 1 n) s, arr P]).run R = rctB s 0 n P R := by kernel_rfl
theorem rctB_1 (s : Int) (n : Nat) (P : List Int) (R : Out → Prop) : (t_rctl [.c (.p 0 0 0), .c (.i .u8 1)] [rx (.hz 1 n) s, arr P]).run R = rctB s 1 n P R := by kernel_rfl
theorem rctB_2 (s : Int) (n : Nat) (P : List Int) (R : Out → Prop) : (t_rctl [.c (.p 0 0 0), .c (.i .u8 2)] [rx (.hz 1 n) s, arr P]).run R = rctB s 2 n P R := by kernel_rfl
theorem rctB_3 (s : Int) (n : Nat) (P : List Int) (R : Out → Prop) : (t_rctl [.c (.p 0 0 0), .c (.i .u8 3)] [rx (.hz 1 n) s, arr P]).run R = rctB s 3 n P R := by kernel_rfl
theorem rctB_4 (s : Int) (n : Nat) (P : List Int) (R : Out → Prop) : (t_rctl [.c (.p 0 0 0), .c (.i .u8 4)] [rx (.hz 1 n) s, arr P]).run R = rctB s 4 n P R := by kernel_rfl
theorem rctB_5 (s : Int) (n : Nat) (P : List Int) (R : Out → Prop) : (t_rctl [.c (.p 0 0 0), .c (.i .u8 5)] [rx (.hz 1 n) s, arr P]).run R = rctB s 5 n P R := by kernel_rfl
theorem rctB_6 (s : Int) (n : Nat) (P : List Int) (R : Out → Prop) : (t_rctl [.c (.p 0 0 0), .c (.i .u8 6)] [rx (.hz 1 n) s, arr P]).run R = rctB s 6 n P R := by kernel_rfl
theorem rctB_7 (s : Int) (n : Nat) (P : List Int) (R : Out → Prop) : (t_rctl [.c (.p 0 0 0), .c (.i .u8 7)] [rx (.hz 1 n) s, arr P]).run R = rctB s 7 n P R := by kernel_rfl
theorem rctB_8 (s : Int) (n : Nat) (P : List Int) (R : Out → Prop) : (t_rctl [.c (.p 0 0 0), .c (.i .u8 8)] [rx (.hz 1 n) s, arr P]).run R = rctB s 8 n P R := by kernel_rfl
theorem rctB_9 (s : Int) (n : Nat) (P : List Int) (R : Out → Prop) : (t_rctl [.c (.p 0 0 0), .c (.i .u8 9)] [rx (.hz 1 n) s, arr P]).run R = rctB s 9 n P R := by kernel_rfl
theorem rctB_10 (s : Int) (n : Nat) (P : List Int) (R : Out → Prop) : (t_rctl [.c (.p 0 0 0), .c (.i .u8 10)] [rx (.hz 1 n) s, arr P]).run R = rctB s 10 n P R := by kernel_rfl
theorem rctB_11 (s : Int) (n : Nat) (P : List Int) (R : Out → Prop) : (t_rctl [.c (.p 0 0 0), .c (.i .u8 11)] [rx (.hz 1 n) s, arr P]).run R = rctB s 11 n P R := by kernel_rfl
theorem rctB_12 (s : Int) (n : Nat) (P : List Int) (R : Out → Prop) : (t_rctl [.c (.p 0 0 0), .c (.i .u8 12)] [rx (.hz 1 n) s, arr P]).run R = rctB s 12 n P R := by kernel_rfl
theorem rctB_13 (s : Int) (n : Nat) (P : List Int) (R : Out → Prop) : (t_rctl [.c (.p 0 0 0), .c (.i .u8 13)] [rx (.hz 1 n) s, arr P]).run R = rctB s 13 n P R := by kernel_rfl
theorem rctB_14 (s : Int) (n : Nat) (P : List Int) (R : Out → Prop) : (t_rctl [.c (.p 0 0 0), .c (.i .u8 14)] [rx (.hz 1 n) s, arr P]).run R = rctB s 14 n P R := by kernel_rfl
theorem rctB_15 (s : Int) (n : Nat) (P : List Int) (R : Out → Prop) : (t_rctl [.c (.p 0 0 0), .c (.i .u8 15)] [rx (.hz 1 n) s, arr P]).run R = rctB s 15 n P R := by kernel_rfl
theorem rctB_16 (s : Int) (n : Nat) (P : List Int) (R : Out → Prop) : (t_rctl [.c (.p 0 0 0), .c (.i .u8 16)] [rx (.hz 1 n) s, arr P]).run R = rctB s 16 n P R := by kernel_rfl
theorem rctB_17 (s : Int) (n : Nat) (P : List Int) (R : Out → Prop) : (t_rctl [.c (.p 0 0 0), .c (.i .u8 17)] [rx (.hz 1 n) s, arr P]).run R = rctB s 17 n P R := by kernel_rfl
theorem rctB_18 (s : Int) (n : Nat) (P : List Int) (R : Out → Prop) : (t_rctl [.c (.p 0 0 0), .c (.i .u8 18)] [rx (.hz 1 n) s, arr P]).run R = rctB s 18 n P R := by kernel_rfl
theorem rctB_19 (s : Int) (n : Nat) (P : List Int) (R : Out → Prop) : (t_rctl [.c (.p 0 0 0), .c (.i .u8 19)] [rx (.hz 1 n) s, arr P]).run R = rctB s 19 n P R := by kernel_rfl
theorem rctB_20 (s : Int) (n : Nat) (P : List Int) (R : Out → Prop) : (t_rctl [.c (.p 0 0 0), .c (.i .u8 20)] [rx (.hz 1 n) s, arr P]).run R = rctB s 20 n P R := by kernel_rfl
theorem rctB_21 (s : Int) (n : Nat) (P : List Int) (R : Out → Prop) : (t_rctl [.c (.p 0 0 0), .c (.i .u8 21)] [rx (.hz 1 n) s, arr P]).run R = rctB s 21 n P R := by kernel_rfl
theorem rctB_22 (s : Int) (n : Nat) (P : List Int) (R : Out → Prop) : (t_rctl [.c (.p 0 0 0), .c (.i .u8 22)] [rx (.hz 1 n) s, arr P]).run R = rctB s 22 n P R := by kernel_rfl
theorem rctB_23 (s : Int) (n : Nat) (P : List Int) (R : Out → Prop) : (t_rctl [.c (.p 0 0 0), .c (.i .u8 23)] [rx (.hz 1 n) s, arr P]).run R = rctB s 23 n P R := by kernel_rfl
theorem rctB_24 (s : Int) (n : Nat) (P : List Int) (R : Out → Prop) : (t_rctl [.c (.p 0 0 0), .c (.i .u8 24)] [rx (.hz 1 n) s, arr P]).run R = rctB s 24 n P R := by kernel_rfl
theorem rctB_25 (s : Int) (n : Nat) (P : List Int) (R : Out → Prop) : (t_rctl [.c (.p 0 0 0), .c (.i .u8 25)] [rx (.hz 1 n) s, arr P]).run R = rctB s 25 n P R := by kernel_rfl
theorem rctB_26 (s : Int) (n : Nat) (P : List Int) (R : Out → Prop) : (t_rctl [.c (.p 0 0 0), .c (.i .u8 26)] [rx (.hz 1 n) s, arr P]).run R = rctB s 26 n P R := by kernel_rfl
theorem rctB_27 (s : Int) (n : Nat) (P : List Int) (R : Out → Prop) : (t_rctl [.c (.p 0 0 0), .c (.i .u8 27)] [rx (.hz 1 n) s, arr P]).run R = rctB s 27 n P R := by kernel_rfl
theorem rctB_28 (s : Int) (n : Nat) (P : List Int) (R : Out → Prop) : (t_rctl [.c (.p 0 0 0), .c (.i .u8 28)] [rx (.hz 1 n) s, arr P]).run R = rctB s 28 n P R := by kernel_rfl
theorem rctB_29 (s : Int) (n : Nat) (P : List Int) (R : Out → Prop) : (t_rctl [.c (.p 0 0 0), .c (.i .u8 29)] [rx (.hz 1 n) s, arr P]).run R = rctB s 29 n P R := by kernel_rfl
theorem rctB_30 (s : Int) (n : Nat) (P : List Int) (R : Out → Prop) : (t_rctl [.c (.p 0 0 0), .c (.i .u8 30)] [rx (.hz 1 n) s, arr P]).run R = rctB s 30 n P R := by kernel_rfl
theorem rctB_31 (s : Int) (n : Nat) (P : List Int) (R : Out → Prop) : (t_rctl [.c (.p 0 0 0), .c (.i .u8 31)] [rx (.hz 1 n) s, arr P]).run R = rctB s 31 n P R := by kernel_rfl
set_option maxRecDepth 100000 in
theorem rctA_all (s c : Int) (hc : 0 ≤ c ∧ c < 32) (R : Out → Prop) (h : rctA s c R) : Box ((t_rctl [.c (.p 0 0 0), .c (.i .u8 c)] [rx .sn s]).run R) := by
  have : c = 0 ∨ c = 1 ∨ c = 2 ∨ c = 3 ∨ c = 4 ∨ c = 5 ∨ c = 6 ∨ c = 7 ∨ c = 8 ∨ c = 9 ∨ c = 10 ∨ c = 11 ∨ c = 12 ∨ c = 13 ∨ c = 14 ∨ c = 15 ∨ c = 16 ∨ c = 17 ∨ c = 18 ∨ c = 19 ∨ c = 20 ∨ c = 21 ∨ c = 22 ∨ c = 23 ∨ c = 24 ∨ c = 25 ∨ c = 26 ∨ c = 27 ∨ c = 28 ∨ c = 29 ∨ c = 30 ∨ c = 31 := by omega
  rcases this with rfl | rfl | rfl | rfl | rfl | rfl | rfl | rfl | rfl | rfl | rfl | rfl | rfl | rfl | rfl | rfl | rfl | rfl | rfl | rfl | rfl | rfl | rfl | rfl | rfl | rfl | rfl | rfl | rfl | rfl | rfl | rfl
  · exact Box.of_eq (rctA_0 s R) h
  · exact Box.of_eq (rctA_1 s R) h
  · exact Box.of_eq (rctA_2 s R) h
  · exact Box.of_eq (rctA_3 s R) h
  · exact Box.of_eq (rctA_4 s R) h
  · exact Box.of_eq (rctA_5 s R) h
  · exact Box.of_eq (rctA_6 s R) h
  · exact Box.of_eq (rctA_7 s R) h
  · exact Box.of_eq (rctA_8 s R) h
  · exact Box.of_eq (rctA_9 s R) h
  · exact Box.of_eq (rctA_10 s R) h
  · exact Box.of_eq (rctA_11 s R) h
  · exact Box.of_eq (rctA_12 s R) h
  · exact Box.of_eq (rctA_13 s R) h
  · exact Box.of_eq (rctA_14 s R) h
  · exact Box.of_eq (rctA_15 s R) h
  · exact Box.of_eq (rctA_16 s R) h
  · exact Box.of_eq (rctA_17 s R) h
  · exact Box.of_eq (rctA_18 s R) h
  · exact Box.of_eq (rctA_19 s R) h
  · exact Box.of_eq (rctA_20 s R) h
  · exact Box.of_eq (rctA_21 s R) h
  · exact Box.of_eq (rctA_22 s R) h
  · exact Box.of_eq (rctA_23 s R) h
  · exact Box.of_eq (rctA_24 s R) h
  · exact Box.of_eq (rctA_25 s R) h
  · exact Box.of_eq (rctA_26 s R) h
  · exact Box.of_eq (rctA_27 s R) h
  · exact Box.of_eq (rctA_28 s R) h
  · exact Box.of_eq (rctA_29 s R) h
  · exact Box.of_eq (rctA_30 s R) h
  · exact Box.of_eq (rctA_31 s R) h
set_option maxRecDepth 100000 in
theorem rctB_all (s c : Int) (n : Nat) (P : List Int) (hc : 0 ≤ c ∧ c < 32) (R : Out → Prop) (h : rctB s c n P R) : Box ((t_rctl [.c (.p 0 0 0), .c (.i .u8 c)] [rx (.hz 1 n) s, arr P]).run R) := by
  have : c = 0 ∨ c = 1 ∨ c = 2 ∨ c = 3 ∨ c = 4 ∨ c = 5 ∨ c = 6 ∨ c = 7 ∨ c = 8 ∨ c = 9 ∨ c = 10 ∨ c = 11 ∨ c = 12 ∨ c = 13 ∨ c = 14 ∨ c = 15 ∨ c = 16 ∨ c = 17 ∨ c = 18 ∨ c = 19 ∨ c = 20 ∨ c = 21 ∨ c = 22 ∨ c = 23 ∨ c = 24 ∨ c = 25 ∨ c = 26 ∨ c = 27 ∨ c = 28 ∨ c = 29 ∨ c = 30 ∨ c = 31 := by omega
  rcases this with rfl | rfl | rfl | rfl | rfl | rfl | rfl | rfl | rfl | rfl | rfl | rfl | rfl | rfl | rfl | rfl | rfl | rfl | rfl | rfl | rfl | rfl | rfl | rfl | rfl | rfl | rfl | rfl | rfl | rfl | rfl | rfl
  · exact Box.of_eq (rctB_0 s n P R) h
  · exact Box.of_eq (rctB_1 s n P R) h
  · exact Box.of_eq (rctB_2 s n P R) h
  · exact Box.of_eq (rctB_3 s n P R) h
  · exact Box.of_eq (rctB_4 s n P R) h
  · exact Box.of_eq (rctB_5 s n P R) h
  · exact Box.of_eq (rctB_6 s n P R) h
  · exact Box.of_eq (rctB_7 s n P R) h
  · exact Box.of_eq (rctB_8 s n P R) h
  · exact Box.of_eq (rctB_9 s n P R) h
  · exact Box.of_eq (rctB_10 s n P R) h
  · exact Box.of_eq (rctB_11 s n P R) h
  · exact Box.of_eq (rctB_12 s n P R) h
  · exact Box.of_eq (rctB_13 s n P R) h
  · exact Box.of_eq (rctB_14 s n P R) h
  · exact Box.of_eq (rctB_15 s n P R) h
  · exact Box.of_eq (rctB_16 s n P R) h
  · exact Box.of_eq (rctB_17 s n P R) h
  · exact Box.of_eq (rctB_18 s n P R) h
  · exact Box.of_eq (rctB_19 s n P R) h
  · exact Box.of_eq (rctB_20 s n P R) h
  · exact Box.of_eq (rctB_21 s n P R) h
  · exact Box.of_eq (rctB_22 s n P R) h
  · exact Box.of_eq (rctB_23 s n P R) h
  · exact Box.of_eq (rctB_24 s n P R) h
  · exact Box.of_eq (rctB_25 s n P R) h
  · exact Box.of_eq (rctB_26 s n P R) h
  · exact Box.of_eq (rctB_27 s n P R) h
  · exact Box.of_eq (rctB_28 s n P R) h
  · exact Box.of_eq (rctB_29 s n P R) h
  · exact Box.of_eq (rctB_30 s n P R) h
  · exact Box.of_eq (rctB_31 s n P R) h
noncomputable def tRctl : Con := fun args regs => match args, regs with
  | [.c (.p 0 0 0), .c (.i .u8 c)], [⟨2, 65, .cells [.sn, .i .i64 s]⟩] => .must (0 ≤ c ∧ c < 32) (.br (beg c) (.ret ⟨.v (.c .sn), [some (rx (.h 1 0 1) s), some (arr [c])]⟩) (.br (shf c) (.ret ⟨.v (.c .sn), [some (rx .sn (shC c))]⟩) (.ret ⟨.v (.c (.h 1 0 1)), [some (rx .sn s), some (evR [ctlR c])]⟩)))
  | [.c (.p 0 0 0), .c (.i .u8 c)], [⟨2, 65, .cells [.hz 1 n, .i .i64 s]⟩, ⟨1, 5, .ints .u8 P⟩] => .must (0 ≤ c ∧ c < 32) (.br (beg c) (.ret ⟨.v (.c .sn), [some (rx (.h 2 0 1) s), some (arr P), some (arr [c])]⟩) (.br (shf c) (.ret ⟨.v (.c .sn), [some (rx (.hz 1 n) (shC c)), some (arr P)]⟩) (.ret ⟨.v (.c (.h 2 0 1)), [some (rx (.hz 1 n) s), some (arr P), some (evR [ctlR c])]⟩)))
  | _, _ => .fail
set_option maxRecDepth 100000 in
theorem kRctl : Known Try.prog [] 52 tRctl := by
  refine k_rctl.less fun args regs R h => Box.out ?_
  unfold tRctl at h
  split at h
  case h_3 => exact h.elim
  case h_1 =>
    rename_i c s
    exact rctA_all s c h.1 R h.2
  case h_2 =>
    rename_i c n s P
    exact rctB_all s c n P h.1 R h.2

/-! ### a byte -/
noncomputable def c_rbyte : FuncId → Option Con := conOf [(24, tOddR), (51, t_rign), (52, tRctl), (53, tByt), (54, tRseq)]
theorem kc_rbyte : ∀ f T, c_rbyte f = some T → Known Try.prog [] f T := (Knowns.cons kOddR (.cons k_rign (.cons kRctl (.cons kByt (.cons kRseq .nil))))).get
noncomputable def t_rbyte : Con := fun args regs => nfun Try.prog [] c_rbyte [] Try.f31 args regs
theorem k_rbyte : KnownF Try.prog [] 31 t_rbyte := known_inlF Try.func31 rfl (by kernel_rfl) mixed kc_rbyte (by kernel_rfl)
end Go.Proofs.Ytnhadghddkgjdaa.lxr
