/-
  Joined: MnA, MnB, MnC, MnD, MnE, MnF.
-/
import Derived.Test.YtjfgphfdaghilaaGreatDoorLxY
import Derived.Test.YtjfgphfdaghilaaGreatDoorPrX
import Derived.Test.YtjfgphfdaghilaaGreatDoorScX
import Derived.Test.YtjfgphfdaghilaaGreatDoorScYY
set_option linter.unusedVariables false
namespace Go.Proofs.YtjfgphfdaghilaaGreatDoor.mtl
open Go Go.Nx Go.Proofs.YtjfgphfdaghilaaGreatDoor.prt
open Go.Proofs.YtjfgphfdaghilaaGreatDoor.lex (arr lx InBytes mkEv tab c7 c7_all tab_size t_podd k_podd)

/-! ### a byte with its parity -/
noncomputable def c_pmo : FuncId → Option Con := conOf [(97, t_podd)]
theorem kc_pmo : ∀ f T, c_pmo f = some T → Known Tryz.prog [] f T := (Knowns.cons k_podd Knowns.nil).get
noncomputable def t_pmo : Con := fun args regs => nfun Tryz.prog [] c_pmo [] Tryz.f148 args regs
theorem k_pmo : Known Tryz.prog [] 148 t_pmo := known_inl Tryz.func148 rfl (by kernel_rfl) mixed kc_pmo (by kernel_rfl)
noncomputable def c_pme : FuncId → Option Con := conOf [(148, t_pmo)]
theorem kc_pme : ∀ f T, c_pme f = some T → Known Tryz.prog [] f T := (Knowns.cons k_pmo Knowns.nil).get
noncomputable def t_pme : Con := fun args regs => nfun Tryz.prog [] c_pme [] Tryz.f106 args regs
theorem k_pme : Known Tryz.prog [] 106 t_pme := known_inl Tryz.func106 rfl (by kernel_rfl) mixed kc_pme (by kernel_rfl)
theorem pme_tree (b : Int) (R : Out → Prop) : (t_pme [.c (.i .u8 b)] []).run R = sel (decide (0 ≤ c7 b)) (sel (decide (c7 b < (tab.size : Int))) (sel ((IntKind.i64.wrap (byteAt tab (c7 b).toNat)).tmod 2 == 1)
    (R (nO (bits .xor .u8 (c7 b) 128))) (R (nO (bits .xor .u8 (bits .or .u8 (c7 b) 128) 128)))) False) False := by kernel_rfl
theorem pm_all : ∀ n < 256, (bif (IntKind.i64.wrap (byteAt tab (n % 128))).tmod 2 == 1 then bits .xor .u8 (Int.ofNat (n % 128)) 128 else bits .xor .u8 (bits .or .u8 (Int.ofNat (n % 128)) 128) 128) = mkEv (Int.ofNat n) := by decide +kernel
noncomputable def tMkE : Con := fun args regs => match args, regs with
  | [.c (.i .u8 b)], [] => .must (0 ≤ b ∧ b < 256) (.ret (nO (mkEv b)))
  | _, _ => .fail
set_option maxRecDepth 100000 in
theorem kMkE : Known Tryz.prog [] 106 tMkE := by
  refine k_pme.less fun args regs R h => Box.out ?_
  unfold tMkE at h
  split at h
  case h_2 => exact h.elim
  rename_i b
  have h1 : 0 ≤ b ∧ b < 256 := h.1
  have h2 : R (nO (mkEv b)) := h.2
  clear h
  have e : b = Int.ofNat b.toNat := by show b = ((b.toNat : Nat) : Int); omega
  have hn : b.toNat < 256 := by omega
  generalize b.toNat = n at *
  subst e
  have hm := pm_all n hn
  refine Box.of_eq (pme_tree _ R) ?_
  rw [tab_size, c7_all n hn]
  have hl : n % 128 < 128 := Nat.mod_lt _ (by decide)
  refine selT (dT (by show (0 : Int) ≤ ((n % 128 : Nat) : Int); omega)) (selT (dT (by show ((n % 128 : Nat) : Int) < 256; omega)) ?_)
  show sel ((IntKind.i64.wrap (byteAt tab (n % 128))).tmod 2 == 1) _ _
  cases hb : (IntKind.i64.wrap (byteAt tab (n % 128))).tmod 2 == 1 with
  | true =>
    rw [hb] at hm
    have hm : bits .xor .u8 (Int.ofNat (n % 128)) 128 = mkEv (Int.ofNat n) := hm
    refine selT rfl ?_
    rw [hm]; exact h2
  | false =>
    rw [hb] at hm
    have hm : bits .xor .u8 (bits .or .u8 (Int.ofNat (n % 128)) 128) 128 = mkEv (Int.ofNat n) := hm
    refine selF rfl ?_
    rw [hm]; exact h2
theorem mkEv_in : ∀ n < 256, 0 ≤ mkEv (Int.ofNat n) ∧ mkEv (Int.ofNat n) < 256 := by decide +kernel
theorem mkEv_byte {b : Int} (h : 0 ≤ b ∧ b < 256) : 0 ≤ mkEv b ∧ mkEv b < 256 := by
  have e : b = Int.ofNat b.toNat := by show b = ((b.toNat : Nat) : Int); omega
  rw [e]
  exact mkEv_in _ (by omega)

/-! ### all bytes -/
def ix (i : Int) (Q : List Int) (A : Prop) : Prop := sel (decide (0 ≤ i)) (sel (decide (i < (Q.length : Int))) (sel (decide (i.toNat < Q.length)) A False) False) False
theorem ix_in {i : Int} {Q : List Int} {A : Prop} (h : 0 ≤ i ∧ i < (Q.length : Int)) (hA : A) : ix i Q A := selT (dT h.1) (selT (dT h.2) (selT (dT (by omega)) hA))
noncomputable def c_line : FuncId → Option Con := conOf [(106, tMkE)]
theorem kc_line : ∀ f T, c_line f = some T → Known Tryz.prog [] f T := (Knowns.cons kMkE Knowns.nil).get
noncomputable abbrev f_line := Tryz.f69
noncomputable def X_line : Cx := { P := Tryz.prog, con := c_line, glob := [], m := 0, loops := [] }
noncomputable def s_line (xs out : List Int) (n : Nat) (i : Int) : St := { fr := frame 19 [(3, .v (.c (.hz 0 n))), (6, .v (.c (.l .u8 xs))), (7, .v (.c (.i .i64 xs.length))), (8, .v (.c (.i .i64 i)))], rg := [some (arr out)] }
noncomputable def e_line (out : List Int) (n : Nat) : St := { fr := frame 19 [(3, .v (.c (.hz 0 n)))], rg := [some (arr out)] }
def ap8 (n m : Nat) (A : Prop) : Prop := sel (decide (n ≤ m)) (sel (decide ((n + 1) * 1 ≤ 140737488355328)) (sel (decide (n + 1 ≤ 9223372036854775807)) A False) False) False
theorem ap8_in {n m : Nat} {A : Prop} (h : n ≤ m) (hn : n ≤ 1000000) (hA : A) : ap8 n m A := selT (dT h) (selT (dT (by omega)) (selT (dT (by omega)) hA))
theorem round_line (xs out : List Int) (i : Int) (R : RO → Prop) : (roundT X_line 0 [3, 6, 7, 8] [3] (bodyLoop f_line 0) (s_line xs out out.length i)).run R =
    sel (decide (i < (xs.length : Int))) (ix i xs ((0 ≤ xs.getD i.toNat 0 ∧ xs.getD i.toNat 0 < 256) ∧ ap8 out.length out.length (R (.next (s_line xs (List.take out.length out ++ [mkEv (xs.getD i.toNat 0)]) (out.length + 1) (w64 (i + 1)))))))
      (R (.done .normal (e_line out out.length))) := by kernel_rfl
structure AL where
  xs : List Int
  out : List Int
  i : Int
noncomputable def hLn (a : AL) : St := s_line a.xs a.out a.out.length a.i
def preLn (a : AL) (R : NExit × St → Prop) : Prop := (0 ≤ a.i ∧ a.i ≤ (a.xs.length : Int)) ∧ a.xs.length ≤ 1000 ∧ a.out.length ≤ 1000 + a.i ∧ InBytes a.xs ∧
  R (.normal, e_line (a.out ++ (a.xs.drop a.i.toNat).map mkEv) (a.out ++ (a.xs.drop a.i.toNat).map mkEv).length)
def rdLn (s : St) : Option (List Int) := match s.fr[(6 : Nat)]? with
  | some (.v (.c (.l _ xs))) => some xs
  | _ => none
noncomputable def l_line (s : St) : Tr (NExit × St) := match rdLn s with
  | some xs => .must (s = s_line xs [] 0 0 ∧ xs.length ≤ 1000 ∧ InBytes xs) (.ret (.normal, e_line (xs.map mkEv) xs.length))
  | none => .fail
theorem drop_get {xs : List Int} {i : Int} (h : 0 ≤ i ∧ i < (xs.length : Int)) : xs.drop i.toNat = xs.getD i.toNat 0 :: xs.drop (i + 1).toNat := by
  have hj : i.toNat < xs.length := by omega
  rw [show (i + 1).toNat = i.toNat + 1 by omega, List.getD_eq_getElem?_getD, List.getElem?_eq_getElem hj]
  exact List.drop_eq_getElem_cons hj
theorem get_byte {xs : List Int} {i : Int} (hb : InBytes xs) (h : 0 ≤ i ∧ i < (xs.length : Int)) : 0 ≤ xs.getD i.toNat 0 ∧ xs.getD i.toNat 0 < 256 := by
  have hj : i.toNat < xs.length := by omega
  rw [List.getD_eq_getElem?_getD, List.getElem?_eq_getElem hj]
  exact hb _ (List.getElem_mem hj)
set_option maxRecDepth 100000 in
theorem loop_line : LOk Tryz.prog [] 0 0 (bodyLoop f_line 0) l_line := by
  refine loop_ok (X := X_line) kc_line mixed (LAll.none (by kernel_rfl)) [3, 6, 7, 8] [3] hLn (fun a => ((a.xs.length : Int) - a.i).toNat) preLn ?_ ?_
  · intro s R h
    unfold l_line at h
    split at h
    case h_2 => exact h.elim
    rename_i xs hrd
    obtain ⟨⟨hs, hl, hb⟩, hR⟩ := h
    refine ⟨⟨xs, [], 0⟩, hs, ⟨by simp only; omega, by simp only; omega⟩, hl, by simp, hb, ?_⟩
    show R (.normal, e_line ([] ++ (xs.drop 0).map mkEv) ([] ++ (xs.drop 0).map mkEv).length)
    rw [List.drop_zero, List.nil_append, List.length_map]
    exact hR
  · intro a R h
    obtain ⟨xs, out, i⟩ := a
    obtain ⟨hi, hl, ho, hb, hR⟩ := h
    simp only at hi hl ho hb hR
    refine Tr.run_mono _ (fun o ho => ho) (Box.of_eq (round_line xs out i _) (sel_by (fun hlt => ix_in ⟨hi.1, hlt⟩ ⟨get_byte hb ⟨hi.1, hlt⟩, ap8_in (Nat.le_refl _) (by omega) ?_⟩) fun hlt => ?_)).out
    · have hw : w64 (i + 1) = i + 1 := w64_id (by omega)
      rw [List.take_length, hw]
      rw [drop_get ⟨hi.1, hlt⟩, List.map_cons] at hR
      refine ⟨⟨xs, out ++ [mkEv (xs.getD i.toNat 0)], i + 1⟩, ?_, by simp only; omega, ⟨by simp only; omega, by simp only; omega⟩, hl, by simp only [List.length_append, List.length_singleton]; omega, hb, ?_⟩
      · show s_line _ _ (out.length + 1) _ = s_line _ _ (out ++ [mkEv (xs.getD i.toNat 0)]).length _
        rw [List.length_append]; rfl
      · show R (.normal, e_line ((out ++ [mkEv (xs.getD i.toNat 0)]) ++ (xs.drop (i + 1).toNat).map mkEv) _)
        rw [List.append_assoc]
        exact hR
    · rw [List.drop_eq_nil_iff.2 (by omega), List.map_nil, List.append_nil] at hR
      exact hR
noncomputable def t_line : Con := fun args regs => if regs.length = 0 then nfun Tryz.prog [] c_line [(0, [3, 6, 7, 8], canonL [(3, arr [])] [] 0 [3, 6, 7, 8] l_line)] f_line args regs else .fail
theorem k_line : KnownF Tryz.prog [] 69 t_line := known_loopsF 0 Tryz.func69 rfl (by kernel_rfl) mixed kc_line (LAll.one (id := 0) (body := bodyLoop f_line 0) (by kernel_rfl) rfl (loop_line.canon [(3, arr [])] [] [3, 6, 7, 8]))
theorem line_tree (xs : List Int) (R : Out → Prop) : (t_line [.c (.l .u8 xs)] []).run R = ((s_line xs [] 0 0 = s_line xs [] 0 0 ∧ xs.length ≤ 1000 ∧ InBytes xs) ∧ R ⟨.v (.c (.hz 0 xs.length)), [some (arr (xs.map mkEv))]⟩) := by kernel_rfl
noncomputable def tLine : Con := fun args regs => match args, regs with
  | [.c (.l .u8 xs)], [] => .must (xs.length ≤ 1000 ∧ InBytes xs) (.ret ⟨.v (.c (.hz 0 xs.length)), [some (arr (xs.map mkEv))]⟩)
  | _, _ => .fail
set_option maxRecDepth 100000 in
theorem kLine : Known Tryz.prog [] 69 tLine := by
  refine k_line.known.less fun args regs R h => Box.out ?_
  unfold tLine at h
  split at h
  case h_2 => exact h.elim
  rename_i xs
  obtain ⟨h1, h2⟩ : (xs.length ≤ 1000 ∧ InBytes xs) ∧ R ⟨.v (.c (.hz 0 xs.length)), [some (arr (xs.map mkEv))]⟩ := h
  exact Box.of_eq (line_tree xs R) ⟨⟨rfl, h1⟩, h2⟩
end Go.Proofs.YtjfgphfdaghilaaGreatDoor.mtl
namespace Go.Proofs.YtjfgphfdaghilaaGreatDoor.mtl
open Go Go.Nx Go.Proofs.YtjfgphfdaghilaaGreatDoor.prt
open Go.Proofs.YtjfgphfdaghilaaGreatDoor.lex (arr lx InBytes mkEv)
open Go.Proofs.YtjfgphfdaghilaaGreatDoor.scr (Scr rdS rdS_in)

structure LL where
  P : List Int
  s : Int
/-- A Minitel: how much may wait, its screen, its protocol, three lexers, what waits, what was lost. -/
structure Mn where
  most : Int
  sc : Scr
  p : PS
  l1 : LL
  l2 : LL
  l3 : LL
  o2 : List Int
  o3 : List Int
  lost : Int
def mnL (M : Mn) (a1 a2 a3 b2 b3 : Nat) : List NC := [.i .i64 M.most, .p 1 0 0] ++ pC M.p ++ [.sn, .i .i64 0, .hz a1 M.l1.P.length, .i .i64 M.l1.s, .hz a2 M.l2.P.length, .i .i64 M.l2.s, .hz a3 M.l3.P.length, .i .i64 M.l3.s,
  .sn, .sn, .hz b2 M.o2.length, .hz b3 M.o3.length, .i .i64 M.lost]
def mnR (M : Mn) (a1 a2 a3 b2 b3 : Nat) : Reg := ⟨37, 106, .cells (mnL M a1 a2 a3 b2 b3)⟩
def mnIn (M : Mn) : List Reg := [mnR M 2 3 4 5 6, scr.scr M.sc, arr M.l1.P, arr M.l2.P, arr M.l3.P, arr M.o2, arr M.o3]
def mnOut (M : Mn) : List (Option Reg) := [some (mnR M 10 11 12 13 14), some (scr.scr M.sc), none, none, none, none, none, none, none, none, some (arr M.l1.P), some (arr M.l2.P), some (arr M.l3.P), some (arr M.o2), some (arr M.o3)]
/-- What is brought to its canonical shape. -/
def csM : List (Nat × Nat × Reg) := [(0, 26, arr []), (0, 28, arr []), (0, 30, arr []), (0, 34, arr []), (0, 35, arr [])]
def lensM (z : Int) (n1 n2 n3 m2 m3 : Nat) (P1 P2 P3 O2 O3 : List Int) : Prop := z = 0 ∧ n1 = P1.length ∧ n2 = P2.length ∧ n3 = P3.length ∧ m2 = O2.length ∧ m3 = O3.length
noncomputable def onM (regs : List Reg) (F : Mn → Tr Out) : Tr Out := match regs with
  | [⟨37, 106, .cells l⟩, gs, ⟨1, 5, .ints .u8 P1⟩, ⟨1, 5, .ints .u8 P2⟩, ⟨1, 5, .ints .u8 P3⟩, ⟨1, 5, .ints .u8 O2⟩, ⟨1, 5, .ints .u8 O3⟩] =>
    (match rdS (some gs), l.take 2, rdP ((l.drop 2).take 22), l.drop 24 with
     | some s, [.i .i64 most, .p 1 0 0], some p, [.sn, .i .i64 z, .hz 2 n1, .i .i64 s1, .hz 3 n2, .i .i64 s2, .hz 4 n3, .i .i64 s3, .sn, .sn, .hz 5 m2, .hz 6 m3, .i .i64 lost] =>
       .must (lensM z n1 n2 n3 m2 m3 P1 P2 P3 O2 O3) (F ⟨most, s, p, ⟨P1, s1⟩, ⟨P2, s2⟩, ⟨P3, s3⟩, O2, O3, lost⟩)
     | _, _, _, _ => .fail)
  | _ => .fail
def NP (p : PS) : Prop := pOf (pC p) = p
theorem NP_of {l : List NC} {p : PS} (h : rdP l = some p) : NP p := by
  obtain ⟨e, e2⟩ := rdP_in h
  unfold NP
  rw [← e]
  exact e2.symm
set_option maxRecDepth 100000 in
theorem onM_in {regs : List Reg} {F : Mn → Tr Out} {R : Out → Prop} (h : (onM regs F).run R) : ∃ M, regs = mnIn M ∧ NP M.p ∧ (F M).run R := by
  unfold onM at h
  split at h
  case h_2 => exact h.elim
  rename_i l gs P1 P2 P3 O2 O3
  split at h
  case h_2 => exact h.elim
  rename_i s most p z n1 s1 n2 s2 n3 s3 m2 m3 lost hs h1 hp h2
  obtain ⟨⟨rfl, rfl, rfl, rfl, rfl, rfl⟩, h⟩ := h
  refine ⟨⟨most, s, p, ⟨P1, s1⟩, ⟨P2, s2⟩, ⟨P3, s3⟩, O2, O3, lost⟩, ?_, NP_of hp, h⟩
  have e1 : gs = scr.scr s := by
    have := rdS_in hs
    cases this
    rfl
  have e2 := (rdP_in hp).1
  have e3 : l = l.take 2 ++ ((l.drop 2).take 22 ++ l.drop 24) := by
    have : l.drop 24 = (l.drop 2).drop 22 := by rw [List.drop_drop]
    rw [this, List.take_append_drop, List.take_append_drop]
  rw [h1, e2, h2] at e3
  subst e1
  rw [e3]
  rfl

/-! ### what is sent -/
noncomputable abbrev f_send := Tryz.f72
noncomputable def t_send : Con := canonT 10 csM none (fun args regs => nfun Tryz.prog [] (fun _ => Option.none) [] f_send args regs)
theorem k_send : KnownF Tryz.prog [] 72 t_send := (known_inlF Tryz.func72 rfl (by kernel_rfl) mixed con_none (by kernel_rfl)).canon 10 csM none
def doneM (M : Mn) : Out := ⟨.tu [], mnOut M⟩
def apB (O b : List Int) (A : Prop) : Prop := sel (decide (O.length ≤ O.length)) (sel (decide ((O.length + b.length) * 1 ≤ 140737488355328)) (sel (decide (O.length + b.length ≤ 9223372036854775807)) A False) False) False
def cutB (O b : List Int) : List Int := List.take O.length O ++ b
theorem send_2 (M : Mn) (b : List Int) (R : Out → Prop) : (t_send [.c (.p 0 0 0), .c (.i .i64 2), .c (.l .u8 b)] (mnIn M)).run R = sel ((b.length : Int) == 0) (R (doneM M))
    (sel (decide (w64 ((M.o2.length : Int) + (b.length : Int)) > M.most)) (R (doneM { M with lost := w64 (M.lost + 1) })) (apB M.o2 b (R ⟨.tu [], [some ⟨37, 106, .cells ((mnL M 10 11 12 13 14).set 34 (.hz 13 (M.o2.length + b.length)))⟩, some (scr.scr M.sc), none, none, none, none, none, none, none, none, some (arr M.l1.P), some (arr M.l2.P), some (arr M.l3.P), some (arr (cutB M.o2 b)), some (arr M.o3)]⟩))) := by kernel_rfl
theorem send_3 (M : Mn) (b : List Int) (R : Out → Prop) : (t_send [.c (.p 0 0 0), .c (.i .i64 3), .c (.l .u8 b)] (mnIn M)).run R = sel ((b.length : Int) == 0) (R (doneM M))
    (sel (decide (w64 ((M.o3.length : Int) + (b.length : Int)) > M.most)) (R (doneM { M with lost := w64 (M.lost + 1) })) (apB M.o3 b (R ⟨.tu [], [some ⟨37, 106, .cells ((mnL M 10 11 12 13 14).set 35 (.hz 14 (M.o3.length + b.length)))⟩, some (scr.scr M.sc), none, none, none, none, none, none, none, none, some (arr M.l1.P), some (arr M.l2.P), some (arr M.l3.P), some (arr M.o2), some (arr (cutB M.o3 b))]⟩))) := by kernel_rfl
def outW (M : Mn) (j : Int) : List Int := if j = 2 then M.o2 else M.o3
def putW (M : Mn) (j : Int) (b : List Int) : Mn := if j = 2 then { M with o2 := M.o2 ++ b } else { M with o3 := M.o3 ++ b }
/-- What is sent to a module. -/
def sendM (j : Int) (b : List Int) (M : Mn) : Mn := if b = [] then M else if ((outW M j).length : Int) + b.length > M.most then { M with lost := w64 (M.lost + 1) } else putW M j b
def smallM (M : Mn) : Prop := M.o2.length ≤ 100000 ∧ M.o3.length ≤ 100000
noncomputable def tSend : Con := fun args regs => match args with
  | [.c (.p 0 0 0), .c (.i .i64 j), .c (.l .u8 b)] => onM regs fun M => .must ((j = 2 ∨ j = 3) ∧ smallM M ∧ b.length ≤ 100000) (.ret (doneM (sendM j b M)))
  | _ => .fail
theorem apB_in {O b : List Int} {A : Prop} (h1 : O.length ≤ 100000) (h2 : b.length ≤ 100000) (h : A) : apB O b A :=
  selT (dT (Nat.le_refl _)) (selT (dT (by omega)) (selT (dT (by omega)) h))
theorem cutB_eq (O b : List Int) : cutB O b = O ++ b := by unfold cutB; rw [List.take_length]
set_option maxRecDepth 100000 in
theorem kSend : KnownF Tryz.prog [] 72 tSend := by
  refine k_send.weak fun args regs R h => Box.out ?_
  unfold tSend at h
  split at h
  case h_2 => exact h.elim
  rename_i j b
  obtain ⟨M, rfl, hp, h⟩ := onM_in h
  obtain ⟨⟨hj, ⟨hs2, hs3⟩, hb⟩, h⟩ := h
  have h : R (doneM (sendM j b M)) := h
  have hR : ∀ o, R o → ∃ o', WeakF o o' ∧ R o' := fun o ho => ⟨o, WeakF.refl _, ho⟩
  have hlen : ∀ l : List Int, l.length = 0 → l = [] := fun l hl => List.length_eq_zero_iff.1 hl
  unfold sendM at h
  rcases hj with rfl | rfl
  · refine Box.of_eq (send_2 M b _) (sel_eq (fun e => hR _ ?_) fun e => sel_by (fun e1 => hR _ ?_) fun e1 => apB_in hs2 hb (hR _ ?_))
    · rw [if_pos (hlen b (by omega))] at h; exact h
    · rw [w64_id (by omega)] at e1
      rw [if_neg (fun e2 => e (by rw [e2]; rfl)), show outW M 2 = M.o2 from rfl, if_pos e1] at h; exact h
    · rw [w64_id (by omega)] at e1
      rw [if_neg (fun e2 => e (by rw [e2]; rfl)), show outW M 2 = M.o2 from rfl, if_neg e1] at h
      rw [cutB_eq]
      have e2 : (M.o2 ++ b).length = M.o2.length + b.length := List.length_append
      rw [← e2]
      exact h
  · refine Box.of_eq (send_3 M b _) (sel_eq (fun e => hR _ ?_) fun e => sel_by (fun e1 => hR _ ?_) fun e1 => apB_in hs3 hb (hR _ ?_))
    · rw [if_pos (hlen b (by omega))] at h; exact h
    · rw [w64_id (by omega)] at e1
      rw [if_neg (fun e2 => e (by rw [e2]; rfl)), show outW M 3 = M.o3 from rfl, if_pos e1] at h; exact h
    · rw [w64_id (by omega)] at e1
      rw [if_neg (fun e2 => e (by rw [e2]; rfl)), show outW M 3 = M.o3 from rfl, if_neg e1] at h
      rw [cutB_eq]
      have e2 : (M.o3 ++ b).length = M.o3.length + b.length := List.length_append
      rw [← e2]
      exact h
end Go.Proofs.YtjfgphfdaghilaaGreatDoor.mtl
namespace Go.Proofs.YtjfgphfdaghilaaGreatDoor.mtl
open Go Go.Nx Go.Proofs.YtjfgphfdaghilaaGreatDoor.prt
open Go.Proofs.YtjfgphfdaghilaaGreatDoor.lex (arr lx InBytes mkEv K7)
open Go.Proofs.YtjfgphfdaghilaaGreatDoor.lxv (fIt KI liveO liveN innerC outerC frIt cel evR psOf asOf bdOf nr t_all tByteH kByteH evts pend shft cc okP)
open Go.Proofs.YtjfgphfdaghilaaGreatDoor.scr (Scr rdS rdS_in Ev eventS tEvent kEvent tRolls kRolls rollsS PreE)

noncomputable abbrev f_reads := Tryz.f73
noncomputable def rgR : Code := theRange f_reads 0
noncomputable def c_rd : FuncId → Option Con := conOf [(111, tEvent), (112, tAsk), (113, tRolls), (69, tLine), (72, tSend)]
theorem kc_rd : ∀ f T, c_rd f = some T → Known Tryz.prog [] f T := (Knowns.cons kEvent (.cons kAsk (.cons kRolls (.cons kLine (.cons kSend.known .nil))))).get
noncomputable def X_rd : Cx := { P := Tryz.prog, con := c_rd, glob := [], m := 7, loops := [] }
noncomputable def c_itR : FuncId → Option Con := conOf [(150, tByteH)]
theorem kc_itR : ∀ f T, c_itR f = some T → Known Tryz.prog [] f T := (Knowns.cons kByteH.known Knowns.nil).get
noncomputable def X_itR : Cx := { P := Tryz.prog, con := c_itR, glob := [], m := 13, loops := [] }
/-- What stays as it is: the module, its lexer's place, what is to be done, the bytes. -/
structure RK where
  j : Int
  c : Nat
  hd : Bool
  an : Bool
  bs : List Int
noncomputable def frR : List NS := frame 58 [(5, .v (.c (.p 7 0 0))), (6, .v (.c (.p 8 0 0))), (8, .v (.c (.p 9 0 0))), (9, .v (.c (.p 10 0 0))), (18, .v (.c (.cl 149 [(11, 0, 0), (12, 0, 0)])))]
noncomputable def YR : Yh := bodyY X_rd (psOf rgR) (asOf rgR) (bdOf rgR) frR
def boxR (k : RK) : List (Option Reg) := [cel 26 1 [.p 0 0 0], cel 3 1 [.i .i64 k.j], cel 4 1 [.b k.hd], cel 4 1 [.b k.an], cel 34 1 [.l .u8 k.bs], cel 253 1 [.p 0 0 k.c]]
def rowsM (M : Mn) : List (Option Reg) := [some (arr M.l1.P), some (arr M.l2.P), some (arr M.l3.P), some (arr M.o2), some (arr M.o3)]
def rgI (k : RK) (M : Mn) : List (Option Reg) := [some (mnR M 13 14 15 16 17), some (scr.scr M.sc), none, none, none, none, none] ++ boxR k ++ rowsM M
noncomputable def frI (k : RK) (i : Int) (Y : List (List Sc)) (n : Int) : List NS := frame 28 [(0, .v (.c (.e KI))), (2, .v (.c (.p 12 0 0))), (8, .v (.c (.l .u8 k.bs))), (9, .v (.c (.i .i64 k.bs.length))), (10, .v (.c (.i .i64 i))), (16, .v (.c (.lr K7 Y))), (17, .v (.c (.i .i64 Y.length))), (18, .v (.c (.i .i64 n)))]
noncomputable def sI (k : RK) (M : Mn) (i : Int) (Y : List (List Sc)) (n : Int) : St := { fr := frI k i Y n, rg := rgI k M }
noncomputable def eI (k : RK) (M : Mn) (i : Int) : St := { fr := frIt 12 k.bs i, rg := rgI k M }
noncomputable def rndI (k : RK) (s : St) : Tr ROI := roundI X_itR YR KI [] 2 liveN liveO innerC s Option.none
/-! ### an event -/
def x7 (r : List Sc) (i : Nat) : Int := (r.getD i (.i 0)).n
def evX (r : List Sc) : Ev := ⟨x7 r 0, x7 r 1, x7 r 2, x7 r 3, x7 r 4, x7 r 5, x7 r 6⟩
noncomputable def heardM (r : List Sc) (M : Mn) : Mn := { M with sc := eventS (evX r) M.sc }
noncomputable def askedM (q : PS) (r : List Sc) (M : Mn) : Mn := { M with p := (askV q (x7 r 0) (x7 r 1) (x7 r 2) (x7 r 3) (x7 r 4)).1, sc := rollsS (askV q (x7 r 0) (x7 r 1) (x7 r 2) (x7 r 3) (x7 r 4)).1.ro M.sc }
noncomputable def ansM (q : PS) (r : List Sc) : List Int := (askV q (x7 r 0) (x7 r 1) (x7 r 2) (x7 r 3) (x7 r 4)).2
def ixR (i : Int) (Q : List (List Sc)) (A : Prop) : Prop := sel (decide (0 ≤ i)) (sel (decide (i < (Q.length : Int))) (sel (decide (i.toNat < Q.length)) A False) False) False
def lensR (M : Mn) : Prop := lensM 0 M.l1.P.length M.l2.P.length M.l3.P.length M.o2.length M.o3.length M.l1.P M.l2.P M.l3.P M.o2 M.o3
def nrm (M : Mn) : Mn := { M with p := pOf (pC M.p) }
noncomputable def evR1 (k : RK) (M : Mn) (r : List Sc) (N : Mn → Prop) : Prop :=
  sel (x7 r 0 != 10) (sel k.hd (PreE (evX r) M.sc ∧ N (heardM r M)) (N M))
    (sel k.an ((((ansM (pOf (pC M.p)) r).length ≤ 1000 ∧ InBytes (ansM (pOf (pC M.p)) r)) ∧ sel (decide ((ansM (pOf (pC M.p)) r).length ≤ ((ansM (pOf (pC M.p)) r).map mkEv).length))
      (lensR M ∧ ((k.j = 2 ∨ k.j = 3) ∧ smallM M ∧ (List.take (ansM (pOf (pC M.p)) r).length ((ansM (pOf (pC M.p)) r).map mkEv)).length ≤ 100000) ∧ N (sendM k.j (List.take (ansM (pOf (pC M.p)) r).length ((ansM (pOf (pC M.p)) r).map mkEv)) (nrm (askedM (pOf (pC M.p)) r M)))) False))
      (N (askedM (pOf (pC M.p)) r M)))
theorem round_I (k : RK) (M : Mn) (i : Int) (Y : List (List Sc)) (n : Int) (R : ROI → Prop) : (rndI k (sI k M i Y n)).run R =
    sel (decide (n < (Y.length : Int))) (ixR n Y (evR1 k M (Y.getD n.toNat []) fun M' => R (.next (sI k M' i Y (w64 (n + 1))) Option.none))) (R (.done .normal (eI k M i) Option.none)) := by kernel_rfl
end Go.Proofs.YtjfgphfdaghilaaGreatDoor.mtl
namespace Go.Proofs.YtjfgphfdaghilaaGreatDoor.mtl
open Go Go.Nx Go.Proofs.YtjfgphfdaghilaaGreatDoor.prt
open Go.Proofs.YtjfgphfdaghilaaGreatDoor.lex (arr lx InBytes mkEv K7)
open Go.Proofs.YtjfgphfdaghilaaGreatDoor.lxv (fIt KI liveO liveN innerC outerC frIt cel evR psOf asOf bdOf nr t_all tByteH kByteH evts pend shft cc okP)
open Go.Proofs.YtjfgphfdaghilaaGreatDoor.scr (Scr rdS rdS_in Ev eventS tEvent kEvent tRolls kRolls rollsS PreE Ins)

/-! ### the protocol's state -/
theorem NP_few {p : PS} : NP p ↔ ∀ i, 16 ≤ i → p.M i = false := by
  have hc : ∀ i, 16 ≤ i → mCut (pC p) i = false := fun i hi => by
    have hb : Nat.blt i 16 = false := by
      cases h : Nat.blt i 16 with
      | false => rfl
      | true => have := Nat.blt_eq.mp h; omega
    unfold mCut
    rw [hb]
    rfl
  constructor
  · intro h i hi
    have : (pOf (pC p)).M i = p.M i := congrFun (congrArg PS.M h) i
    rw [← this]
    exact hc i hi
  · intro h
    have e : mCut (pC p) = p.M := funext fun i => by
      by_cases hi : i < 16
      · exact mCut_pC hi
      · rw [h i (by omega)]; exact hc i (by omega)
    show { p with M := mCut (pC p) } = p
    rw [e]
/-- What is said of a protocol's state. -/
structure OkP (p : PS) : Prop where
  np : ∀ i, 16 ≤ i → p.M i = false
  sp : 0 ≤ p.sp ∧ p.sp < 256
theorem OkP.NP {p : PS} (h : OkP p) : NP p := NP_few.2 h.np
theorem startP_ok : OkP startP := ⟨fun i hi => by
  have h1 : (i == 2) = false := by simp; omega
  have h2 : (i == 9) = false := by simp; omega
  show (i == 2 || i == 9) = false
  rw [h1, h2]; rfl, by decide⟩
theorem OkP.set {p : PS} (h : OkP p) (a b : Int) (on : Bool) : OkP (setP p a b on) := by
  refine ⟨fun i hi => ?_, h.sp⟩
  show setM p.M a b on i = false
  unfold setM
  by_cases ha : 0 ≤ a ∧ a < 4
  · by_cases hb : 0 ≤ b ∧ b < 4
    · have : (i == 4 * a.toNat + b.toNat) = false := by simp; omega
      rw [this, Bool.and_false]
      exact h.np i hi
    · rw [okS_G hb]; exact h.np i hi
  · rw [okS_F ha]; exact h.np i hi

/-! ### answers are few bytes -/
def byte (x : Int) : Prop := 0 ≤ x ∧ x < 256
instance (x : Int) : Decidable (byte x) := inferInstanceAs (Decidable (0 ≤ x ∧ x < 256))
theorem inB_nil : InBytes [] := fun c hc => by simp at hc
theorem inB_cons {x : Int} {l : List Int} (hx : byte x) (h : InBytes l) : InBytes (x :: l) := fun c hc => by
  rcases List.mem_cons.1 hc with rfl | hc
  · exact hx
  · exact h c hc
theorem inB_app {l m : List Int} (h : InBytes l) (k : InBytes m) : InBytes (l ++ m) := fun c hc => by
  rcases List.mem_append.1 hc with hc | hc
  · exact h c hc
  · exact k c hc
theorem inB_map {l : List Int} (h : InBytes l) : InBytes (l.map mkEv) := fun c hc => by
  obtain ⟨b, hb, rfl⟩ := List.mem_map.1 hc
  exact mkEv_byte (h b hb)
structure AnsOk (l : List Int) : Prop where
  len : l.length ≤ 5
  inb : InBytes l
theorem AnsOk.nil : AnsOk [] := ⟨by simp, inB_nil⟩
theorem AnsOk.four {a b c d : Int} (ha : byte a) (hb : byte b) (hc : byte c) (hd : byte d) : AnsOk [a, b, c, d] := ⟨by simp, inB_cons ha (inB_cons hb (inB_cons hc (inB_cons hd inB_nil)))⟩
theorem AnsOk.five {a b c d e : Int} (ha : byte a) (hb : byte b) (hc : byte c) (hd : byte d) (he : byte e) : AnsOk [a, b, c, d, e] := ⟨by simp, inB_cons ha (inB_cons hb (inB_cons hc (inB_cons hd (inB_cons he inB_nil))))⟩
theorem modesV_byte (p : PS) : byte (modesV p) := by
  unfold modesV
  cases p.ro <;> cases p.lo <;> decide
theorem boardV_byte (p : PS) : byte (boardV p) := by
  unfold boardV
  cases p.ex <;> cases p.c0 <;> decide
theorem statV_byte (M : Nat → Bool) (a : Int) : byte (statV M a) := by
  unfold statV
  generalize hrs M a 0 = b0
  generalize hrs M a 1 = b1
  generalize hrs M a 2 = b2
  generalize hrs M a 3 = b3
  cases b0 <;> cases b1 <;> cases b2 <;> cases b3 <;> decide
theorem codeV_byte (a : Int) : byte (codeV a) := by
  unfold codeV
  by_cases h : 0 ≤ a ∧ a < 4
  · rw [dT h]
    show byte (IntKind.u8.wrap (w64 (88 + a)))
    rw [w64_id (by omega), u8_id (by omega)]
    exact ⟨by omega, by omega⟩
  · rw [dF h]; exact (by decide : byte 0)
theorem linkedV_ok (p : PS) (a : Int) : AnsOk (linkedV p a) := .five (by decide) (by decide) (by decide) (codeV_byte a) (statV_byte _ a)
structure AskOk (r : PS × List Int) : Prop where
  p : OkP r.1
  a : AnsOk r.2
theorem first_ok {p : PS} (h : OkP p) (b : Int) : AskOk (firstV p b) := by
  unfold firstV
  split
  · exact ⟨h, .four (by decide) (by decide) (by decide) (by decide)⟩
  split
  · exact ⟨h, .four (by decide) (by decide) (by decide) (modesV_byte p)⟩
  split
  · exact ⟨h, .four (by decide) (by decide) (by decide) h.sp⟩
  split
  · exact ⟨h, .four (by decide) (by decide) (by decide) (by decide)⟩
  split
  · exact ⟨h, .five (by decide) (by decide) (by decide) (by decide) (by decide)⟩
  split
  · exact ⟨startP_ok, .nil⟩
  · exact ⟨h, .nil⟩
theorem second_ok {p : PS} (h : OkP p) (b c : Int) : AskOk (secondV p b c) := by
  unfold secondV
  split
  · unfold rollV
    split
    · exact ⟨⟨h.np, h.sp⟩, .four (by decide) (by decide) (by decide) (modesV_byte _)⟩
    split
    · exact ⟨⟨h.np, h.sp⟩, .four (by decide) (by decide) (by decide) (modesV_byte _)⟩
    · exact ⟨h, .nil⟩
  split
  · split
    · exact ⟨h, .nil⟩
    · rename_i hc
      have hb : byte c := ⟨by omega, by omega⟩
      exact ⟨⟨h.np, hb⟩, .four (by decide) (by decide) (by decide) hb⟩
  split
  · split
    · exact ⟨h, linkedV_ok _ _⟩
    · exact ⟨h, .nil⟩
  split
  · split
    · exact ⟨h, .five (by decide) (by decide) (by decide) (by decide) (boardV_byte p)⟩
    · exact ⟨h, .nil⟩
  · exact ⟨h, .nil⟩
theorem third_ok {p : PS} (h : OkP p) (b c d : Int) : AskOk (thirdV p b c d) := by
  unfold thirdV
  split
  · unfold linkV
    split
    · exact ⟨h.set _ _ _, linkedV_ok _ _⟩
    · exact ⟨h, .nil⟩
  split
  · unfold boaV
    split
    · exact ⟨⟨h.np, h.sp⟩, .five (by decide) (by decide) (by decide) (by decide) (boardV_byte _)⟩
    split
    · exact ⟨⟨h.np, h.sp⟩, .five (by decide) (by decide) (by decide) (by decide) (boardV_byte _)⟩
    · exact ⟨h, .nil⟩
  · exact ⟨h, .nil⟩
theorem ecP_ok {r : PS × List Int} (h : AskOk r) : AskOk (ecP r) := ⟨⟨h.p.np, h.p.sp⟩, h.a⟩
theorem ask_ok {p : PS} (h : OkP p) (k a b c d : Int) : AskOk (askV p k a b c d) := by
  unfold askV
  split
  · split
    · exact ecP_ok (first_ok h b)
    split
    · exact ecP_ok (second_ok h b c)
    split
    · exact ecP_ok (third_ok h b c d)
    · exact ecP_ok ⟨h, .nil⟩
  · exact ⟨h, .nil⟩

/-! ### the Minitel -/
def OkL (l : LL) : Prop := l.P.length ≤ 15 ∧ (l.P = [] ∨ okP l.P)
structure OkM (M : Mn) : Prop where
  sc : ∃ r, Ins r M.sc
  p : OkP M.p
  most : M.most ≤ 5000
  o2 : M.o2.length ≤ 5000
  o3 : M.o3.length ≤ 5000
  l1 : OkL M.l1
  l2 : OkL M.l2
  l3 : OkL M.l3
theorem OkM.on {M : Mn} (h : OkM M) : scr.On M.sc := by
  obtain ⟨r, hr⟩ := h.sc
  exact hr.on
theorem preE_of {e : Ev} {s : Scr} (h : scr.On s) : PreE e s := ⟨h, fun _ => trivial, fun _ => trivial⟩
theorem ins_rolls {r b : Bool} {s : Scr} (h : Ins r s) : Ins b (rollsS b s) := ⟨h.on, rfl, h.fg, h.bg, h.sl⟩
theorem OkM.heard {M : Mn} (h : OkM M) (r : List Sc) : OkM (heardM r M) := by
  obtain ⟨b, hb⟩ := h.sc
  exact ⟨⟨b, hb.event (evX r)⟩, h.p, h.most, h.o2, h.o3, h.l1, h.l2, h.l3⟩
theorem OkM.asked {M : Mn} (h : OkM M) (r : List Sc) : OkM (askedM M.p r M) := by
  obtain ⟨b, hb⟩ := h.sc
  exact ⟨⟨_, ins_rolls hb⟩, (ask_ok h.p _ _ _ _ _).p, h.most, h.o2, h.o3, h.l1, h.l2, h.l3⟩
theorem OkM.send {M : Mn} (h : OkM M) (j : Int) (b : List Int) : OkM (sendM j b M) := by
  unfold sendM
  split
  · exact h
  split
  · exact ⟨h.sc, h.p, h.most, h.o2, h.o3, h.l1, h.l2, h.l3⟩
  · rename_i h1
    have hm := h.most
    unfold putW
    unfold outW at h1
    split at h1
    · rename_i hj
      rw [if_pos hj]
      exact ⟨h.sc, h.p, h.most, by simp only [List.length_append]; omega, h.o3, h.l1, h.l2, h.l3⟩
    · rename_i hj
      rw [if_neg hj]
      exact ⟨h.sc, h.p, h.most, h.o2, by simp only [List.length_append]; omega, h.l1, h.l2, h.l3⟩
/-- An event of a module: the screen hears it, or not; what is asked is answered, or not. -/
noncomputable def evM (hd an : Bool) (j : Int) (M : Mn) (r : List Sc) : Mn :=
  if x7 r 0 = 10 then (if an then sendM j ((ansM M.p r).map mkEv) (askedM M.p r M) else askedM M.p r M) else if hd then heardM r M else M
noncomputable def evsM (hd an : Bool) (j : Int) (Y : List (List Sc)) (M : Mn) : Mn := Y.foldl (evM hd an j) M
theorem OkM.ev {M : Mn} (h : OkM M) (hd an : Bool) (j : Int) (r : List Sc) : OkM (evM hd an j M r) := by
  unfold evM
  split
  · split
    · exact (h.asked r).send j _
    · exact h.asked r
  · split
    · exact h.heard r
    · exact h
theorem OkM.evs {hd an : Bool} {j : Int} : ∀ (Y : List (List Sc)) {M : Mn}, OkM M → OkM (evsM hd an j Y M)
  | [], _, h => h
  | r :: Y, _, h => OkM.evs Y (h.ev hd an j r)
theorem nrm_eq {M : Mn} (h : OkP M.p) : nrm M = M := by
  unfold nrm
  rw [show pOf (pC M.p) = M.p from h.NP]
/-- What an event's tree wants. -/
theorem evR1_in {k : RK} {M : Mn} {r : List Sc} {N : Mn → Prop} (h : OkM M) (hj : k.an = true → k.j = 2 ∨ k.j = 3) (hN : N (evM k.hd k.an k.j M r)) : evR1 k M r N := by
  have hp : pOf (pC M.p) = M.p := h.p.NP
  have ha := (ask_ok h.p (x7 r 0) (x7 r 1) (x7 r 2) (x7 r 3) (x7 r 4)).a
  unfold evR1
  rw [hp]
  unfold evM at hN
  by_cases hk : x7 r 0 = 10
  · rw [if_pos hk] at hN
    refine selF (by rw [hk]; rfl) (sel_b (fun e => ?_) fun e => ?_)
    · rw [if_pos e] at hN
      have hl : (ansM M.p r).length ≤ 5 := ha.len
      have ht : List.take (ansM M.p r).length ((ansM M.p r).map mkEv) = (ansM M.p r).map mkEv := List.take_of_length_le (by simp)
      rw [ht, nrm_eq (ask_ok h.p _ _ _ _ _).p]
      refine ⟨⟨by omega, ha.inb⟩, selT (dT (by simp)) ⟨⟨rfl, rfl, rfl, rfl, rfl, rfl⟩, ⟨hj e, ⟨by have := h.o2; omega, by have := h.o3; omega⟩, by simp; omega⟩, hN⟩⟩
    · rw [if_neg (by rw [e]; decide)] at hN
      exact hN
  · rw [if_neg hk] at hN
    refine selT (by simpa using hk) (sel_b (fun e => ?_) fun e => ?_)
    · rw [if_pos e] at hN
      exact ⟨preE_of h.on, hN⟩
    · rw [if_neg (by rw [e]; decide)] at hN
      exact hN
end Go.Proofs.YtjfgphfdaghilaaGreatDoor.mtl
namespace Go.Proofs.YtjfgphfdaghilaaGreatDoor.mtl
open Go Go.Nx Go.Proofs.YtjfgphfdaghilaaGreatDoor.prt
open Go.Proofs.YtjfgphfdaghilaaGreatDoor.lex (arr lx InBytes mkEv K7)
open Go.Proofs.YtjfgphfdaghilaaGreatDoor.lxv (fIt KI liveO liveN innerC outerC frIt cel evR psOf asOf bdOf nr t_all k_all tByteH kByteH evts pend shft cc okP)
open Go.Proofs.YtjfgphfdaghilaaGreatDoor.scr (Scr rdS rdS_in Ev eventS tEvent kEvent tRolls kRolls rollsS PreE Ins)

/-! ### the events of a byte -/
noncomputable def rdI (s : St) : Option (RK × Mn × Int × List (List Sc)) := match s.fr[(10 : Nat)]?, s.fr[(16 : Nat)]?, s.rg with
  | some (.v (.c (.i _ i))), some (.v (.c (.lr _ Y))), [some ⟨_, _, .cells l⟩, gs, _, _, _, _, _, _, some ⟨_, _, .cells [.i _ j]⟩, some ⟨_, _, .cells [.b hd]⟩, some ⟨_, _, .cells [.b an]⟩, some ⟨_, _, .cells [.l _ bs]⟩, some ⟨_, _, .cells [.p _ _ c]⟩,
      some ⟨_, _, .ints _ P1⟩, some ⟨_, _, .ints _ P2⟩, some ⟨_, _, .ints _ P3⟩, some ⟨_, _, .ints _ O2⟩, some ⟨_, _, .ints _ O3⟩] =>
    (match rdS gs, l.take 1, rdP ((l.drop 2).take 22), l.drop 24 with
     | some sc, [.i _ most], some p, [_, _, _, .i _ s1, _, .i _ s2, _, .i _ s3, _, _, _, _, .i _ lost] => some (⟨j, c, hd, an, bs⟩, ⟨most, sc, p, ⟨P1, s1⟩, ⟨P2, s2⟩, ⟨P3, s3⟩, O2, O3, lost⟩, i, Y)
     | _, _, _, _ => none)
  | _, _, _ => none
def anJ (k : RK) : Prop := k.an = true → k.j = 2 ∨ k.j = 3
noncomputable def LIn (s : St × Option NExit) : Tr (NExit × St × Option NExit) := match rdI s.1 with
  | some (k, M, i, Y) => .must (s = (sI k M i Y 0, Option.none) ∧ OkM M ∧ anJ k ∧ Y.length ≤ 1000) (.ret (.normal, eI k (evsM k.hd k.an k.j Y M) i, Option.none))
  | none => .fail
structure AI where
  k : RK
  M : Mn
  i : Int
  Y : List (List Sc)
  n : Int
def preI (a : AI) (R : NExit × St × Option NExit → Prop) : Prop := (0 ≤ a.n ∧ a.n ≤ (a.Y.length : Int)) ∧ a.Y.length ≤ 1000 ∧ OkM a.M ∧ anJ a.k ∧ R (.normal, eI a.k (evsM a.k.hd a.k.an a.k.j (a.Y.drop a.n.toNat) a.M) a.i, Option.none)
theorem ixR_in {i : Int} {Q : List (List Sc)} {A : Prop} (h : 0 ≤ i ∧ i < (Q.length : Int)) (hA : A) : ixR i Q A := selT (dT h.1) (selT (dT h.2) (selT (dT (by omega)) hA))
theorem dropR_get {xs : List (List Sc)} {i : Int} (h : 0 ≤ i ∧ i < (xs.length : Int)) : xs.drop i.toNat = xs.getD i.toNat [] :: xs.drop (i + 1).toNat := by
  have hj : i.toNat < xs.length := by omega
  rw [show (i + 1).toNat = i.toNat + 1 by omega, List.getD_eq_getElem?_getD, List.getElem?_eq_getElem hj]
  exact List.drop_eq_getElem_cons hj
set_option maxRecDepth 100000 in
theorem outer_tame : tame outerC = true := by kernel_rfl
set_option maxRecDepth 100000 in
theorem inner_tame : tame innerC = true := by kernel_rfl
set_option maxRecDepth 100000 in
theorem loop_I : LOkI Tryz.prog [] 13 KI YR 2 innerC LIn := by
  refine loopI_ok (X := X_itR) (ls := []) kc_itR inner_tame (LAllI.none (by kernel_rfl)) liveN liveO (fun a : AI => (sI a.k a.M a.i a.Y a.n, Option.none)) (fun a => ((a.Y.length : Int) - a.n).toNat) preI ?_ ?_
  · intro s R h
    unfold LIn at h
    split at h
    case h_2 => exact h.elim
    rename_i k M i Y hrd
    obtain ⟨⟨hs, hM, hj, hl⟩, hR⟩ := h
    exact ⟨⟨k, M, i, Y, 0⟩, hs, ⟨by simp only; omega, by simp only; omega⟩, hl, hM, hj, hR⟩
  · intro a R h
    obtain ⟨k, M, i, Y, n⟩ := a
    obtain ⟨⟨h0, hle⟩, hl, hM, hj, hR⟩ := h
    simp only at h0 hle hl hM hj hR
    refine Tr.run_mono _ (fun o ho => ho) (Box.of_eq (round_I k M i Y n _) (sel_by (fun hlt => ixR_in ⟨h0, hlt⟩ (evR1_in hM hj ?_)) fun hlt => ?_)).out
    · have hw : w64 (n + 1) = n + 1 := w64_id (by omega)
      rw [hw]
      rw [dropR_get ⟨h0, hlt⟩] at hR
      exact ⟨⟨k, evM k.hd k.an k.j M (Y.getD n.toNat []), i, Y, n + 1⟩, rfl, by simp only; omega, ⟨by simp only; omega, by simp only; omega⟩, hl, hM.ev _ _ _ _, hj, hR⟩
    · rw [List.drop_eq_nil_iff.2 (by omega)] at hR
      exact hR

/-! ### all bytes -/
def getL (M : Mn) (j : Int) : LL := if j = 1 then M.l1 else if j = 2 then M.l2 else M.l3
def setL (M : Mn) (j : Int) (l : LL) : Mn := if j = 1 then { M with l1 := l } else if j = 2 then { M with l2 := l } else { M with l3 := l }
noncomputable def nextL (l : LL) (b : Int) : LL := ⟨pend l.P (cc b), shft l.s (cc b)⟩
noncomputable def byteM (hd an : Bool) (j : Int) (M : Mn) (b : Int) : Mn := evsM hd an j (evts (getL M j).P (getL M j).s (cc b)) (setL M j (nextL (getL M j) b))
noncomputable def readsM (hd an : Bool) (j : Int) (bs : List Int) (M : Mn) : Mn := bs.foldl (byteM hd an j) M
def plc (j : Int) : Nat := if j = 1 then 26 else if j = 2 then 28 else 30
theorem OkL.next {l : LL} (h : OkL l) {b : Int} (hb : byte b) : OkL (nextL l b) := lxv.step_ok (x := ⟨[], l.P, l.s⟩) h hb
theorem OkM.setL {M : Mn} (h : OkM M) (j : Int) {l : LL} (hl : OkL l) : OkM (setL M j l) := by
  unfold mtl.setL
  split
  · exact ⟨h.sc, h.p, h.most, h.o2, h.o3, hl, h.l2, h.l3⟩
  split
  · exact ⟨h.sc, h.p, h.most, h.o2, h.o3, h.l1, hl, h.l3⟩
  · exact ⟨h.sc, h.p, h.most, h.o2, h.o3, h.l1, h.l2, hl⟩
theorem OkM.getL {M : Mn} (h : OkM M) (j : Int) : OkL (getL M j) := by
  unfold mtl.getL
  split
  · exact h.l1
  split
  · exact h.l2
  · exact h.l3
theorem OkM.byte {M : Mn} (h : OkM M) (hd an : Bool) (j : Int) {b : Int} (hb : byte b) : OkM (byteM hd an j M b) := OkM.evs _ (h.setL j ((h.getL j).next hb))
theorem OkM.reads {hd an : Bool} {j : Int} : ∀ (bs : List Int) {M : Mn}, OkM M → InBytes bs → OkM (readsM hd an j bs M)
  | [], _, h, _ => h
  | b :: bs, M, h, hb => OkM.reads (M := byteM hd an j M b) bs (h.byte hd an j (hb b (List.mem_cons_self ..))) fun c hc => hb c (List.mem_cons_of_mem _ hc)
noncomputable def lsO : LI := [(2, liveN, LIn)]
noncomputable def rndO (s : St) : Tr ROI := roundI X_itR YR KI lsO 0 liveO [] outerC s Option.none
noncomputable def dnO (k : RK) (M : Mn) : St := { fr := frame 28 [], rg := rgI k M }
/-- What a byte's tree wants: M' is the Minitel with its lexer behind the byte. -/
noncomputable def byR (k : RK) (M' : Mn) (l : LL) (i b : Int) (R : ROI → Prop) : Prop :=
  (l.P.length = l.P.length ∧ (0 ≤ b ∧ b < 256) ∧ (l.P = [] ∨ okP l.P)) ∧ ((sI k M' i (evts l.P l.s (cc b)) 0, (Option.none : Option NExit)) = (sI k (nrm M') i (evts l.P l.s (cc b)) 0, Option.none) ∧ OkM (nrm M') ∧ anJ k ∧ (evts l.P l.s (cc b)).length ≤ 1000) ∧
    R (.next (eI k (evsM k.hd k.an k.j (evts l.P l.s (cc b)) (nrm M')) (w64 (i + 1))) Option.none)
theorem round_O1 (j : Int) (hd an : Bool) (bs : List Int) (M : Mn) (i : Int) (R : ROI → Prop) : (rndO (eI ⟨j, 26, hd, an, bs⟩ M i)).run R =
    sel (decide (i < (bs.length : Int))) (ix i bs (byR ⟨j, 26, hd, an, bs⟩ { M with l1 := nextL M.l1 (bs.getD i.toNat 0) } M.l1 i (bs.getD i.toNat 0) R)) (R (.done .normal (dnO ⟨j, 26, hd, an, bs⟩ M) Option.none)) := by kernel_rfl
theorem round_O2 (j : Int) (hd an : Bool) (bs : List Int) (M : Mn) (i : Int) (R : ROI → Prop) : (rndO (eI ⟨j, 28, hd, an, bs⟩ M i)).run R =
    sel (decide (i < (bs.length : Int))) (ix i bs (byR ⟨j, 28, hd, an, bs⟩ { M with l2 := nextL M.l2 (bs.getD i.toNat 0) } M.l2 i (bs.getD i.toNat 0) R)) (R (.done .normal (dnO ⟨j, 28, hd, an, bs⟩ M) Option.none)) := by kernel_rfl
theorem round_O3 (j : Int) (hd an : Bool) (bs : List Int) (M : Mn) (i : Int) (R : ROI → Prop) : (rndO (eI ⟨j, 30, hd, an, bs⟩ M i)).run R =
    sel (decide (i < (bs.length : Int))) (ix i bs (byR ⟨j, 30, hd, an, bs⟩ { M with l3 := nextL M.l3 (bs.getD i.toNat 0) } M.l3 i (bs.getD i.toNat 0) R)) (R (.done .normal (dnO ⟨j, 30, hd, an, bs⟩ M) Option.none)) := by kernel_rfl
theorem LSay : True := trivial
end Go.Proofs.YtjfgphfdaghilaaGreatDoor.mtl
namespace Go.Proofs.YtjfgphfdaghilaaGreatDoor.mtl
open Go Go.Nx Go.Proofs.YtjfgphfdaghilaaGreatDoor.prt
open Go.Proofs.YtjfgphfdaghilaaGreatDoor.lex (arr lx InBytes mkEv K7)
open Go.Proofs.YtjfgphfdaghilaaGreatDoor.lxv (fIt KI liveO liveN innerC outerC frIt cel evR psOf asOf bdOf nr t_all k_all tByteH kByteH evts pend shft cc okP)
open Go.Proofs.YtjfgphfdaghilaaGreatDoor.scr (Scr rdS rdS_in Ev eventS tEvent kEvent tRolls kRolls rollsS PreE Ins)

noncomputable def rdE (s : St) : Option (RK × Mn × Int) := match s.fr[(10 : Nat)]?, s.rg with
  | some (.v (.c (.i _ i))), [some ⟨_, _, .cells l⟩, gs, _, _, _, _, _, _, some ⟨_, _, .cells [.i _ j]⟩, some ⟨_, _, .cells [.b hd]⟩, some ⟨_, _, .cells [.b an]⟩, some ⟨_, _, .cells [.l _ bs]⟩, some ⟨_, _, .cells [.p _ _ c]⟩,
      some ⟨_, _, .ints _ P1⟩, some ⟨_, _, .ints _ P2⟩, some ⟨_, _, .ints _ P3⟩, some ⟨_, _, .ints _ O2⟩, some ⟨_, _, .ints _ O3⟩] =>
    (match rdS gs, l.take 1, rdP ((l.drop 2).take 22), l.drop 24 with
     | some sc, [.i _ most], some p, [_, _, _, .i _ s1, _, .i _ s2, _, .i _ s3, _, _, _, _, .i _ lost] => some (⟨j, c, hd, an, bs⟩, ⟨most, sc, p, ⟨P1, s1⟩, ⟨P2, s2⟩, ⟨P3, s3⟩, O2, O3, lost⟩, i)
     | _, _, _, _ => none)
  | _, _ => none
def okJ (k : RK) : Prop := (k.j = 1 ∨ k.j = 2 ∨ k.j = 3) ∧ k.c = plc k.j ∧ anJ k ∧ InBytes k.bs ∧ k.bs.length ≤ 1000
noncomputable def LO (m : Nat) (fr : List NS) (s : St × Option NExit) : Tr (NExit × St × Option NExit) := match rdE s.1 with
  | some (k, M, i) => .must ((m = 13 ∧ fr = frR) ∧ s = (eI k M 0, Option.none) ∧ OkM M ∧ okJ k) (.ret (.normal, dnO k (readsM k.hd k.an k.j k.bs M), Option.none))
  | none => .fail
structure AO where
  k : RK
  M : Mn
  i : Int
def preO (a : AO) (R : NExit × St × Option NExit → Prop) : Prop := (0 ≤ a.i ∧ a.i ≤ (a.k.bs.length : Int)) ∧ OkM a.M ∧ okJ a.k ∧ R (.normal, dnO a.k (readsM a.k.hd a.k.an a.k.j (a.k.bs.drop a.i.toNat) a.M), Option.none)
noncomputable def nxO (a : AO) (R : NExit × St × Option NExit → Prop) (o : ROI) : Prop := match o with
  | .next s p => ∃ y : AO, (s, p) = (eI y.k y.M y.i, Option.none) ∧ ((y.k.bs.length : Int) - y.i).toNat < ((a.k.bs.length : Int) - a.i).toNat ∧ preO y R
  | .done e s p => R (e, s, p)
theorem evts_two (P : List Int) (s c : Int) : (evts P s c).length ≤ 2 := lxv.evts_len P s c
theorem byR_in {k : RK} {M M' : Mn} {l : LL} {i : Int} {R : NExit × St × Option NExit → Prop} (hi : 0 ≤ i ∧ i < (k.bs.length : Int)) (hM : OkM M) (hk : okJ k) (hl : l = getL M k.j) (hM' : M' = setL M k.j (nextL l (k.bs.getD i.toNat 0)))
    (hR : R (.normal, dnO k (readsM k.hd k.an k.j (k.bs.drop i.toNat) M), Option.none)) : byR k M' l i (k.bs.getD i.toNat 0) (nxO ⟨k, M, i⟩ R) := by
  obtain ⟨hj, hc, ha, hb, hn⟩ := hk
  have hX := get_byte hb hi
  subst hl
  have hL := hM.getL k.j
  have hM2 : OkM M' := by rw [hM']; exact hM.setL k.j (hL.next hX)
  have hnr : nrm M' = M' := nrm_eq hM2.p
  have hw : w64 (i + 1) = i + 1 := w64_id (by omega)
  unfold byR
  rw [hnr, hw]
  refine ⟨⟨rfl, hX, hL.2⟩, ⟨rfl, hM2, ha, by have := evts_two (getL M k.j).P (getL M k.j).s (cc (k.bs.getD i.toNat 0)); omega⟩, ⟨k, _, i + 1⟩, rfl, by simp only; omega, ⟨by simp only; omega, by simp only; omega⟩, OkM.evs _ hM2, ⟨hj, hc, ha, hb, hn⟩, ?_⟩
  rw [drop_get hi] at hR
  rw [hM']
  exact hR
set_option maxRecDepth 100000 in
theorem round_O (a : AO) (R : NExit × St × Option NExit → Prop) (h : preO a R) : Box ((rndO (eI a.k a.M a.i)).run (nxO a R)) := by
  obtain ⟨k, M, i⟩ := a
  obtain ⟨⟨h0, hle⟩, hM, hk, hR⟩ := h
  simp only at h0 hle hM hk hR
  have hz : ¬ i < (k.bs.length : Int) → readsM k.hd k.an k.j (k.bs.drop i.toNat) M = M := fun hlt => by
    rw [List.drop_eq_nil_iff.2 (by omega)]; rfl
  have hk' := hk
  obtain ⟨j, c, hd, an, bs⟩ := k
  obtain ⟨hj, hc, -⟩ := hk
  simp only at hj hc
  rcases hj with rfl | rfl | rfl
  · have hc : c = 26 := hc
    subst hc
    refine Box.of_eq (round_O1 1 hd an bs M i _) (sel_by (fun hlt => ix_in ⟨h0, hlt⟩ (byR_in ⟨h0, hlt⟩ hM hk' rfl rfl hR)) fun hlt => ?_)
    have := hz hlt
    simp only at this
    rw [this] at hR
    exact hR
  · have hc : c = 28 := hc
    subst hc
    refine Box.of_eq (round_O2 2 hd an bs M i _) (sel_by (fun hlt => ix_in ⟨h0, hlt⟩ (byR_in ⟨h0, hlt⟩ hM hk' rfl rfl hR)) fun hlt => ?_)
    have := hz hlt
    simp only at this
    rw [this] at hR
    exact hR
  · have hc : c = 30 := hc
    subst hc
    refine Box.of_eq (round_O3 3 hd an bs M i _) (sel_by (fun hlt => ix_in ⟨h0, hlt⟩ (byR_in ⟨h0, hlt⟩ hM hk' rfl rfl hR)) fun hlt => ?_)
    have := hz hlt
    simp only at this
    rw [this] at hR
    exact hR
theorem inner_okR : LAllI X_itR YR KI lsO outerC := LAllI.one (id := 2) (body := innerC) (by kernel_rfl) rfl loop_I
set_option maxRecDepth 100000 in
theorem loop_O : LOkI Tryz.prog [] 13 KI YR 0 outerC (fun s => match rdE s.1 with
  | some (k, M, i) => .must (s = (eI k M 0, Option.none) ∧ OkM M ∧ okJ k) (.ret (.normal, dnO k (readsM k.hd k.an k.j k.bs M), Option.none))
  | none => .fail) := by
  refine loopI_ok (X := X_itR) (ls := lsO) kc_itR outer_tame inner_okR liveO [] (fun a : AO => (eI a.k a.M a.i, Option.none)) (fun a => ((a.k.bs.length : Int) - a.i).toNat) preO ?_ ?_
  · intro s R h
    split at h
    case h_2 => exact h.elim
    rename_i k M i hrd
    obtain ⟨⟨hs, hM, hk⟩, hR⟩ := h
    exact ⟨⟨k, M, 0⟩, hs, ⟨by simp only; omega, by simp only; omega⟩, hM, hk, hR⟩
  · intro a R h
    refine Tr.run_mono _ (fun o ho => ?_) (round_O a R h).out
    cases o with
    | done e s p => exact ho
    | next s p => exact ho
theorem loop_O' (m : Nat) (fr : List NS) : LOkI Tryz.prog [] m KI (bodyY X_rd (psOf rgR) (asOf rgR) (bdOf rgR) fr) 0 outerC (LO m fr) := by
  intro l rc N Γ0 w0 h0 hN h0k h0r hY s p Γ a w R Q hI hE hW hL hK
  unfold LO at hL
  split at hL
  case h_2 => exact hL.elim
  rename_i k M i hrd
  obtain ⟨⟨⟨rfl, hfr⟩, h2⟩, h4⟩ := hL
  rw [hfr] at hY
  refine loop_O l rc N Γ0 w0 h0 hN h0k h0r hY s p Γ a w R Q hI hE hW ?_ hK
  show (match rdE s with
    | some (k, M, i) => Tr.must ((s, p) = (eI k M 0, Option.none) ∧ OkM M ∧ okJ k) (Tr.ret (NExit.normal, dnO k (readsM k.hd k.an k.j k.bs M), (Option.none : Option NExit)))
    | none => Tr.fail).run R
  rw [show rdE s = some (k, M, i) from hrd]
  exact ⟨h2, h4⟩
/-! ### the range -/
noncomputable def lsR (m : Nat) (fr : List NS) : LI := [(0, liveO, fun s => canonL [] csM m liveO (fun t => LO m fr (t, s.2)) s.1)]
noncomputable def RRT : St → Tr (NExit × St) := rangeT X_rd KI c_itR lsR 0 [] 149 fIt rgR
noncomputable def codeItR : Code := fIt.body.getD .skip
theorem itR_body : fIt.body = some codeItR := by kernel_rfl
theorem itR_loops : loopsIn codeItR = [(0, outerC)] := by kernel_rfl
theorem rgR_eq : rgR = .rangeFunc (.tmp 18) (psOf rgR) (asOf rgR) (bdOf rgR) := by kernel_rfl
theorem rR_ok : RgOk Tryz.prog [] 7 0 rgR RRT := by
  have h := rangeT_ok (X := X_rd) kc_rd (K := KI) kc_itR (ls := lsR) (id := 0) (out := []) (g := .tmp 18) (ps := psOf rgR) (assign := asOf rgR) (body := bdOf rgR) Tryz.func149 itR_body (by kernel_rfl) (by kernel_rfl) (by kernel_rfl) (by kernel_rfl) (by kernel_rfl)
    (fun m fr => LAllI.one (id := 0) (body := outerC) (live := liveO) itR_loops rfl ((loop_O' m fr).canon [] csM liveO)) mixed
  rw [← rgR_eq] at h
  exact h
/-! ### the function that is ranged over -/
theorem all_tree (M : Mn) (c : Nat) (P : List Int) (R : Out → Prop) : (t_all [.c (.p 0 0 c), .c (.l .u8 P)] (mnIn M)).run R =
    (P.length ≤ 1000 ∧ R ⟨.v (.c (.cl 149 [(7, 0, 0), (8, 0, 0)])), (mnIn M).map some ++ [cel 34 1 [.l .u8 P], cel 253 1 [.p 0 0 c]]⟩) := by kernel_rfl
noncomputable def tAllM : Con := fun args regs => match args with
  | [.c (.p 0 0 c), .c (.l .u8 P)] => onM regs fun M => .must (P.length ≤ 1000) (.ret ⟨.v (.c (.cl 149 [(7, 0, 0), (8, 0, 0)])), (mnIn M).map some ++ [cel 34 1 [.l .u8 P], cel 253 1 [.p 0 0 c]]⟩)
  | _ => .fail
set_option maxRecDepth 100000 in
theorem kAllM : Known Tryz.prog [] 110 tAllM := by
  refine k_all.less fun args regs R h => Box.out ?_
  unfold tAllM at h
  split at h
  case h_2 => exact h.elim
  rename_i c P
  obtain ⟨M, rfl, hp, h⟩ := onM_in h
  exact Box.of_eq (all_tree M c P R) h
noncomputable def c_reads : FuncId → Option Con := conOf [(110, tAllM)]
theorem kc_reads : ∀ f T, c_reads f = some T → Known Tryz.prog [] f T := (Knowns.cons kAllM Knowns.nil).get
noncomputable def t_reads : Con := fun args regs => if regs.length = 7 then nfun Tryz.prog [] c_reads [(0, [5, 6, 8, 9, 18], RRT)] f_reads args regs else .fail
theorem reads_loops : loopsIn (f_reads.body.getD .skip) = [] := by kernel_rfl
theorem reads_ranges : rangesIn (f_reads.body.getD .skip) = [(0, rgR)] := by kernel_rfl
theorem k_reads : KnownF Tryz.prog [] 73 t_reads := by
  refine known_loopsF (c := f_reads.body.getD .skip) 7 Tryz.func73 (by kernel_rfl) (by kernel_rfl) mixed kc_reads ⟨fun i b hb => (by rw [reads_loops] at hb; cases hb), fun i b hb x hf => ?_⟩
  rw [reads_ranges, List.mem_singleton] at hb
  cases hb
  have : x = (0, [5, 6, 8, 9, 18], RRT) := by simpa using hf.symm
  subst this
  exact rR_ok
def mnOut7 (M : Mn) : List (Option Reg) := [some (mnR M 7 8 9 10 11), some (scr.scr M.sc), none, none, none, none, none, some (arr M.l1.P), some (arr M.l2.P), some (arr M.l3.P), some (arr M.o2), some (arr M.o3)]
def done7 (M : Mn) : Out := ⟨.tu [], mnOut7 M⟩
noncomputable def rdR (k : RK) (M : Mn) (R : Out → Prop) : Prop := lensR M ∧ k.bs.length ≤ 1000 ∧ (((13 : Nat) = 13 ∧ frR = frR) ∧ (eI k M 0, (Option.none : Option NExit)) = (eI k (nrm M) 0, Option.none) ∧ OkM (nrm M) ∧ okJ k) ∧ R (done7 (readsM k.hd k.an k.j k.bs (nrm M)))
theorem reads_1 (M : Mn) (hd an : Bool) (bs : List Int) (R : Out → Prop) : (t_reads [.c (.p 0 0 0), .c (.i .i64 1), .c (.l .u8 bs), .c (.b hd), .c (.b an)] (mnIn M)).run R = rdR ⟨1, 26, hd, an, bs⟩ M R := by kernel_rfl
theorem reads_2 (M : Mn) (hd an : Bool) (bs : List Int) (R : Out → Prop) : (t_reads [.c (.p 0 0 0), .c (.i .i64 2), .c (.l .u8 bs), .c (.b hd), .c (.b an)] (mnIn M)).run R = rdR ⟨2, 28, hd, an, bs⟩ M R := by kernel_rfl
theorem reads_3 (M : Mn) (hd an : Bool) (bs : List Int) (R : Out → Prop) : (t_reads [.c (.p 0 0 0), .c (.i .i64 3), .c (.l .u8 bs), .c (.b hd), .c (.b an)] (mnIn M)).run R = rdR ⟨3, 30, hd, an, bs⟩ M R := by kernel_rfl
noncomputable def tReads : Con := fun args regs => match args with
  | [.c (.p 0 0 0), .c (.i .i64 j), .c (.l .u8 bs), .c (.b hd), .c (.b an)] => onM regs fun M => .must (OkM M ∧ okJ ⟨j, plc j, hd, an, bs⟩) (.ret (done7 (readsM hd an j bs M)))
  | _ => .fail
set_option maxRecDepth 100000 in
theorem kReads : KnownF Tryz.prog [] 73 tReads := by
  refine k_reads.weak fun args regs R h => Box.out ?_
  unfold tReads at h
  split at h
  case h_2 => exact h.elim
  rename_i j bs hd an
  obtain ⟨M, rfl, hp, h⟩ := onM_in h
  obtain ⟨⟨hM, hk⟩, h⟩ := h
  have h : R (done7 (readsM hd an j bs M)) := h
  have hR : ∀ o, R o → ∃ o', WeakF o o' ∧ R o' := fun o ho => ⟨o, WeakF.refl _, ho⟩
  have hnr : nrm M = M := nrm_eq hM.p
  have fin : ∀ k, k = RK.mk j (plc j) hd an bs → rdR k M fun o => ∃ o', WeakF o o' ∧ R o' := fun k e => by
    subst e
    unfold rdR
    rw [hnr]
    exact ⟨⟨rfl, rfl, rfl, rfl, rfl, rfl⟩, hk.2.2.2.2, ⟨⟨rfl, rfl⟩, rfl, hM, hk⟩, hR _ h⟩
  rcases hk.1 with e | e | e
  · simp only at e; subst e
    exact Box.of_eq (reads_1 M hd an bs _) (fin _ rfl)
  · simp only at e; subst e
    exact Box.of_eq (reads_2 M hd an bs _) (fin _ rfl)
  · simp only at e; subst e
    exact Box.of_eq (reads_3 M hd an bs _) (fin _ rfl)
end Go.Proofs.YtjfgphfdaghilaaGreatDoor.mtl
