/-
  The Minitel: its state; what waits to go out.
-/
import Derived.Test.YtdijbpokklgjlaaGreatDoorMnA
import Derived.Test.YtdijbpokklgjlaaGreatDoorScF
set_option linter.unusedVariables false
namespace Go.Proofs.YtdijbpokklgjlaaGreatDoor.mtl
open Go Go.Nx Go.Proofs.YtdijbpokklgjlaaGreatDoor.prt
open Go.Proofs.YtdijbpokklgjlaaGreatDoor.lex (arr lx InBytes mkEv)
open Go.Proofs.YtdijbpokklgjlaaGreatDoor.scr (Scr rdS rdS_in)

structure LL where
  P : List Int
  s : Int
/-- A Minitel: how much may wait, its screen, its protocol, three lexers, what waits, what was lost. -/
structure Mn where
  most : Int
  sc : Scr
  p : PS
  l1 : LL
  l2 : LL
  l3 : LL
  o2 : List Int
  o3 : List Int
  lost : Int
def mnL (M : Mn) (a1 a2 a3 b2 b3 : Nat) : List NC := [.i .i64 M.most, .p 1 0 0] ++ pC M.p ++ [.sn, .i .i64 0, .hz a1 M.l1.P.length, .i .i64 M.l1.s, .hz a2 M.l2.P.length, .i .i64 M.l2.s, .hz a3 M.l3.P.length, .i .i64 M.l3.s,
  .sn, .sn, .hz b2 M.o2.length, .hz b3 M.o3.length, .i .i64 M.lost]
def mnR (M : Mn) (a1 a2 a3 b2 b3 : Nat) : Reg := ⟨37, 62, .cells (mnL M a1 a2 a3 b2 b3)⟩
def mnIn (M : Mn) : List Reg := [mnR M 2 3 4 5 6, scr.scr M.sc, arr M.l1.P, arr M.l2.P, arr M.l3.P, arr M.o2, arr M.o3]
def mnOut (M : Mn) : List (Option Reg) := [some (mnR M 10 11 12 13 14), some (scr.scr M.sc), none, none, none, none, none, none, none, none, some (arr M.l1.P), some (arr M.l2.P), some (arr M.l3.P), some (arr M.o2), some (arr M.o3)]
/-- What is brought to its canonical shape. -/
def csM : List (Nat × Nat × Reg) := [(0, 26, arr []), (0, 28, arr []), (0, 30, arr []), (0, 34, arr []), (0, 35, arr [])]
def lensM (z : Int) (n1 n2 n3 m2 m3 : Nat) (P1 P2 P3 O2 O3 : List Int) : Prop := z = 0 ∧ n1 = P1.length ∧ n2 = P2.length ∧ n3 = P3.length ∧ m2 = O2.length ∧ m3 = O3.length
noncomputable def onM (regs : List Reg) (F : Mn → Tr Out) : Tr Out := match regs with
  | [⟨37, 62, .cells l⟩, gs, ⟨1, 5, .ints .u8 P1⟩, ⟨1, 5, .ints .u8 P2⟩, ⟨1, 5, .ints .u8 P3⟩, ⟨1, 5, .ints .u8 O2⟩, ⟨1, 5, .ints .u8 O3⟩] =>
    (match rdS (some gs), l.take 2, rdP ((l.drop 2).take 22), l.drop 24 with
     | some s, [.i .i64 most, .p 1 0 0], some p, [.sn, .i .i64 z, .hz 2 n1, .i .i64 s1, .hz 3 n2, .i .i64 s2, .hz 4 n3, .i .i64 s3, .sn, .sn, .hz 5 m2, .hz 6 m3, .i .i64 lost] =>
       .must (lensM z n1 n2 n3 m2 m3 P1 P2 P3 O2 O3) (F ⟨most, s, p, ⟨P1, s1⟩, ⟨P2, s2⟩, ⟨P3, s3⟩, O2, O3, lost⟩)
     | _, _, _, _ => .fail)
  | _ => .fail
def NP (p : PS) : Prop := pOf (pC p) = p
theorem NP_of {l : List NC} {p : PS} (h : rdP l = some p) : NP p := by
  obtain ⟨e, e2⟩ := rdP_in h
  unfold NP
  rw [← e]
  exact e2.symm
set_option maxRecDepth 100000 in
theorem onM_in {regs : List Reg} {F : Mn → Tr Out} {R : Out → Prop} (h : (onM regs F).run R) : ∃ M, regs = mnIn M ∧ NP M.p ∧ (F M).run R := by
  unfold onM at h
  split at h
  case h_2 => exact h.elim
  rename_i l gs P1 P2 P3 O2 O3
  split at h
  case h_2 => exact h.elim
  rename_i s most p z n1 s1 n2 s2 n3 s3 m2 m3 lost hs h1 hp h2
  obtain ⟨⟨rfl, rfl, rfl, rfl, rfl, rfl⟩, h⟩ := h
  refine ⟨⟨most, s, p, ⟨P1, s1⟩, ⟨P2, s2⟩, ⟨P3, s3⟩, O2, O3, lost⟩, ?_, NP_of hp, h⟩
  have e1 : gs = scr.scr s := by
    have := rdS_in hs
    cases this
    rfl
  have e2 := (rdP_in hp).1
  have e3 : l = l.take 2 ++ ((l.drop 2).take 22 ++ l.drop 24) := by
    have : l.drop 24 = (l.drop 2).drop 22 := by rw [List.drop_drop]
    rw [this, List.take_append_drop, List.take_append_drop]
  rw [h1, e2, h2] at e3
  subst e1
  rw [e3]
  rfl

/-! ### what is sent -/
noncomputable abbrev f_send := Tryz.f31
noncomputable def t_send : Con := canonT 10 csM none (fun args regs => nfun Tryz.prog [] (fun _ => Option.none) [] f_send args regs)
theorem k_send : KnownF Tryz.prog [] 31 t_send := (known_inlF Tryz.func31 rfl (by kernel_rfl) mixed con_none (by kernel_rfl)).canon 10 csM none
def doneM (M : Mn) : Out := ⟨.tu [], mnOut M⟩
def apB (O b : List Int) (A : Prop) : Prop := sel (decide (O.length ≤ O.length)) (sel (decide ((O.length + b.length) * 1 ≤ 140737488355328)) (sel (decide (O.length + b.length ≤ 9223372036854775807)) A False) False) False
def cutB (O b : List Int) : List Int := List.take O.length O ++ b
theorem send_2 (M : Mn) (b : List Int) (R : Out → Prop) : (t_send [.c (.p 0 0 0), .c (.i .i64 2), .c (.l .u8 b)] (mnIn M)).run R = sel ((b.length : Int) == 0) (R (doneM M))
    (sel (decide (w64 ((M.o2.length : Int) + (b.length : Int)) > M.most)) (R (doneM { M with lost := w64 (M.lost + 1) })) (apB M.o2 b (R ⟨.tu [], [some ⟨37, 62, .cells ((mnL M 10 11 12 13 14).set 34 (.hz 13 (M.o2.length + b.length)))⟩, some (scr.scr M.sc), none, none, none, none, none, none, none, none, some (arr M.l1.P), some (arr M.l2.P), some (arr M.l3.P), some (arr (cutB M.o2 b)), some (arr M.o3)]⟩))) := by kernel_rfl
theorem send_3 (M : Mn) (b : List Int) (R : Out → Prop) : (t_send [.c (.p 0 0 0), .c (.i .i64 3), .c (.l .u8 b)] (mnIn M)).run R = sel ((b.length : Int) == 0) (R (doneM M))
    (sel (decide (w64 ((M.o3.length : Int) + (b.length : Int)) > M.most)) (R (doneM { M with lost := w64 (M.lost + 1) })) (apB M.o3 b (R ⟨.tu [], [some ⟨37, 62, .cells ((mnL M 10 11 12 13 14).set 35 (.hz 14 (M.o3.length + b.length)))⟩, some (scr.scr M.sc), none, none, none, none, none, none, none, none, some (arr M.l1.P), some (arr M.l2.P), some (arr M.l3.P), some (arr M.o2), some (arr (cutB M.o3 b))]⟩))) := by kernel_rfl
def outW (M : Mn) (j : Int) : List Int := if j = 2 then M.o2 else M.o3
def putW (M : Mn) (j : Int) (b : List Int) : Mn := if j = 2 then { M with o2 := M.o2 ++ b } else { M with o3 := M.o3 ++ b }
/-- What is sent to a module. -/
def sendM (j : Int) (b : List Int) (M : Mn) : Mn := if b = [] then M else if ((outW M j).length : Int) + b.length > M.most then { M with lost := w64 (M.lost + 1) } else putW M j b
def smallM (M : Mn) : Prop := M.o2.length ≤ 100000 ∧ M.o3.length ≤ 100000
noncomputable def tSend : Con := fun args regs => match args with
  | [.c (.p 0 0 0), .c (.i .i64 j), .c (.l .u8 b)] => onM regs fun M => .must ((j = 2 ∨ j = 3) ∧ smallM M ∧ b.length ≤ 100000) (.ret (doneM (sendM j b M)))
  | _ => .fail
theorem apB_in {O b : List Int} {A : Prop} (h1 : O.length ≤ 100000) (h2 : b.length ≤ 100000) (h : A) : apB O b A :=
  selT (dT (Nat.le_refl _)) (selT (dT (by omega)) (selT (dT (by omega)) h))
theorem cutB_eq (O b : List Int) : cutB O b = O ++ b := by unfold cutB; rw [List.take_length]
set_option maxRecDepth 100000 in
theorem kSend : KnownF Tryz.prog [] 31 tSend := by
  refine k_send.weak fun args regs R h => Box.out ?_
  unfold tSend at h
  split at h
  case h_2 => exact h.elim
  rename_i j b
  obtain ⟨M, rfl, hp, h⟩ := onM_in h
  obtain ⟨⟨hj, ⟨hs2, hs3⟩, hb⟩, h⟩ := h
  have h : R (doneM (sendM j b M)) := h
  have hR : ∀ o, R o → ∃ o', WeakF o o' ∧ R o' := fun o ho => ⟨o, WeakF.refl _, ho⟩
  have hlen : ∀ l : List Int, l.length = 0 → l = [] := fun l hl => List.length_eq_zero_iff.1 hl
  unfold sendM at h
  rcases hj with rfl | rfl
  · refine Box.of_eq (send_2 M b _) (sel_eq (fun e => hR _ ?_) fun e => sel_by (fun e1 => hR _ ?_) fun e1 => apB_in hs2 hb (hR _ ?_))
    · rw [if_pos (hlen b (by omega))] at h; exact h
    · rw [w64_id (by omega)] at e1
      rw [if_neg (fun e2 => e (by rw [e2]; rfl)), show outW M 2 = M.o2 from rfl, if_pos e1] at h; exact h
    · rw [w64_id (by omega)] at e1
      rw [if_neg (fun e2 => e (by rw [e2]; rfl)), show outW M 2 = M.o2 from rfl, if_neg e1] at h
      rw [cutB_eq]
      have e2 : (M.o2 ++ b).length = M.o2.length + b.length := List.length_append
      rw [← e2]
      exact h
  · refine Box.of_eq (send_3 M b _) (sel_eq (fun e => hR _ ?_) fun e => sel_by (fun e1 => hR _ ?_) fun e1 => apB_in hs3 hb (hR _ ?_))
    · rw [if_pos (hlen b (by omega))] at h; exact h
    · rw [w64_id (by omega)] at e1
      rw [if_neg (fun e2 => e (by rw [e2]; rfl)), show outW M 3 = M.o3 from rfl, if_pos e1] at h; exact h
    · rw [w64_id (by omega)] at e1
      rw [if_neg (fun e2 => e (by rw [e2]; rfl)), show outW M 3 = M.o3 from rfl, if_neg e1] at h
      rw [cutB_eq]
      have e2 : (M.o3 ++ b).length = M.o3.length + b.length := List.length_append
      rw [← e2]
      exact h
end Go.Proofs.YtdijbpokklgjlaaGreatDoor.mtl
