/-
  The law RemoteRounds: its rounds, its loops.
-/
import Derived.Test.YtnhadghddkgjdaaRemK
namespace Go.Proofs.Ytnhadghddkgjdaa.rem
open Go Go.Nx

/-- A number below 8 is told; below other bounds it is the rest. -/
noncomputable def tNumR (j : Nat) : Con := fun args regs => match args, regs with
  | [.c (.i .i64 n), .c (.i .i64 m)], [] => (match decide (m = 8) with
    | true => .must (n % 8 = (j : Int)) (.ret ⟨.v (.c (.i .i64 (j : Int))), []⟩)
    | false => .must (0 < m ∧ m < 4611686018427387904) (.ret ⟨.v (.c (.i .i64 (n % m))), []⟩))
  | _, _ => .fail
set_option maxRecDepth 100000 in
theorem kNumR (j : Nat) : Known Try.prog [] 16 (tNumR j) := by
  refine num.kNumV.less fun args regs R h => ?_
  unfold tNumR at h
  split at h
  case h_2 => exact h.elim
  rename_i n m
  by_cases h8 : m = 8
  · subst h8
    have h' : n % 8 = (j : Int) ∧ R ⟨.v (.c (.i .i64 (j : Int))), []⟩ := h
    refine ⟨⟨by decide, by decide⟩, ?_⟩
    show R ⟨.v (.c (.i .i64 (n % 8))), []⟩
    rw [h'.1]
    exact h'.2
  · rw [decide_eq_false h8] at h
    exact h
noncomputable abbrev fRounds := Try.f4
noncomputable def cRounds (j : Nat) : FuncId → Option Con := conOf [(16, tNumR j), (18, tKeyT), (17, t_start), (19, t_same), (15, tYes)]
theorem kcRounds (j : Nat) : ∀ f T, cRounds j f = some T → Known Try.prog [] f T := (Knowns.cons (kNumR j) (.cons kKeyT (.cons k_start (.cons k_same (.cons kYes .nil))))).get
noncomputable def XRounds (j : Nat) : Cx := { P := Try.prog, con := cRounds j, glob := [], m := 0, loops := [] }
noncomputable def M (n : Int) : Int := IntKind.i64.wrap (n.tdiv 100)
def frm (m p u : Int) : Reg := ⟨3, 26, .cells [.i .i64 m, .i .i64 p, .i .i64 u]⟩
noncomputable def sR1 (n fm fp m p i : Int) : St := { fr := frame 125 [(3, .v (.c (.i .i64 n))), (9, .v (.c (.b true))), (10, .v (.c (.p 0 0 0))), (12, .v (.c (.p 1 0 0))), (17, .v (.c (.p 2 0 0))), (18, .v (.c (.i .i64 i)))], rg := [some lnks, some (frm fm fp 16255), some (rst m p 16255 false false false)] }
noncomputable def dR1 (n fm fp m p : Int) : St := { fr := frame 125 [(3, .v (.c (.i .i64 n))), (9, .v (.c (.b true))), (10, .v (.c (.p 0 0 0))), (12, .v (.c (.p 1 0 0))), (17, .v (.c (.p 2 0 0)))], rg := [some lnks, some (frm fm fp 16255), some (rst m p 16255 false false false)] }
noncomputable def sR2 (n fm fp vm vp m p i : Int) : St := { fr := frame 125 [(3, .v (.c (.i .i64 n))), (9, .v (.c (.b true))), (10, .v (.c (.p 0 0 0))), (12, .v (.c (.p 1 0 0))), (17, .v (.c (.p 2 0 0))), (19, .v (.c (.p 3 0 0))), (20, .v (.c (.i .i64 i)))], rg := [some lnks, some (frm fm fp 16255), some (rst vm vp 16255 false false false), some (rst m p 16255 false false false)] }
noncomputable def dR2 (n fm fp vm vp m p : Int) : St := { fr := frame 125 [(3, .v (.c (.i .i64 n))), (9, .v (.c (.b true))), (12, .v (.c (.p 0 0 0))), (17, .v (.c (.p 1 0 0))), (19, .v (.c (.p 2 0 0)))], rg := [some (frm fm fp 16255), some (rst vm vp 16255 false false false), some (rst m p 16255 false false false)] }
theorem round_R1 (j : Nat) (n fm fp m p i : Int) (R : RO → Prop) : (roundT (XRounds j) 0 [3, 9, 10, 12, 17, 18] [3, 9, 10, 12, 17] (bodyLoop fRounds 0) (sR1 n fm fp m p i)).run R =
    sel (decide (i < n)) (R (.next (sR1 n fm fp (M (nextN m p 1)) (pP (nextN m p 1)) (IntKind.i64.wrap (i + 1))))) (R (.done .normal (dR1 n fm fp m p))) := by kernel_rfl
theorem round_R2 (j : Nat) (n fm fp vm vp m p i : Int) (R : RO → Prop) : (roundT (XRounds j) 2 [3, 9, 10, 12, 17, 19, 20] [3, 9, 12, 17, 19] (bodyLoop fRounds 2) (sR2 n fm fp vm vp m p i)).run R =
    sel (decide (i < 800)) (R (.next (sR2 n fm fp vm vp (M (nextN m p 1)) (pP (nextN m p 1)) (IntKind.i64.wrap (i + 1))))) (R (.done .normal (dR2 n fm fp vm vp m p))) := by kernel_rfl
theorem numF_all : ∀ k < 800, numF (M (100 + Int.ofNat k)) (pP (100 + Int.ofNat k)) = 100 + Int.ofNat k := by decide +kernel
theorem numF_of {N : Int} (h : 100 ≤ N ∧ N ≤ 899) : numF (M N) (pP N) = N := by
  have := numF_all (N - 100).toNat (by omega)
  have e : 100 + Int.ofNat (N - 100).toNat = N := by show 100 + (((N - 100).toNat : Nat) : Int) = N; omega
  rwa [e] at this
/-- So many pages further on, round the end. -/
def adv (N k : Int) : Int := 100 + (N - 100 + k) % 800
theorem next_of {N : Int} (h : 100 ≤ N ∧ N ≤ 899) : nextN (M N) (pP N) 1 = adv N 1 := by
  unfold nextN wrapN adv
  rw [numF_of h, if_neg (by omega : ¬ N = 0)]
  by_cases c : N + 1 > 899
  · rw [if_pos c]; omega
  · rw [if_neg c, if_neg (by omega)]; omega
theorem back_of {N : Int} (h : 100 ≤ N ∧ N ≤ 899) : nextN (M N) (pP N) (-1) = adv N (-1) := by
  unfold nextN wrapN adv
  rw [numF_of h, if_neg (by omega : ¬ N = 0)]
  by_cases c : N + -1 > 899
  · omega
  · rw [if_neg c]
    by_cases c2 : N + -1 < 100
    · rw [if_pos c2]; omega
    · rw [if_neg c2]; omega
theorem adv_in (N k : Int) : 100 ≤ adv N k ∧ adv N k ≤ 899 := by
  unfold adv
  omega
theorem adv_adv (N k l : Int) : adv (adv N k) l = adv N (k + l) := by
  unfold adv
  omega
theorem adv_0 {N : Int} (h : 100 ≤ N ∧ N ≤ 899) : adv N 0 = N := by
  unfold adv
  omega
end Go.Proofs.Ytnhadghddkgjdaa.rem
