/-
  The law RemoteSubs.
-/
import Derived.Test.YtnhadghddkgjdaaRemP
set_option linter.unusedVariables false
namespace Go.Proofs.Ytnhadghddkgjdaa.rem
open Go Go.Nx Go.Proofs.Ytnhadghddkgjdaa.bld Go.RowKit

noncomputable abbrev fSubs := Try.f6
noncomputable def cSubs : FuncId → Option Con := conOf [(16, num.tNumV), (18, tKeyM), (17, t_start), (15, tYes), (20, t_lineS)]
theorem kcSubs : ∀ f T, cSubs f = some T → Known Try.prog [] f T := (Knowns.cons num.kNumV (.cons kKeyM (.cons k_start (.cons kYes (.cons k_lineS .nil))))).get
noncomputable def XSubs : Cx := { P := Try.prog, con := cSubs, glob := [], m := 0, loops := [] }
noncomputable def t_subs : Con := fun args regs => if regs.length = 0 then nfun Try.prog [] cSubs [(0, [4, 11, 12, 13, 14, 16], unroll XSubs 0 [4, 11, 12, 13, 14, 16] [4, 10, 11, 12, 13, 14] (bodyLoop fSubs 0) 5)] fSubs args regs else .fail
theorem k_subs : Known Try.prog [] 6 t_subs := known_loops 0 Try.func6 rfl (by kernel_rfl) mixed kcSubs (LAll.one (id := 0) (body := bodyLoop fSubs 0) (by kernel_rfl) rfl (unroll_ok (X := XSubs) kcSubs mixed (LAll.none (by kernel_rfl)) [4, 11, 12, 13, 14, 16] [4, 10, 11, 12, 13, 14] 5))
def tenP : Prop := 0 < (10 : Int) ∧ (10 : Int) < 4611686018427387904
def dgP (A : Int) : Prop := 0 ≤ A ∧ A ≤ 9
theorem subs_off (a b c d : Int) (R : Out → Prop) : (t_subs [.c (.i .i64 a), .c (.i .i64 b), .c (.i .i64 c), .c (.i .i64 d), .c (.b true)] []).run R =
   (tenP ∧ (tenP ∧ (tenP ∧ (tenP ∧ (dgP (a % 10) ∧ (dgP (b % 10) ∧ (dgP (c % 10) ∧ R yes))))))) := by kernel_rfl
def sS : ByteArray := ⟨#[83]⟩
def s3 : ByteArray := ⟨#[32, 32, 32]⟩
noncomputable def orS (A B C D : Int) : Int := bits .or .i64 (bits .or .i64 (bits .or .i64 (shlv .i64 A 12) (shlv .i64 B 8)) (shlv .i64 C 4)) D
noncomputable def partE (A B C D : Int) (R : Out → Prop) : Prop :=
  (dgP A ∧ dgP B ∧ dgP C) ∧ sel (decide (D = 21)) (R no) (dgP D ∧ sel (bits .and .i64 (nS A B C D) 16255 == bits .and .i64 (orS A B C D) 16255)
    (R ⟨.v (.c (.b ((sS ++ strOfNums [48 + A, 48 + B, 48 + C, 45] ++ s3).toList == (sS ++ strOfNums [wd A, wd B, wd C] ++ s4').toList))), []⟩) (R no))
where s4' : ByteArray := ⟨#[45, 32, 32, 32]⟩
theorem subs_on (a b c d : Int) (R : Out → Prop) : (t_subs [.c (.i .i64 a), .c (.i .i64 b), .c (.i .i64 c), .c (.i .i64 d), .c (.b false)] []).run R =
   (tenP ∧ (tenP ∧ (tenP ∧ (tenP ∧ (dgP (a % 10) ∧ (dgP (b % 10) ∧ (dgP (c % 10) ∧ partE (a % 10) (b % 10) (c % 10) (d % 10) R))))))) := by kernel_rfl
theorem part_eq (x y z : Int) : sS ++ strOfNums [x, y, z, 45] ++ s3 = sS ++ strOfNums [x, y, z] ++ partE.s4' := by kernel_rfl
theorem nS_all : ∀ A : Nat, A < 10 → ∀ B : Nat, B < 10 → ∀ C : Nat, C < 10 → ∀ D : Nat, D < 10 → (nS (Int.ofNat A) (Int.ofNat B) (Int.ofNat C) (Int.ofNat D) == orS (Int.ofNat A) (Int.ofNat B) (Int.ofNat C) (Int.ofNat D)) = true := by decide +kernel
theorem nS_of {A B C D : Int} (ha : dgP A) (hb : dgP B) (hc : dgP C) (hd : dgP D) : nS A B C D = orS A B C D := by
  unfold dgP at *
  have h := nS_all A.toNat (by omega) B.toNat (by omega) C.toNat (by omega) D.toNat (by omega)
  have e1 : Int.ofNat A.toNat = A := by show ((A.toNat : Nat) : Int) = A; omega
  have e2 : Int.ofNat B.toNat = B := by show ((B.toNat : Nat) : Int) = B; omega
  have e3 : Int.ofNat C.toNat = C := by show ((C.toNat : Nat) : Int) = C; omega
  have e4 : Int.ofNat D.toNat = D := by show ((D.toNat : Nat) : Int) = D; omega
  rw [e1, e2, e3, e4] at h
  exact beq_iff_eq.1 h
theorem dgP_of (n : Int) : dgP (n % 10) := by unfold dgP; omega
theorem partX (z z' : Int) (s t : ByteArray) (hz : z = z') (h : s = t) : sel (z == z') (isT ⟨.v (.c (.b (s.toList == t.toList))), []⟩) (isT no) := by
  subst hz h
  refine selT (beq_self_eq_true z) ?_
  unfold isT
  rw [beq_self_eq_true]
theorem partS {A B C : Int} (ha : dgP A) (hb : dgP B) (hc : dgP C) : sS ++ strOfNums [48 + A, 48 + B, 48 + C, 45] ++ s3 = sS ++ strOfNums [wd A, wd B, wd C] ++ partE.s4' := by
  rw [wd_of ha, wd_of hb, wd_of hc, part_eq]
theorem partE_in {A B C D : Int} (ha : dgP A) (hb : dgP B) (hc : dgP C) (hd : dgP D) : partE A B C D isT :=
  ⟨⟨ha, hb, hc⟩, selF (decide_eq_false fun h => by unfold dgP at hd; omega) ⟨hd, partX _ _ _ _ (congrArg (fun z => bits .and .i64 z 16255) (nS_of ha hb hc hd)) (partS ha hb hc)⟩⟩
set_option maxRecDepth 100000 in
theorem subs_true (a b c d : Int) (off : Bool) : Holds (t_subs [.c (.i .i64 a), .c (.i .i64 b), .c (.i .i64 c), .c (.i .i64 d), .c (.b off)] []) isT := by
  have h10 : tenP := ⟨by decide, by decide⟩
  refine ⟨Box.out ?_⟩
  cases off with
  | true => exact Box.of_eq (subs_off a b c d isT) ⟨h10, h10, h10, h10, dgP_of a, dgP_of b, dgP_of c, rfl⟩
  | false => exact Box.of_eq (subs_on a b c d isT) ⟨h10, h10, h10, h10, dgP_of a, dgP_of b, dgP_of c, partE_in (dgP_of a) (dgP_of b) (dgP_of c) (dgP_of d)⟩
def shsSubs : List Sh := [.i .i64, .i .i64, .i .i64, .i .i64, .b]
theorem subs_law (xs : List NV) (h : R2 ShOk shsSubs xs) : Holds (t_subs xs []) fun o => o.res = .v (.c (.b true)) := by
  cases h with
  | cons h1 h =>
    cases h with
    | cons h2 h =>
      cases h with
      | cons h3 h =>
        cases h with
        | cons h4 h =>
          cases h with
          | cons h5 h =>
            cases h
            cases h1 with
            | @i _ a _ =>
              cases h2 with
              | @i _ b _ =>
                cases h3 with
                | @i _ c _ =>
                  cases h4 with
                  | @i _ d _ =>
                    cases h5 with
                    | @b off => exact subs_true a b c d off
end Go.Proofs.Ytnhadghddkgjdaa.rem
