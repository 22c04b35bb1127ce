/-
  The law LexSays: its loops as trees.
-/
import Derived.Test.YtnhadghddkgjdaaLexH12
import Derived.Test.YtnhadghddkgjdaaLexLc
set_option linter.unusedVariables false
namespace Go.Proofs.Ytnhadghddkgjdaa.lxr
open Go Go.Nx Go.Proofs.Ytnhadghddkgjdaa.lex Go.Proofs.Ytnhadghddkgjdaa.lxv

def rdG (s : St × Option NExit) : Option Kp := match s.1.fr[(8 : Nat)]?, s.1.rg[(2 : Nat)]?, s.1.rg[(3 : Nat)]?, s.1.rg[(4 : Nat)]? with
  | some (.v (.c (.l _ bs))), some (some { body := .cells [_, .i _ s], .. }), some (some { body := .ints _ P, .. }), some (some { body := .recs _ E, .. }) => some ⟨bs, P, s, E⟩
  | _, _, _, _ => none
def inG (k : Kp) : Prop := k.bs.length ≤ 200 ∧ InBytes k.bs
def mustG (m : Nat) (fr : List NS) (s : St × Option NExit) (k : Kp) : Prop := (m = 9 ∧ fr = frG k.E.length k.bs) ∧ s = (s0G k 0, Option.none) ∧ inG k
noncomputable def LG (m : Nat) (fr : List NS) (s : St × Option NExit) : Tr (NExit × St × Option NExit) := match rdG s with
  | some k => .must (mustG m fr s k) (endG k (runS k.bs x0))
  | none => .fail
theorem innerG_ok (n : Nat) (bs : List Int) : LAllI XItH (YG n bs) KI (lsG n bs) outerC :=
  LAllI.one (id := 2) (body := innerC) (by kernel_rfl) rfl (unrollI_ok (X := XItH) kcItH (by kernel_rfl) (LAllI.none (by kernel_rfl)) liveN liveO 3)
set_option maxRecDepth 100000 in
theorem loop_G (k : Kp) : LOkI Try.prog [] 9 KI (YG k.E.length k.bs) 0 outerC (fun s => .must (s = (s0G k 0, Option.none) ∧ inG k) (endG k (runS k.bs x0))) := by
  refine loopI_ok (X := XItH) (ls := lsG k.E.length k.bs) kcItH outer_tame (innerG_ok k.E.length k.bs) liveO [] (α := { a : AG // a.k = k }) (fun a => hG a.1) (fun a => ((a.1.k.bs.length : Int) - a.1.i).toNat) (fun a R => preG a.1 R) ?_ ?_
  · rintro s R ⟨⟨h2, h3⟩, h4⟩
    exact ⟨⟨⟨k, x0, 0, 0⟩, rfl⟩, h2, ⟨⟨by simp only; omega, by simp only; omega⟩, h3.1, h3.2, .inl rfl, by simp [x0], rfl, rfl⟩, h4⟩
  · rintro ⟨a, ha⟩ R h
    subst ha
    refine Tr.run_mono _ (fun o ho => ?_) (round_G a R h).out
    cases o with
    | done e s p => exact ho
    | next s p =>
      obtain ⟨y, h0, h1, h2, h3⟩ := ho
      exact ⟨⟨y, h0⟩, h1, h2, h3⟩
theorem loop_G' (m : Nat) (fr : List NS) : LOkI Try.prog [] m KI (bodyY XBody (psOf rgS) (asOf rgS) (bdOf rgS) fr) 0 outerC (LG m fr) := by
  intro l rc N Γ0 w0 h0 hN h0k h0r hY s p Γ a w R Q hI hE hW hL hK
  unfold LG at hL
  split at hL
  case h_2 => exact hL.elim
  rename_i k hrd
  obtain ⟨⟨⟨rfl, hfr⟩, h2⟩, h4⟩ := hL
  rw [hfr] at hY
  exact loop_G k l rc N Γ0 w0 h0 hN h0k h0r hY s p Γ a w R Q hI hE hW ⟨h2, h4⟩ hK
noncomputable def lsGG (m : Nat) (fr : List NS) : LI := [(0, liveO, LG m fr)]
noncomputable def RSL : St → Tr (NExit × St) := rangeT XBody KI cItH lsGG 2 [3, 5, 6, 7, 8] 50 fIt rgS
noncomputable def codeItS : Code := fIt.body.getD .skip
theorem itS_body : fIt.body = some codeItS := by kernel_rfl
theorem itS_loops : loopsIn codeItS = [(0, outerC)] := by kernel_rfl
theorem rgS_eq : rgS = .rangeFunc (.tmp 64) (psOf rgS) (asOf rgS) (bdOf rgS) := by kernel_rfl
theorem rS_ok : RgOk Try.prog [] 0 2 rgS RSL := by
  have h := rangeT_ok (X := XBody) con_none (K := KI) kcItH (ls := lsGG) (id := 2) (out := [3, 5, 6, 7, 8]) (g := .tmp 64) (ps := psOf rgS) (assign := asOf rgS) (body := bdOf rgS) Try.func50 itS_body (by kernel_rfl) (by kernel_rfl) (by kernel_rfl) (by kernel_rfl) (by kernel_rfl)
    (fun m fr => LAllI.one (id := 0) (body := outerC) (live := liveO) (L := LG m fr) itS_loops rfl (loop_G' m fr))
  rw [← rgS_eq] at h
  exact h
noncomputable def lpSay : List (Nat × List Nat × (St → Tr (NExit × St))) := [(0, [0, 3, 4, 5, 6, 7, 8, 9], lSay), (2, [3, 5, 6, 7, 8, 64], RSL)]
noncomputable def tSay : Con := fun args regs => if regs.length = 0 then nfun Try.prog [] cSay lpSay fSay args regs else .fail
theorem say_loops : loopsIn (fSay.body.getD .skip) = [(0, bodyLoop fSay 0)] := by kernel_rfl
theorem say_ranges : rangesIn (fSay.body.getD .skip) = [(2, rgS)] := by kernel_rfl
theorem kSay : Known Try.prog [] 14 tSay := by
  refine known_loops (c := fSay.body.getD .skip) 0 Try.func14 (by kernel_rfl) (by kernel_rfl) mixed kcSay ⟨fun i b hb x hf => ?_, fun i b hb x hf => ?_⟩
  · rw [say_loops, List.mem_singleton] at hb
    cases hb
    have : x = (0, [0, 3, 4, 5, 6, 7, 8, 9], lSay) := by simpa [lpSay] using hf.symm
    subst this
    exact loop_say
  · rw [say_ranges, List.mem_singleton] at hb
    cases hb
    have : x = (2, [3, 5, 6, 7, 8, 64], RSL) := by simpa [lpSay] using hf.symm
    subst this
    exact rS_ok
end Go.Proofs.Ytnhadghddkgjdaa.lxr
