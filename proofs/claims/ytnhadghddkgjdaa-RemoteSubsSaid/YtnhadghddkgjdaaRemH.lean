/-
  The law RemoteLinks: a colour leads where its link does.
-/
import Derived.Test.YtnhadghddkgjdaaRemG
namespace Go.Proofs.Ytnhadghddkgjdaa.rem
open Go Go.Nx Go.RowKit

def ag18 (l : List (Int × Int × Int)) : List NC := l.flatMap fun x => [.i .i64 x.1, .i .i64 x.2.1, .i .i64 x.2.2]
/-- The triples of a list of cells. -/
def trips : Nat → List NC → Option (List (Int × Int × Int))
  | 0, [] => some []
  | n + 1, .i .i64 a :: .i .i64 b :: .i .i64 c :: r => (trips n r).map ((a, b, c) :: ·)
  | _, _ => none
theorem trips_spec : ∀ {n : Nat} {xs : List NC} {l : List (Int × Int × Int)}, trips n xs = some l → xs = ag18 l ∧ l.length = n
  | 0, [], l, h => by simp [trips] at h; subst h; exact ⟨rfl, rfl⟩
  | 0, _ :: _, l, h => by simp [trips] at h
  | n + 1, xs, l, h => by
    unfold trips at h
    split at h
    · rename_i hn
      exact absurd hn (by omega)
    · rename_i n' a b c r hn
      obtain rfl : n = n' := by omega
      cases hr : trips n r with
      | none => rw [hr] at h; cases h
      | some l' =>
        rw [hr] at h
        cases h
        obtain ⟨h1, h2⟩ := trips_spec hr
        exact ⟨by rw [h1]; rfl, by simp [h2]⟩
    · cases h
def stR (m p u : Int) (sub h r x : Bool) : NV := .ag [.i .i64 m, .i .i64 p, .i .i64 u, .sn, .sn, .b sub, .b h, .b r, .b x]
def oK (m p u : Int) (sub h r x is : Bool) : Out := ⟨.tu [stR m p u sub h r x, .c (.b is)], []⟩
def okL (a : Int × Int × Int) : Bool := bif decide (a.1 ≥ 1) then (bif decide (a.1 ≤ 8) then a.2.1 != 255 else false) else false
def linkOf (k : Int) : Nat := if k = 19 then 5 else (k - 15).toNat
noncomputable def keyBody (m p u : Int) (sub h r x ln : Bool) (k : Int) : Option (List (Int × Int × Int)) → Tr Out
  | some l => .must (k = 10 ∨ 15 ≤ k ∧ k ≤ 19) (.br (decide (k = 10)) (.ret (oK m p u sub (!h) r x (!!h)))
         (.br (ln && okL (l.getD (linkOf k) (0, 0, 0))) (.ret (oK (l.getD (linkOf k) (0, 0, 0)).1 (l.getD (linkOf k) (0, 0, 0)).2.1 (l.getD (linkOf k) (0, 0, 0)).2.2 sub false false x true)) (.ret (oK m p u sub h r x false))))
  | none => .fail
/-- A key that follows a link, or holds. -/
noncomputable def tKeyL : Con := fun args regs => match args, regs with
  | [.ag [.i .i64 m, .i .i64 p, .i .i64 u, .sn, .sn, .b sub, .b h, .b r, .b x], .c (.i .i64 k), .ag xs, .c (.b ln)], [] => keyBody m p u sub h r x ln k (trips 6 xs)
  | _, _ => .fail
noncomputable def follE (m p u : Int) (sub h r x ln : Bool) (a : Int × Int × Int) (R : Out → Prop) : Prop :=
  sel (!ln) (R (oK m p u sub h r x false)) (sel (decide (a.1 ≥ 1)) (sel (decide (a.1 ≤ 8)) (sel (!(a.2.1 != 255)) (R (oK m p u sub h r x false)) (R (oK a.1 a.2.1 a.2.2 sub false false x true))) (R (oK m p u sub h r x false))) (R (oK m p u sub h r x false)))
section
variable (m p u : Int) (sub h r x ln : Bool) (a b c d e f : Int × Int × Int) (R : Out → Prop)
theorem key10 : (t_keyC [stR m p u sub h r x, .c (.i .i64 10), .ag (ag18 [a, b, c, d, e, f]), .c (.b ln)] []).run R = R (oK m p u sub (!h) r x (!!h)) := by kernel_rfl
theorem key15 : (t_keyC [stR m p u sub h r x, .c (.i .i64 15), .ag (ag18 [a, b, c, d, e, f]), .c (.b ln)] []).run R = follE m p u sub h r x ln a R := by kernel_rfl
theorem key16 : (t_keyC [stR m p u sub h r x, .c (.i .i64 16), .ag (ag18 [a, b, c, d, e, f]), .c (.b ln)] []).run R = follE m p u sub h r x ln b R := by kernel_rfl
theorem key17 : (t_keyC [stR m p u sub h r x, .c (.i .i64 17), .ag (ag18 [a, b, c, d, e, f]), .c (.b ln)] []).run R = follE m p u sub h r x ln c R := by kernel_rfl
theorem key18 : (t_keyC [stR m p u sub h r x, .c (.i .i64 18), .ag (ag18 [a, b, c, d, e, f]), .c (.b ln)] []).run R = follE m p u sub h r x ln d R := by kernel_rfl
theorem key19 : (t_keyC [stR m p u sub h r x, .c (.i .i64 19), .ag (ag18 [a, b, c, d, e, f]), .c (.b ln)] []).run R = follE m p u sub h r x ln f R := by kernel_rfl
end
theorem foll_in {m p u : Int} {sub h r x ln : Bool} {a : Int × Int × Int} {R : Out → Prop} (hh : sel (ln && okL a) (R (oK a.1 a.2.1 a.2.2 sub false false x true)) (R (oK m p u sub h r x false))) : follE m p u sub h r x ln a R := by
  unfold follE
  unfold okL at hh
  generalize decide (a.1 ≥ 1) = b1 at hh ⊢
  generalize decide (a.1 ≤ 8) = b2 at hh ⊢
  generalize (a.2.1 != 255) = b3 at hh ⊢
  cases ln <;> cases b1 <;> cases b2 <;> cases b3 <;> exact hh
/-- A statement behind a name that nothing opens by itself. -/
structure Box (p : Prop) : Prop where
  out : p
theorem Box.of_eq {p q : Prop} (h : p = q) (hq : q) : Box p := ⟨h.mpr hq⟩
theorem list6 {α : Type} {l : List α} (h : l.length = 6) : ∃ a b c d e f, l = [a, b, c, d, e, f] := by
  match l, h with
  | [a, b, c, d, e, f], _ => exact ⟨a, b, c, d, e, f, rfl⟩
set_option maxRecDepth 100000 in
theorem key_run (m p u : Int) (sub h r x ln : Bool) (a b c d e f : Int × Int × Int) (R : Out → Prop) (k : Int) (h10 : k = 10 → R (oK m p u sub (!h) r x (!!h)))
    (hk : 15 ≤ k ∧ k ≤ 19 → sel (ln && okL ([a, b, c, d, e, f].getD (linkOf k) (0, 0, 0))) (R (oK ([a, b, c, d, e, f].getD (linkOf k) (0, 0, 0)).1 ([a, b, c, d, e, f].getD (linkOf k) (0, 0, 0)).2.1 ([a, b, c, d, e, f].getD (linkOf k) (0, 0, 0)).2.2 sub false false x true)) (R (oK m p u sub h r x false)))
    (hor : k = 10 ∨ 15 ≤ k ∧ k ≤ 19) : Box ((t_keyC [stR m p u sub h r x, .c (.i .i64 k), .ag (ag18 [a, b, c, d, e, f]), .c (.b ln)] []).run R) := by
  have : k = 10 ∨ k = 15 ∨ k = 16 ∨ k = 17 ∨ k = 18 ∨ k = 19 := by omega
  rcases this with rfl | rfl | rfl | rfl | rfl | rfl
  · exact Box.of_eq (key10 m p u sub h r x ln a b c d e f R) (h10 rfl)
  · exact Box.of_eq (key15 m p u sub h r x ln a b c d e f R) (foll_in (hk (by decide)))
  · exact Box.of_eq (key16 m p u sub h r x ln a b c d e f R) (foll_in (hk (by decide)))
  · exact Box.of_eq (key17 m p u sub h r x ln a b c d e f R) (foll_in (hk (by decide)))
  · exact Box.of_eq (key18 m p u sub h r x ln a b c d e f R) (foll_in (hk (by decide)))
  · exact Box.of_eq (key19 m p u sub h r x ln a b c d e f R) (foll_in (hk (by decide)))
set_option maxRecDepth 100000 in
theorem kKeyL : Known Try.prog [] 18 tKeyL := by
  refine k_keyC.less fun args regs R hh => ?_
  refine Box.out ?_
  unfold tKeyL at hh
  split at hh
  case h_2 => exact hh.elim
  rename_i m p u sub h r x k xs ln
  cases hl : trips 6 xs with
  | none => rw [hl] at hh; exact hh.elim
  | some l =>
    rw [hl] at hh
    have h1 := hh.1
    have h2 := sel_iff.1 hh.2
    clear hh
    obtain ⟨rfl, h6⟩ := trips_spec hl
    obtain ⟨a, b, c, d, e, f, rfl⟩ := list6 h6
    refine key_run m p u sub h r x ln a b c d e f R k (fun k10 => ?_) (fun kk => ?_) h1
    · rcases h2 with h2 | h2
      · exact h2.2
      · exact absurd k10 (of_decide_eq_false h2.1)
    · rcases h2 with h2 | h2
      · have := of_decide_eq_true h2.1
        omega
      · exact h2.2
noncomputable def cLinksL : FuncId → Option Con := conOf [(16, num.tLitS [5]), (18, tKeyL), (17, t_start), (19, t_same), (15, tYes)]
theorem kcLinksL : ∀ f T, cLinksL f = some T → Known Try.prog [] f T := (Knowns.cons (num.kLitS [5]) (.cons kKeyL (.cons k_start (.cons k_same (.cons kYes .nil))))).get
noncomputable def tLinksL : Con := fun args regs => nfun Try.prog [] cLinksL [] Try.f5 args regs
theorem kLinksL : Known Try.prog [] 5 tLinksL := known_inl Try.func5 rfl (by kernel_rfl) mixed kcLinksL (by kernel_rfl)
end Go.Proofs.Ytnhadghddkgjdaa.rem
