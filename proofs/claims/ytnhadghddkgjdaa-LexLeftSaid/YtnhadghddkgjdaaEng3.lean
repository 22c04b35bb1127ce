/-
  The engine, part 3: what the engine's values, regions and states say of the model's memory; that it stays true while memory grows.
-/
import Derived.Test.YtnhadghddkgjdaaEng2
namespace Go.Nx
open Go

/-! ### two lists, place by place -/
inductive R2 {α β : Type} (R : α → β → Prop) : List α → List β → Prop
  | nil : R2 R [] []
  | cons {a b l m} : R a b → R2 R l m → R2 R (a :: l) (b :: m)

section
variable {α β : Type} {R S : α → β → Prop} {l : List α} {m : List β}
theorem R2.length (h : R2 R l m) : l.length = m.length := by
  induction h with
  | nil => rfl
  | cons _ _ ih => simp [ih]
theorem R2.imp (h : R2 R l m) (hi : ∀ a b, R a b → S a b) : R2 S l m := by
  induction h with
  | nil => exact .nil
  | cons a _ ih => exact .cons (hi _ _ a) ih
theorem R2.imp_mem (h : R2 R l m) (hi : ∀ a b, a ∈ l → R a b → S a b) : R2 S l m := by
  induction h with
  | nil => exact .nil
  | cons a _ ih => exact .cons (hi _ _ (by simp) a) (ih fun x y hx => hi x y (by simp [hx]))
theorem R2.get (h : R2 R l m) {j : Nat} {a : α} (hj : l[j]? = some a) : ∃ b, m[j]? = some b ∧ R a b := by
  induction h generalizing j with
  | nil => simp at hj
  | cons r _ ih =>
    cases j with
    | zero => simp at hj; subst hj; exact ⟨_, by simp, r⟩
    | succ j => simp at hj; simpa using ih hj
theorem R2.get_none (h : R2 R l m) {j : Nat} (hj : l[j]? = none) : m[j]? = none := by
  have := h.length
  rw [List.getElem?_eq_none_iff] at hj ⊢
  omega
theorem R2.append {l' : List α} {m' : List β} (h : R2 R l m) (h' : R2 R l' m') : R2 R (l ++ l') (m ++ m') := by
  induction h with
  | nil => exact h'
  | cons r _ ih => exact .cons r ih
theorem R2.take (h : R2 R l m) (n : Nat) : R2 R (l.take n) (m.take n) := by
  induction h generalizing n with
  | nil => simp; exact .nil
  | cons r _ ih =>
    cases n with
    | zero => simp; exact .nil
    | succ n => simp; exact .cons r (ih n)
theorem R2.drop (h : R2 R l m) (n : Nat) : R2 R (l.drop n) (m.drop n) := by
  induction h generalizing n with
  | nil => simp; exact .nil
  | cons r h ih =>
    cases n with
    | zero => simp; exact .cons r h
    | succ n => simp; exact ih n
theorem R2.set (h : R2 R l m) (n : Nat) {a : α} {b : β} (r : R a b) : R2 R (l.set n a) (m.set n b) := by
  induction h generalizing n with
  | nil => simp; exact .nil
  | cons r' h ih =>
    cases n with
    | zero => simp; exact .cons r h
    | succ n => simp; exact .cons r' (ih n)
theorem R2.replicate (n : Nat) {a : α} {b : β} (r : R a b) : R2 R (List.replicate n a) (List.replicate n b) := by
  induction n with
  | zero => exact .nil
  | succ n ih => rw [List.replicate_succ, List.replicate_succ]; exact .cons r ih
theorem R2.of_get (hl : l.length = m.length) (h : ∀ (j : Nat) (a : α), l[j]? = some a → ∃ b, m[j]? = some b ∧ R a b) : R2 R l m := by
  induction l generalizing m with
  | nil => cases m with
    | nil => exact .nil
    | cons => simp at hl
  | cons a l ih => cases m with
    | nil => simp at hl
    | cons b m =>
      obtain ⟨b', hb, r⟩ := h 0 a (by simp)
      simp at hb
      subst hb
      exact .cons r (ih (by simpa using hl) fun j x hx => by simpa using h (j + 1) x (by simpa using hx))
theorem R2.flatMap {γ δ : Type} {T : γ → δ → Prop} {f : α → List γ} {g : β → List δ} (h : R2 R l m) (hf : ∀ a b, R a b → R2 T (f a) (g b)) : R2 T (l.flatMap f) (m.flatMap g) := by
  induction h with
  | nil => exact .nil
  | cons r _ ih => simp only [List.flatMap_cons]; exact (hf _ _ r).append ih
theorem R2.map_left {γ : Type} {f : γ → α} {l : List γ} {T : γ → β → Prop} (h : R2 T l m) (hf : ∀ a b, T a b → R (f a) b) : R2 R (l.map f) m := by
  induction h with
  | nil => exact .nil
  | cons r _ ih => exact .cons (hf _ _ r) ih
theorem R2.self_map {γ : Type} (f : γ → α) (g : γ → β) (l : List γ) (h : ∀ x, R (f x) (g x)) : R2 R (l.map f) (l.map g) := by
  induction l with
  | nil => exact .nil
  | cons a l ih => exact .cons (h a) ih
end

/-! ### the relation -/
structure Blk where
  blk : Nat
  st : Nat
  sz : Nat

/-- Where the regions lie; what else stays as it is, and which of that may be looked at; what the listed variables hold. -/
structure Env where
  μ : Nat → Option Blk
  kp : Nat → Option Obj
  ro : Nat → Bool
  er : Nat → Option Value

def rowsV (ks : List CK) (xs : List (List Sc)) : List Value := xs.flatMap (rowVals ks)

/-- From place 'off' on the block, which stays as it is, holds these values. -/
def RoRow (Γ : Env) (blk off : Nat) (vs : List Value) : Prop :=
  Γ.ro blk = true ∧ ∃ c e fz, Γ.kp blk = some (.cells c e fz) ∧ ∀ j x, vs[j]? = some x → c[off + j]? = some x

def CRel (Γ : Env) : NC → Value → Prop
  | .i k n, v => v = .int k n
  | .b x, v => v = .bool x
  | .s x, v => v = .string x
  | .p r i c, v => ∃ B, Γ.μ r = some B ∧ v = .pointer (some ⟨B.blk, i * B.st + c, none⟩)
  | .pn, v => v = .pointer none
  | .h r off len, v => ∃ B o cap, Γ.μ r = some B ∧ v = .slice (some ⟨B.blk, o, none⟩) len cap ∧ len ≤ cap ∧ cap ≤ maxLen ∧ (o = off * B.st ∧ (off + cap) * B.st = B.sz ∨ cap = 0)
  | .l k xs, v => ∃ a cap, v = .slice a xs.length cap ∧ xs.length ≤ cap ∧ (xs = [] ∨ ∃ blk off, a = some ⟨blk, off, none⟩ ∧ RoRow Γ blk off (xs.map (.int k)))
  | .lr ks xs, v => ∃ a cap, v = .slice a xs.length cap ∧ xs.length ≤ cap ∧ 0 < ks.length ∧ (xs = [] ∨ ∃ blk off, a = some ⟨blk, off, none⟩ ∧ RoRow Γ blk off (rowsV ks xs))
  | .pl k xs i, v => ∃ blk off, v = .pointer (some ⟨blk, off + i, none⟩) ∧ RoRow Γ blk off (xs.map (.int k))
  | .pr ks xs i c, v => ∃ blk off, v = .pointer (some ⟨blk, off + i * ks.length + c, none⟩) ∧ RoRow Γ blk off (rowsV ks xs)
  | .sn, v => v = .slice none 0 0
  | .g x, v => v = .pointer (some ⟨x, 0, none⟩)
  | .e k, v => Γ.er k = some v
  | .en, v => v = .nilIface
  | .cl f cap, v => ∃ caps : List Value, v = .func (.func f) #[] caps.toArray ∧
      R2 (fun (x : Nat × Nat × Nat) u => ∃ B, Γ.μ x.1 = some B ∧ u = .pointer (some ⟨B.blk, x.2.1 * B.st + x.2.2, none⟩)) cap caps

def VRel (Γ : Env) : NV → Value → Prop
  | .c x, v => CRel Γ x v ∧ v.oneCell' = true
  | .ag xs, v => ∃ vs : List Value, v = .agg vs.toArray ∧ R2 (fun x u => CRel Γ x u ∧ u.oneCell' = true) xs vs

def SRel (Γ : Env) : NS → Value → Prop
  | .v x, v => VRel Γ x v
  | .tu l, v => ∃ vs : List Value, v = .tuple vs.toArray ∧ R2 (VRel Γ) l vs
  | .dead, _ => True

/-- What one cell says: the value is of one cell, too. -/
abbrev CR (Γ : Env) (x : NC) (u : Value) : Prop := CRel Γ x u ∧ u.oneCell' = true

def BodyRel (Γ : Env) (st : Nat) : Body → List Value → Prop
  | .cells xs, l => ∃ l1 l2, l = l1 ++ l2 ∧ R2 (CR Γ) xs l1
  | .ints k xs, l => st = 1 ∧ ∃ l2, l = xs.map (.int k) ++ l2
  | .recs ks xs, l => st = ks.length ∧ 0 < ks.length ∧ ∃ l2, l = rowsV ks xs ++ l2

def RegRel (Γ : Env) (g : Reg) (B : Blk) (w : World) : Prop :=
  ∃ c : Array Value, w.heap[B.blk]? = some (.cells c g.e (0, 0)) ∧ B.st = g.st ∧ c.size = B.sz ∧ BodyRel Γ g.st g.body c.toList

def live (rg : List (Option Reg)) (n : Nat) : Prop := ∃ g, rg[n]? = some (some g)

structure WRel (Γ : Env) (rg : List (Option Reg)) (w : World) : Prop where
  live : ∀ n g, rg[n]? = some (some g) → ∃ B, Γ.μ n = some B ∧ RegRel Γ g B w
  inj : ∀ n m B B', n ≠ m → Nx.live rg n → Nx.live rg m → Γ.μ n = some B → Γ.μ m = some B' → B.blk ≠ B'.blk
  kp : ∀ b o, Γ.kp b = some o → w.heap[b]? = some o
  apart : ∀ n B, Nx.live rg n → Γ.μ n = some B → Γ.kp B.blk = none
  ro : ∀ b, Γ.ro b = true → ∃ o, Γ.kp b = some o

def FrRel (Γ : Env) (fr : List NS) (tmps : Array Value) : Prop := R2 (SRel Γ) fr tmps.toList

/-- The listed variables, behind the type of their errors: each holds an error of its own. -/
def GlobOk (glob : List Nat) (Γ : Env) : Prop :=
  (∀ x ∈ glob.tail, ∃ ad c e fz ca ta, Γ.er x = some (.iface (glob.headD 0) (.pointer (some ad))) ∧ Γ.kp x = some (.cells c e fz) ∧ c[0]? = some (.iface (glob.headD 0) (.pointer (some ad))) ∧ Γ.kp ad.block = some (.cells ca ta (0, 0))) ∧
  (∀ x ∈ glob.tail, ∀ y ∈ glob.tail, x ≠ y → Γ.er x ≠ Γ.er y)

structure Env.le (Γ Γ' : Env) : Prop where
  μ : ∀ n B, Γ.μ n = some B → Γ'.μ n = some B
  kp : ∀ b o, Γ.kp b = some o → Γ'.kp b = some o
  ro : ∀ b, Γ.ro b = true → Γ'.ro b = true
  er : Γ'.er = Γ.er
theorem Env.le.refl (Γ : Env) : Γ.le Γ := ⟨fun _ _ h => h, fun _ _ h => h, fun _ h => h, rfl⟩
theorem Env.le.trans {a b c : Env} (h : a.le b) (k : b.le c) : a.le c :=
  ⟨fun n B x => k.μ n B (h.μ n B x), fun n B x => k.kp n B (h.kp n B x), fun n x => k.ro n (h.ro n x), k.er.trans h.er⟩

/-- The streams are as they were, and no block has gone. -/
structure Wd (w w' : World) : Prop where
  os : w'.os = w.os
  tape : w'.tape = w.tape
  output : w'.output = w.output
  size : w.heap.size ≤ w'.heap.size
theorem Wd.refl (w : World) : Wd w w := ⟨rfl, rfl, rfl, Nat.le_refl _⟩
theorem Wd.trans {a b c : World} (h : Wd a b) (k : Wd b c) : Wd a c := ⟨k.os.trans h.os, k.tape.trans h.tape, k.output.trans h.output, Nat.le_trans h.size k.size⟩

theorem RoRow.mono {Γ Γ' : Env} (h : Γ.le Γ') {b o : Nat} {vs : List Value} (r : RoRow Γ b o vs) : RoRow Γ' b o vs := by
  obtain ⟨h1, c, e, fz, h2, h3⟩ := r
  exact ⟨h.ro _ h1, c, e, fz, h.kp _ _ h2, h3⟩
theorem CRel.mono {Γ Γ' : Env} (h : Γ.le Γ') {x : NC} {v : Value} (r : CRel Γ x v) : CRel Γ' x v := by
  cases x with
  | p r' i c => obtain ⟨B, h1, h2⟩ := r; exact ⟨B, h.μ _ _ h1, h2⟩
  | h r' o n => obtain ⟨B, o, cap, h1, h2⟩ := r; exact ⟨B, o, cap, h.μ _ _ h1, h2⟩
  | l k xs =>
    obtain ⟨a, cap, h1, h2, h3⟩ := r
    refine ⟨a, cap, h1, h2, h3.imp id ?_⟩
    rintro ⟨blk, off, h4, h5⟩
    exact ⟨blk, off, h4, h5.mono h⟩
  | lr ks xs =>
    obtain ⟨a, cap, h1, h2, h0, h3⟩ := r
    refine ⟨a, cap, h1, h2, h0, h3.imp id ?_⟩
    rintro ⟨blk, off, h4, h5⟩
    exact ⟨blk, off, h4, h5.mono h⟩
  | pl k xs i => obtain ⟨blk, off, h1, h2⟩ := r; exact ⟨blk, off, h1, h2.mono h⟩
  | pr ks xs i c => obtain ⟨blk, off, h1, h2⟩ := r; exact ⟨blk, off, h1, h2.mono h⟩
  | e k => have e := h.er; simp only [CRel] at r ⊢; rw [e]; exact r
  | cl f cap =>
    obtain ⟨caps, h1, h2⟩ := r
    refine ⟨caps, h1, h2.imp ?_⟩
    rintro a b ⟨B, h3, h4⟩
    exact ⟨B, h.μ _ _ h3, h4⟩
  | _ => exact r
theorem CR.mono {Γ Γ' : Env} (h : Γ.le Γ') {x : NC} {v : Value} (r : CR Γ x v) : CR Γ' x v := ⟨r.1.mono h, r.2⟩
theorem VRel.mono {Γ Γ' : Env} (h : Γ.le Γ') {x : NV} {v : Value} (r : VRel Γ x v) : VRel Γ' x v := by
  cases x with
  | c x => exact CR.mono h r
  | ag xs => obtain ⟨vs, h1, h2⟩ := r; exact ⟨vs, h1, h2.imp fun _ _ r => CR.mono h r⟩
theorem SRel.mono {Γ Γ' : Env} (h : Γ.le Γ') {x : NS} {v : Value} (r : SRel Γ x v) : SRel Γ' x v := by
  cases x with
  | v x => exact VRel.mono h r
  | tu l => obtain ⟨vs, h1, h2⟩ := r; exact ⟨vs, h1, h2.imp fun _ _ r => VRel.mono h r⟩
  | dead => trivial
theorem BodyRel.mono {Γ Γ' : Env} (h : Γ.le Γ') {st : Nat} {b : Body} {l : List Value} (r : BodyRel Γ st b l) : BodyRel Γ' st b l := by
  cases b with
  | cells xs => obtain ⟨l1, l2, h1, h2⟩ := r; exact ⟨l1, l2, h1, h2.imp fun _ _ r => CR.mono h r⟩
  | ints k xs => exact r
  | recs ks xs => exact r
theorem RegRel.mono {Γ Γ' : Env} (h : Γ.le Γ') {g : Reg} {B : Blk} {w : World} (r : RegRel Γ g B w) : RegRel Γ' g B w := by
  obtain ⟨c, h1, h2, h3, h4⟩ := r
  exact ⟨c, h1, h2, h3, h4.mono h⟩
theorem FrRel.mono {Γ Γ' : Env} (h : Γ.le Γ') {fr : List NS} {t : Array Value} (r : FrRel Γ fr t) : FrRel Γ' fr t := R2.imp r fun _ _ r => r.mono h
theorem GlobOk.mono {Γ Γ' : Env} (h : Γ.le Γ') {g : List Nat} (r : GlobOk g Γ) : GlobOk g Γ' := by
  refine ⟨fun x hx => ?_, fun x hx y hy hne => by rw [h.er]; exact r.2 x hx y hy hne⟩
  obtain ⟨ad, c, e, fz, ca, ta, h1, h2, h3, h4⟩ := r.1 x hx
  exact ⟨ad, c, e, fz, ca, ta, by rw [h.er]; exact h1, h.kp _ _ h2, h3, h.kp _ _ h4⟩

/-- One more region. -/
def Env.add (Γ : Env) (n : Nat) (B : Blk) : Env := { Γ with μ := fun m => if m = n then some B else Γ.μ m }
theorem Env.le_add (Γ : Env) (n : Nat) (B : Blk) (h : Γ.μ n = none) : Γ.le (Γ.add n B) :=
  ⟨fun m B' hm => by
    simp only [Env.add]
    split
    · rename_i e; rw [e, h] at hm; cases hm
    · exact hm, fun _ _ h => h, fun _ h => h, rfl⟩

theorem Sem.sel_true {c : Bool} {A B : Prop} (h : c = true) : sel c A B ↔ A := by subst h; rfl
theorem sel_iff {c : Bool} {A B : Prop} : sel c A B ↔ (c = true ∧ A) ∨ (c = false ∧ B) := by cases c <;> simp [sel]

theorem Tr.run_bind {α β : Type} (t : Tr α) (f : α → Tr β) (R : β → Prop) : (t.bind f).run R = t.run fun a => (f a).run R := by
  induction t with
  | ret a => rfl
  | br c x y ihx ihy => simp only [Tr.bind, Tr.run, ihx, ihy]
  | must p x ih => simp only [Tr.bind, Tr.run, ih]
  | all p h g ih => simp only [Tr.bind, Tr.run, ih]
  | fail => rfl
theorem Tr.run_mono {α : Type} (t : Tr α) {R S : α → Prop} (h : ∀ a, R a → S a) (hr : t.run R) : t.run S := by
  induction t with
  | ret a => exact h a hr
  | br c x y ihx ihy =>
    simp only [Tr.run] at hr ⊢
    rcases sel_iff.1 hr with ⟨hc, hx⟩ | ⟨hc, hy⟩
    · exact sel_iff.2 (.inl ⟨hc, ihx hx⟩)
    · exact sel_iff.2 (.inr ⟨hc, ihy hy⟩)
  | must p x ih => exact ⟨hr.1, ih hr.2⟩
  | all p h' g ih => exact fun i hi => ih i (hr i hi)
  | fail => exact hr
/-- A tree comes to something. -/
theorem Tr.run_false {α : Type} (t : Tr α) (hr : t.run fun _ => False) : False := by
  induction t with
  | ret a => exact hr
  | br c x y ihx ihy =>
    rcases sel_iff.1 hr with ⟨_, hx⟩ | ⟨_, hy⟩
    · exact ihx hx
    · exact ihy hy
  | must p x ih => exact ih hr.2
  | all p h g ih =>
    obtain ⟨i, hi⟩ := h
    exact ih i (hr i hi)
  | fail => exact hr
theorem Tr.run_all {α ι : Type} (t : Tr α) {p : ι → Prop} (h : ∃ i, p i) {S : ι → α → Prop} (hr : ∀ i, p i → t.run (S i)) : t.run fun a => ∀ i, p i → S i a := by
  induction t with
  | ret a => exact hr
  | br c x y ihx ihy =>
    cases c with
    | true => exact ihx hr
    | false => exact ihy hr
  | must q x ih =>
    obtain ⟨i, hi⟩ := h
    exact ⟨(hr i hi).1, ih fun i hi => (hr i hi).2⟩
  | all q h' g ih => exact fun j hj => ih j fun i hi => hr i hi j hj
  | fail =>
    obtain ⟨i, hi⟩ := h
    exact hr i hi
/-- Two trees, the other way round. -/
theorem Tr.run_swap {α β : Type} (t : Tr α) (u : Tr β) {K : α → β → Prop} (h : t.run fun a => u.run fun b => K a b) : u.run fun b => t.run fun a => K a b := by
  induction t with
  | ret a => exact h
  | br c x y ihx ihy =>
    cases c with
    | true => exact ihx h
    | false => exact ihy h
  | must p x ih => exact Tr.run_mono _ (fun b hb => ⟨h.1, hb⟩) (ih h.2)
  | all p hp g ih => exact Tr.run_all u hp fun i hi => ih i (h i hi)
  | fail => exact h.elim
def allT (l : List Bool) : Prop := ∀ b ∈ l, b = true
theorem chkT_run {α : Type} (c : List Bool) (t : Tr α) (R : α → Prop) : (chkT c t).run R ↔ allT c ∧ t.run R := by
  induction c with
  | nil => simp [chkT, allT]
  | cons b bs ih =>
    simp only [chkT, Tr.run, sel_iff, ih, allT]
    cases b <;> simp

end Go.Nx
