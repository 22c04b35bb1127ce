/-
  The engine, part 20: states of a given shape; a loop that is known by what it does from such states.
-/
import Derived.Test.YtnhadghddkgjdaaEng19
namespace Go.Nx
open Go

/-- What a place of a shape holds. -/
inductive Leaf where
  | i (n : Int)
  | b (x : Bool)
  | s (z : ByteArray)
  | l (xs : List Int)
  | r (xs : List (List Sc))
  | n (k : Nat)
/-- A place's shape. -/
inductive Pat where
  | dead
  | i (k : IntKind)
  | b
  | s
  | l (k : IntKind)
  | lr (ks : List CK)
  | h (r off : Nat)
  | p (r i c : Nat)
  | sn
  | pn
  | en
inductive RPat where
  | gone
  | ints (st : Nat) (e : TypeId) (k : IntKind)
  | recs (st : Nat) (e : TypeId) (ks : List CK)
  | cells (st : Nat) (e : TypeId) (l : List Pat)

def Pat.readC : Pat → NC → Option (List Leaf)
  | .i k, .i k' n => if k = k' then some [.i n] else none
  | .b, .b x => some [.b x]
  | .s, .s z => some [.s z]
  | .l k, .l k' xs => if k = k' then some [.l xs] else none
  | .lr ks, .lr ks' xs => if ks = ks' then some [.r xs] else none
  | .h r o, .h r' o' n => if r = r' ∧ o = o' then some [.n n] else none
  | .p r j c, .p r' j' c' => if r = r' ∧ j = j' ∧ c = c' then some [] else none
  | .sn, .sn => some []
  | .pn, .pn => some []
  | .en, .en => some []
  | _, _ => none
def Pat.makeC : Pat → List Leaf → NC
  | .i k, .i n :: _ => .i k n
  | .b, .b x :: _ => .b x
  | .s, .s z :: _ => .s z
  | .l k, .l xs :: _ => .l k xs
  | .lr ks, .r xs :: _ => .lr ks xs
  | .h r o, .n n :: _ => .h r o n
  | .p r j c, _ => .p r j c
  | .sn, _ => .sn
  | .pn, _ => .pn
  | _, _ => .en
def Pat.size : Pat → Nat
  | .i _ | .b | .s | .l _ | .lr _ | .h _ _ => 1
  | _ => 0
theorem Pat.readC_spec {p : Pat} {x : NC} {l : List Leaf} (h : p.readC x = some l) : l.length = p.size ∧ ∀ m, p.makeC (l ++ m) = x := by
  unfold Pat.readC at h
  split at h
  all_goals first
    | (cases h; done)
    | (cases h; exact ⟨rfl, fun _ => rfl⟩)
    | (split at h
       · rename_i e
         cases h
         first
           | (subst e; exact ⟨rfl, fun _ => rfl⟩)
           | (obtain ⟨rfl, rfl⟩ := e; exact ⟨rfl, fun _ => rfl⟩)
           | (obtain ⟨rfl, rfl, rfl⟩ := e; exact ⟨rfl, fun _ => rfl⟩)
       · cases h)
def Pat.readS : Pat → NS → Option (List Leaf)
  | .dead, .dead => some []
  | q, .v (.c x) => q.readC x
  | _, _ => none
def Pat.makeS : Pat → List Leaf → NS
  | .dead, _ => .dead
  | q, ls => .v (.c (q.makeC ls))
theorem Pat.readS_spec {p : Pat} {x : NS} {l : List Leaf} (h : p.readS x = some l) : l.length = p.size ∧ ∀ m, p.makeS (l ++ m) = x := by
  by_cases hd : p = .dead
  · subst hd
    cases x with
    | dead => cases h; exact ⟨rfl, fun _ => rfl⟩
    | tu l => simp [Pat.readS] at h
    | v y =>
      cases y with
      | c y => simp [Pat.readS, Pat.readC] at h
      | ag y => simp [Pat.readS] at h
  · cases x with
    | dead => cases p <;> simp [Pat.readS] at h hd
    | tu l => cases p <;> simp [Pat.readS] at h
    | v y =>
      cases y with
      | ag y => cases p <;> simp [Pat.readS] at h
      | c y =>
        have h' : p.readC y = some l := by cases p <;> first | exact h | exact (hd rfl).elim
        obtain ⟨h1, h2⟩ := Pat.readC_spec h'
        refine ⟨h1, fun m => ?_⟩
        rw [← h2 m]
        cases p <;> first | rfl | exact (hd rfl).elim
def readL {α : Type} (rd : Pat → α → Option (List Leaf)) : List Pat → List α → Option (List Leaf)
  | [], [] => some []
  | p :: ps, x :: xs => match rd p x, readL rd ps xs with
    | some a, some b => some (a ++ b)
    | _, _ => none
  | _, _ => none
def makeL {α : Type} (mk : Pat → List Leaf → α) : List Pat → List Leaf → List α
  | [], _ => []
  | p :: ps, l => mk p l :: makeL mk ps (l.drop p.size)
theorem readL_spec {α : Type} {rd : Pat → α → Option (List Leaf)} {mk : Pat → List Leaf → α} (hs : ∀ p x l, rd p x = some l → l.length = p.size ∧ ∀ m, mk p (l ++ m) = x) :
    ∀ {ps : List Pat} {xs : List α} {l : List Leaf}, readL rd ps xs = some l → makeL mk ps l = xs
  | [], [], l, _ => rfl
  | [], _ :: _, _, h => by simp [readL] at h
  | _ :: _, [], _, h => by simp [readL] at h
  | p :: ps, x :: xs, l, h => by
    simp only [readL] at h
    split at h
    · rename_i a b h1 h2
      cases h
      obtain ⟨h3, h4⟩ := hs p x a h1
      have h5 := readL_spec hs h2
      simp only [makeL, h4 b, ← h3, List.drop_left, h5]
    · cases h
def RPat.read : RPat → Option Reg → Option (List Leaf)
  | .gone, none => some []
  | .ints st e k, some { st := st', e := e', body := .ints k' xs } => if st = st' ∧ e = e' ∧ k = k' then some [.l xs] else none
  | .recs st e ks, some { st := st', e := e', body := .recs ks' xs } => if st = st' ∧ e = e' ∧ ks = ks' then some [.r xs] else none
  | .cells st e ps, some { st := st', e := e', body := .cells xs } => if st = st' ∧ e = e' then readL Pat.readC ps xs else none
  | _, _ => none
def RPat.make : RPat → List Leaf → Option Reg
  | .ints st e k, .l xs :: _ => some { st := st, e := e, body := .ints k xs }
  | .recs st e ks, .r xs :: _ => some { st := st, e := e, body := .recs ks xs }
  | .cells st e ps, l => some { st := st, e := e, body := .cells (makeL Pat.makeC ps l) }
  | _, _ => none
theorem RPat.read_spec {p : RPat} {x : Option Reg} {l : List Leaf} (h : p.read x = some l) : p.make l = x := by
  unfold RPat.read at h
  split at h
  · cases h; rfl
  · split at h
    · rename_i e; obtain ⟨rfl, rfl, rfl⟩ := e; cases h; rfl
    · cases h
  · split at h
    · rename_i e; obtain ⟨rfl, rfl, rfl⟩ := e; cases h; rfl
    · cases h
  · split at h
    · rename_i e
      obtain ⟨rfl, rfl⟩ := e
      simp only [RPat.make, readL_spec (fun p x l h => Pat.readC_spec h) h]
    · cases h
  · cases h
def readRg : List RPat → List (Option Reg) → Option (List (List Leaf))
  | [], [] => some []
  | p :: ps, x :: xs => match p.read x, readRg ps xs with
    | some a, some b => some (a :: b)
    | _, _ => none
  | _, _ => none
def makeRg : List RPat → List (List Leaf) → List (Option Reg)
  | p :: ps, l :: ls => p.make l :: makeRg ps ls
  | _, _ => []
theorem readRg_spec : ∀ {ps : List RPat} {xs : List (Option Reg)} {l : List (List Leaf)}, readRg ps xs = some l → makeRg ps l = xs
  | [], [], l, h => by simp [readRg] at h; subst h; rfl
  | [], _ :: _, _, h => by simp [readRg] at h
  | _ :: _, [], _, h => by simp [readRg] at h
  | p :: ps, x :: xs, l, h => by
    simp only [readRg] at h
    split at h
    · rename_i a b h1 h2
      cases h
      simp only [makeRg, RPat.read_spec h1, readRg_spec h2]
    · cases h

/-- The shapes of n slots: these, else dead. -/
def pats (n : Nat) (l : List (Nat × Pat)) : List Pat := (List.range n).map fun j => match l.find? (·.1 == j) with
  | some x => x.2
  | none => .dead
/-- A state of a shape. -/
def mkSt (fp : List Pat) (rp : List RPat) (x : List Leaf × List (List Leaf)) : St := { fr := makeL Pat.makeS fp x.1, rg := makeRg rp x.2 }
/-- A loop that is known by what it does from states of a shape. -/
def sumP (fp : List Pat) (rp : List RPat) (f : List Leaf × List (List Leaf) → Tr (NExit × St)) (s : St) : Tr (NExit × St) :=
  match readL Pat.readS fp s.fr, readRg rp s.rg with
  | some a, some b => f (a, b)
  | _, _ => .fail
theorem sumP_ok {X : Cx} (hcon : ∀ f T, X.con f = some T → Known X.P X.glob f T) (hm : X.P.follows .mixedOrders = true) {id : Nat} {body : Code} (hl : LAll X body) (live out : List Nat) (fp : List Pat) (rp : List RPat) (f : List Leaf × List (List Leaf) → Tr (NExit × St)) (μ : List Leaf × List (List Leaf) → Nat)
    (round : ∀ a R, (f a).run R → (roundT X id live out body (mkSt fp rp a)).run fun o => match o with
      | .next s => ∃ b, s = mkSt fp rp b ∧ μ b < μ a ∧ (f b).run R
      | .done e s => R (e, s)) : LOk X.P X.glob X.m id body (sumP fp rp f) := by
  refine loop_ok hcon hm hl live out (mkSt fp rp) μ (fun a R => (f a).run R) (fun s R h => ?_) round
  unfold sumP at h
  split at h
  · rename_i a b h1 h2
    refine ⟨(a, b), ?_, h⟩
    unfold mkSt
    rw [readL_spec (fun p x l h => Pat.readS_spec h) h1, readRg_spec h2]
  · exact h.elim

theorem LAll.two {X : Cx} {c : Code} {i1 i2 : Nat} {b1 b2 : Code} {l1 l2 : List Nat} {L1 L2 : St → Tr (NExit × St)} (hl : loopsIn c = [(i1, b1), (i2, b2)]) (hx : X.loops = [(i1, l1, L1), (i2, l2, L2)]) (hne : i1 ≠ i2)
    (h1 : LOk X.P X.glob X.m i1 b1 L1) (h2 : LOk X.P X.glob X.m i2 b2 L2) (hr : rangesIn c = [] := by kernel_rfl) : LAll X c :=
  LAll.list hl (hr := hr) fun p hp x hf => by
    rw [hx] at hf
    rcases List.mem_cons.1 hp with e | hp
    · subst e
      simp at hf
      subst hf
      exact h1
    · rw [List.mem_singleton] at hp
      subst hp
      have : (i1 == i2) = false := by simpa using hne
      simp [this] at hf
      subst hf
      exact h2

end Go.Nx
