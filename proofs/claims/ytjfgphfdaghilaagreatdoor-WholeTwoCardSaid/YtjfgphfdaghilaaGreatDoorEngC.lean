/-
  The engine (EngC): its parts 19, 20, 21, 22, 23, 24, 26, 27, 28, 29, 30, 31 joined.
-/
import Derived.Test.YtjfgphfdaghilaaGreatDoorEngBb
import Derived.RowKit3
import Derived.Below
import Derived.ChangeArms
import Derived.ProofKit
import Derived.OpenShut
import Derived.ShutString
import Derived.ChangeOld
import Derived.Carry
import Derived.OrdersIn
namespace Go.Nx
open Go Go.RowKit

/-- What there is ahead of a call: it all stays; rows of it may be looked at. -/
def topEnv (w : World) (er : Nat → Option Value) : Env := { μ := fun _ => none, kp := fun b => w.heap[b]?, ro := fun b => decide (b < w.heap.size), er := er }
theorem topEnv_w (w : World) (er : Nat → Option Value) : WRel (topEnv w er) [] w := by
  refine ⟨fun n g h => by simp at h, fun n m B B' _ h => ?_, fun b o h => h, fun n B h => ?_, fun b h => ?_⟩
  · obtain ⟨g, h⟩ := h; simp at h
  · obtain ⟨g, h⟩ := h; simp at h
  · have hb : b < w.heap.size := by simpa [topEnv] using h
    exact ⟨w.heap[b], Array.getElem?_eq_getElem hb⟩
/-- What a tree comes to, behind a name that nothing opens by itself. -/
structure Holds {α : Type} (t : Tr α) (R : α → Prop) : Prop where
  run : t.run R
/-- A function that takes no regions. -/
theorem Known.calls {P : Program} {gl : List Nat} {f : FuncId} {T : Con} (hk : Known P gl f T) {args : List NV} {vs : List Value} {w : World} (er : Nat → Option Value) (hG : GlobOk gl (topEnv w er)) (hargs : R2 (VRel (topEnv w er)) args vs) {R : Out → Prop} (h : (T args []).run R) :
    Calls P f vs.toArray w fun e w' => ∃ o v Γ', R o ∧ e = .returned v ∧ Ext (topEnv w er) w Γ' ∧ SRel Γ' o.res v ∧ WRel Γ' o.rg w' ∧ Wd w w' := by
  refine (hk.sound args [] R h (topEnv w er) w vs (topEnv_w w er) hG hargs (fun _ _ => rfl)).mono ?_
  rintro e w' ⟨o, v, Γ', h1, h2, h3, h4, h5, h6⟩
  exact ⟨o, v, Γ', h1, h2, h3, h4, h5, h6⟩
/-- A function without loops is what its text comes to. -/
theorem known_inl {P : Program} {gl : List Nat} {f : FuncId} {fn : Func} {c : Code} {con : FuncId → Option Con} (hf : P.funcs[f]? = some fn) (hb : fn.body = some c) (hname : (fn.name == "runtime.NumGoroutine") = false) (hm : P.follows .mixedOrders = true)
    (hcon : ∀ f T, con f = some T → Known P gl f T) (hl : loopsIn c = []) : Known P gl f (fun args regs => nfun P gl con [] fn args regs) :=
  known_of hf hb hname hm fun _ _ _ h => ⟨con, [], hcon, ⟨fun id body hi => (by rw [hl] at hi; cases hi), fun id body _ x hx => (by cases hx)⟩, h⟩
/-- A function without loops is what its text comes to. -/
theorem known_inlF {P : Program} {gl : List Nat} {f : FuncId} {fn : Func} {c : Code} {con : FuncId → Option Con} (hf : P.funcs[f]? = some fn) (hb : fn.body = some c) (hname : (fn.name == "runtime.NumGoroutine") = false) (hm : P.follows .mixedOrders = true)
    (hcon : ∀ f T, con f = some T → Known P gl f T) (hl : loopsIn c = []) : KnownF P gl f (fun args regs => nfun P gl con [] fn args regs) :=
  known_ofF hf hb hname hm fun _ _ _ h => ⟨con, [], hcon, ⟨fun id body hi => (by rw [hl] at hi; cases hi), fun id body _ x hx => (by cases hx)⟩, h⟩
theorem LAll.list {X : Cx} {c : Code} {ls : List (Nat × Code)} (hl : loopsIn c = ls) (h : ∀ p ∈ ls, ∀ x, X.loops.find? (·.1 == p.1) = some x → LOk X.P X.glob X.m p.1 p.2 x.2.2) (hr : rangesIn c = [] := by kernel_rfl) : LAll X c := by
  refine ⟨fun id body hb x hx => ?_, fun id body hb => by rw [hr] at hb; cases hb⟩
  rw [hl] at hb
  exact h (id, body) hb x hx
theorem LAll.none {X : Cx} {c : Code} (hl : loopsIn c = []) (hr : rangesIn c = [] := by kernel_rfl) : LAll X c := LAll.list hl (fun p hp => by cases hp) hr
theorem LAll.one {X : Cx} {c : Code} {id : Nat} {body : Code} {live : List Nat} {L : St → Tr (NExit × St)} (hl : loopsIn c = [(id, body)]) (hx : X.loops = [(id, live, L)]) (h : LOk X.P X.glob X.m id body L) (hr : rangesIn c = [] := by kernel_rfl) : LAll X c :=
  LAll.list hl (hr := hr) fun p hp x hf => by
    rw [List.mem_singleton] at hp
    subst hp
    rw [hx] at hf
    simp at hf
    subst hf
    exact h
/-- A function that takes m regions, with its loops. -/
theorem known_loops {P : Program} {gl : List Nat} {f : FuncId} {fn : Func} {c : Code} {con : FuncId → Option Con} {loops : List (Nat × List Nat × (St → Tr (NExit × St)))} (m : Nat) (hf : P.funcs[f]? = some fn) (hb : fn.body = some c) (hname : (fn.name == "runtime.NumGoroutine") = false) (hm : P.follows .mixedOrders = true)
    (hcon : ∀ f T, con f = some T → Known P gl f T) (hl : LAll { P := P, con := con, glob := gl, m := m, loops := loops } c) : Known P gl f (fun args regs => if regs.length = m then nfun P gl con loops fn args regs else .fail) :=
  known_of hf hb hname hm fun args regs R h => by
    by_cases e : regs.length = m
    · rw [if_pos e] at h
      exact ⟨con, loops, hcon, e ▸ hl, h⟩
    · rw [if_neg e] at h
      exact h.elim
/-- A function that takes m regions, with its loops. -/
theorem known_loopsF {P : Program} {gl : List Nat} {f : FuncId} {fn : Func} {c : Code} {con : FuncId → Option Con} {loops : List (Nat × List Nat × (St → Tr (NExit × St)))} (m : Nat) (hf : P.funcs[f]? = some fn) (hb : fn.body = some c) (hname : (fn.name == "runtime.NumGoroutine") = false) (hm : P.follows .mixedOrders = true)
    (hcon : ∀ f T, con f = some T → Known P gl f T) (hl : LAll { P := P, con := con, glob := gl, m := m, loops := loops } c) : KnownF P gl f (fun args regs => if regs.length = m then nfun P gl con loops fn args regs else .fail) :=
  known_ofF hf hb hname hm fun args regs R h => by
    by_cases e : regs.length = m
    · rw [if_pos e] at h
      exact ⟨con, loops, hcon, e ▸ hl, h⟩
    · rw [if_neg e] at h
      exact h.elim
theorem KnownF.less {P : Program} {gl : List Nat} {f : FuncId} {T T' : Con} (hk : KnownF P gl f T) (h : ∀ args regs R, (T' args regs).run R → (T args regs).run R) : KnownF P gl f T' :=
  ⟨hk.goes, fun args regs R hr => hk.sound args regs R (h args regs R hr)⟩
/-- A tree may be put in another one's place, where it says enough. -/
theorem Known.less {P : Program} {gl : List Nat} {f : FuncId} {T T' : Con} (hk : Known P gl f T) (h : ∀ args regs R, (T' args regs).run R → (T args regs).run R) : Known P gl f T' :=
  ⟨hk.goes, fun args regs R hr => hk.sound args regs R (h args regs R hr)⟩
theorem con_none {P : Program} {gl : List Nat} : ∀ (f : FuncId) (T : Con), (fun _ => Option.none : FuncId → Option Con) f = some T → Known P gl f T := fun _ _ h => by cases h
theorem globOk_nil (Γ : Env) : GlobOk [] Γ := ⟨(fun x hx => by cases hx), (fun x hx => by cases hx)⟩
theorem int_rel (Γ : Env) (k : IntKind) (n : Int) : VRel Γ (.c (.i k n)) (.int k n) := ⟨rfl, rfl⟩
theorem ints_rel (Γ : Env) (k : IntKind) (l : List Int) : VRel Γ (.ag (l.map (.i k))) (.agg (l.map (.int k)).toArray) := ⟨_, rfl, R2.self_map _ _ l fun _ => ⟨rfl, rfl⟩⟩
theorem bool_rel (Γ : Env) (b : Bool) : VRel Γ (.c (.b b)) (.bool b) := ⟨rfl, rfl⟩
theorem string_rel (Γ : Env) (s : ByteArray) : VRel Γ (.c (.s s)) (.string s) := ⟨rfl, rfl⟩

end Go.Nx
namespace Go.Nx
open Go

/-- What a place of a shape holds. -/
inductive Leaf where
  | i (n : Int)
  | b (x : Bool)
  | s (z : ByteArray)
  | l (xs : List Int)
  | r (xs : List (List Sc))
  | n (k : Nat)
/-- A place's shape. -/
inductive Pat where
  | dead
  | i (k : IntKind)
  | b
  | s
  | l (k : IntKind)
  | lr (ks : List CK)
  | h (r off : Nat)
  | p (r i c : Nat)
  | sn
  | pn
  | en
  | rs (ks : List CK) (n : Nat)
  | is (k : IntKind) (n : Nat)
  | ag (ks : List CK)
/-- A stretch's shape. -/
inductive SPat where
  | cells (l : List Pat)
  | ints (k : IntKind) (n : Nat)
  | recs (ks : List CK) (n : Nat)
inductive RPat where
  | gone
  | ints (st : Nat) (e : TypeId) (k : IntKind)
  | recs (st : Nat) (e : TypeId) (ks : List CK)
  | cells (st : Nat) (e : TypeId) (l : List Pat)
  | sg (st : Nat) (e : TypeId) (l : List SPat)

def Pat.readC : Pat → NC → Option (List Leaf)
  | .i k, .i k' n => if k = k' then some [.i n] else none
  | .b, .b x => some [.b x]
  | .s, .s z => some [.s z]
  | .l k, .l k' xs => if k = k' then some [.l xs] else none
  | .lr ks, .lr ks' xs => if ks = ks' then some [.r xs] else none
  | .h r o, .h r' o' n => if r = r' ∧ o = o' then some [.n n] else none
  | .p r j c, .p r' j' c' => if r = r' ∧ j = j' ∧ c = c' then some [] else none
  | .sn, .sn => some []
  | .pn, .pn => some []
  | .en, .en => some []
  | _, _ => none
def Pat.makeC : Pat → List Leaf → NC
  | .i k, .i n :: _ => .i k n
  | .b, .b x :: _ => .b x
  | .s, .s z :: _ => .s z
  | .l k, .l xs :: _ => .l k xs
  | .lr ks, .r xs :: _ => .lr ks xs
  | .h r o, .n n :: _ => .h r o n
  | .p r j c, _ => .p r j c
  | .sn, _ => .sn
  | .pn, _ => .pn
  | _, _ => .en
def Pat.size : Pat → Nat
  | .i _ | .b | .s | .l _ | .lr _ | .h _ _ | .rs _ _ | .is _ _ | .ag _ => 1
  | _ => 0
theorem Pat.readC_spec {p : Pat} {x : NC} {l : List Leaf} (h : p.readC x = some l) : l.length = p.size ∧ ∀ m, p.makeC (l ++ m) = x := by
  unfold Pat.readC at h
  split at h
  all_goals first
    | (cases h; done)
    | (cases h; exact ⟨rfl, fun _ => rfl⟩)
    | (split at h
       · rename_i e
         cases h
         first
           | (subst e; exact ⟨rfl, fun _ => rfl⟩)
           | (obtain ⟨rfl, rfl⟩ := e; exact ⟨rfl, fun _ => rfl⟩)
           | (obtain ⟨rfl, rfl, rfl⟩ := e; exact ⟨rfl, fun _ => rfl⟩)
       · cases h)
def Pat.readS : Pat → NS → Option (List Leaf)
  | .dead, .dead => some []
  | q, .v (.c x) => q.readC x
  | .rs ks n, .v (.sg [.recs ks' n' xs]) => if ks = ks' ∧ n = n' then some [.r xs] else none
  | .is k n, .v (.sg [.ints k' n' xs]) => if k = k' ∧ n = n' then some [.l xs] else none
  | .ag ks, .v (.ag xs) => (match toRow ks xs with
    | some row => some [.r [row]]
    | none => none)
  | _, _ => none
def Pat.makeS : Pat → List Leaf → NS
  | .dead, _ => .dead
  | .rs ks n, .r xs :: _ => .v (.sg [.recs ks n xs])
  | .is k n, .l xs :: _ => .v (.sg [.ints k n xs])
  | .ag ks, .r [row] :: _ => .v (.ag (rowCells ks row))
  | q, ls => .v (.c (q.makeC ls))
theorem Pat.readS_spec {p : Pat} {x : NS} {l : List Leaf} (h : p.readS x = some l) : l.length = p.size ∧ ∀ m, p.makeS (l ++ m) = x := by
  by_cases hd : p = .dead
  · subst hd
    cases x with
    | dead => cases h; exact ⟨rfl, fun _ => rfl⟩
    | tu l => simp [Pat.readS] at h
    | v y =>
      cases y with
      | c y => simp [Pat.readS, Pat.readC] at h
      | ag y => simp [Pat.readS] at h
      | sg y => simp [Pat.readS] at h
  · cases x with
    | dead => cases p <;> simp [Pat.readS] at h hd
    | tu l => cases p <;> simp [Pat.readS] at h
    | v y =>
      cases y with
      | ag y =>
        cases p
        case ag ks =>
          simp only [Pat.readS] at h
          split at h
          · rename_i row hr
            cases h
            exact ⟨rfl, fun m => by rw [toRow_nc hr]; rfl⟩
          · cases h
        all_goals simp [Pat.readS] at h
      | sg y =>
        unfold Pat.readS at h
        split at h
        case h_3 heq => cases heq; split at h <;> first | (rename_i e; obtain ⟨rfl, rfl⟩ := e; cases h; exact ⟨rfl, fun _ => rfl⟩) | cases h
        case h_4 heq => cases heq; split at h <;> first | (rename_i e; obtain ⟨rfl, rfl⟩ := e; cases h; exact ⟨rfl, fun _ => rfl⟩) | cases h
        all_goals first | (cases h; done) | (rename_i heq; cases heq; done) | (rename_i heq _; cases heq; done) | (simp_all; done)
      | c y =>
        have h' : p.readC y = some l := by cases p <;> first | exact h | exact (hd rfl).elim
        obtain ⟨h1, h2⟩ := Pat.readC_spec h'
        refine ⟨h1, fun m => ?_⟩
        rw [← h2 m]
        cases p <;> first | rfl | exact (hd rfl).elim | (simp [Pat.readC] at h'; done)
def readL {α : Type} (rd : Pat → α → Option (List Leaf)) : List Pat → List α → Option (List Leaf)
  | [], [] => some []
  | p :: ps, x :: xs => match rd p x, readL rd ps xs with
    | some a, some b => some (a ++ b)
    | _, _ => none
  | _, _ => none
def makeL {α : Type} (mk : Pat → List Leaf → α) : List Pat → List Leaf → List α
  | [], _ => []
  | p :: ps, l => mk p l :: makeL mk ps (l.drop p.size)
theorem readL_spec {α : Type} {rd : Pat → α → Option (List Leaf)} {mk : Pat → List Leaf → α} (hs : ∀ p x l, rd p x = some l → l.length = p.size ∧ ∀ m, mk p (l ++ m) = x) :
    ∀ {ps : List Pat} {xs : List α} {l : List Leaf}, readL rd ps xs = some l → makeL mk ps l = xs
  | [], [], l, _ => rfl
  | [], _ :: _, _, h => by simp [readL] at h
  | _ :: _, [], _, h => by simp [readL] at h
  | p :: ps, x :: xs, l, h => by
    simp only [readL] at h
    split at h
    · rename_i a b h1 h2
      cases h
      obtain ⟨h3, h4⟩ := hs p x a h1
      have h5 := readL_spec hs h2
      simp only [makeL, h4 b, ← h3, List.drop_left, h5]
    · cases h
def SPat.read : SPat → Seg → Option (List Leaf)
  | .cells ps, .cells xs => readL Pat.readC ps xs
  | .ints k n, .ints k' n' xs => if k = k' ∧ n = n' then some [.l xs] else none
  | .recs ks n, .recs ks' n' xs => if ks = ks' ∧ n = n' then some [.r xs] else none
  | _, _ => none
def SPat.size : SPat → Nat
  | .cells ps => (ps.map Pat.size).sum
  | _ => 1
def SPat.make : SPat → List Leaf → Seg
  | .cells ps, l => .cells (makeL Pat.makeC ps l)
  | .ints k n, .l xs :: _ => .ints k n xs
  | .recs ks n, .r xs :: _ => .recs ks n xs
  | _, _ => .cells []
theorem makeL_app {α : Type} {rd : Pat → α → Option (List Leaf)} {mk : Pat → List Leaf → α} (hs : ∀ p x l, rd p x = some l → l.length = p.size ∧ ∀ m, mk p (l ++ m) = x) :
    ∀ {ps : List Pat} {xs : List α} {l : List Leaf}, readL rd ps xs = some l → l.length = (ps.map Pat.size).sum ∧ ∀ m, makeL mk ps (l ++ m) = xs
  | [], [], l, h => by simp [readL] at h; subst h; exact ⟨rfl, fun _ => rfl⟩
  | [], _ :: _, _, h => by simp [readL] at h
  | _ :: _, [], _, h => by simp [readL] at h
  | p :: ps, x :: xs, l, h => by
    simp only [readL] at h
    split at h
    · rename_i a b h1 h2
      cases h
      obtain ⟨h3, h4⟩ := hs p x a h1
      obtain ⟨h5, h6⟩ := makeL_app hs h2
      refine ⟨by simp [h3, h5], fun m => ?_⟩
      simp only [makeL, List.append_assoc, h4, ← h3, List.drop_left, h6]
    · cases h
theorem SPat.read_spec {p : SPat} {x : Seg} {l : List Leaf} (h : p.read x = some l) : l.length = p.size ∧ ∀ m, p.make (l ++ m) = x := by
  unfold SPat.read at h
  split at h
  · obtain ⟨h1, h2⟩ := makeL_app (fun p x l h => Pat.readC_spec h) h
    exact ⟨h1, fun m => by simp only [SPat.make, h2]⟩
  · split at h
    · rename_i e; obtain ⟨rfl, rfl⟩ := e; cases h; exact ⟨rfl, fun _ => rfl⟩
    · cases h
  · split at h
    · rename_i e; obtain ⟨rfl, rfl⟩ := e; cases h; exact ⟨rfl, fun _ => rfl⟩
    · cases h
  · cases h
def readSegs : List SPat → List Seg → Option (List Leaf)
  | [], [] => some []
  | p :: ps, x :: xs => match p.read x, readSegs ps xs with
    | some a, some b => some (a ++ b)
    | _, _ => none
  | _, _ => none
def makeSegs : List SPat → List Leaf → List Seg
  | [], _ => []
  | p :: ps, l => p.make l :: makeSegs ps (l.drop p.size)
theorem readSegs_spec : ∀ {ps : List SPat} {xs : List Seg} {l : List Leaf}, readSegs ps xs = some l → makeSegs ps l = xs
  | [], [], l, h => by simp [readSegs] at h; subst h; rfl
  | [], _ :: _, _, h => by simp [readSegs] at h
  | _ :: _, [], _, h => by simp [readSegs] at h
  | p :: ps, x :: xs, l, h => by
    simp only [readSegs] at h
    split at h
    · rename_i a b h1 h2
      cases h
      obtain ⟨h3, h4⟩ := SPat.read_spec h1
      simp only [makeSegs, h4 b, ← h3, List.drop_left, readSegs_spec h2]
    · cases h
def RPat.read : RPat → Option Reg → Option (List Leaf)
  | .gone, none => some []
  | .ints st e k, some { st := st', e := e', body := .ints k' xs } => if st = st' ∧ e = e' ∧ k = k' then some [.l xs] else none
  | .recs st e ks, some { st := st', e := e', body := .recs ks' xs } => if st = st' ∧ e = e' ∧ ks = ks' then some [.r xs] else none
  | .cells st e ps, some { st := st', e := e', body := .cells xs } => if st = st' ∧ e = e' then readL Pat.readC ps xs else none
  | .sg st e ps, some { st := st', e := e', body := .sg l } => if st = st' ∧ e = e' then readSegs ps l else none
  | _, _ => none
def RPat.make : RPat → List Leaf → Option Reg
  | .ints st e k, .l xs :: _ => some { st := st, e := e, body := .ints k xs }
  | .recs st e ks, .r xs :: _ => some { st := st, e := e, body := .recs ks xs }
  | .cells st e ps, l => some { st := st, e := e, body := .cells (makeL Pat.makeC ps l) }
  | .sg st e ps, l => some { st := st, e := e, body := .sg (makeSegs ps l) }
  | _, _ => none
theorem RPat.read_spec {p : RPat} {x : Option Reg} {l : List Leaf} (h : p.read x = some l) : p.make l = x := by
  unfold RPat.read at h
  split at h
  · cases h; rfl
  · split at h
    · rename_i e; obtain ⟨rfl, rfl, rfl⟩ := e; cases h; rfl
    · cases h
  · split at h
    · rename_i e; obtain ⟨rfl, rfl, rfl⟩ := e; cases h; rfl
    · cases h
  · split at h
    · rename_i e
      obtain ⟨rfl, rfl⟩ := e
      simp only [RPat.make, readL_spec (fun p x l h => Pat.readC_spec h) h]
    · cases h
  · split at h
    · rename_i e
      obtain ⟨rfl, rfl⟩ := e
      simp only [RPat.make, readSegs_spec h]
    · cases h
  · cases h
def readRg : List RPat → List (Option Reg) → Option (List (List Leaf))
  | [], [] => some []
  | p :: ps, x :: xs => match p.read x, readRg ps xs with
    | some a, some b => some (a :: b)
    | _, _ => none
  | _, _ => none
def makeRg : List RPat → List (List Leaf) → List (Option Reg)
  | p :: ps, l :: ls => p.make l :: makeRg ps ls
  | _, _ => []
theorem readRg_spec : ∀ {ps : List RPat} {xs : List (Option Reg)} {l : List (List Leaf)}, readRg ps xs = some l → makeRg ps l = xs
  | [], [], l, h => by simp [readRg] at h; subst h; rfl
  | [], _ :: _, _, h => by simp [readRg] at h
  | _ :: _, [], _, h => by simp [readRg] at h
  | p :: ps, x :: xs, l, h => by
    simp only [readRg] at h
    split at h
    · rename_i a b h1 h2
      cases h
      simp only [makeRg, RPat.read_spec h1, readRg_spec h2]
    · cases h

/-- The shapes of n slots: these, else dead. -/
def pats (n : Nat) (l : List (Nat × Pat)) : List Pat := (List.range n).map fun j => match l.find? (·.1 == j) with
  | some x => x.2
  | none => .dead
/-- A state of a shape. -/
def mkSt (fp : List Pat) (rp : List RPat) (x : List Leaf × List (List Leaf)) : St := { fr := makeL Pat.makeS fp x.1, rg := makeRg rp x.2 }
/-- A loop that is known by what it does from states of a shape. -/
def sumP (fp : List Pat) (rp : List RPat) (f : List Leaf × List (List Leaf) → Tr (NExit × St)) (s : St) : Tr (NExit × St) :=
  match readL Pat.readS fp s.fr, readRg rp s.rg with
  | some a, some b => f (a, b)
  | _, _ => .fail
theorem sumP_ok {X : Cx} (hcon : ∀ f T, X.con f = some T → Known X.P X.glob f T) (hm : X.P.follows .mixedOrders = true) {id : Nat} {body : Code} (hl : LAll X body) (live out : List Nat) (fp : List Pat) (rp : List RPat) (f : List Leaf × List (List Leaf) → Tr (NExit × St)) (μ : List Leaf × List (List Leaf) → Nat)
    (round : ∀ a R, (f a).run R → (roundT X id live out body (mkSt fp rp a)).run fun o => match o with
      | .next s => ∃ b, s = mkSt fp rp b ∧ μ b < μ a ∧ (f b).run R
      | .done e s => R (e, s)) : LOk X.P X.glob X.m id body (sumP fp rp f) := by
  refine loop_ok hcon hm hl live out (mkSt fp rp) μ (fun a R => (f a).run R) (fun s R h => ?_) round
  unfold sumP at h
  split at h
  · rename_i a b h1 h2
    refine ⟨(a, b), ?_, h⟩
    unfold mkSt
    rw [readL_spec (fun p x l h => Pat.readS_spec h) h1, readRg_spec h2]
  · exact h.elim

theorem LAll.two {X : Cx} {c : Code} {i1 i2 : Nat} {b1 b2 : Code} {l1 l2 : List Nat} {L1 L2 : St → Tr (NExit × St)} (hl : loopsIn c = [(i1, b1), (i2, b2)]) (hx : X.loops = [(i1, l1, L1), (i2, l2, L2)]) (hne : i1 ≠ i2)
    (h1 : LOk X.P X.glob X.m i1 b1 L1) (h2 : LOk X.P X.glob X.m i2 b2 L2) (hr : rangesIn c = [] := by kernel_rfl) : LAll X c :=
  LAll.list hl (hr := hr) fun p hp x hf => by
    rw [hx] at hf
    rcases List.mem_cons.1 hp with e | hp
    · subst e
      simp at hf
      subst hf
      exact h1
    · rw [List.mem_singleton] at hp
      subst hp
      have : (i1 == i2) = false := by simpa using hne
      simp [this] at hf
      subst hf
      exact h2

end Go.Nx
namespace Go.Nx
open Go

/-- The contracts of a list of functions. -/
def conOf : List (FuncId × Con) → FuncId → Option Con
  | [], _ => Option.none
  | x :: l, f => if x.1 = f then some x.2 else conOf l f
/-- Each of a list is known. -/
inductive Knowns (P : Program) (gl : List Nat) : List (FuncId × Con) → Prop where
  | nil : Knowns P gl []
  | cons {f : FuncId} {T : Con} {l : List (FuncId × Con)} : Known P gl f T → Knowns P gl l → Knowns P gl ((f, T) :: l)
theorem Knowns.get {P : Program} {gl : List Nat} {l : List (FuncId × Con)} (h : Knowns P gl l) : ∀ f T, conOf l f = some T → Known P gl f T := by
  induction h with
  | nil => intro f T h; cases h
  | @cons g U l hk _ ih =>
    intro f T h
    simp only [conOf] at h
    by_cases e : g = f
    · rw [if_pos e] at h
      injection h with h
      subst h e
      exact hk
    · rw [if_neg e] at h
      exact ih f T h
end Go.Nx
namespace Go.Nx
open Go Go.RowKit

theorem below_of {w w' : World} {er : Nat → Option Value} {Γ' : Env} {rg : List (Option Reg)} (hE : Ext (topEnv w er) w Γ') (hw : WRel Γ' rg w') (hd : Wd w w') : Below w.heap.size w w' := by
  refine ⟨hd.os, hd.tape, hd.output, hd.size, fun i hi => ?_⟩
  have h1 : w.heap[i]? = some w.heap[i] := Array.getElem?_eq_getElem hi
  have h2 : w'.heap[i]? = some w.heap[i] := hw.kp i _ (hE.le.kp i _ h1)
  rw [h1, h2]
/-- A law: it returns true. -/
theorem Known.lawB {P : Program} {gl : List Nat} {f : FuncId} {T : Con} (hk : Known P gl f T) {args : List NV} {vs : List Value} {w : World} (er : Nat → Option Value) (hG : GlobOk gl (topEnv w er)) (hargs : R2 (VRel (topEnv w er)) args vs) (h : Holds (T args []) fun o => o.res = .v (.c (.b true))) :
    Calls P f vs.toArray w fun e w' => e = .returned (.bool true) ∧ Below w.heap.size w w' := by
  refine (hk.sound args [] _ h.run (topEnv w er) w vs (topEnv_w w er) hG hargs (fun _ _ => rfl)).mono ?_
  rintro e w' ⟨o, v, Γ', h1, rfl, h3, h4, h5, h6⟩
  rw [h1] at h4
  obtain ⟨h4, -⟩ := h4
  have h4' : v = .bool true := h4
  exact ⟨by rw [h4'], below_of h3 h5 h6⟩
/-- What is told of a slice of integers that came in. -/
def ArgRow (k : IntKind) (w : World) (a : Option Addr) (len cap : Nat) (zs : List Int) : Prop :=
  (a = none ∧ len = 0 ∧ cap = 0 ∧ zs = []) ∨
  ∃ x, a = some x ∧ len ≤ cap ∧ cap ≤ maxLen ∧ zs.length = cap ∧ (∀ i, i < zs.length → w.cell? (x.add i) = some (.int k (zs.getD i 0))) ∧ ∀ n ∈ zs, (Lit.int k n).wf = true
theorem row_rel {k : IntKind} {w : World} {a : Option Addr} {len cap : Nat} {zs : List Int} (er : Nat → Option Value) (h : ArgRow k w a len cap zs) :
    ∃ xs : List Int, xs.length = len ∧ (∀ n ∈ xs, (Lit.int k n).wf = true) ∧ VRel (topEnv w er) (.c (.l k xs)) (.slice a len cap) := by
  rcases h with ⟨rfl, rfl, rfl, -⟩ | ⟨x, rfl, hl, -, hz, hcell, hwf⟩
  · exact ⟨[], rfl, by simp, ⟨none, 0, rfl, Nat.le_refl _, .inl rfl⟩, rfl⟩
  · have hlen : (zs.take len).length = len := by rw [List.length_take]; omega
    refine ⟨zs.take len, hlen, fun n hn => hwf n (List.mem_of_mem_take hn), ⟨some x, cap, by rw [hlen], by rw [hlen]; exact hl, ?_⟩, rfl⟩
    by_cases h0 : len = 0
    · left; rw [h0]; rfl
    · right
      have c0 := hcell 0 (by omega)
      have e0 : x.add 0 = x := rfl
      rw [e0] at c0
      obtain ⟨blk, off, spot⟩ := x
      unfold World.cell? at c0
      split at c0
      · rename_i c e fz hb
        have hsp : spot = none := by
          cases spot with
          | none => rfl
          | some n => simp at c0
        subst hsp
        refine ⟨blk, off, rfl, ?_, c, e, fz, hb, fun j u hj => ?_⟩
        · have : blk < w.heap.size := by
            rw [Array.getElem?_eq_some_iff] at hb
            exact hb.1
          simpa [topEnv] using this
        · rw [List.getElem?_map] at hj
          have hjl : j < len := by
            apply Classical.byContradiction
            intro hn
            rw [List.getElem?_eq_none (by omega)] at hj
            simp at hj
          rw [List.getElem?_take_of_lt hjl] at hj
          have hjz : j < zs.length := by omega
          have cj := hcell j hjz
          rw [List.getElem?_eq_getElem hjz] at hj
          simp only [Option.map_some, Option.some.injEq] at hj
          rw [List.getD_eq_getElem?_getD, List.getElem?_eq_getElem hjz] at cj
          simp only [Option.getD_some] at cj
          rw [hj] at cj
          unfold World.cell? Addr.add at cj
          by_cases hj0 : j = 0
          · subst hj0
            rw [if_pos rfl] at cj
            simp only [hb] at cj
            simpa using cj
          · rw [if_neg hj0] at cj
            simp only [hb] at cj
            simpa using cj
      · cases c0
end Go.Nx
namespace Go.Nx
open Go Go.RowKit

/-- What is told of a slice of bools that came in. -/
def ArgBools (w : World) (a : Option Addr) (len cap : Nat) (xs : List Bool) : Prop :=
  (a = none ∧ len = 0 ∧ cap = 0 ∧ xs = []) ∨ ∃ x, a = some x ∧ xs.length = len ∧ len ≤ cap ∧ ∀ i < len, w.cell? (x.add i) = some (.bool (xs.getD i false))
theorem cells_one {w : World} {base : Nat} {x : Addr} {c1 : List Value} (h : w.cells? base x 1 = some c1) : ∃ c, c1 = [c] ∧ w.cell? x = some c := by
  have e0 : x.add 0 = x := by simp [Addr.add]
  unfold World.cells? at h
  split at h
  · simp only [List.range_succ, List.range_zero, List.nil_append, List.mapM_cons, List.mapM_nil, e0] at h
    cases hcc : w.cell? x with
    | none => simp [hcc] at h
    | some c => simp [hcc] at h; exact ⟨c, h.symm, rfl⟩
  · cases h
theorem bools_of {H : Type} {enc : TypeId × Value → H} {P : Program} {w : World} {base : Nat} {spare : Nat → Bool} {held : Bool} {t e : TypeId} {fuel : Nat} {a : Option Addr} {len cap : Nat} {x : DataW H × List MemPlace}
    (ht : P.underlying t = some (.slice e)) (he : P.underlying e = some .bool) (hc : P.cellsOf e = 1) (h : DataW.trod enc P w base spare held fuel t [.slice a len cap] = some x) : ∃ xs : List Bool, ArgBools w a len cap xs := by
  rcases DataW.trod_slice ht h with ⟨hcs, _⟩ | ⟨a', len', cap', elems, rest, n, _, hcs, _, _, hl, _, hlen, hel, _⟩
  · simp at hcs
    obtain ⟨rfl, rfl, rfl⟩ := hcs
    exact ⟨[], .inl ⟨rfl, rfl, rfl, rfl⟩⟩
  · simp at hcs
    obtain ⟨rfl, rfl, rfl⟩ := hcs
    refine ⟨(List.range len).map fun i => (match w.cell? (a'.add i) with | some (.bool b) => b | _ => false), .inr ⟨a', rfl, by simp, hl, fun i hi => ?_⟩⟩
    have hE := hel i hi
    rw [hc, Nat.mul_one, List.getElem?_eq_getElem (by omega : i < elems.length)] at hE
    simp only [Option.bind_eq_some_iff] at hE
    obtain ⟨c1, hc1, hy1⟩ := hE
    obtain ⟨c, rfl, hcell⟩ := cells_one hc1
    obtain ⟨b, hb, _⟩ := DataW.trod_bool he hy1
    simp at hb
    subst hb
    rw [hcell, List.getD_eq_getElem?_getD, List.getElem?_map, List.getElem?_range hi]
    simp [hcell]
def bRows (xs : List Bool) : List (List Sc) := xs.map fun x => [.b x]
theorem rowsV_b : ∀ xs : List Bool, rowsV [.b] (bRows xs) = xs.map .bool
  | [] => rfl
  | x :: xs => by
    show rowVals [.b] [.b x] ++ rowsV [.b] (bRows xs) = _
    rw [rowsV_b xs]
    rfl
theorem bools_rel {w : World} {a : Option Addr} {len cap : Nat} {xs : List Bool} (er : Nat → Option Value) (h : ArgBools w a len cap xs) : VRel (topEnv w er) (.c (.lr [.b] (bRows xs))) (.slice a len cap) := by
  have hbl : (bRows xs).length = xs.length := by simp [bRows]
  rcases h with ⟨rfl, rfl, rfl, rfl⟩ | ⟨x, rfl, hlen, hl, hcell⟩
  · exact ⟨⟨none, 0, rfl, Nat.le_refl _, by decide, .inl rfl⟩, rfl⟩
  · refine ⟨⟨some x, cap, by rw [hbl, hlen], by rw [hbl, hlen]; exact hl, by decide, ?_⟩, rfl⟩
    by_cases h0 : len = 0
    · left
      have : xs = [] := List.length_eq_zero_iff.1 (by omega)
      rw [this]; rfl
    · right
      have c0 := hcell 0 (by omega)
      have e0 : x.add 0 = x := rfl
      rw [e0] at c0
      obtain ⟨blk, off, spot⟩ := x
      unfold World.cell? at c0
      split at c0
      · rename_i c e fz hb
        have hsp : spot = none := by
          cases spot with
          | none => rfl
          | some n => simp at c0
        subst hsp
        refine ⟨blk, off, rfl, ?_, c, e, fz, hb, fun j u hj => ?_⟩
        · have : blk < w.heap.size := by
            rw [Array.getElem?_eq_some_iff] at hb
            exact hb.1
          simpa [topEnv] using this
        · rw [rowsV_b, List.getElem?_map] at hj
          have hjl : j < xs.length := by
            apply Classical.byContradiction
            intro hn
            rw [List.getElem?_eq_none (by omega)] at hj
            simp at hj
          have cj := hcell j (by omega)
          rw [List.getElem?_eq_getElem hjl] at hj
          simp only [Option.map_some, Option.some.injEq] at hj
          rw [List.getD_eq_getElem?_getD, List.getElem?_eq_getElem hjl] at cj
          simp only [Option.getD_some] at cj
          rw [hj] at cj
          unfold World.cell? Addr.add at cj
          by_cases hj0 : j = 0
          · subst hj0
            rw [if_pos rfl] at cj
            simp only [hb] at cj
            simpa using cj
          · rw [if_neg hj0] at cj
            simp only [hb] at cj
            simpa using cj
      · cases c0
end Go.Nx
namespace Go.Nx
open Go Go.RowKit Go.ChangeShapes Go.WideShapes Go.ChangeAt
open Go.ChangeMaps (open_string)

/-! ### cells of plain data -/
def okSc : CK → Sc → Prop
  | .i k, .i n => (Lit.int k n).wf = true
  | .b, .b _ => True
  | _, _ => False
/-- A cell of a kind. -/
def CV (k : CK) (v : Value) : Prop := ∃ s, v = ckVal k s ∧ okSc k s
def rowOk (ks : List CK) (row : List Sc) : Prop := R2 okSc ks row
theorem CV.row {ks : List CK} {cs : List Value} (h : R2 CV ks cs) : ∃ row, cs = rowVals ks row ∧ rowOk ks row := by
  induction h with
  | nil => exact ⟨[], rfl, .nil⟩
  | @cons k v ks cs h _ ih =>
    obtain ⟨s, rfl, hs⟩ := h
    obtain ⟨row, rfl, hr⟩ := ih
    exact ⟨s :: row, by simp [rowVals, rowFrom, rowFrom_shift], .cons hs hr⟩
/-- The kinds of a type's cells, if these are numbers and bools. -/
def ksFs (rec : TypeId → Option (List CK)) (co : TypeId → Nat) : Nat → List Field → Option (List CK)
  | _, [] => some []
  | off, f :: fs =>
    match rec f.type, ksFs rec co (off + co f.type) fs with
    | some a, some b => if f.offset = off ∧ a.length = co f.type then some (a ++ b) else none
    | _, _ => none
def ksT (P : Program) : Nat → TypeId → Option (List CK)
  | 0, _ => none
  | n + 1, t =>
    match P.underlying t with
    | some (.int k) => some [.i k]
    | some .bool => some [.b]
    | some (.struct fs) => (match ksFs (ksT P n) P.cellsOf 0 fs.toList with
      | some ks => if ks.length = P.cellsOf t then some ks else none
      | none => none)
    | some (.array m e) => (match ksT P n e with
      | some ks => if ks.length = P.cellsOf e ∧ m * ks.length = P.cellsOf t then some ((List.replicate m ks).flatten) else none
      | none => none)
    | _ => none
section
variable {H : Type} {enc : TypeId × Value → H} {P : Program} {w : World} {base : Nat} {sp : Nat → Bool} {held : Bool}
theorem mapM_cons_some {α β : Type} {f : α → Option β} {a : α} {l : List α} {r : List β} (h : (a :: l).mapM f = some r) : ∃ b r', f a = some b ∧ l.mapM f = some r' ∧ r = b :: r' := by
  rw [List.mapM_cons] at h
  cases hb : f a with
  | none => rw [hb] at h; cases h
  | some b =>
    cases hr : l.mapM f with
    | none => rw [hb, hr] at h; cases h
    | some r' => rw [hb, hr] at h; cases h; exact ⟨b, r', rfl, rfl, rfl⟩
theorem ksFs_cells {n m : Nat} (ih : ∀ {t : TypeId} {ks : List CK} {cs : List Value} {x : DataW H × List MemPlace}, ksT P n t = some ks → DataW.trod enc P w base sp held m t cs = some x → R2 CV ks cs) {cs : List Value} :
    ∀ {fs : List Field} {off : Nat} {ks : List CK} {xs : List (DataW H × List MemPlace)}, ksFs (ksT P n) P.cellsOf off fs = some ks →
      (fs.mapM fun f => DataW.trod enc P w base sp held m f.type ((cs.drop f.offset).take (P.cellsOf f.type))) = some xs → R2 CV ks ((cs.drop off).take ks.length)
  | [], off, ks, xs, h, _ => by simp [ksFs] at h; subst h; simp; exact .nil
  | f :: fs, off, ks, xs, h, hx => by
    simp only [ksFs] at h
    split at h
    · rename_i a b ha hb
      split at h
      · rename_i hc
        cases h
        obtain ⟨y, ys, h1, h2, -⟩ := mapM_cons_some hx
        have r1 := ih ha h1
        have r2 := ksFs_cells ih hb h2
        rw [hc.1, ← hc.2] at r1
        rw [← hc.2] at r2
        have e : (cs.drop off).take (a ++ b).length = (cs.drop off).take a.length ++ (cs.drop (off + a.length)).take b.length := by
          rw [List.length_append, List.take_add, List.drop_drop]
        rw [e]
        exact r1.append r2
      · cases h
    · cases h
theorem ksArr_cells {m e : Nat} {ks : List CK} (ih : ∀ {cs : List Value} {x : DataW H × List MemPlace}, DataW.trod enc P w base sp held m e cs = some x → R2 CV ks cs) (hc : ks.length = P.cellsOf e) {cs : List Value} :
    ∀ {k o : Nat} {xs : List (DataW H × List MemPlace)}, ((List.range' o k).mapM fun i => DataW.trod enc P w base sp held m e ((cs.drop (i * P.cellsOf e)).take (P.cellsOf e))) = some xs →
      R2 CV ((List.replicate k ks).flatten) ((cs.drop (o * P.cellsOf e)).take (k * ks.length))
  | 0, o, xs, _ => by simp; exact .nil
  | k + 1, o, xs, hx => by
    rw [List.range'_succ] at hx
    obtain ⟨y, ys, h1, h2, -⟩ := mapM_cons_some hx
    have r1 := ih h1
    have r2 := ksArr_cells ih hc h2
    rw [← hc] at r1 r2 ⊢
    have e1 : (cs.drop (o * ks.length)).take ((k + 1) * ks.length) = (cs.drop (o * ks.length)).take ks.length ++ (cs.drop ((o + 1) * ks.length)).take (k * ks.length) := by
      rw [show (k + 1) * ks.length = ks.length + k * ks.length by rw [Nat.succ_mul]; omega, List.take_add, List.drop_drop, show o * ks.length + ks.length = (o + 1) * ks.length by rw [Nat.succ_mul]]
    rw [e1, List.replicate_succ, List.flatten_cons]
    exact r1.append r2
theorem ksT_cells : ∀ {n : Nat} {t : TypeId} {ks : List CK} {m : Nat} {cs : List Value} {x : DataW H × List MemPlace}, ksT P n t = some ks → DataW.trod enc P w base sp held m t cs = some x → R2 CV ks cs
  | 0, t, ks, m, cs, x, h, _ => by simp [ksT] at h
  | n + 1, t, ks, 0, cs, x, _, hx => by simp [DataW.trod] at hx
  | n + 1, t, ks, m + 1, cs, x, h, hx => by
    simp only [ksT] at h
    split at h
    · rename_i k hu
      cases h
      obtain ⟨z, rfl, -, hw⟩ := DataW.trod_int hu hx
      exact .cons ⟨.i z, rfl, hw⟩ .nil
    · rename_i hu
      cases h
      obtain ⟨z, rfl, -⟩ := DataW.trod_bool hu hx
      exact .cons ⟨.b z, rfl, trivial⟩ .nil
    · rename_i fs hu
      split at h
      · rename_i ks' hks
        split at h
        · rename_i hl
          cases h
          unfold DataW.trod at hx
          rw [hu] at hx
          simp only at hx
          split at hx
          · rename_i hcs
            cases hm : (fs.toList.mapM fun f => DataW.trod enc P w base sp held m f.type ((cs.drop f.offset).take (P.cellsOf f.type))) with
            | none => rw [hm] at hx; cases hx
            | some xs =>
              have := ksFs_cells (fun {_ _ _ _} a b => ksT_cells a b) hks hm
              rwa [List.drop_zero, List.take_of_length_le (by omega)] at this
          · cases hx
        · cases h
      · cases h
    · rename_i q e hu
      split at h
      · rename_i ks' hks
        split at h
        · rename_i hl
          cases h
          unfold DataW.trod at hx
          rw [hu] at hx
          simp only at hx
          split at hx
          · rename_i hcs
            cases hm : ((List.range q).mapM fun i => DataW.trod enc P w base sp held m e ((cs.drop (i * P.cellsOf e)).take (P.cellsOf e))) with
            | none => rw [hm] at hx; cases hx
            | some xs =>
              rw [List.range_eq_range'] at hm
              have := ksArr_cells (P := P) (fun {_ _} b => ksT_cells hks b) hl.1 hm
              rwa [Nat.zero_mul, List.drop_zero, List.take_of_length_le (by omega)] at this
          · cases hx
        · cases h
      · cases h
    · cases h

end

/-! ### cells of plain data, strings among them -/
/-- Kinds of cells, strings among them. -/
inductive MK where
  | i (k : IntKind)
  | b
  | s
inductive MkOk : MK → NC → Prop
  | i {k : IntKind} {n : Int} : (Lit.int k n).wf = true → MkOk (.i k) (.i k n)
  | b {x : Bool} : MkOk .b (.b x)
  | s {z : ByteArray} : z.size ≤ maxLen → MkOk .s (.s z)
def MV (k : MK) (v : Value) : Prop := ∃ x, MkOk k x ∧ ∀ Γ, CR Γ x v
theorem MV.row (Γ : Env) {ks : List MK} {cs : List Value} (h : R2 MV ks cs) : ∃ xs, R2 MkOk ks xs ∧ R2 (CR Γ) xs cs := by
  induction h with
  | nil => exact ⟨[], .nil, .nil⟩
  | @cons k v ks cs h _ ih =>
    obtain ⟨x, h1, h2⟩ := h
    obtain ⟨xs, h3, h4⟩ := ih
    exact ⟨x :: xs, .cons h1 h3, .cons (h2 Γ) h4⟩
def msFs (rec : TypeId → Option (List MK)) (co : TypeId → Nat) : Nat → List Field → Option (List MK)
  | _, [] => some []
  | off, f :: fs =>
    match rec f.type, msFs rec co (off + co f.type) fs with
    | some a, some b => if f.offset = off ∧ a.length = co f.type then some (a ++ b) else none
    | _, _ => none
def msT (P : Program) : Nat → TypeId → Option (List MK)
  | 0, _ => none
  | n + 1, t =>
    match P.underlying t with
    | some (.int k) => some [.i k]
    | some .bool => some [.b]
    | some .string => some [.s]
    | some (.struct fs) => (match msFs (msT P n) P.cellsOf 0 fs.toList with
      | some ks => if ks.length = P.cellsOf t then some ks else none
      | none => none)
    | _ => none
section
variable {H : Type} {enc : TypeId × Value → H} {P : Program} {w : World} {base : Nat} {sp : Nat → Bool} {held : Bool}
theorem msFs_cells {n m : Nat} (ih : ∀ {t : TypeId} {ks : List MK} {cs : List Value} {x : DataW H × List MemPlace}, msT P n t = some ks → DataW.trod enc P w base sp held m t cs = some x → R2 MV ks cs) {cs : List Value} :
    ∀ {fs : List Field} {off : Nat} {ks : List MK} {xs : List (DataW H × List MemPlace)}, msFs (msT P n) P.cellsOf off fs = some ks →
      (fs.mapM fun f => DataW.trod enc P w base sp held m f.type ((cs.drop f.offset).take (P.cellsOf f.type))) = some xs → R2 MV ks ((cs.drop off).take ks.length)
  | [], off, ks, xs, h, _ => by simp [msFs] at h; subst h; simp; exact .nil
  | f :: fs, off, ks, xs, h, hx => by
    simp only [msFs] at h
    split at h
    · rename_i a b ha hb
      split at h
      · rename_i hc
        cases h
        obtain ⟨y, ys, h1, h2, -⟩ := mapM_cons_some hx
        have r1 := ih ha h1
        have r2 := msFs_cells ih hb h2
        rw [hc.1, ← hc.2] at r1
        rw [← hc.2] at r2
        have e : (cs.drop off).take (a ++ b).length = (cs.drop off).take a.length ++ (cs.drop (off + a.length)).take b.length := by
          rw [List.length_append, List.take_add, List.drop_drop]
        rw [e]
        exact r1.append r2
      · cases h
    · cases h
theorem msT_cells : ∀ {n : Nat} {t : TypeId} {ks : List MK} {m : Nat} {cs : List Value} {x : DataW H × List MemPlace}, msT P n t = some ks → DataW.trod enc P w base sp held m t cs = some x → R2 MV ks cs
  | 0, t, ks, m, cs, x, h, _ => by simp [msT] at h
  | n + 1, t, ks, 0, cs, x, _, hx => by simp [DataW.trod] at hx
  | n + 1, t, ks, m + 1, cs, x, h, hx => by
    simp only [msT] at h
    split at h
    · rename_i k hu
      cases h
      obtain ⟨z, rfl, -, hw⟩ := DataW.trod_int hu hx
      exact .cons ⟨.i k z, .i hw, fun _ => ⟨rfl, rfl⟩⟩ .nil
    · rename_i hu
      cases h
      obtain ⟨z, rfl, -⟩ := DataW.trod_bool hu hx
      exact .cons ⟨.b z, .b, fun _ => ⟨rfl, rfl⟩⟩ .nil
    · rename_i hu
      cases h
      obtain ⟨z, rfl, -, hs⟩ := DataW.trod_string hu hx
      exact .cons ⟨.s z, .s hs, fun _ => ⟨rfl, rfl⟩⟩ .nil
    · rename_i fs hu
      split at h
      · rename_i ks' hks
        split at h
        · rename_i hl
          cases h
          unfold DataW.trod at hx
          rw [hu] at hx
          simp only at hx
          split at hx
          · rename_i hcs
            cases hm : (fs.toList.mapM fun f => DataW.trod enc P w base sp held m f.type ((cs.drop f.offset).take (P.cellsOf f.type))) with
            | none => rw [hm] at hx; cases hx
            | some xs =>
              have := msFs_cells (fun {_ _ _ _} a b => msT_cells a b) hks hm
              rwa [List.drop_zero, List.take_of_length_le (by omega)] at this
          · cases hx
        · cases h
      · cases h
    · cases h
end

/-! ### what came in -/
section
variable {H : Type} {enc : TypeId × Value → H} {P : Program} {w : World} {base : Nat} {sp : Nat → Bool} {held : Bool}
inductive Sh where
  | i (k : IntKind)
  | b
  | s
  | row (k : IntKind)
  | rows (ks : List CK)
  | ag (ks : List CK)
  | mix (ms : List MK)
def shT (P : Program) (t : TypeId) : Option Sh :=
  match P.underlying t with
  | some (.int k) => some (.i k)
  | some .bool => some .b
  | some .string => some .s
  | some (.slice e) => (match ksT P 8 e with
    | some [.i k] => if P.cellsOf e = 1 then some (.row k) else none
    | some ks => if 0 < ks.length ∧ P.cellsOf e = ks.length then some (.rows ks) else none
    | none => none)
  | some (.struct _) => (match ksT P 8 t with
    | some ks => if ks.length = P.cellsOf t then some (.ag ks) else none
    | none => (match msT P 8 t with
      | some ms => some (.mix ms)
      | none => none))
  | some (.array _ _) => (match ksT P 8 t with
    | some ks => if ks.length = P.cellsOf t then some (.ag ks) else none
    | none => none)
  | _ => none
/-- What the shape tells of a value. -/
inductive ShOk : Sh → NV → Prop
  | i {k : IntKind} {n : Int} : (Lit.int k n).wf = true → ShOk (.i k) (.c (.i k n))
  | b {x : Bool} : ShOk .b (.c (.b x))
  | s {z : ByteArray} : z.size ≤ maxLen → ShOk .s (.c (.s z))
  | row {k : IntKind} {xs : List Int} : (∀ n ∈ xs, (Lit.int k n).wf = true) → ShOk (.row k) (.c (.l k xs))
  | rows {ks : List CK} {xs : List (List Sc)} : (∀ r ∈ xs, rowOk ks r) → ShOk (.rows ks) (.c (.lr ks xs))
  | ag {ks : List CK} {row : List Sc} : rowOk ks row → ShOk (.ag ks) (.ag (rowCells ks row))
  | mix {ms : List MK} {xs : List NC} : R2 MkOk ms xs → ShOk (.mix ms) (.ag xs)
theorem mapM_all {α β : Type} {f : α → Option β} : ∀ {l : List α} {r : List β}, l.mapM f = some r → r.length = l.length ∧ ∀ (j : Nat) a y, l[j]? = some a → r[j]? = some y → f a = some y
  | [], r, h => by simp at h; subst h; exact ⟨rfl, fun j a y h => by simp at h⟩
  | a :: l, r, h => by
    obtain ⟨b, r', h1, h2, rfl⟩ := mapM_cons_some h
    obtain ⟨h3, h4⟩ := mapM_all h2
    refine ⟨by simp [h3], fun j c y hc hy => ?_⟩
    cases j with
    | zero => simp at hc hy; subst hc hy; exact h1
    | succ j => simp at hc hy; exact h4 j c y hc hy
theorem cells_get {x : Addr} {n : Nat} {cs : List Value} (h : w.cells? base x n = some cs) : cs.length = n ∧ ∀ j v, cs[j]? = some v → w.cell? (x.add j) = some v := by
  unfold World.cells? at h
  split at h
  · obtain ⟨hl, hg⟩ := mapM_all h
    rw [List.length_range] at hl
    refine ⟨hl, fun j v hj => ?_⟩
    have hjn : j < n := by rw [← hl]; exact (List.getElem?_eq_some_iff.1 hj).1
    exact hg j j v (List.getElem?_range hjn) hj
  · cases h
theorem rows_of {n m : Nat} {e : TypeId} {ks : List CK} {a : Addr} {len : Nat} (hks : ksT P n e = some ks) (hc : P.cellsOf e = ks.length)
    (hel : ∀ i, i < len → ∃ cs x, w.cells? base (a.add (i * P.cellsOf e)) (P.cellsOf e) = some cs ∧ DataW.trod enc P w base sp held m e cs = some x) :
    ∃ xs : List (List Sc), xs.length = len ∧ (∀ r ∈ xs, rowOk ks r) ∧ ∀ j v, (rowsV ks xs)[j]? = some v → w.cell? (a.add j) = some v := by
  induction len with
  | zero => exact ⟨[], rfl, (fun r h => by cases h), (fun j v h => by simp [rowsV] at h)⟩
  | succ len ih =>
    obtain ⟨xs, hl, hok, hcell⟩ := ih fun i hi => hel i (by omega)
    obtain ⟨cs, x, h1, h2⟩ := hel len (by omega)
    obtain ⟨row, rfl, hr⟩ := CV.row (ksT_cells hks h2)
    obtain ⟨h3, h4⟩ := cells_get h1
    refine ⟨xs ++ [row], by simp [hl], fun r hm => ?_, fun j v hj => ?_⟩
    · rcases List.mem_append.1 hm with h | h
      · exact hok r h
      · rw [List.mem_singleton.1 h]; exact hr
    · have e1 : rowsV ks (xs ++ [row]) = rowsV ks xs ++ rowVals ks row := by simp [rowsV]
      rw [e1, List.getElem?_append] at hj
      split at hj
      · exact hcell j v hj
      · rename_i hlt
        rw [rowsV_length, hl] at hlt hj
        have := h4 _ _ hj
        rw [hc] at this
        rw [show j = len * ks.length + (j - len * ks.length) by omega, ← Addr.add_add]
        exact this
theorem roRow_of {a : Addr} {vs : List Value} (er : Nat → Option Value) (h0 : vs ≠ []) (h : ∀ j v, vs[j]? = some v → w.cell? (a.add j) = some v) : ∃ blk off, a = ⟨blk, off, none⟩ ∧ RoRow (topEnv w er) blk off vs := by
  obtain ⟨blk, off, spot⟩ := a
  have hpos : 0 < vs.length := List.length_pos_iff.2 h0
  have c0 := h 0 _ (List.getElem?_eq_getElem hpos)
  have e0 : (⟨blk, off, spot⟩ : Addr).add 0 = ⟨blk, off, spot⟩ := by simp [Addr.add]
  rw [e0] at c0
  unfold World.cell? at c0
  split at c0
  · rename_i c e fz hb
    have hsp : spot = none := by
      cases spot with
      | none => rfl
      | some n => simp at c0
    subst hsp
    refine ⟨blk, off, rfl, ?_, c, e, fz, hb, fun j u hj => ?_⟩
    · have : blk < w.heap.size := by
        rw [Array.getElem?_eq_some_iff] at hb
        exact hb.1
      simpa [topEnv] using this
    · have cj := h j u hj
      unfold World.cell? Addr.add at cj
      by_cases hj0 : j = 0
      · subst hj0
        rw [if_pos rfl] at cj
        simp only [hb] at cj
        simpa using cj
      · rw [if_neg hj0] at cj
        simp only [hb] at cj
        simpa using cj
  · cases c0
theorem rows_of_slice {n m : Nat} {t e : TypeId} {ks : List CK} {a : Option Addr} {len cap : Nat} {x : DataW H × List MemPlace} (er : Nat → Option Value) (hu : P.underlying t = some (.slice e)) (hks : ksT P n e = some ks) (h0 : 0 < ks.length) (hc : P.cellsOf e = ks.length)
    (h : DataW.trod enc P w base sp held m t [.slice a len cap] = some x) :
    ∃ xs : List (List Sc), xs.length = len ∧ len ≤ cap ∧ (∀ r ∈ xs, rowOk ks r) ∧ (xs = [] ∨ ∃ blk off, a = some ⟨blk, off, none⟩ ∧ RoRow (topEnv w er) blk off (rowsV ks xs)) := by
  rcases DataW.trod_slice hu h with ⟨hcs, _⟩ | ⟨a', len', cap', elems, rest, n', _, hcs, _, _, hl, _, hlen, hel, _⟩
  · simp at hcs
    obtain ⟨rfl, rfl, rfl⟩ := hcs
    exact ⟨[], rfl, Nat.le_refl _, (fun r h => by cases h), .inl rfl⟩
  · simp at hcs
    obtain ⟨rfl, rfl, rfl⟩ := hcs
    obtain ⟨xs, h1, h2, h3⟩ := rows_of (H := H) (enc := enc) (w := w) (base := base) (sp := sp) (held := held) (m := n') (a := a') (len := len) hks hc fun i hi => by
      have hE := hel i hi
      rw [List.getElem?_eq_getElem (by omega : i < elems.length)] at hE
      simp only [Option.bind_eq_some_iff] at hE
      obtain ⟨cs, h1, h2⟩ := hE
      exact ⟨cs, _, h1, h2⟩
    refine ⟨xs, h1, hl, h2, ?_⟩
    by_cases hx : xs = []
    · exact .inl hx
    · right
      have hne : rowsV ks xs ≠ [] := by
        intro he
        have hl2 := rowsV_length ks xs
        rw [he] at hl2
        have hp : 0 < xs.length := List.length_pos_iff.2 hx
        have := Nat.mul_pos hp h0
        rw [← hl2] at this
        simp at this
      obtain ⟨blk, off, rfl, hr⟩ := roRow_of er hne h3
      exact ⟨blk, off, rfl, hr⟩
theorem one_ints {k : IntKind} {xs : List (List Sc)} (h : ∀ r ∈ xs, rowOk [.i k] r) : rowsV [.i k] xs = (xs.map fun r => (r.getD 0 (.i 0)).n).map (.int k) ∧ ∀ n ∈ xs.map (fun r => (r.getD 0 (.i 0)).n), (Lit.int k n).wf = true := by
  induction xs with
  | nil => exact ⟨rfl, fun n h => by cases h⟩
  | cons r xs ih =>
    obtain ⟨h1, h2⟩ := ih fun r hr => h r (by simp [hr])
    have hr := h r (by simp)
    cases hr with
    | @cons _ s _ l hs hn =>
      cases hn
      cases s with
      | b x => exact hs.elim
      | i n =>
        refine ⟨?_, fun m hm => ?_⟩
        · have e : rowsV [.i k] ([.i n] :: xs) = [.int k n] ++ rowsV [.i k] xs := by simp [rowsV, rowVals, rowFrom, ckVal, Sc.n]
          rw [e, h1]; rfl
        · rw [List.map_cons, List.mem_cons] at hm
          rcases hm with rfl | hm
          · exact hs
          · exact h2 m hm
theorem open_one {t : TypeId} {v : Value} {d : DataW H} {p : List MemPlace} {sh : Sh} {b0 : Nat} (er : Nat → Option Value) (hsh : shT P t = some sh) (hval : Value.okWide P w .any b0 t v) (h : DataW.Trod enc P w base sp held t v d p) :
    ∃ x, VRel (topEnv w er) x v ∧ ShOk sh x := by
  unfold shT at hsh
  split at hsh
  · rename_i k hu
    cases hsh
    obtain ⟨n, rfl, -, -, hw⟩ := open_int hu hval h
    exact ⟨.c (.i k n), ⟨rfl, rfl⟩, .i hw⟩
  · rename_i hu
    cases hsh
    obtain ⟨n, rfl, -⟩ := open_bool hu hval h
    exact ⟨.c (.b n), ⟨rfl, rfl⟩, .b⟩
  · rename_i hu
    cases hsh
    obtain ⟨n, rfl, -, -, hs⟩ := open_string hu hval h
    exact ⟨.c (.s n), ⟨rfl, rfl⟩, .s hs⟩
  · rename_i e hu
    obtain ⟨a, len, cap, rfl⟩ := okWide_slice hu hval
    obtain ⟨fuel, hf⟩ := h
    have hf' : DataW.trod enc P w base sp held fuel t [.slice a len cap] = some (d, p) := by simpa [Value.cells] using hf
    split at hsh
    · rename_i k hks
      split at hsh
      · rename_i hc
        cases hsh
        obtain ⟨xs, h1, h2, h3, h4⟩ := rows_of_slice er hu hks (by simp) (by simpa using hc) hf'
        obtain ⟨e1, e2⟩ := one_ints h3
        refine ⟨.c (.l k (xs.map fun r => (r.getD 0 (.i 0)).n)), ⟨⟨a, cap, by simp [h1], by simpa [h1] using h2, ?_⟩, rfl⟩, .row e2⟩
        rcases h4 with h4 | ⟨blk, off, h4, h5⟩
        · left; rw [h4]; rfl
        · right; exact ⟨blk, off, h4, by rw [← e1]; exact h5⟩
      · cases hsh
    · rename_i ks _ hks
      split at hsh
      · rename_i hc
        cases hsh
        obtain ⟨xs, h1, h2, h3, h4⟩ := rows_of_slice er hu hks hc.1 hc.2 hf'
        exact ⟨.c (.lr ks xs), ⟨⟨a, cap, by rw [h1], by rw [h1]; exact h2, hc.1, h4⟩, rfl⟩, .rows h3⟩
      · cases hsh
    · cases hsh
  · rename_i fs hu
    split at hsh
    · rename_i ks hks
      split at hsh
      · cases hsh
        simp only [Value.okWide, hu] at hval
        obtain ⟨cs, rfl, -⟩ := hval
        obtain ⟨fuel, hf⟩ := h
        obtain ⟨row, e1, hr⟩ := CV.row (ksT_cells hks hf)
        have e1' : cs.toList = rowVals ks row := by simpa [Value.cells] using e1
        exact ⟨.ag (rowCells ks row), ⟨cs.toList, by simp, by rw [e1']; exact rowCells_rel _ ks row⟩, .ag hr⟩
      · cases hsh
    · split at hsh
      · rename_i ms hms
        cases hsh
        simp only [Value.okWide, hu] at hval
        obtain ⟨cs, rfl, -⟩ := hval
        obtain ⟨fuel, hf⟩ := h
        obtain ⟨xs, h1, h2⟩ := MV.row (topEnv w er) (msT_cells hms hf)
        exact ⟨.ag xs, ⟨cs.toList, by simp, by simpa [Value.cells] using h2⟩, .mix h1⟩
      · cases hsh
  · rename_i q e hu
    split at hsh
    · rename_i ks hks
      split at hsh
      · cases hsh
        simp only [Value.okWide, hu] at hval
        obtain ⟨cs, rfl, -⟩ := hval
        obtain ⟨fuel, hf⟩ := h
        obtain ⟨row, e1, hr⟩ := CV.row (ksT_cells hks hf)
        have e1' : cs.toList = rowVals ks row := by simpa [Value.cells] using e1
        exact ⟨.ag (rowCells ks row), ⟨cs.toList, by simp, by rw [e1']; exact rowCells_rel _ ks row⟩, .ag hr⟩
      · cases hsh
    · cases hsh
  · cases hsh
theorem open_all (er : Nat → Option Value) {b0 : Nat} : ∀ {ts : List TypeId} {shs : List Sh} {vs : List Value} {ds : List (DataW H)} {ps : List MemPlace}, mapL (shT P) ts = some shs → (∀ (j : Nat) t v, ts[j]? = some t → vs[j]? = some v → Value.okWide P w .any b0 t v) →
    DataW.TrodAll enc P w base sp held ts vs ds ps → ∃ xs, R2 (VRel (topEnv w er)) xs vs ∧ R2 ShOk shs xs
  | [], shs, vs, ds, ps, hs, _, h => by
    simp [mapL] at hs
    subst hs
    obtain ⟨rfl, rfl, rfl⟩ := trodAll_nil h
    exact ⟨[], .nil, .nil⟩
  | t :: ts, shs, vs, ds, ps, hs, hval, h => by
    obtain ⟨v, vs', d, ds', p, q, rfl, rfl, rfl, h1, h2⟩ := trodAll_cons h
    simp only [mapL] at hs
    split at hs
    · rename_i a l ha hl
      cases hs
      obtain ⟨x, r1, o1⟩ := open_one er ha (hval 0 t v rfl rfl) h1
      obtain ⟨xs, r2, o2⟩ := open_all er hl (fun j t v ht hv => hval (j + 1) t v ht hv) h2
      exact ⟨x :: xs, .cons r1 r2, .cons o1 o2⟩
    · cases hs
end
theorem stays_all {H : Type} {enc : TypeId × Value → H} {P : Program} {W W' : World} (hl : laidOutB P = true) (hb : Below W.heap.size W W') : ∀ {ts : List TypeId} {vs : List Value} {ds : List (DataW H)} {ps : List MemPlace}, (ts.all fun t => P.readableRec t && decide (t < P.types.size)) = true →
    DataW.TrodAll enc P W 0 (fun _ => true) true ts vs ds ps → DataW.TrodAll enc P W' 0 (fun b => decide (b < W.heap.size)) true ts vs ds ps
  | [], vs, ds, ps, _, h => by
    obtain ⟨rfl, rfl, rfl⟩ := trodAll_nil h
    rfl
  | t :: ts, vs, ds, ps, hr, h => by
    obtain ⟨v, vs', d, ds', p, q, rfl, rfl, rfl, h1, h2⟩ := trodAll_cons h
    simp only [List.all_cons, Bool.and_eq_true, decide_eq_true_eq] at hr
    have lt : ∀ x ∈ p, x.block < W.heap.size := by obtain ⟨m, hm⟩ := h1; exact DataW.trod_lt m _ _ _ hm
    exact trodAll_cons_mk (Below.trod hl hr.1.1 hr.1.2 h1 hb lt) (stays_all hl hb (by simpa using hr.2) h2)
theorem trodAll_length {H : Type} {enc : TypeId × Value → H} {P : Program} {W : World} {base : Nat} {sp : Nat → Bool} {held : Bool} : ∀ {ts : List TypeId} {vs : List Value} {ds : List (DataW H)} {ps : List MemPlace}, DataW.TrodAll enc P W base sp held ts vs ds ps → ds.length = ts.length
  | [], vs, ds, ps, h => by obtain ⟨rfl, rfl, rfl⟩ := trodAll_nil h; rfl
  | t :: ts, vs, ds, ps, h => by
    obtain ⟨v, vs', d, ds', p, q, rfl, rfl, rfl, h1, h2⟩ := trodAll_cons h
    simp [trodAll_length h2]
/-- A LAW, WHATEVER CAME IN. -/
theorem Known.contract {H : Type} {enc : TypeId × Value → H} {P : Program} {gl : List Nat} {f : FuncId} {fn : Func} {T : Con} {spec : ChangeSpec} {shs : List Sh} {tb : TypeId} (hk : Known P gl f T) (hl : laidOutB P = true)
    (hsh : mapL (shT P) fn.params.toList = some shs) (hread : (fn.params.toList.all fun t => P.readableRec t && decide (t < P.types.size)) = true) (hvars : spec.vars = []) (hres : fn.resultTypes = #[tb]) (htb : P.underlying tb = some .bool)
    (hspec : ∀ ds : List (DataW H), ds.length = fn.params.toList.length → spec.fn H ds = { results := [.lit (.bool true)], args := ds })
    (hT : ∀ xs, R2 ShOk shs xs → Holds (T xs []) fun o => o.res = .v (.c (.b true)))
    {W : World} {base : Nat} {args : Array Value} {ds gs : List (DataW H)} {before : List MemPlace} (er : Nat → Option Value) (hG : GlobOk gl (topEnv W er))
    (hval : ∀ (j : Nat) t v, fn.params[j]? = some t → args[j]? = some v → Value.okWide P W .any base t v) (hW : DataW.Whole enc P fn.params.toList spec.vars false W args.toList ds gs before) :
    Calls P f args W fun e W' => ∃ v, e = .returned v ∧ spec.post enc P fn false true false false W args v W' := by
  have hW' := hW
  obtain ⟨p, q, hA, hV, rfl, hfz, hnd⟩ := hW
  rw [hvars] at hV
  obtain ⟨rfl, rfl⟩ := trodVars_none hV
  obtain ⟨xs, hr, ho⟩ := open_all er hsh (fun j t v ht hv => hval j t v (by simpa using ht) (by simpa using hv)) hA
  have e := hspec ds (trodAll_length hA)
  have hcalls := hk.lawB (w := W) er hG hr (hT xs ho)
  have ea : args.toList.toArray = args := by simp
  rw [ea] at hcalls
  refine hcalls.mono fun e' W' ⟨he, bel⟩ => ?_
  subst he
  refine ⟨_, rfl, ds, [], _, [], p, [], hW', ?_, ?_, ?_, bel.frame _, fun h => by cases h⟩
  · rw [List.append_nil, e, hres]
    exact trodAll_mk1 (shut_bool htb true)
  · rw [List.append_nil, e]
    exact stays_all hl bel hread hA
  · rw [List.append_nil, e, hvars]
    rfl
end Go.Nx
namespace Go.Nx
open Go

/-- One outcome says all that another one says. -/
def Weak (o o' : Out) : Prop := ∀ (Γ0 Γ : Env) (w0 w : World) (v : Value), Ext Γ0 w0 Γ → SRel Γ o.res v → WRel Γ o.rg w → ∃ Γ', Ext Γ0 w0 Γ' ∧ SRel Γ' o'.res v ∧ WRel Γ' o'.rg w
theorem Weak.refl (o : Out) : Weak o o := fun _ Γ _ _ _ h1 h2 h3 => ⟨Γ, h1, h2, h3⟩
theorem Weak.trans {a b c : Out} (h : Weak a b) (k : Weak b c) : Weak a c := fun Γ0 Γ w0 w v h1 h2 h3 => by
  obtain ⟨Γ', h4, h5, h6⟩ := h Γ0 Γ w0 w v h1 h2 h3
  exact k Γ0 Γ' w0 w v h4 h5 h6
/-- What is known of outcomes is known of those that say less. -/
theorem Known.weak {P : Program} {gl : List Nat} {f : FuncId} {T T' : Con} (h : Known P gl f T) (hT : ∀ args regs R, (T' args regs).run R → (T args regs).run fun o => ∃ o', Weak o o' ∧ R o') : Known P gl f T' := by
  refine ⟨h.goes, fun args regs R hR Γ w vs hw hG hv hn => ?_⟩
  refine (h.sound args regs _ (hT args regs R hR) Γ w vs hw hG hv hn).mono ?_
  rintro e w' ⟨o, v, Γ', ⟨o', hO, ho⟩, he, hE, hS, hW, hd⟩
  obtain ⟨Γ'', h1, h2, h3⟩ := hO Γ Γ' w w' v hE hS hW
  exact ⟨o', v, Γ'', ho, he, h1, h2, h3, hd⟩
theorem WRel.fewer {Γ : Env} {rg rg' : List (Option Reg)} {w : World} (h : WRel Γ rg w) (hs : ∀ (n : Nat) (g : Reg), rg'[n]? = some (some g) → rg[n]? = some (some g)) : WRel Γ rg' w := by
  have hl : ∀ n : Nat, Nx.live rg' n → Nx.live rg n := fun n ⟨g, hg⟩ => ⟨g, hs n g hg⟩
  exact ⟨fun n g hg => h.live n g (hs n g hg), fun n m B B' hne ha hb => h.inj n m B B' hne (hl n ha) (hl m hb), h.kp, fun n B hn => h.apart n B (hl n hn), h.ro⟩
theorem Weak.drop {x : NS} {rg rg' : List (Option Reg)} (hs : ∀ (n : Nat) (g : Reg), rg'[n]? = some (some g) → rg[n]? = some (some g)) : Weak ⟨x, rg⟩ ⟨x, rg'⟩ :=
  fun _ Γ _ _ _ h1 h2 h3 => ⟨Γ, h1, h2, h3.fewer hs⟩
theorem Weak.nil_rows {ks : List CK} {rg : List (Option Reg)} (hk : 0 < ks.length) : Weak ⟨.v (.c .sn), rg⟩ ⟨.v (.c (.lr ks [])), rg⟩ :=
  fun _ Γ _ _ _ h1 h2 h3 => by
    obtain ⟨h4, h5⟩ := h2
    have h4' : _ = Value.slice none 0 0 := h4
    exact ⟨Γ, h1, ⟨⟨none, 0, h4', Nat.le_refl _, hk, .inl rfl⟩, h5⟩, h3⟩
theorem Weak.rows {k st : Nat} {e : TypeId} {ks : List CK} {xs : List (List Sc)} {rg : List (Option Reg)} (hk : rg[k]? = some (some ⟨st, e, .recs ks xs⟩)) : Weak ⟨.v (.c (.h k 0 xs.length)), rg⟩ ⟨.v (.c (.lr ks xs)), putAt rg k none⟩ := by
  intro Γ0 Γ w0 w v hE hS hW
  obtain ⟨⟨B, o, cap, hBw, rfl, hc, hcm, ho⟩, h1⟩ := hS
  have hB := Env.wh_pt hBw
  obtain ⟨cs, hcs, hst, hsz, hst1, hks, l2, hl⟩ := hW.atW hBw hk
  have hlive : live rg k := ⟨_, hk⟩
  have hk0 : Γ.kp B.blk = none := hW.apart k B hlive hB
  have hold : ∀ (n : Nat) (g : Reg), (putAt rg k none)[n]? = some (some g) → n ≠ k ∧ rg[n]? = some (some g) := fun n g hn => by
    rcases (putAt_get _ _ _ _ _).1 hn with ⟨_, he⟩ | ⟨h1, h2⟩
    · cases he
    · exact ⟨h1, h2⟩
  let Γ'' : Env := { Γ with kp := fun b => if b = B.blk then some (.cells cs e (0, 0)) else Γ.kp b, ro := fun b => if b = B.blk then true else Γ.ro b }
  have hle : Γ.le Γ'' := ⟨fun _ _ h => h, fun b o h => by
      show (if b = B.blk then _ else Γ.kp b) = some o
      by_cases hb : b = B.blk
      · rw [hb, hk0] at h; cases h
      · rw [if_neg hb]; exact h, fun b h => by
      show (if b = B.blk then true else Γ.ro b) = true
      by_cases hb : b = B.blk
      · rw [if_pos hb]
      · rw [if_neg hb]; exact h, rfl⟩
  refine ⟨Γ'', ⟨hE.le.trans hle, fun b h => ?_, fun n B' h => hE.nw n B' h⟩, ?_, ⟨fun n g h => ?_, fun a b Ba Bb hne la lb ha hb => ?_, fun b o h => ?_, fun n Bn hn hBn => ?_, fun b h => ?_⟩⟩
  · have h : (if b = B.blk then true else Γ.ro b) = true := h
    by_cases hb : b = B.blk
    · rcases hE.nw k B hB with h1 | ⟨n', B', h1, h2⟩
      · rw [hb]; exact .inr (.inl h1)
      · exact .inr (.inr ⟨n', B', h1, by rw [h2, hb]⟩)
    · rw [if_neg hb] at h; exact hE.ro b h
  · refine ⟨⟨_, cap, rfl, hc, hks, ?_⟩, h1⟩
    rcases ho with ⟨ho, _⟩ | ho
    · refine .inr ⟨B.blk, 0, by rw [ho, Nat.zero_mul], ?_, cs, e, (0, 0), ?_, fun j u hj => ?_⟩
      · show (if B.blk = B.blk then true else Γ.ro B.blk) = true
        rw [if_pos rfl]
      · show (if B.blk = B.blk then some _ else Γ.kp B.blk) = _
        rw [if_pos rfl]
      · rw [Nat.zero_add, ← Array.getElem?_toList, hl]
        exact prefix_get hj
    · exact .inl (List.eq_nil_of_length_eq_zero (by omega))
  · obtain ⟨hne, hg⟩ := hold n g h
    obtain ⟨Bn, hBn, hr⟩ := hW.live n g hg
    exact ⟨Bn, hBn, hr.mono hle⟩
  · obtain ⟨ga, ha'⟩ := la
    obtain ⟨gb, hb'⟩ := lb
    exact hW.inj a b Ba Bb hne ⟨ga, (hold a ga ha').2⟩ ⟨gb, (hold b gb hb').2⟩ ha hb
  · have h : (if b = B.blk then some (Obj.cells cs e (0, 0)) else Γ.kp b) = some o := h
    by_cases hb : b = B.blk
    · rw [if_pos hb] at h
      cases h
      rw [hb]; exact hcs
    · rw [if_neg hb] at h; exact hW.kp b o h
  · obtain ⟨g, hg⟩ := hn
    obtain ⟨hne, hg⟩ := hold n g hg
    show (if Bn.blk = B.blk then some _ else Γ.kp Bn.blk) = none
    rw [if_neg (hW.inj n k Bn B hne ⟨g, hg⟩ hlive hBn hB)]
    exact hW.apart n Bn ⟨g, hg⟩ hBn
  · have h : (if b = B.blk then true else Γ.ro b) = true := h
    show ∃ o, (if b = B.blk then some (Obj.cells cs e (0, 0)) else Γ.kp b) = some o
    by_cases hb : b = B.blk
    · exact ⟨_, by rw [if_pos hb]⟩
    · rw [if_neg hb] at h ⊢; exact hW.ro b h

theorem Weak.ints {k st : Nat} {e : TypeId} {q : IntKind} {xs : List Int} {rg : List (Option Reg)} (hk : rg[k]? = some (some ⟨st, e, .ints q xs⟩)) : Weak ⟨.v (.c (.h k 0 xs.length)), rg⟩ ⟨.v (.c (.l q xs)), putAt rg k none⟩ := by
  intro Γ0 Γ w0 w v hE hS hW
  obtain ⟨⟨B, o, cap, hBw, rfl, hc, hcm, ho⟩, h1⟩ := hS
  have hB := Env.wh_pt hBw
  obtain ⟨cs, hcs, hst, hsz, hst1, l2, hl⟩ := hW.atW hBw hk
  have hlive : live rg k := ⟨_, hk⟩
  have hk0 : Γ.kp B.blk = none := hW.apart k B hlive hB
  have hold : ∀ (n : Nat) (g : Reg), (putAt rg k none)[n]? = some (some g) → n ≠ k ∧ rg[n]? = some (some g) := fun n g hn => by
    rcases (putAt_get _ _ _ _ _).1 hn with ⟨_, he⟩ | ⟨h1, h2⟩
    · cases he
    · exact ⟨h1, h2⟩
  let Γ'' : Env := { Γ with kp := fun b => if b = B.blk then some (.cells cs e (0, 0)) else Γ.kp b, ro := fun b => if b = B.blk then true else Γ.ro b }
  have hle : Γ.le Γ'' := ⟨fun _ _ h => h, fun b o h => by
      show (if b = B.blk then _ else Γ.kp b) = some o
      by_cases hb : b = B.blk
      · rw [hb, hk0] at h; cases h
      · rw [if_neg hb]; exact h, fun b h => by
      show (if b = B.blk then true else Γ.ro b) = true
      by_cases hb : b = B.blk
      · rw [if_pos hb]
      · rw [if_neg hb]; exact h, rfl⟩
  refine ⟨Γ'', ⟨hE.le.trans hle, fun b h => ?_, fun n B' h => hE.nw n B' h⟩, ?_, ⟨fun n g h => ?_, fun a b Ba Bb hne la lb ha hb => ?_, fun b o h => ?_, fun n Bn hn hBn => ?_, fun b h => ?_⟩⟩
  · have h : (if b = B.blk then true else Γ.ro b) = true := h
    by_cases hb : b = B.blk
    · rcases hE.nw k B hB with h1 | ⟨n', B', h1, h2⟩
      · rw [hb]; exact .inr (.inl h1)
      · exact .inr (.inr ⟨n', B', h1, by rw [h2, hb]⟩)
    · rw [if_neg hb] at h; exact hE.ro b h
  · refine ⟨⟨_, cap, rfl, hc, ?_⟩, h1⟩
    rcases ho with ⟨ho, _⟩ | ho
    · refine .inr ⟨B.blk, 0, by rw [ho, Nat.zero_mul], ?_, cs, e, (0, 0), ?_, fun j u hj => ?_⟩
      · show (if B.blk = B.blk then true else Γ.ro B.blk) = true
        rw [if_pos rfl]
      · show (if B.blk = B.blk then some _ else Γ.kp B.blk) = _
        rw [if_pos rfl]
      · rw [Nat.zero_add, ← Array.getElem?_toList, hl]
        exact prefix_get hj
    · exact .inl (List.eq_nil_of_length_eq_zero (by omega))
  · obtain ⟨hne, hg⟩ := hold n g h
    obtain ⟨Bn, hBn, hr⟩ := hW.live n g hg
    exact ⟨Bn, hBn, hr.mono hle⟩
  · obtain ⟨ga, ha'⟩ := la
    obtain ⟨gb, hb'⟩ := lb
    exact hW.inj a b Ba Bb hne ⟨ga, (hold a ga ha').2⟩ ⟨gb, (hold b gb hb').2⟩ ha hb
  · have h : (if b = B.blk then some (Obj.cells cs e (0, 0)) else Γ.kp b) = some o := h
    by_cases hb : b = B.blk
    · rw [if_pos hb] at h
      cases h
      rw [hb]; exact hcs
    · rw [if_neg hb] at h; exact hW.kp b o h
  · obtain ⟨g, hg⟩ := hn
    obtain ⟨hne, hg⟩ := hold n g hg
    show (if Bn.blk = B.blk then some _ else Γ.kp Bn.blk) = none
    rw [if_neg (hW.inj n k Bn B hne ⟨g, hg⟩ hlive hBn hB)]
    exact hW.apart n Bn ⟨g, hg⟩ hBn
  · have h : (if b = B.blk then true else Γ.ro b) = true := h
    show ∃ o, (if b = B.blk then some (Obj.cells cs e (0, 0)) else Γ.kp b) = some o
    by_cases hb : b = B.blk
    · exact ⟨_, by rw [if_pos hb]⟩
    · rw [if_neg hb] at h ⊢; exact hW.ro b h

theorem Weak.nil_ints {q : IntKind} {rg : List (Option Reg)} : Weak ⟨.v (.c .sn), rg⟩ ⟨.v (.c (.l q [])), rg⟩ :=
  fun _ Γ _ _ _ h1 h2 h3 => by
    obtain ⟨h4, h5⟩ := h2
    have h4' : _ = Value.slice none 0 0 := h4
    exact ⟨Γ, h1, ⟨⟨none, 0, h4', Nat.le_refl _, .inl rfl⟩, h5⟩, h3⟩

/-! ### outcomes of which no more is said than there is -/
def WeakF (o o' : Out) : Prop := ∀ (Γ0 Γ : Env) (w0 w : World) (v : Value), Ext Γ0 w0 Γ → SRel Γ o.res v → WRel Γ o.rg w → (∀ n, o.rg.length ≤ n → Γ.μ n = none) →
  ∃ Γ', Ext Γ0 w0 Γ' ∧ SRel Γ' o'.res v ∧ WRel Γ' o'.rg w ∧ ∀ n, o'.rg.length ≤ n → Γ'.μ n = none
theorem WeakF.refl (o : Out) : WeakF o o := fun _ Γ _ _ _ h1 h2 h3 h4 => ⟨Γ, h1, h2, h3, h4⟩
theorem WeakF.trans {a b c : Out} (h : WeakF a b) (k : WeakF b c) : WeakF a c := fun Γ0 Γ w0 w v h1 h2 h3 h4 => by
  obtain ⟨Γ', h5, h6, h7, h8⟩ := h Γ0 Γ w0 w v h1 h2 h3 h4
  exact k Γ0 Γ' w0 w v h5 h6 h7 h8
theorem KnownF.weak {P : Program} {gl : List Nat} {f : FuncId} {T T' : Con} (h : KnownF P gl f T) (hT : ∀ args regs R, (T' args regs).run R → (T args regs).run fun o => ∃ o', WeakF o o' ∧ R o') : KnownF P gl f T' := by
  refine ⟨h.goes, fun args regs R hR Γ w vs hw hG hv hn => ?_⟩
  refine (h.sound args regs _ (hT args regs R hR) Γ w vs hw hG hv hn).mono ?_
  rintro e w' ⟨o, v, Γ', ⟨⟨o', hO, ho⟩, hf⟩, he, hE, hS, hW, hd⟩
  obtain ⟨Γ'', h1, h2, h3, h4⟩ := hO Γ Γ' w w' v hE hS hW hf
  exact ⟨o', v, Γ'', ⟨ho, h4⟩, he, h1, h2, h3, hd⟩
/-- Regions are dropped, their places kept. -/
theorem WeakF.drop {x : NS} {rg rg' : List (Option Reg)} (hl : rg.length ≤ rg'.length) (hs : ∀ (n : Nat) (g : Reg), rg'[n]? = some (some g) → rg[n]? = some (some g)) : WeakF ⟨x, rg⟩ ⟨x, rg'⟩ :=
  fun _ Γ _ _ _ h1 h2 h3 h4 => ⟨Γ, h1, h2, h3.fewer hs, fun n hn => h4 n (Nat.le_trans hl hn)⟩
/-- What a result says, told less of. -/
theorem WeakF.res {x y : NS} {rg : List (Option Reg)} (h : ∀ Γ v, SRel Γ x v → SRel Γ y v) : WeakF ⟨x, rg⟩ ⟨y, rg⟩ := fun _ Γ _ _ v h1 h2 h3 h4 => ⟨Γ, h1, h Γ v h2, h3, h4⟩
theorem WeakF.nil_rows {ks : List CK} {rg : List (Option Reg)} (hk : 0 < ks.length) : WeakF ⟨.v (.c .sn), rg⟩ ⟨.v (.c (.lr ks [])), rg⟩ :=
  WeakF.res fun _ _ h => ⟨⟨none, 0, h.1, Nat.le_refl _, hk, .inl rfl⟩, h.2⟩
theorem WeakF.nil_ints {q : IntKind} {rg : List (Option Reg)} : WeakF ⟨.v (.c .sn), rg⟩ ⟨.v (.c (.l q [])), rg⟩ :=
  WeakF.res fun _ _ h => ⟨⟨none, 0, h.1, Nat.le_refl _, .inl rfl⟩, h.2⟩
/-- A row that is frozen: its block is kept. -/
theorem WeakF.freezeL {k : Nat} {x y : NS} {g : Reg} {rg : List (Option Reg)} (hk : rg[k]? = some (some g))
    (h : ∀ (Γ : Env) (v : Value), SRel Γ x v → ∃ B, Γ.wh k = some B) 
    (hf : ∀ (Γ Γ' : Env) (v : Value) (B : Blk) (cs : Array Value), Γ.le Γ' → SRel Γ x v → Γ.wh k = some B → B.st = g.st → BodyRel Γ g.st g.body cs.toList → Γ'.ro B.blk = true → Γ'.kp B.blk = some (.cells cs g.e (0, 0)) → SRel Γ' y v) : WeakF ⟨x, rg⟩ ⟨y, putAt rg k none⟩ := by
  intro Γ0 Γ w0 w v hE hS hW hF
  obtain ⟨B, hBw⟩ := h Γ v hS
  have hB := Env.wh_pt hBw
  obtain ⟨cs, hcs, hst, hsz, hbody⟩ := hW.atW hBw hk
  have hlive : live rg k := ⟨_, hk⟩
  have hk0 : Γ.kp B.blk = none := hW.apart k B hlive hB
  have hold : ∀ (n : Nat) (g : Reg), (putAt rg k none)[n]? = some (some g) → n ≠ k ∧ rg[n]? = some (some g) := fun n g hn => by
    rcases (putAt_get _ _ _ _ _).1 hn with ⟨_, he⟩ | ⟨h1, h2⟩
    · cases he
    · exact ⟨h1, h2⟩
  let Γ'' : Env := { Γ with kp := fun b => if b = B.blk then some (.cells cs g.e (0, 0)) else Γ.kp b, ro := fun b => if b = B.blk then true else Γ.ro b }
  have hle : Γ.le Γ'' := ⟨fun _ _ h => h, fun b o h => by
      show (if b = B.blk then _ else Γ.kp b) = some o
      by_cases hb : b = B.blk
      · rw [hb, hk0] at h; cases h
      · rw [if_neg hb]; exact h, fun b h => by
      show (if b = B.blk then true else Γ.ro b) = true
      by_cases hb : b = B.blk
      · rw [if_pos hb]
      · rw [if_neg hb]; exact h, rfl⟩
  have hln : rg.length ≤ (putAt rg k none).length := (putAt_length rg k none).1
  refine ⟨Γ'', ⟨hE.le.trans hle, fun b h => ?_, fun n B' h => hE.nw n B' h⟩, ?_, ⟨fun n g h => ?_, fun a b Ba Bb hne la lb ha hb => ?_, fun b o h => ?_, fun n Bn hn hBn => ?_, fun b h => ?_⟩, fun n hn => hF n (Nat.le_trans hln hn)⟩
  · have h : (if b = B.blk then true else Γ.ro b) = true := h
    by_cases hb : b = B.blk
    · rcases hE.nw k B hB with h1 | ⟨n', B', h1, h2⟩
      · rw [hb]; exact .inr (.inl h1)
      · exact .inr (.inr ⟨n', B', h1, by rw [h2, hb]⟩)
    · rw [if_neg hb] at h; exact hE.ro b h
  · exact hf Γ Γ'' v B cs hle hS hBw hst hbody (if_pos rfl) (if_pos rfl)
  · obtain ⟨hne, hg⟩ := hold n g h
    obtain ⟨Bn, hBn, hr⟩ := hW.live n g hg
    exact ⟨Bn, hBn, hr.mono hle⟩
  · obtain ⟨ga, ha'⟩ := la
    obtain ⟨gb, hb'⟩ := lb
    exact hW.inj a b Ba Bb hne ⟨ga, (hold a ga ha').2⟩ ⟨gb, (hold b gb hb').2⟩ ha hb
  · have h : (if b = B.blk then some (Obj.cells cs g.e (0, 0)) else Γ.kp b) = some o := h
    by_cases hb : b = B.blk
    · rw [if_pos hb] at h
      cases h
      rw [hb]; exact hcs
    · rw [if_neg hb] at h; exact hW.kp b o h
  · obtain ⟨g', hg⟩ := hn
    obtain ⟨hne, hg⟩ := hold n g' hg
    show (if Bn.blk = B.blk then some _ else Γ.kp Bn.blk) = none
    rw [if_neg (hW.inj n k Bn B hne ⟨g', hg⟩ hlive hBn hB)]
    exact hW.apart n Bn ⟨g', hg⟩ hBn
  · have h : (if b = B.blk then true else Γ.ro b) = true := h
    show ∃ o, (if b = B.blk then some (Obj.cells cs g.e (0, 0)) else Γ.kp b) = some o
    by_cases hb : b = B.blk
    · exact ⟨_, by rw [if_pos hb]⟩
    · rw [if_neg hb] at h ⊢; exact hW.ro b h
theorem WeakF.freeze {k : Nat} {x y : NS} {g : Reg} {rg : List (Option Reg)} (hk : rg[k]? = some (some g))
    (h : ∀ (Γ : Env) (v : Value), SRel Γ x v → ∃ B, Γ.wh k = some B)
    (hf : ∀ (Γ Γ' : Env) (v : Value) (B : Blk) (cs : Array Value), SRel Γ x v → Γ.wh k = some B → B.st = g.st → BodyRel Γ g.st g.body cs.toList → Γ'.ro B.blk = true → Γ'.kp B.blk = some (.cells cs g.e (0, 0)) → SRel Γ' y v) : WeakF ⟨x, rg⟩ ⟨y, putAt rg k none⟩ :=
  WeakF.freezeL hk h fun Γ Γ' v B cs _ => hf Γ Γ' v B cs
theorem WeakF.rows {k st : Nat} {e : TypeId} {ks : List CK} {xs : List (List Sc)} {rg : List (Option Reg)} (hk : rg[k]? = some (some ⟨st, e, .recs ks xs⟩)) : WeakF ⟨.v (.c (.h k 0 xs.length)), rg⟩ ⟨.v (.c (.lr ks xs)), putAt rg k none⟩ := by
  refine WeakF.freeze hk (fun Γ v h => ?_) fun Γ Γ' v B cs hS hB hst hb hr hkp => ?_
  · obtain ⟨⟨B, o, cap, hB, -⟩, -⟩ := h
    exact ⟨B, hB⟩
  · obtain ⟨⟨B', o, cap, hB', rfl, hc, hcm, ho⟩, h1⟩ := hS
    rw [hB] at hB'
    cases hB'
    obtain ⟨hst1, hks, l2, hl⟩ := hb
    refine ⟨⟨_, cap, rfl, hc, hks, ?_⟩, h1⟩
    rcases ho with ⟨ho, _⟩ | ho
    · refine .inr ⟨B.blk, 0, by rw [ho, Nat.zero_mul], hr, cs, e, (0, 0), hkp, fun j u hj => ?_⟩
      rw [Nat.zero_add, ← Array.getElem?_toList, hl]
      exact prefix_get hj
    · exact .inl (List.eq_nil_of_length_eq_zero (by omega))
theorem WeakF.ints {k st : Nat} {e : TypeId} {q : IntKind} {xs : List Int} {rg : List (Option Reg)} (hk : rg[k]? = some (some ⟨st, e, .ints q xs⟩)) : WeakF ⟨.v (.c (.h k 0 xs.length)), rg⟩ ⟨.v (.c (.l q xs)), putAt rg k none⟩ := by
  refine WeakF.freeze hk (fun Γ v h => ?_) fun Γ Γ' v B cs hS hB hst hb hr hkp => ?_
  · obtain ⟨⟨B, o, cap, hB, -⟩, -⟩ := h
    exact ⟨B, hB⟩
  · obtain ⟨⟨B', o, cap, hB', rfl, hc, hcm, ho⟩, h1⟩ := hS
    rw [hB] at hB'
    cases hB'
    obtain ⟨hst1, l2, hl⟩ := hb
    refine ⟨⟨_, cap, rfl, hc, ?_⟩, h1⟩
    rcases ho with ⟨ho, _⟩ | ho
    · refine .inr ⟨B.blk, 0, by rw [ho, Nat.zero_mul], hr, cs, e, (0, 0), hkp, fun j u hj => ?_⟩
      rw [Nat.zero_add, ← Array.getElem?_toList, hl]
      exact prefix_get hj
    · exact .inl (List.eq_nil_of_length_eq_zero (by omega))
/-- A record's cells, told less of. -/
theorem WeakF.cells {x : NS} {r st : Nat} {e : TypeId} {xs ys : List NC} {rg : List (Option Reg)} (hr : rg[r]? = some (some ⟨st, e, .cells xs⟩)) (hxy : R2 (fun x y => ∀ Γ v, CR Γ x v → CR Γ y v) xs ys) : WeakF ⟨x, rg⟩ ⟨x, putAt rg r (some ⟨st, e, .cells ys⟩)⟩ := by
  intro Γ0 Γ w0 w v hE hS hW hF
  have hlen := hxy.length
  refine ⟨Γ, hE, hS, ⟨fun n g hn => ?_, fun a b Ba Bb hne la lb => hW.inj a b Ba Bb hne ?_ ?_, hW.kp, fun n B ln => hW.apart n B ?_, hW.ro⟩, fun n hn => hF n (Nat.le_trans (putAt_length rg r _).1 hn)⟩
  · rcases (putAt_get _ _ _ _ _).1 hn with ⟨rfl, he⟩ | ⟨h1, h2⟩
    · cases he
      obtain ⟨B, hB, hrr⟩ := hW.live n _ hr
      refine ⟨B, hB, ?_⟩
      rcases hrr with ⟨-, ⟨k, hk⟩ | ⟨ks, hk⟩ | ⟨sch, hk, -⟩⟩ | ⟨h0, c, h1, h2, h3, ⟨l1, l2, h4, h5⟩, h6⟩ | ⟨-, hM⟩
      · cases hk
      · cases hk
      · cases hk
      rotate_left
      · obtain ⟨_, _, _, _, _, hk, -⟩ := hM.mp; cases hk
      refine .inr (.inl ⟨h0, c, h1, h2, h3, ⟨l1, l2, h4, ?_⟩, h6.same (congrArg some hlen.symm) rfl⟩)
      clear h1 h2 h3 h4 h6 hr hn hlen
      induction hxy generalizing l1 with
      | nil => exact h5
      | cons a _ ih =>
        cases h5 with
        | cons b h5 => exact .cons (a _ _ b) (ih _ h5)
    · exact hW.live n g h2
  · rcases (putAt_live _ _ _ _).1 la with ⟨rfl, -⟩ | ⟨-, h⟩
    · exact ⟨_, hr⟩
    · exact h
  · rcases (putAt_live _ _ _ _).1 lb with ⟨rfl, -⟩ | ⟨-, h⟩
    · exact ⟨_, hr⟩
    · exact h
  · rcases (putAt_live _ _ _ _).1 ln with ⟨rfl, -⟩ | ⟨-, h⟩
    · exact ⟨_, hr⟩
    · exact h
/-- One more region, without a block: an empty row. -/
theorem WeakF.ghost {x : NS} {rg : List (Option Reg)} {g : Reg} (hg : Ghost g) : WeakF ⟨x, rg⟩ ⟨x, putAt rg rg.length (some g)⟩ := by
  intro Γ0 Γ w0 w v hE hS hW hF
  have h0 := hF rg.length (Nat.le_refl _)
  have hle := Γ.le_add rg.length (Blk.none w) h0
  refine ⟨Γ.add rg.length (Blk.none w), ⟨hE.le.trans hle, hE.ro, fun n B hB => ?_⟩, hS.mono hle, hW.ghost h0 hg, fun n hn => ?_⟩
  · by_cases e : n = rg.length
    · obtain ⟨h1, h2⟩ := Env.pt_iff.1 hB
      rw [e, Env.add_self] at h1
      cases h1
      cases h2
    · rw [Env.add_other e] at hB
      exact hE.nw n B hB
  · have hn : (putAt rg rg.length (some g)).length ≤ n := hn
    have := (putAt_length rg rg.length (some g)).2
    have hne : n ≠ rg.length := by omega
    have : (Γ.add rg.length (Blk.none w)).μ n = Γ.μ n := by simp [Env.add, hne]
    rw [this]
    exact hF n (show rg.length ≤ n by omega)
/-- nil in a record's cell: a row that may be nil. -/
theorem WeakF.nil {x : NS} {r j st : Nat} {e : TypeId} {xs : List NC} {rg : List (Option Reg)} {g : Reg} (hg : Ghost g) (hr : rg[r]? = some (some ⟨st, e, .cells xs⟩)) (hj : xs[j]? = some .sn) :
    WeakF ⟨x, rg⟩ ⟨x, putAt (putAt rg rg.length (some g)) r (some ⟨st, e, .cells (xs.set j (.hz rg.length 0))⟩)⟩ := by
  intro Γ0 Γ w0 w v hE hS hW hF
  obtain ⟨Γ', h1, h2, h3, h4⟩ := WeakF.ghost (x := x) (rg := rg) hg Γ0 Γ w0 w v hE hS hW hF
  have hrl : r < rg.length := (List.getElem?_eq_some_iff.1 hr).1
  have hr' : (putAt rg rg.length (some g))[r]? = some (some ⟨st, e, .cells xs⟩) := (putAt_get _ _ _ _ _).2 (.inr ⟨by omega, hr⟩)
  obtain ⟨Bg, hBg, -⟩ := h3.live rg.length g ((putAt_get _ _ _ _ _).2 (.inl ⟨rfl, rfl⟩))
  have hc : ∀ v, CR Γ' .sn v → CR Γ' (.hz rg.length 0) v := fun v ⟨k1, k2⟩ => ⟨.inl ⟨rfl, k1, Bg, hBg⟩, k2⟩
  refine ⟨Γ', h1, h2, ⟨fun n y hn => ?_, fun a b Ba Bb hne la lb => h3.inj a b Ba Bb hne ?_ ?_, h3.kp, fun n B ln => h3.apart n B ?_, h3.ro⟩, fun n hn => h4 n (Nat.le_trans (putAt_length _ r _).1 hn)⟩
  · rcases (putAt_get _ _ _ _ _).1 hn with ⟨rfl, he⟩ | ⟨k1, k2⟩
    · cases he
      obtain ⟨B, hB, hrr⟩ := h3.live n _ hr'
      refine ⟨B, hB, ?_⟩
      rcases hrr with ⟨-, ⟨k, hk⟩ | ⟨ks, hk⟩ | ⟨sch, hk, -⟩⟩ | ⟨h0, c, k1, k2, k3, ⟨l1, l2, k4, k5⟩, k6⟩ | ⟨-, hM⟩
      · cases hk
      · cases hk
      · cases hk
      rotate_left
      · obtain ⟨_, _, _, _, _, hk, -⟩ := hM.mp; cases hk
      refine .inr (.inl ⟨h0, c, k1, k2, k3, ⟨l1, l2, k4, ?_⟩, k6.same (congrArg some (List.length_set ..)) rfl⟩)
      obtain ⟨u, hu, hcu⟩ := k5.get hj
      have := k5.set j (hc u hcu)
      have hl : l1.set j u = l1 := by
        apply List.ext_getElem?
        intro q
        rw [List.getElem?_set]
        split
        · rename_i e; subst e
          split
          · exact hu.symm
          · rename_i hq; rw [List.getElem?_eq_none (by omega)] at hu; cases hu
        · rfl
      rw [hl] at this
      exact this
    · exact h3.live n y k2
  · rcases (putAt_live _ _ _ _).1 la with ⟨rfl, -⟩ | ⟨-, h⟩
    · exact ⟨_, hr'⟩
    · exact h
  · rcases (putAt_live _ _ _ _).1 lb with ⟨rfl, -⟩ | ⟨-, h⟩
    · exact ⟨_, hr'⟩
    · exact h
  · rcases (putAt_live _ _ _ _).1 ln with ⟨rfl, -⟩ | ⟨-, h⟩
    · exact ⟨_, hr'⟩
    · exact h
/-- A row in a record's cell: one that may be nil. -/
theorem hz_of_h {k n : Nat} (Γ : Env) (v : Value) (h : CR Γ (.h k 0 n) v) : CR Γ (.hz k n) v := ⟨.inr h.1, h.2⟩
end Go.Nx
namespace Go.Nx
open Go

/-- A step of a road: a fork that goes one way or the other, something that must hold, so many forks that are plain. -/
inductive RC where
  | t (c : Bool)
  | f (c : Bool)
  | m (p : Prop)
  | T (n : Nat)
  | F (n : Nat)
def scr : List RC → List Bool
  | [] => []
  | .t _ :: l => true :: scr l
  | .f _ :: l => false :: scr l
  | .m _ :: l => scr l
  | .T n :: l => List.replicate n true ++ scr l
  | .F n :: l => List.replicate n false ++ scr l
/-- A tree along a road. -/
def Tr.fol {α : Type} : Tr α → List Bool → Tr α
  | .ret a, _ => .ret a
  | .must p x, bs => .must p (x.fol bs)
  | .br _ _ _, [] => .fail
  | .br c x _, true :: bs => .must (c = true) (x.fol bs)
  | .br c _ y, false :: bs => .must (c = false) (y.fol bs)
  | .all p h f, bs => .all p h fun i => (f i).fol bs
  | .fail, _ => .fail
theorem Tr.fol_run {α : Type} {R : α → Prop} : ∀ (t : Tr α) (bs : List Bool), (t.fol bs).run R → t.run R
  | .ret _, _, h => h
  | .must _ x, bs, h => ⟨h.1, fol_run x bs h.2⟩
  | .br _ _ _, [], h => h.elim
  | .br _ x _, true :: bs, h => sel_iff.2 (.inl ⟨h.1, fol_run x bs h.2⟩)
  | .br _ _ y, false :: bs, h => sel_iff.2 (.inr ⟨h.1, fol_run y bs h.2⟩)
  | .all _ _ f, bs, h => fun i hi => fol_run (f i) bs (h i hi)
  | .fail, _, h => h
def rep : Nat → Prop → Prop → Prop
  | 0, _, A => A
  | n + 1, p, A => p ∧ rep n p A
def road : List RC → Prop → Prop
  | [], A => A
  | .t c :: l, A => c = true ∧ road l A
  | .f c :: l, A => c = false ∧ road l A
  | .m p :: l, A => p ∧ road l A
  | .T n :: l, A => rep n (true = true) (road l A)
  | .F n :: l, A => rep n (false = false) (road l A)
/-- What must hold along a road. -/
def conds : List RC → Prop
  | [] => True
  | .t c :: l => c = true ∧ conds l
  | .f c :: l => c = false ∧ conds l
  | .m p :: l => p ∧ conds l
  | .T _ :: l => conds l
  | .F _ :: l => conds l
theorem rep_in {p A : Prop} (hp : p) (hA : A) : ∀ n, rep n p A
  | 0 => hA
  | n + 1 => ⟨hp, rep_in hp hA n⟩
theorem road_in {A : Prop} : ∀ {l : List RC}, conds l → A → road l A
  | [], _, hA => hA
  | .t _ :: _, h, hA => ⟨h.1, road_in h.2 hA⟩
  | .f _ :: _, h, hA => ⟨h.1, road_in h.2 hA⟩
  | .m _ :: _, h, hA => ⟨h.1, road_in h.2 hA⟩
  | .T n :: l, h, hA => rep_in rfl (road_in (l := l) h hA) n
  | .F n :: l, h, hA => rep_in rfl (road_in (l := l) h hA) n
/-- A tree by one of its roads. -/
theorem by_road {α : Type} {t : Tr α} {R : α → Prop} {l : List RC} {A : Prop} (h : (t.fol (scr l)).run R = road l A) (hc : conds l) (hA : A) : t.run R := Tr.fol_run _ _ (h.mpr (road_in hc hA))
end Go.Nx
namespace Go.Nx
open Go

/-! ### evaluation -/
def NC.noE (K : Nat) : NC → Bool
  | .e k => k != K
  | _ => true
def NV.noE (K : Nat) (x : NV) : Bool := x.ncs.all (NC.noE K)
def NS.noE (K : Nat) : NS → Bool
  | .v x => x.noE K
  | .tu l => l.all (NV.noE K)
  | .dead => true
def rgNoE (K : Nat) (l : List (Option Reg)) : Bool := l.all fun g => match g with
  | some { body := .cells xs, .. } => xs.all (NC.noE K)
  | some { body := .sg l, .. } => (segNcs l).all (NC.noE K)
  | _ => true
/-- The arguments of a call of the value that stands for yield. -/
def yieldArgs (K : Nat) (s : St) (op : Op) : Option (List NV) :=
  match op with
  | .call c => (match c.callee with
    | .value f => (match s.ev f with
      | .v (.c (.e k)) => if k = K then allNV (c.args.toList.map s.ev) else none
      | _ => none)
    | _ => none)
  | _ => none
/-- What a round comes to: how it was left (none: it goes on), the regions. -/
abbrev Yh := List NV → List (Option Reg) → Tr (Option NExit × List (Option Reg))
abbrev LI := List (Nat × List Nat × (St × Option NExit → Tr (NExit × St × Option NExit)))
def ystep {β : Type} (X : Cx) (Y : Yh) (K : Nat) (ops : Array Oper) (o : Oper) (s : St) (p : Option NExit) (k : St → Option NExit → Tr β) : Tr β :=
  match yieldArgs K s o.op with
  | none => nstep ops o (deffW X o.op s.rg.length) s fun s' => k s' p
  | some args =>
    match o.guard, p with
    | none, none => (Y args s.rg).bind fun r => k (St.put { fr := s.fr, rg := r.2 } o.dst (lit r.1.isNone)) r.1
    | _, _ => .fail
def yops {β : Type} (X : Cx) (Y : Yh) (K : Nat) (ops : Array Oper) : List Oper → St → Option NExit → (St → Option NExit → Tr β) → Tr β
  | [], s, p, k => k s p
  | o :: rest, s, p, k => ystep X Y K ops o s p fun s' p' => yops X Y K ops rest s' p' k
def nwpI {β : Type} (X : Cx) (Y : Yh) (K : Nat) (ls : LI) : Code → St → Option NExit → (NExit → St → Option NExit → Tr β) → Tr β
  | .skip, s, p, k => k .normal s p
  | .seq a b, s, p, k => nwpI X Y K ls a s p fun e s' p' => match e with
    | .normal => nwpI X Y K ls b s' p' k
    | e => k e s' p'
  | .cond c a b, s, p, k =>
    (match c, s.ev c with
     | .tmp t, .v (.c (.b x)) => .br x (nwpI X Y K ls a (s.put (some t) (lit true)) p k) (nwpI X Y K ls b (s.put (some t) (lit false)) p k)
     | _, .v (.c (.b x)) => .br x (nwpI X Y K ls a s p k) (nwpI X Y K ls b s p k)
     | _, _ => .fail)
  | .block id c, s, p, k =>
    (match c with
     | .loop _ =>
       (match ls.find? (·.1 == id) with
        | some (_, live, L) => (match norm X.m live s with
          | some s' => (L (s', p)).bind fun x => k x.1 x.2.1 x.2.2
          | none => .fail)
        | none => .fail)
     | c => nwpI X Y K ls c s p fun e s' p' => match e with
       | .exit j => if j = id then k .normal s' p' else k (.exit j) s' p'
       | e => k e s' p')
  | .exit id, s, p, k => k (.exit id) s p
  | .ret, s, p, k => k .ret s p
  | .region _ ops false, s, p, k => yops X Y K ops ops.toList s p (k .normal)
  | _, _, _, _ => .fail
def setAll : List NS → List Tmp → List NV → List NS
  | fr, t :: ts, x :: xs => setAll (fr.set t (.v x)) ts xs
  | fr, _, _ => fr
/-- One round of a range's body. -/
def bodyY (X : Cx) (ps : Array Tmp) (assign body : Code) (fr : List NS) : Yh := fun args rg =>
  if args.length = ps.size then
    nwp { P := X.P, con := X.con, glob := X.glob, m := rg.length, loops := [] } assign { fr := setAll fr ps.toList args, rg := rg } fun e s1 => match e with
      | .normal => nwp { P := X.P, con := X.con, glob := X.glob, m := rg.length, loops := [] } body s1 fun e s2 => match e with
        | .normal => .ret (none, s2.rg)
        | e => .ret (some e, s2.rg)
      | _ => .fail
  else .fail
def outExit (id : Nat) : Option NExit → Option NExit
  | none => some .normal
  | some (.exit j) => if j = id then some .normal else some (.exit j)
  | some .ret => some .ret
  | some .normal => none
def rangeEnd (X : Cx) (K id : Nat) (out : List Nat) (fr : List NS) (s : St) (p : Option NExit) : Tr (NExit × St) :=
  match rgNoE K s.rg, outExit id p, norm X.m out { fr := fr, rg := s.rg } with
  | true, some e, some s'' => .ret (e, s'')
  | _, _, _ => .fail
/-- A range over a function: its function is walked. 'con': what that function calls; 'ls': its loops, by the number of regions and the frame of the loop. -/
def rangeT (X : Cx) (K : Nat) (con : FuncId → Option Con) (ls : Nat → List NS → LI) (id : Nat) (out : List Nat) (gf : FuncId) (fn : Func) (c : Code) (s : St) : Tr (NExit × St) :=
  match c with
  | .rangeFunc g ps assign body =>
    (match s.ev g with
     | .v (.c (.cl gf' cap)) =>
       (match decide (gf' = gf) && s.fr.all (NS.noE K) && rgNoE K s.rg && !X.glob.tail.contains K, fn.body with
        | true, some cg => nwpI { P := X.P, con := con, glob := X.glob, m := s.rg.length, loops := [] } (bodyY X ps assign body s.fr) K (ls s.rg.length s.fr) cg
            { fr := (.v (.c (.e K)) :: cap.map fun x => .v (.c (.p x.1 x.2.1 x.2.2))) ++ List.replicate (fn.ntmps - (1 + cap.length)) .dead, rg := s.rg } none
            fun e s' p => match e with
              | .exit _ => .fail
              | _ => rangeEnd X K id out s.fr s' p
        | _, _ => .fail)
     | _ => .fail)
  | _ => .fail

/-! ### the value that stands for yield -/
def Env.setE (K : Nat) (v : Value) (Γ : Env) : Env := { μ := Γ.μ, kp := Γ.kp, ro := Γ.ro, er := fun k => if k = K then some v else Γ.er k }
structure SwapE (K : Nat) (Γ Γ' : Env) : Prop where
  μ : Γ'.μ = Γ.μ
  kp : Γ'.kp = Γ.kp
  ro : Γ'.ro = Γ.ro
  er : ∀ k, k ≠ K → Γ'.er k = Γ.er k
theorem SwapE.set (K : Nat) (v : Value) (Γ : Env) : SwapE K Γ (Γ.setE K v) := ⟨rfl, rfl, rfl, fun _ h => if_neg h⟩
section
variable {K : Nat} {Γ Γ' : Env}
theorem SwapE.pt (h : SwapE K Γ Γ') (n : Nat) : Γ'.pt n = Γ.pt n := by unfold Env.pt; rw [h.μ]
theorem SwapE.wh (h : SwapE K Γ Γ') (n : Nat) : Γ'.wh n = Γ.wh n := by unfold Env.wh; rw [h.μ]
theorem SwapE.roRow (h : SwapE K Γ Γ') {b o : Nat} {vs : List Value} (r : RoRow Γ b o vs) : RoRow Γ' b o vs := by
  obtain ⟨h1, c, e, fz, h2, h3⟩ := r
  exact ⟨by rw [h.ro]; exact h1, c, e, fz, by rw [h.kp]; exact h2, h3⟩
theorem SwapE.fr (h : SwapE K Γ Γ') {x : NC} {v : Value} (r : FR Γ x v) : FR Γ' x v := by
  refine ⟨?_, r.2⟩
  replace r := r.1
  cases x with
  | l k xs =>
    obtain ⟨a, cap, h1, h2, h3⟩ := r
    exact ⟨a, cap, h1, h2, h3.imp id fun ⟨blk, off, h4, h5⟩ => ⟨blk, off, h4, h.roRow h5⟩⟩
  | lr ks xs =>
    obtain ⟨a, cap, h1, h2, h0, h3⟩ := r
    exact ⟨a, cap, h1, h2, h0, h3.imp id fun ⟨blk, off, h4, h5⟩ => ⟨blk, off, h4, h.roRow h5⟩⟩
  | _ => exact r
theorem SwapE.rowV (h : SwapE K Γ Γ') {sch : List Part} {row : List FC} {v : Value} (r : RowV Γ sch row v) : RowV Γ' sch row v := by
  obtain ⟨vs, h1, h2, h3⟩ := r
  exact ⟨vs, h1, h2.imp fun _ _ r => h.fr r, h3⟩
theorem SwapE.crel (h : SwapE K Γ Γ') {x : NC} {v : Value} (hx : x.noE K = true) (r : CRel Γ x v) : CRel Γ' x v := by
  cases x with
  | p r' i c => obtain ⟨B, h1, h2⟩ := r; exact ⟨B, by rw [h.pt]; exact h1, h2⟩
  | h r' o n => obtain ⟨B, o, cap, h1, h2⟩ := r; exact ⟨B, o, cap, by rw [h.wh]; exact h1, h2⟩
  | hz r' n =>
    rcases r with ⟨h1, h2, B, h3⟩ | ⟨B, o, cap, h1, h2⟩
    · exact .inl ⟨h1, h2, B, by rw [h.μ]; exact h3⟩
    · exact .inr ⟨B, o, cap, by rw [h.wh]; exact h1, h2⟩
  | q r' o w i c => obtain ⟨B, h1, h2⟩ := r; exact ⟨B, by rw [h.pt]; exact h1, h2⟩
  | hq r' o w i n => obtain ⟨B, a, cap, h1, h2⟩ := r; exact ⟨B, a, cap, by rw [h.pt]; exact h1, h2⟩
  | l k xs =>
    obtain ⟨a, cap, h1, h2, h3⟩ := r
    exact ⟨a, cap, h1, h2, h3.imp id fun ⟨blk, off, h4, h5⟩ => ⟨blk, off, h4, h.roRow h5⟩⟩
  | lr ks xs =>
    obtain ⟨a, cap, h1, h2, h0, h3⟩ := r
    exact ⟨a, cap, h1, h2, h0, h3.imp id fun ⟨blk, off, h4, h5⟩ => ⟨blk, off, h4, h.roRow h5⟩⟩
  | pl k xs i => obtain ⟨blk, off, h1, h2⟩ := r; exact ⟨blk, off, h1, h.roRow h2⟩
  | pr ks xs i c => obtain ⟨blk, off, h1, h2⟩ := r; exact ⟨blk, off, h1, h.roRow h2⟩
  | m r' => obtain ⟨B, h1, h2⟩ := r; exact ⟨B, by rw [h.pt]; exact h1, h2⟩
  | lt sch xs =>
    obtain ⟨a, cap, h1, h2, h0, hk, h3⟩ := r
    exact ⟨a, cap, h1, h2, h0, hk, h3.imp id fun ⟨b, o, vs, h4, h5, h6⟩ => ⟨b, o, vs, h4, h.roRow h5, h6.imp fun _ _ r => h.fr r⟩⟩
  | pt sch xs i c =>
    obtain ⟨b, o, vs, h1, h0, hk, h2, h3⟩ := r
    exact ⟨b, o, vs, h1, h0, hk, h.roRow h2, h3.imp fun _ _ r => h.fr r⟩
  | e k =>
    have hk : k ≠ K := by simpa [NC.noE] using hx
    show Γ'.er k = some v
    rw [h.er k hk]; exact r
  | cl f cap =>
    obtain ⟨caps, h1, h2⟩ := r
    exact ⟨caps, h1, h2.imp fun a b ⟨B, h3, h4⟩ => ⟨B, by rw [h.pt]; exact h3, h4⟩⟩
  | _ => exact r
theorem SwapE.cells (h : SwapE K Γ Γ') {xs : List NC} {vs : List Value} (hx : xs.all (NC.noE K) = true) (r : R2 (CR Γ) xs vs) : R2 (CR Γ') xs vs :=
  r.imp_mem fun x _ hm r => ⟨h.crel (List.all_eq_true.1 hx x hm) r.1, r.2⟩
theorem flat_noE {l : List Seg} (h : (segNcs l).all (NC.noE K) = true) : (segFlat l).all (NC.noE K) = true := by
  rw [List.all_eq_true] at h ⊢
  intro x hx
  rcases segNcs_mem hx with hx | ⟨k, s, rfl⟩
  · exact h x hx
  · cases k <;> rfl
theorem SwapE.vrel (h : SwapE K Γ Γ') {x : NV} {v : Value} (hx : x.noE K = true) (r : VRel Γ x v) : VRel Γ' x v := by
  cases x with
  | c x => exact ⟨h.crel (by simpa [NV.noE, NV.ncs] using hx) r.1, r.2⟩
  | ag xs => obtain ⟨vs, h1, h2⟩ := r; exact ⟨vs, h1, h.cells hx h2⟩
  | sg l => obtain ⟨vs, h1, h2, h3⟩ := r; exact ⟨vs, h1, h.cells (flat_noE hx) h2, h3⟩
theorem SwapE.srel (h : SwapE K Γ Γ') {x : NS} {v : Value} (hx : x.noE K = true) (r : SRel Γ x v) : SRel Γ' x v := by
  cases x with
  | v x => exact h.vrel hx r
  | tu l => obtain ⟨vs, h1, h2⟩ := r; exact ⟨vs, h1, h2.imp_mem fun x _ hm r => h.vrel (List.all_eq_true.1 hx x hm) r⟩
  | dead => trivial
theorem SwapE.frame (h : SwapE K Γ Γ') {fr : List NS} {t : Array Value} (hx : fr.all (NS.noE K) = true) (r : FrRel Γ fr t) : FrRel Γ' fr t :=
  R2.imp_mem r fun x _ hm r => h.srel (List.all_eq_true.1 hx x hm) r
theorem SwapE.body (h : SwapE K Γ Γ') {st : Nat} {b : Body} {vs : List Value} (hx : ∀ xs, b = .cells xs → xs.all (NC.noE K) = true) (hs : ∀ l, b = .sg l → (segNcs l).all (NC.noE K) = true) (r : BodyRel Γ st b vs) : BodyRel Γ' st b vs := by
  cases b with
  | cells xs => obtain ⟨l1, l2, h1, h2⟩ := r; exact ⟨l1, l2, h1, h.cells (hx xs rfl) h2⟩
  | sg l => obtain ⟨l1, l2, h1, h2, h3⟩ := r; exact ⟨l1, l2, h1, h.cells (flat_noE (hs l rfl)) h2, h3⟩
  | ints k xs => exact r
  | recs ks xs => exact r
  | mp ks sch xs => exact r
  | tab sch xs => obtain ⟨hs, h0, l1, l2, h1, h2, h3⟩ := r; exact ⟨hs, h0, l1, l2, h1, h2.imp fun _ _ r => h.fr r, h3⟩
theorem SwapE.world (h : SwapE K Γ Γ') {rg : List (Option Reg)} {w : World} (hx : rgNoE K rg = true) (r : WRel Γ rg w) : WRel Γ' rg w := by
  refine ⟨fun n g hg => ?_, fun n m B B' hne hn hm hB hB' => r.inj n m B B' hne hn hm (by rw [← h.pt]; exact hB) (by rw [← h.pt]; exact hB'), by rw [h.kp]; exact r.kp, fun n B hn hB => by rw [h.kp]; exact r.apart n B hn (by rw [← h.pt]; exact hB), by rw [h.ro, h.kp]; exact r.ro⟩
  obtain ⟨B, hB, hr⟩ := r.live n g hg
  refine ⟨B, by rw [h.μ]; exact hB, ?_⟩
  rcases hr with hr | ⟨h0, c, hA⟩ | ⟨h0, hM⟩
  · exact .inl hr
  rotate_left
  · obtain ⟨⟨ks, sch, xs, es, ck, h1, h2, h3⟩, h4, h5⟩ := hM
    exact .inr (.inr ⟨h0, ⟨ks, sch, xs, es, ck, h1, h2, h3.imp fun _ _ r => ⟨h.rowV r.1, h.rowV r.2⟩⟩, h4, h5⟩)
  refine .inr (.inl ⟨h0, c, hA.heap, hA.st, hA.sz, h.body (fun xs hb => ?_) (fun l hb => ?_) hA.body, hA.part⟩)
  · have := List.all_eq_true.1 hx (some g) (List.mem_of_getElem? hg)
    obtain ⟨st, e, body⟩ := g
    simp only at hb
    subst hb
    exact this
  · have := List.all_eq_true.1 hx (some g) (List.mem_of_getElem? hg)
    obtain ⟨st, e, body⟩ := g
    simp only at hb
    subst hb
    exact this
theorem SwapE.glob (h : SwapE K Γ Γ') {gl : List Nat} (hx : gl.tail.contains K = false) (r : GlobOk gl Γ) : GlobOk gl Γ' := by
  have hne : ∀ x ∈ gl.tail, x ≠ K := fun x hm e => by
    subst e
    have : gl.tail.contains x = true := by simpa using hm
    rw [hx] at this; cases this
  refine ⟨fun x hm => ?_, fun x hm y hm' hxy => by rw [h.er x (hne x hm), h.er y (hne y hm')]; exact r.2 x hm y hm' hxy⟩
  rw [h.er x (hne x hm), h.kp]
  exact r.1 x hm
end

/-! ### left-out blocks, once more -/
theorem Ext.strip2 {A B : Env} {w : World} (l : List Nat) (h : Ext A w B) : Ext (A.strip l) w (B.strip l) := by
  refine ⟨⟨h.le.μ, fun b o hb => ?_, fun b hb => ?_, h.le.er⟩, fun b hb => ?_, h.nw⟩
  · have hb' : (if b ∈ l then none else A.kp b) = some o := hb
    by_cases hm : b ∈ l
    · rw [if_pos hm] at hb'; cases hb'
    · rw [if_neg hm] at hb'; exact (strip_kp_of hm).trans (h.le.kp b o hb')
  · have hb' : (if b ∈ l then false else A.ro b) = true := hb
    by_cases hm : b ∈ l
    · rw [if_pos hm] at hb'; cases hb'
    · rw [if_neg hm] at hb'; exact (strip_ro_of hm).trans (h.le.ro b hb')
  · have hb' : (if b ∈ l then false else B.ro b) = true := hb
    by_cases hm : b ∈ l
    · rw [if_pos hm] at hb'; cases hb'
    · rw [if_neg hm] at hb'
      rcases h.ro b hb' with h1 | h1 | h1
      · exact .inl ((strip_ro_of hm).trans h1)
      · exact .inr (.inl h1)
      · exact .inr (.inr h1)
theorem strip_strip (l : List Nat) (Γ : Env) : (Γ.strip l).strip l = Γ.strip l := by
  unfold Env.strip
  simp only [Env.mk.injEq, true_and, and_true]
  refine ⟨funext fun b => ?_, funext fun b => ?_⟩ <;> (by_cases h : b ∈ l <;> simp [h])
theorem strip_hold (b : Nat) (o : Obj) (Γ : Env) : (Γ.hold b o).strip [b] = Γ.strip [b] := by
  unfold Env.strip Env.hold
  simp only [Env.mk.injEq, true_and, and_true]
  refine funext fun b' => ?_
  by_cases h : b' = b <;> simp [h]
theorem strip_none (b : Nat) (Γ : Env) : (Γ.strip [b]).kp b = none := if_pos (by simp)
theorem noCells_one {Γ : Env} {b : Nat} {o : Obj} (h : Γ.kp b = some o) (ho : o.isCM = false) : NoCells Γ [b] := fun b' hb => by
  rw [List.mem_singleton] at hb
  subst hb
  exact ⟨o, h, ho⟩
theorem strip_self_le {Γ : Env} {l : List Nat} : (Γ.strip l).le Γ := by
  refine ⟨fun _ _ h => h, fun b o hb => ?_, fun b hb => ?_, rfl⟩
  · have hb' : (if b ∈ l then none else Γ.kp b) = some o := hb
    by_cases hm : b ∈ l
    · rw [if_pos hm] at hb'; cases hb'
    · rw [if_neg hm] at hb'; exact hb'
  · have hb' : (if b ∈ l then false else Γ.ro b) = true := hb
    by_cases hm : b ∈ l
    · rw [if_pos hm] at hb'; cases hb'
    · rw [if_neg hm] at hb'; exact hb'
theorem other_heap {w : World} {b : Nat} {o : Obj} : ∀ b', b' ∉ [b] → (w.putObj b o).heap[b']? = w.heap[b']? := fun b' h => World.putObj_heap_other (by simpa using h)
theorem putObj_wd (w : World) (b : Nat) (o : Obj) : Wd w (w.putObj b o) := ⟨rfl, rfl, rfl, by rw [World.putObj_size]; exact Nat.le_refl _⟩
/-- A block that is no cells is turned from one thing into another. -/
theorem Inv.turn {gl : List Nat} {N : Nat} {Γ : Env} {s : St} {a : Act} {w : World} {b : Nat} {o o' : Obj} (h : Inv gl N Γ s a w) (hk : Γ.kp b = some o) (ho : o.isCM = false) (ho' : o'.isCM = false) (hd : ∀ D, N ≤ D → Γ.kp D = some (.deferred (some [])) → D ≠ b) :
    Inv gl N ((Γ.strip [b]).hold b o') s a (w.putObj b o') := by
  have hn := noCells_one hk ho
  have hle := hold_le (o := o') (strip_none b Γ)
  have hlt : b < w.heap.size := (Array.getElem?_eq_some_iff.1 (h.wr.kp b o hk)).1
  refine ⟨(h.wr.strip hn other_heap).hold (strip_none b Γ) (World.putObj_heap_same hlt) ho', (FrRel.strip hn h.fr).mono hle, (h.gl.strip hn).mono hle, h.nw, ?_⟩
  obtain ⟨l, h1, h2, h3⟩ := h.df
  refine ⟨l, h1, h2, fun D hD => ⟨(h3 D hD).1, hle.kp _ _ ?_⟩⟩
  exact (strip_kp_of (by simpa using hd D (h3 D hD).1 (h3 D hD).2)).trans (h3 D hD).2
end Go.Nx
namespace Go.Nx
open Go

/-! ### one operation, under a wide fence -/
def noWay : Exit → Act → World → Prop := fun _ _ _ => False
def notDefer : Op → Bool
  | .defer _ => false
  | _ => true
theorem wp_to_in {P : Program} {o : Oper} {a : Act} {w : World} {K K' : Act → World → Prop} {Q0 Q : Exit → Act → World → Prop} (ro : Option Nat) (hd : notDefer o.op = true) (hN : ∀ e a w, Q0 e a w → e = .normal) (hKK : ∀ a w, K a w → K' a w) (h : o.wp P a w K Q0) :
    o.wpIn { Fence.wide with round := ro } 0 P a w K' Q := by
  unfold Oper.wp at h
  refine ⟨fun _ _ => trivial, ?_⟩
  have hs : o.semAt ro a.eval = execOp a.eval o := Oper.semAt_eq ro a.eval o fun c hc => by rw [hc] at hd; cases hd
  show o.uponIn _ 0 P a K' Q ((o.semAt ro a.eval).run P w)
  rw [hs]
  generalize (execOp a.eval o).run P w = r at h
  cases r with
  | ok n w' =>
    cases n with
    | value v => exact hKK _ _ h
    | skip => exact hKK _ _ h
    | defer d => exact hKK _ _ h
    | enter f args =>
      have h : Calls P f args w' _ := h
      refine ⟨fun hh => by simp [Fence.wide] at hh, ?_⟩
      refine (callsIn_wide (n := 0)).2 (h.mono fun e w2 he => ?_)
      cases e with
      | returned v => exact hKK _ _ he
      | panicked ch => cases hN _ _ _ he
      | outgrown => obtain ⟨_, _, hf⟩ := he; cases hN _ _ _ hf
    | row row args =>
      have h : Rows P row args w' _ := h
      refine ⟨fun hh => by simp [Fence.wide] at hh, fun c cs _ => ?_⟩
      obtain ⟨v, w2, h1, h2⟩ := h c cs
      exact ⟨v, w2, hKK _ _ h1, stepsIn_wide.2 h2⟩
    | _ => exact h.elim
  | halt x w' => cases x <;> first | exact h.elim | (cases hN _ _ _ h)
theorem wide_round_none : ({ Fence.wide with round := none } : Fence) = Fence.wide := rfl

/-- Operations of a region, one behind the other, in a round's frame or not. -/
theorem nopsIn_sound {β : Type} {N : Nat} {X : Cx} (hcon : ∀ f T, X.con f = some T → Known X.P X.glob f T) (ro : Option Nat) {ops : Array Oper} {Q : Exit → Act → World → Prop} : ∀ (l : List Oper) {s : St} {Γ : Env} {w : World} {a : Act} {K : St → Tr β} {R : β → Prop}, (∀ o ∈ l, notDefer o.op = true) → Inv X.glob N Γ s a w → (nops X ops l s K).run R →
    (∀ s' a' w' Γ', (K s').run R → Ext Γ w Γ' → Wd w w' → Inv X.glob N Γ' s' a' w' → Q .normal a' w') → wpListIn { Fence.wide with round := ro } 0 X.P ops Q l a w
  | [], s, Γ, w, a, K, R, _, hI, h, hK => hK s a w Γ h (Ext.refl Γ w) (Wd.refl w) hI
  | o :: rest, s, Γ, w, a, K, R, hd, hI, h, hK => by
    have hs := nstep_sound (K' := wpListIn { Fence.wide with round := ro } 0 X.P ops Q rest) (Q := noWay) hcon hI h fun s' a' w' Γ' h1 h2 h3 h4 =>
      nopsIn_sound hcon ro rest (fun o ho => hd o (by simp [ho])) h4 h1 fun s2 a2 w2 Γ2 k1 k2 k3 k4 => hK s2 a2 w2 Γ2 k1 (h2.trans h3 k2) (h3.trans k3) k4
    unfold wpListIn
    split at hs
    · rename_i hw
      rw [if_pos hw]
      rcases hs with hs | ⟨-, _, _, hf⟩
      · exact wp_to_in ro (hd o (by simp)) (fun _ _ _ h => h.elim) (fun _ _ h => h) hs
      · exact hf.elim
    · rename_i hw
      rw [if_neg hw]
      exact ⟨fun _ _ => trivial, hs⟩

/-- A region that draws its order, in a round's frame or not. -/
theorem wpAny_in {P : Program} {ops : Array Oper} {Q0 Q : Exit → Act → World → Prop} (ro : Option Nat) (hd : ∀ (i : Nat) (o : Oper), ops[i]? = some o → notDefer o.op = true) (hN : ∀ e a w, Q0 e a w → e = .normal) (hQ : ∀ a w, Q0 .normal a w → Q .normal a w) :
    ∀ (fuel : Nat) (listed : Array Bool) (a : Act) (w : World), wpAny P .any ops Q0 fuel listed a w → wpAnyIn { Fence.wide with round := ro } 0 P .any ops Q fuel listed a w
  | 0, listed, a, w, h => ⟨h.1, hQ _ _ h.2⟩
  | fuel + 1, listed, a, w, h => by
    refine ⟨fun e => hQ _ _ (h.1 e), fun i hi => ?_⟩
    have h1 := h.2 i hi
    unfold wpOp at h1
    unfold wpOpIn
    split at h1
    · rename_i hi0
      rw [hi0]
      exact wpAny_in ro hd hN hQ fuel _ a w h1
    · rename_i o hi0
      rw [hi0]
      simp only
      split at h1
      · rename_i hw
        rw [if_pos hw]
        rcases h1 with h1 | ⟨-, _, _, hf⟩
        · exact wp_to_in ro (hd i o hi0) hN (fun a w h => wpAny_in ro hd hN hQ fuel _ a w h) h1
        · cases hN _ _ _ hf
      · rename_i hw
        rw [if_neg hw]
        exact ⟨fun _ _ => trivial, wpAny_in ro hd hN hQ fuel _ _ w h1⟩

/-! ### code in a round's frame -/
def simple : Code → Bool
  | .skip | .exit _ | .ret => true
  | .seq a b => simple a && simple b
  | .cond _ a b => simple a && simple b
  | .block _ c => (match c with
    | .loop _ => false
    | .rangeFunc _ _ _ _ => false
    | c => simple c)
  | .region _ ops _ => ops.toList.all fun o => notDefer o.op
  | _ => false
theorem nwpR_sound {X : Cx} (hcon : ∀ f T, X.con f = some T → Known X.P X.glob f T) (hm : X.P.follows .mixedOrders = true) (lr N : Nat) :
    ∀ (c : Code) {β : Type}, simple c = true → ∀ {s : St} {Γ : Env} {a : Act} {w : World} {K : NExit → St → Tr β} {R : β → Prop} {Q : Exit → Act → World → Prop}, Inv X.glob N Γ s a w → (nwp X c s K).run R →
      (∀ e s' a' w' Γ', (K e s').run R → Ext Γ w Γ' → Wd w w' → Inv X.glob N Γ' s' a' w' → Q (toExit e) a' w') → c.wpIn (Fence.wide.inRound lr) 0 X.P Q a w := by
  intro c
  induction c with
  | skip =>
    intro β hc s Γ a w K R Q hI h hK
    exact wpIn_skip (hK .normal s a w Γ h (Ext.refl Γ w) (Wd.refl w) hI)
  | exit id =>
    intro β hc s Γ a w K R Q hI h hK
    exact wpIn_exit (hK (.exit id) s a w Γ h (Ext.refl Γ w) (Wd.refl w) hI)
  | ret =>
    intro β hc s Γ a w K R Q hI h hK
    exact wpIn_ret (hK .ret s a w Γ h (Ext.refl Γ w) (Wd.refl w) hI)
  | seq x y ihx ihy =>
    intro β hc s Γ a w K R Q hI h hK
    simp only [simple, Bool.and_eq_true] at hc
    refine wpIn_seq (ihx hc.1 hI h fun e s' a' w' Γ' h' hE' hW' hI' => ?_)
    cases e with
    | normal => exact ihy hc.2 hI' h' fun e s2 a2 w2 Γ2 k1 k2 k3 k4 => hK e s2 a2 w2 Γ2 k1 (hE'.trans hW' k2) (hW'.trans k3) k4
    | exit id => exact hK (.exit id) s' a' w' Γ' h' hE' hW' hI'
    | ret => exact hK .ret s' a' w' Γ' h' hE' hW' hI'
  | cond c x y ihx ihy =>
    intro β hc s Γ a w K R Q hI h hK
    simp only [simple, Bool.and_eq_true] at hc
    have hb : ∀ b, s.ev c = .v (.c (.b b)) → a.eval c = .bool b := fun b hb => by
      have := ev_rel hI.fr c
      rw [hb] at this
      exact this.1
    simp only [nwp] at h
    split at h
    · rename_i t b he
      have hslot : s.fr[t]? = some (.v (.c (.b b))) := by
        have : s.fr.getD t .dead = .v (.c (.b b)) := he
        rw [List.getD_eq_getElem?_getD] at this
        cases e : s.fr[t]? with
        | none => rw [e] at this; cases this
        | some z => rw [e] at this; simpa using this
      refine wpIn_cond (hb b he) ?_
      rcases sel_iff.1 h with ⟨rfl, h⟩ | ⟨rfl, h⟩
      · rw [put_lit hslot] at h; exact ihx hc.1 hI h hK
      · rw [put_lit hslot] at h; exact ihy hc.2 hI h hK
    · rename_i b hne he
      refine wpIn_cond (hb b he) ?_
      rcases sel_iff.1 h with ⟨rfl, h⟩ | ⟨rfl, h⟩
      · exact ihx hc.1 hI h hK
      · exact ihy hc.2 hI h hK
    · exact h.elim
  | block id c ih =>
    intro β hc s Γ a w K R Q hI h hK
    have h1 : ∀ b, c ≠ .loop b := fun b e => by subst e; simp [simple] at hc
    have h2 : ∀ g ps a b, c ≠ .rangeFunc g ps a b := fun g ps a b e => by subst e; simp [simple] at hc
    have hc' : simple c = true := by
      cases c <;> first | exact hc | exact (h1 _ rfl).elim | exact (h2 _ _ _ _ rfl).elim
    rw [nwp_block h1 h2] at h
    refine wpIn_block (ih hc' hI h fun e s' a' w' Γ' h' hE' hW' hI' => ?_)
    cases e with
    | normal => exact hK .normal s' a' w' Γ' h' hE' hW' hI'
    | ret => exact hK .ret s' a' w' Γ' h' hE' hW' hI'
    | exit j =>
      simp only at h'
      show if j = id then _ else _
      split at h'
      · rename_i e; rw [if_pos e]; exact hK .normal s' a' w' Γ' h' hE' hW' hI'
      · rename_i e; rw [if_neg e]; exact hK (.exit j) s' a' w' Γ' h' hE' hW' hI'
  | region id ops d =>
    intro β hc s Γ a w K R Q hI h hK
    cases d with
    | false => exact wpIn_region_list (nopsIn_sound hcon (some lr) ops.toList (fun o ho => List.all_eq_true.1 hc o ho) hI h fun s' a' w' Γ' h1 h2 h3 h4 => hK .normal s' a' w' Γ' h1 h2 h3 h4)
    | true =>
      simp only [nwp] at h
      split at h
      · rename_i hok
        refine wpIn_region_any hm (wpAny_in (Q0 := fun e a w => e = .normal ∧ Q .normal a w) (some lr) (fun i o hi => List.all_eq_true.1 hc o ?_) (fun e a w he => he.1) (fun a w he => he.2) _ _ _ _ (draw_any hcon hI hok h fun s' a' w' Γ' h1 h2 h3 h4 => ⟨rfl, hK .normal s' a' w' Γ' h1 h2 h3 h4⟩))
        obtain ⟨h1, h2⟩ := Array.getElem?_eq_some_iff.1 hi
        rw [← h2]
        exact Array.mem_toList_iff.2 (Array.getElem_mem h1)
      · exact h.elim
  | _ =>
    intro β hc
    simp [simple] at hc

/-! ### the walk of the function that is ranged over -/
def codeOf : NExit → Code
  | .ret => .ret
  | .exit id => .exit id
  | .normal => .skip
def pObj (rc : LoopState → Option Code → Loop) (p : Option NExit) : Obj := .loop (rc (if p.isNone then .ready else .done) (p.map codeOf))
structure InvI (gl : List Nat) (K l : Nat) (rc : LoopState → Option Code → Loop) (N : Nat) (Γ : Env) (s : St) (a : Act) (w : World) (p : Option NExit) : Prop where
  inv : Inv gl N Γ s a w
  yl : Γ.er K = some (.func (.yield l) #[] #[])
  rc : Γ.kp l = some (pObj rc p)
theorem InvI.step {gl : List Nat} {K l : Nat} {rc : LoopState → Option Code → Loop} {N : Nat} {Γ Γ' : Env} {s s' : St} {a a' : Act} {w w' : World} {p : Option NExit} (h : InvI gl K l rc N Γ s a w p) (hE : Ext Γ w Γ') (hI : Inv gl N Γ' s' a' w') : InvI gl K l rc N Γ' s' a' w' p :=
  ⟨hI, by rw [hE.le.er]; exact h.yl, hE.le.kp _ _ h.rc⟩
/-- A CALL OF yield IS WHAT ITS TREE SAYS. -/
def YOk (P : Program) (gl : List Nat) (l : Nat) (rc : LoopState → Option Code → Loop) (Γ0 : Env) (w0 : World) (Y : Yh) : Prop :=
  ∀ (args : List NV) (rg : List (Option Reg)) (vs : List Value) (Γ : Env) (w : World) (R : Option NExit × List (Option Reg) → Prop), Ext Γ0 w0 Γ → Wd w0 w → WRel Γ rg w → GlobOk gl Γ → (∀ n, rg.length ≤ n → Γ.μ n = none) →
    Γ.kp l = some (pObj rc none) → R2 (VRel Γ) args vs → (Y args rg).run R →
    YieldAt Fence.wide 0 P l vs.toArray w fun e w' => ∃ p rg' Γ', R (p, rg') ∧ e = .returned (.bool p.isNone) ∧ Ext (Γ.strip [l]) w Γ' ∧ Wd w w' ∧ WRel Γ' rg' w' ∧ GlobOk gl Γ' ∧ (∀ n, rg'.length ≤ n → Γ'.μ n = none) ∧ Γ'.kp l = some (pObj rc p)
section
variable {X : Cx} {Y : Yh} {K l : Nat} {rc : LoopState → Option Code → Loop} {Γ0 : Env} {w0 : World}
theorem yieldArgs_spec {s : St} {Γ : Env} {a : Act} {op : Op} {args : List NV} (hfr : FrRel Γ s.fr a.tmps) (h : yieldArgs K s op = some args) :
    ∃ c f, op = .call c ∧ c.callee = .value f ∧ CRel Γ (.e K) (a.eval f) ∧ ∃ vs : List Value, c.args.map a.eval = vs.toArray ∧ R2 (VRel Γ) args vs := by
  unfold yieldArgs at h
  split at h
  case h_2 => cases h
  rename_i c
  split at h
  case h_2 => cases h
  rename_i f hcal
  split at h
  case h_2 => cases h
  rename_i k hf
  split at h
  case isFalse => cases h
  rename_i hk
  subst hk
  have r := ev_rel hfr f
  rw [hf] at r
  have hargs : R2 (SRel Γ) (c.args.toList.map s.ev) (c.args.toList.map a.eval) := R2.self_map _ _ _ fun x => ev_rel hfr x
  refine ⟨c, f, rfl, hcal, r.1, c.args.toList.map a.eval, ?_, allNV_rel h hargs⟩
  apply Array.ext'
  simp
theorem yops_sound {β : Type} {N : Nat} (hcon : ∀ f T, X.con f = some T → Known X.P X.glob f T) (hN : l < N) (h0 : Γ0.kp l = none) (h0r : Γ0.ro l = false) (hY : YOk X.P X.glob l rc Γ0 w0 Y) {ops : Array Oper} {Q : Exit → Act → World → Prop} :
    ∀ (os : List Oper) {s : St} {p : Option NExit} {Γ : Env} {w : World} {a : Act} {k : St → Option NExit → Tr β} {R : β → Prop}, (∀ o ∈ os, notDefer o.op = true) → InvI X.glob K l rc N Γ s a w p → Ext Γ0 w0 Γ → Wd w0 w → (yops X Y K ops os s p k).run R →
    (∀ s' a' w' Γ' p', (k s' p').run R → Ext Γ0 w0 Γ' → Wd w0 w' → InvI X.glob K l rc N Γ' s' a' w' p' → Q .normal a' w') → wpListIn Fence.wide 0 X.P ops Q os a w
  | [], s, p, Γ, w, a, k, R, _, hI, hE, hW, h, hK => hK s a w Γ p h hE hW hI
  | o :: rest, s, p, Γ, w, a, k, R, hd, hI, hE, hW, h, hK => by
    have next : ∀ {s' : St} {a' : Act} {w' : World} {Γ' : Env} {p' : Option NExit}, (yops X Y K ops rest s' p' k).run R → Ext Γ0 w0 Γ' → Wd w0 w' → InvI X.glob K l rc N Γ' s' a' w' p' → wpListIn Fence.wide 0 X.P ops Q rest a' w' :=
      fun h1 h2 h3 h4 => yops_sound hcon hN h0 h0r hY rest (fun o ho => hd o (by simp [ho])) h4 h2 h3 h1 hK
    have h : (ystep X Y K ops o s p fun s' p' => yops X Y K ops rest s' p' k).run R := h
    unfold ystep at h
    split at h
    · have hs := nstep_sound (K' := wpListIn Fence.wide 0 X.P ops Q rest) (Q := noWay) hcon hI.inv h fun s' a' w' Γ' h1 h2 h3 h4 =>
        next h1 (hE.trans hW h2) (hW.trans h3) (hI.step h2 h4)
      unfold wpListIn
      split at hs
      · rename_i hw
        rw [if_pos hw]
        rcases hs with hs | ⟨-, _, _, hf⟩
        · exact wp_to_in none (hd o (by simp)) (fun _ _ _ h => h.elim) (fun _ _ h => h) hs
        · exact hf.elim
      · rename_i hw
        rw [if_neg hw]
        exact ⟨fun _ _ => trivial, hs⟩
    · rename_i args hargs
      split at h
      case h_2 => exact h.elim
      rename_i hg _
      rw [Tr.run_bind] at h
      obtain ⟨c, f, hop, hcal, hf, vs, hvs, hrel⟩ := yieldArgs_spec hI.inv.fr hargs
      have hfv : a.eval f = .func (.yield l) #[] #[] := by
        have : Γ.er K = some (a.eval f) := hf
        rw [hI.yl] at this
        simpa using this.symm
      unfold wpListIn
      rw [if_pos (by simp [Region.wanted, hg])]
      obtain ⟨fn, tmps, assign, body, hy, hR⟩ := hY args s.rg vs Γ w _ hE hW hI.inv.wr hI.inv.gl hI.inv.nw hI.rc hrel h
      refine ⟨fun _ _ => trivial, ?_⟩
      have hrun : (execOp a.eval o).run X.P w = .ok (.round l fn tmps assign body) w := by
        simp only [execOp, hop]
        simp [resolve, hcal, hfv, Deferred.ofValue, invoke, hvs, hy]
      show o.uponIn Fence.wide 0 X.P a _ Q ((execOp a.eval o).run X.P w)
      rw [hrun]
      refine ⟨fun hh => by simp [Fence.wide] at hh, ?_⟩
      refine hR.mono ?_
      rintro e w' ⟨p', rg', Γ', hRR, rfl, hE', hW', hwr, hgl, hnw, hkp⟩
      have hn := noCells_one hI.rc rfl
      have hEs : Ext Γ0 w0 (Γ.strip [l]) := hE.strip fun b hb => by rw [List.mem_singleton] at hb; subst hb; exact ⟨h0, h0r⟩
      refine next (Γ' := Γ') hRR (hEs.trans hW hE') (hW.trans hW') ⟨⟨?_, ?_, hgl, ?_, ?_⟩, by rw [hE'.le.er]; exact hI.yl, hkp⟩
      · rw [put_rg]; exact hwr
      · refine FrRel.put (s := { fr := s.fr, rg := rg' }) ?_ o.dst ⟨rfl, rfl⟩
        exact (FrRel.strip hn hI.inv.fr).mono hE'.le
      · rw [put_rg]; exact hnw
      · rw [put_defers]
        obtain ⟨ds, h1, h2, h3⟩ := hI.inv.df
        refine ⟨ds, h1, h2, fun D hD => ⟨(h3 D hD).1, hE'.le.kp _ _ ?_⟩⟩
        have : D ≠ l := by have := (h3 D hD).1; omega
        exact (strip_kp_of (by simpa using this)).trans (h3 D hD).2
end
end Go.Nx
namespace Go.Nx
open Go

/-! ### code of the function that is ranged over -/
/-- A LOOP OF SUCH A FUNCTION IS WHAT ITS TREE SAYS. -/
def LOkI (P : Program) (gl : List Nat) (m K : Nat) (Y : Yh) (id : Nat) (body : Code) (L : St × Option NExit → Tr (NExit × St × Option NExit)) : Prop :=
  ∀ (l : Nat) (rc : LoopState → Option Code → Loop) (N : Nat) (Γ0 : Env) (w0 : World), (∀ n, m ≤ n → Γ0.μ n = none) → l < N → Γ0.kp l = none → Γ0.ro l = false → YOk P gl l rc Γ0 w0 Y →
    ∀ (s : St) (p : Option NExit) (Γ : Env) (a : Act) (w : World) (R : NExit × St × Option NExit → Prop) (Q : Exit → Act → World → Prop), InvI gl K l rc N Γ s a w p → Ext Γ0 w0 Γ → Wd w0 w → (L (s, p)).run R →
    (∀ e s' p' a' w' Γ', R (e, s', p') → Ext Γ0 w0 Γ' → Wd w0 w' → InvI gl K l rc N Γ' s' a' w' p' → Q (toExit e) a' w') → (Code.block id (.loop body)).wp P Q a w
def LAllI (X : Cx) (Y : Yh) (K : Nat) (ls : LI) (c : Code) : Prop := ∀ id body, (id, body) ∈ loopsIn c → ∀ x, ls.find? (·.1 == id) = some x → LOkI X.P X.glob X.m K Y id body x.2.2
/-- No operation is a deferred call; no region draws its order; no range over a function. -/
def tame : Code → Bool
  | .skip | .exit _ | .ret => true
  | .seq a b => tame a && tame b
  | .cond _ a b => tame a && tame b
  | .block _ c => (match c with
    | .loop _ => true
    | .rangeFunc _ _ _ _ => false
    | c => tame c)
  | .region _ ops false => ops.toList.all fun o => notDefer o.op
  | _ => false
theorem norm_soundI {gl : List Nat} {K l m N : Nat} {rc : LoopState → Option Code → Loop} {live : List Nat} {s s' : St} {Γ Γ0 : Env} {a : Act} {w w0 : World} {p : Option NExit} (hI : InvI gl K l rc N Γ s a w p) (hE : Ext Γ0 w0 Γ) (h0 : ∀ n, m ≤ n → Γ0.μ n = none) (h : norm m live s = some s') :
    ∃ Γ', Ext Γ0 w0 Γ' ∧ InvI gl K l rc N Γ' s' a w p := by
  obtain ⟨Γ', h1, h2, h3, h4⟩ := norm_sound' hI.inv hE h0 h
  exact ⟨Γ', h1, h2, by rw [h4]; exact hI.yl, by rw [h3]; exact hI.rc⟩
theorem nwpI_block {β : Type} {X : Cx} {Y : Yh} {K : Nat} {ls : LI} {id : Nat} {c : Code} {s : St} {p : Option NExit} {k : NExit → St → Option NExit → Tr β} (h : ∀ b, c ≠ .loop b) : nwpI X Y K ls (.block id c) s p k = nwpI X Y K ls c s p (fun e s' p' => match e with
    | .exit j => if j = id then k .normal s' p' else k (.exit j) s' p'
    | e => k e s' p') := by
  cases c <;> first | rfl | exact (h _ rfl).elim
section
variable {X : Cx} {Y : Yh} {K l N : Nat} {rc : LoopState → Option Code → Loop} {Γ0 : Env} {w0 : World} {ls : LI}
theorem nwpI_sound (hcon : ∀ f T, X.con f = some T → Known X.P X.glob f T) (h0 : ∀ n, X.m ≤ n → Γ0.μ n = none) (hN : l < N) (h0k : Γ0.kp l = none) (h0r : Γ0.ro l = false) (hY : YOk X.P X.glob l rc Γ0 w0 Y) :
    ∀ (c : Code) {β : Type}, tame c = true → LAllI X Y K ls c → ∀ {s : St} {p : Option NExit} {Γ : Env} {a : Act} {w : World} {k : NExit → St → Option NExit → Tr β} {R : β → Prop} {Q : Exit → Act → World → Prop}, InvI X.glob K l rc N Γ s a w p → Ext Γ0 w0 Γ → Wd w0 w → (nwpI X Y K ls c s p k).run R →
      (∀ e s' p' a' w' Γ', (k e s' p').run R → Ext Γ0 w0 Γ' → Wd w0 w' → InvI X.glob K l rc N Γ' s' a' w' p' → Q (toExit e) a' w') → c.wpIn Fence.wide 0 X.P Q a w := by
  intro c
  induction c with
  | skip =>
    intro β hc hl s p Γ a w k R Q hI hE hW h hK
    exact wpIn_skip (hK .normal s p a w Γ h hE hW hI)
  | exit id =>
    intro β hc hl s p Γ a w k R Q hI hE hW h hK
    exact wpIn_exit (hK (.exit id) s p a w Γ h hE hW hI)
  | ret =>
    intro β hc hl s p Γ a w k R Q hI hE hW h hK
    exact wpIn_ret (hK .ret s p a w Γ h hE hW hI)
  | seq x y ihx ihy =>
    intro β hc hl s p Γ a w k R Q hI hE hW h hK
    simp only [tame, Bool.and_eq_true] at hc
    refine wpIn_seq (ihx hc.1 (fun id b hb => hl id b (by simp [loopsIn, hb])) hI hE hW h fun e s' p' a' w' Γ' h' hE' hW' hI' => ?_)
    cases e with
    | normal => exact ihy hc.2 (fun id b hb => hl id b (by simp [loopsIn, hb])) hI' hE' hW' h' hK
    | exit id => exact hK (.exit id) s' p' a' w' Γ' h' hE' hW' hI'
    | ret => exact hK .ret s' p' a' w' Γ' h' hE' hW' hI'
  | cond c x y ihx ihy =>
    intro β hc hl s p Γ a w k R Q hI hE hW h hK
    simp only [tame, Bool.and_eq_true] at hc
    have hlx : LAllI X Y K ls x := fun id b hb => hl id b (by simp [loopsIn, hb])
    have hly : LAllI X Y K ls y := fun id b hb => hl id b (by simp [loopsIn, hb])
    have hb : ∀ b, s.ev c = .v (.c (.b b)) → a.eval c = .bool b := fun b hb => by
      have := ev_rel hI.inv.fr c
      rw [hb] at this
      exact this.1
    simp only [nwpI] at h
    split at h
    · rename_i t b he
      have hslot : s.fr[t]? = some (.v (.c (.b b))) := by
        have : s.fr.getD t .dead = .v (.c (.b b)) := he
        rw [List.getD_eq_getElem?_getD] at this
        cases e : s.fr[t]? with
        | none => rw [e] at this; cases this
        | some z => rw [e] at this; simpa using this
      refine wpIn_cond (hb b he) ?_
      rcases sel_iff.1 h with ⟨rfl, h⟩ | ⟨rfl, h⟩
      · rw [put_lit hslot] at h; exact ihx hc.1 hlx hI hE hW h hK
      · rw [put_lit hslot] at h; exact ihy hc.2 hly hI hE hW h hK
    · rename_i b hne he
      refine wpIn_cond (hb b he) ?_
      rcases sel_iff.1 h with ⟨rfl, h⟩ | ⟨rfl, h⟩
      · exact ihx hc.1 hlx hI hE hW h hK
      · exact ihy hc.2 hly hI hE hW h hK
    · exact h.elim
  | block id c ih =>
    intro β hc hl s p Γ a w k R Q hI hE hW h hK
    by_cases hcl : ∃ b, c = .loop b
    · obtain ⟨body, rfl⟩ := hcl
      simp only [nwpI] at h
      split at h
      case h_2 => exact h.elim
      rename_i y live L hf
      split at h
      case h_2 => exact h.elim
      rename_i s' hn
      rw [Tr.run_bind] at h
      obtain ⟨Γ', hE', hI'⟩ := norm_soundI hI hE h0 hn
      exact wpIn_wide.2 (hl id body (by simp [loopsIn]) _ hf l rc N Γ0 w0 h0 hN h0k h0r hY s' p Γ' a w _ Q hI' hE' hW h fun e s2 p2 a2 w2 Γ2 k1 k2 k3 k4 => hK e s2 p2 a2 w2 Γ2 k1 k2 k3 k4)
    · have h1 : ∀ b, c ≠ .loop b := fun b e => hcl ⟨b, e⟩
      have h2 : ∀ g ps a b, c ≠ .rangeFunc g ps a b := fun g ps a b e => by subst e; simp [tame] at hc
      have hc' : tame c = true := by
        cases c <;> first | exact hc | exact (h1 _ rfl).elim | exact (h2 _ _ _ _ rfl).elim
      rw [nwpI_block h1] at h
      refine wpIn_block (ih hc' (fun i b hb => hl i b (by rw [loopsIn_block h1]; exact hb)) hI hE hW h fun e s' p' a' w' Γ' h' hE' hW' hI' => ?_)
      cases e with
      | normal => exact hK .normal s' p' a' w' Γ' h' hE' hW' hI'
      | ret => exact hK .ret s' p' a' w' Γ' h' hE' hW' hI'
      | exit j =>
        simp only at h'
        show if j = id then _ else _
        split at h'
        · rename_i e; rw [if_pos e]; exact hK .normal s' p' a' w' Γ' h' hE' hW' hI'
        · rename_i e; rw [if_neg e]; exact hK (.exit j) s' p' a' w' Γ' h' hE' hW' hI'
  | region id ops d =>
    intro β hc hl s p Γ a w k R Q hI hE hW h hK
    cases d with
    | false => exact wpIn_region_list (yops_sound hcon hN h0k h0r hY ops.toList (fun o ho => List.all_eq_true.1 hc o ho) hI hE hW h fun s' a' w' Γ' p' h1 h2 h3 h4 => hK .normal s' p' a' w' Γ' h1 h2 h3 h4)
    | true => simp [tame] at hc
  | _ =>
    intro β hc
    simp [tame] at hc
end

/-! ### its loops -/
inductive ROI where
  | next (s : St) (p : Option NExit)
  | done (e : NExit) (s : St) (p : Option NExit)
def roundI (X : Cx) (Y : Yh) (K : Nat) (ls : LI) (id : Nat) (live out : List Nat) (body : Code) (s : St) (p : Option NExit) : Tr ROI :=
  nwpI X Y K ls body s p fun e s' p' => match e with
    | .normal => (match norm X.m live s' with
      | some s'' => .ret (.next s'' p')
      | none => .fail)
    | .exit j => (match norm X.m out s' with
      | some s'' => if j = id then .ret (.done .normal s'' p') else .ret (.done (.exit j) s'' p')
      | none => .fail)
    | .ret => (match norm X.m out s' with
      | some s'' => .ret (.done .ret s'' p')
      | none => .fail)
theorem loopI_ok {X : Cx} {Y : Yh} {K : Nat} {ls : LI} (hcon : ∀ f T, X.con f = some T → Known X.P X.glob f T) {id : Nat} {body : Code} {L : St × Option NExit → Tr (NExit × St × Option NExit)} (ht : tame body = true) (hl : LAllI X Y K ls body) (live out : List Nat) {α : Type} (h : α → St × Option NExit) (μ : α → Nat) (Pre : α → (NExit × St × Option NExit → Prop) → Prop)
    (start : ∀ s R, (L s).run R → ∃ x, s = h x ∧ Pre x R)
    (round : ∀ x R, Pre x R → (roundI X Y K ls id live out body (h x).1 (h x).2).run fun o => match o with
      | .next s p => ∃ y, (s, p) = h y ∧ μ y < μ x ∧ Pre y R
      | .done e s p => R (e, s, p)) : LOkI X.P X.glob X.m K Y id body L := by
  intro l rc N Γ0 w0 h0 hN h0k h0r hY s p Γ a w R Q hI hE hW hL hK
  obtain ⟨x, hx, hp⟩ := start (s, p) R hL
  have hI : InvI X.glob K l rc N Γ (h x).1 a w (h x).2 := by rw [← hx]; exact hI
  refine wp_block (wp_loop_ghost (fun n a w => ∃ x Γ, μ x = n ∧ Pre x R ∧ InvI X.glob K l rc N Γ (h x).1 a w (h x).2 ∧ Ext Γ0 w0 Γ ∧ Wd w0 w) (μ x) ⟨x, Γ, rfl, hp, hI, hE, hW⟩ ?_)
  rintro n a1 w1 ⟨y, Γ1, rfl, hp1, hI1, hE1, hW1⟩
  refine wpIn_wide.1 (nwpI_sound hcon h0 hN h0k h0r hY body ht hl hI1 hE1 hW1 (round y R hp1) fun e s' p' a' w' Γ' h' hE' hW' hI' => ?_)
  cases e with
  | normal =>
    simp only at h'
    split at h'
    · rename_i s2 hn
      obtain ⟨z, hz, hlt, hpz⟩ := h'
      obtain ⟨Γ2, hE2, hI2⟩ := norm_soundI hI' hE' h0 hn
      exact ⟨μ z, hlt, z, Γ2, rfl, hpz, by rw [← hz]; exact hI2, hE2, hW'⟩
    · exact h'.elim
  | exit j =>
    simp only at h'
    show if j = id then _ else _
    split at h'
    · rename_i s2 hn
      obtain ⟨Γ2, hE2, hI2⟩ := norm_soundI hI' hE' h0 hn
      split at h'
      · rename_i e; rw [if_pos e]; exact hK .normal s2 p' a' w' Γ2 h' hE2 hW' hI2
      · rename_i e; rw [if_neg e]; exact hK (.exit j) s2 p' a' w' Γ2 h' hE2 hW' hI2
    · exact h'.elim
  | ret =>
    simp only at h'
    split at h'
    · rename_i s2 hn
      obtain ⟨Γ2, hE2, hI2⟩ := norm_soundI hI' hE' h0 hn
      exact hK .ret s2 p' a' w' Γ2 h' hE2 hW' hI2
    · exact h'.elim
def unrollI (X : Cx) (Y : Yh) (K : Nat) (ls : LI) (id : Nat) (live out : List Nat) (body : Code) : Nat → St × Option NExit → Tr (NExit × St × Option NExit)
  | 0, _ => .fail
  | n + 1, s => (roundI X Y K ls id live out body s.1 s.2).bind fun o => match o with
    | .next s' p' => unrollI X Y K ls id live out body n (s', p')
    | .done e s' p' => .ret (e, s', p')
theorem unrollI_ok {X : Cx} {Y : Yh} {K : Nat} {ls : LI} (hcon : ∀ f T, X.con f = some T → Known X.P X.glob f T) {id : Nat} {body : Code} (ht : tame body = true) (hl : LAllI X Y K ls body) (live out : List Nat) (n : Nat) : LOkI X.P X.glob X.m K Y id body (unrollI X Y K ls id live out body n) := by
  refine loopI_ok hcon ht hl live out (α := Nat × (St × Option NExit)) (·.2) (·.1) (fun x R => (unrollI X Y K ls id live out body x.1 x.2).run R) (fun s R h => ⟨(n, s), rfl, h⟩) ?_
  rintro ⟨k, s⟩ R h
  cases k with
  | zero => exact h.elim
  | succ k =>
    simp only [unrollI] at h
    rw [Tr.run_bind] at h
    refine Tr.run_mono _ (fun o ho => ?_) h
    cases o with
    | next s' p' => exact ⟨(k, (s', p')), rfl, Nat.lt_succ_self k, ho⟩
    | done e s' p' => exact ho
theorem LAllI.none {X : Cx} {Y : Yh} {K : Nat} {ls : LI} {c : Code} (hl : loopsIn c = []) : LAllI X Y K ls c := fun id b hb => by rw [hl] at hb; cases hb
theorem LAllI.one {X : Cx} {Y : Yh} {K : Nat} {ls : LI} {c : Code} {id : Nat} {body : Code} {live : List Nat} {L : St × Option NExit → Tr (NExit × St × Option NExit)} (hl : loopsIn c = [(id, body)]) (hx : ls = [(id, live, L)]) (h : LOkI X.P X.glob X.m K Y id body L) : LAllI X Y K ls c := fun i b hb x hf => by
  rw [hl, List.mem_singleton] at hb
  cases hb
  subst hx
  simp at hf
  subst hf
  exact h
end Go.Nx
namespace Go.Nx
open Go

theorem zip_fold {Γ : Env} : ∀ (ps : List Tmp) (args : List NV) (vs : List Value) (fr : List NS) (t : Array Value), FrRel Γ fr t → R2 (VRel Γ) args vs →
    FrRel Γ (setAll fr ps args) ((ps.zip vs).foldl (fun t (x : Tmp × Value) => t.setIfInBounds x.1 x.2) t)
  | [], _, _, _, _, h, _ => by simpa [setAll] using h
  | _ :: _, _, _, _, _, h, .nil => by simpa [setAll] using h
  | p :: ps, _, _, fr, t, h, .cons (a := x) (b := v) r rs => by
    simp only [setAll, List.zip_cons_cons, List.foldl_cons]
    refine zip_fold ps _ _ _ _ ?_ rs
    show R2 (SRel Γ) (fr.set p (.v x)) (t.setIfInBounds p v).toList
    rw [Array.toList_setIfInBounds]
    exact R2.set h p r
/-- A loop's record. -/
def rcOf (fn : FuncId) (tmps : Array Value) (ps : Array Tmp) (assign body : Code) (D : Nat) : LoopState → Option Code → Loop := fun st pe => { state := st, pending := pe, fn := fn, tmps := tmps, params := ps, assign := assign, body := body, defers := D }
theorem bodyY_ok {X : Cx} (hcon : ∀ f T, X.con f = some T → Known X.P X.glob f T) (hm : X.P.follows .mixedOrders = true) {Γ0 : Env} {w0 : World} {fn : FuncId} {tmps : Array Value} {ps : Array Tmp} {assign body : Code} {D l : Nat} {fr : List NS} (ha : simple assign = true) (hb : simple body = true) (hfr : FrRel Γ0 fr tmps) :
    YOk X.P X.glob l (rcOf fn tmps ps assign body D) Γ0 w0 (bodyY X ps assign body fr) := by
  intro args rg vs Γ w R hE hW hw hG hnw hk hargs h
  unfold bodyY at h
  split at h
  case isFalse => exact h.elim
  rename_i hlen
  have hl : w.heap[l]? = some (.loop (rcOf fn tmps ps assign body D .ready none)) := hw.kp l _ hk
  have hy := run_yield (P := X.P) (args := vs.toArray) hl (by show vs.toArray.size = ps.size; rw [List.size_toArray, ← hargs.length]; exact hlen)
  refine ⟨fn, _, assign, body, hy, roundIn_of_wpIn trivial ?_⟩
  have hfr' : FrRel Γ (setAll fr ps.toList args) ((ps.zip vs.toArray).foldl (fun tmps (t, a) => tmps.setIfInBounds t a) tmps) := by
    have := zip_fold ps.toList args vs fr tmps (hfr.mono hE.le) hargs
    rw [← Array.foldl_toList, Array.toList_zip]
    exact this
  have hI : Inv X.glob 0 Γ { fr := setAll fr ps.toList args, rg := rg } { tmps := (ps.zip vs.toArray).foldl (fun tmps (t, a) => tmps.setIfInBounds t a) tmps, defers := [] } w := ⟨hw, hfr', hG, hnw, Df.nil _ _⟩
  have hds : ∀ {Γ' : Env} {s' : St} {a' : Act} {w' : World} {p : Option NExit} {st : LoopState} {o' : Obj}, Inv X.glob 0 Γ' s' a' w' → Γ'.kp l = some (.loop (rcOf fn tmps ps assign body D st (p.map codeOf))) → o'.isCM = false → Inv X.glob 0 ((Γ'.strip [l]).hold l o') s' a' (w'.putObj l o') :=
    fun h1 h2 h3 => h1.turn h2 rfl h3 fun D _ hD e => by rw [e, h2] at hD; cases hD
  refine nwpR_sound (X := { P := X.P, con := X.con, glob := X.glob, m := rg.length, loops := [] }) hcon hm l 0 assign ha hI h fun e s1 a1 w1 Γ1 h1 hE1 hW1 hI1 => ?_
  cases e with
  | exit j => exact h1.elim
  | ret => exact h1.elim
  | normal =>
    have hk1 : Γ1.kp l = some (.loop (rcOf fn tmps ps assign body D .ready none)) := hE1.le.kp _ _ hk
    have hl1 := hI1.wr.kp l _ hk1
    refine ⟨_, run_beginRound hl1 rfl, ?_⟩
    have hI2 := hds (p := none) (o' := .loop (rcOf fn tmps ps assign body D .busy none)) hI1 hk1 rfl
    refine nwpR_sound (X := { P := X.P, con := X.con, glob := X.glob, m := rg.length, loops := [] }) hcon hm l 0 body hb hI2 h1 fun e s3 a3 w3 Γ3 h3 hE3 hW3 hI3 => ?_
    have hk3 : Γ3.kp l = some (.loop (rcOf fn tmps ps assign body D .busy none)) := hE3.le.kp _ _ hold_kp
    have hl3 := hI3.wr.kp l _ hk3
    have fin : ∀ p : Option NExit, R (p, s3.rg) → ∃ v w', (Instr.endRound l (p.map codeOf)).run X.P w3 = .ok v w' ∧ ∃ p rg' Γ', R (p, rg') ∧ Ending.returned v = .returned (.bool p.isNone) ∧ Ext (Γ.strip [l]) w Γ' ∧ Wd w w' ∧ WRel Γ' rg' w' ∧ GlobOk X.glob Γ' ∧ (∀ n, rg'.length ≤ n → Γ'.μ n = none) ∧ Γ'.kp l = some (pObj (rcOf fn tmps ps assign body D) p) := by
      intro p hp
      have hI4 := hds (p := none) (o' := pObj (rcOf fn tmps ps assign body D) p) hI3 hk3 rfl
      have hrun := run_endRound (P := X.P) (p.map codeOf) hl3
      have e1 : (p.map codeOf).isNone = p.isNone := by cases p <;> rfl
      rw [e1] at hrun
      refine ⟨_, _, hrun, p, s3.rg, _, hp, rfl, ?_, ?_, hI4.wr, hI4.gl, hI4.nw, hold_kp⟩
      · have x1 := hE1.strip2 [l]
        have x2 := hE3.strip2 [l]
        rw [strip_hold, strip_strip] at x2
        exact (x1.trans (hW1.trans (putObj_wd w1 l _)) x2).trans ((hW1.trans (putObj_wd w1 l _)).trans hW3) (hold_ext (strip_none l Γ3))
      · exact ((hW1.trans (putObj_wd w1 l _)).trans hW3).trans (putObj_wd w3 l _)
    cases e with
    | normal => exact fin none h3
    | ret => exact fin (some .ret) h3
    | exit j => exact fin (some (.exit j)) h3

theorem heap_none {w : World} : w.heap[w.heap.size]? = none := by simp
theorem run_results_none {P : Program} {fn : Func} (h : fn.results = #[]) (t : Array Value) (w : World) : ∃ v, (results fn t).run P w = .ok v w := by
  have e0 : results fn t = (do
      let vs ← fn.results.mapM (rvRun { tmps := t, defers := [] })
      pure (if h : vs.size = 1 then vs[0] else .tuple vs)) := by
    unfold results
    congr 1
  rw [e0, h]
  simp
set_option maxHeartbeats 1000000 in
theorem rangeT_ok {X : Cx} (hcon : ∀ f T, X.con f = some T → Known X.P X.glob f T) {K : Nat} {con : FuncId → Option Con} (hconI : ∀ f T, con f = some T → Known X.P X.glob f T) {ls : Nat → List NS → LI} {id : Nat} {out : List Nat} {gf : FuncId} {fn : Func} {cg : Code} {g : Operand} {ps : Array Tmp} {assign body : Code}
    (hf : X.P.funcs[gf]? = some fn) (hb : fn.body = some cg) (hname : (fn.name == "runtime.NumGoroutine") = false) (hres : fn.results = #[]) (ha : simple assign = true) (hbd : simple body = true) (ht : tame cg = true)
    (hls : ∀ m fr, LAllI { P := X.P, con := con, glob := X.glob, m := m, loops := [] } (bodyY X ps assign body fr) K (ls m fr) cg) (hm : X.P.follows .mixedOrders = true := by kernel_rfl) :
    RgOk X.P X.glob X.m id (.rangeFunc g ps assign body) (rangeT X K con ls id out gf fn (.rangeFunc g ps assign body)) := by
  intro Γ0 w0 h0 s Γ a w R Q hI hE hW hL hK
  simp only [rangeT] at hL
  split at hL
  case h_2 => exact hL.elim
  rename_i gf' cap hg
  split at hL
  case h_2 => exact hL.elim
  rename_i cg' hcond hb'
  rw [hb] at hb'
  cases hb'
  simp only [Bool.and_eq_true, decide_eq_true_eq, Bool.not_eq_true'] at hcond
  obtain ⟨⟨⟨rfl, hfe⟩, hre⟩, hke⟩ := hcond
  have eg : ∀ args w, (callFunc gf' args).run X.P w = .ok (.enter gf' args) w := fun args w => by
    have h1 : fn.name ≠ "runtime.NumGoroutine" := by simpa using hname
    simp [callFunc, hf, h1, hb]
  have rg0 := ev_rel hI.fr g
  rw [hg] at rg0
  obtain ⟨⟨caps, hgv, hcap⟩, -⟩ := rg0
  have hgv : a.eval g = .func (.func gf') #[] caps.toArray := hgv
  refine wp_block ((wpIn_wide (n := 0)).1 (wpIn_rangeFunc fun fnc _ => ?_))
  obtain ⟨rc, hrc⟩ : ∃ rc, rc = rcOf fnc a.tmps ps assign body w.heap.size := ⟨_, rfl⟩
  obtain ⟨W1, hW1⟩ : ∃ W1, (w.alloc (.deferred (some []))).alloc (.loop (rc .ready none)) = W1 := ⟨_, rfl⟩
  have hsz : W1.heap.size = w.heap.size + 2 := by rw [← hW1]; simp
  have hL1 : W1.heap[w.heap.size + 1]? = some (.loop (rc .ready none)) := by
    rw [← hW1]; have := World.alloc_heap_new (w.alloc (.deferred (some []))) (.loop (rc .ready none)); rwa [World.size_alloc] at this
  have hD1 : W1.heap[w.heap.size]? = some (.deferred (some [])) := by
    rw [← hW1]; exact (heap_alloc_lt _ _ _ (by simp)).trans (World.alloc_heap_new w _)
  have hold1 : ∀ b, b < w.heap.size → W1.heap[b]? = w.heap[b]? := fun b hb => by
    rw [← hW1]; exact (heap_alloc_lt _ _ _ (by simp; omega)).trans (heap_alloc_lt _ _ _ hb)
  have hWd1 : Wd w W1 := by
    rw [← hW1]; exact ⟨rfl, rfl, rfl, by simp; omega⟩
  have hkn : ∀ b, w.heap.size ≤ b → Γ.kp b = none ∧ Γ.ro b = false := fun b hb => by
    have h1 : Γ.kp b = none := by
      cases hk : Γ.kp b with
      | none => rfl
      | some o =>
        have := (Array.getElem?_eq_some_iff.1 (hI.wr.kp b o hk)).1
        omega
    refine ⟨h1, ?_⟩
    cases hr : Γ.ro b with
    | false => rfl
    | true => obtain ⟨o, ho⟩ := hI.wr.ro b hr; rw [h1] at ho; cases ho
  -- what is said of memory where the function begins
  let yv : Value := .func (.yield (w.heap.size + 1)) #[] #[]
  let ΓD : Env := Γ.hold w.heap.size (.deferred (some []))
  let ΓE : Env := ΓD.setE K yv
  let Γ1 : Env := ΓE.hold (w.heap.size + 1) (pObj rc none)
  have wD : WRel ΓD s.rg W1 := (hI.wr.mono_heap hold1).hold (hkn _ (Nat.le_refl _)).1 hD1 rfl
  have wE : WRel ΓE s.rg W1 := (SwapE.set K yv ΓD).world hre wD
  have kE : ΓE.kp (w.heap.size + 1) = none := by
    show (if w.heap.size + 1 = w.heap.size then _ else Γ.kp (w.heap.size + 1)) = none
    rw [if_neg (by omega)]
    exact (hkn _ (by omega)).1
  have rE : ΓE.ro (w.heap.size + 1) = false := (hkn _ (by omega)).2
  have w1 : WRel Γ1 s.rg W1 := wE.hold kE hL1 rfl
  have leD : Γ.le ΓD := hold_le (hkn _ (Nat.le_refl _)).1
  have le1 : ΓE.le Γ1 := hold_le kE
  have frE : FrRel ΓE s.fr a.tmps := (SwapE.set K yv ΓD).frame hfe (hI.fr.mono leD)
  have gE : GlobOk X.glob ΓE := (SwapE.set K yv ΓD).glob hke (hI.gl.mono leD)
  have hyv : ΓE.er K = some yv := if_pos rfl
  have hEx1 : Ext ΓE W1 Γ1 := hold_ext kE
  have hcapE : R2 (fun (x : Nat × Nat × Nat) u => ∃ B, ΓE.pt x.1 = some B ∧ u = .pointer (some ⟨B.blk, B.o + (x.2.1 * B.st + x.2.2), none⟩)) cap caps := hcap
  have hIt : InvI X.glob K (w.heap.size + 1) rc W1.heap.size Γ1 { fr := (.v (.c (.e K)) :: cap.map fun x => .v (.c (.p x.1 x.2.1 x.2.2))) ++ List.replicate (fn.ntmps - (1 + cap.length)) .dead, rg := s.rg }
      { tmps := (#[yv] ++ caps.toArray) ++ Array.replicate (fn.ntmps - (#[yv] ++ caps.toArray).size) undef, defers := [] } W1 none := by
    refine ⟨⟨w1, ?_, gE.mono le1, fun n hn => hI.nw n hn, Df.nil _ _⟩, ?_, hold_kp⟩
    · have e : ((#[yv] ++ caps.toArray) ++ Array.replicate (fn.ntmps - (#[yv] ++ caps.toArray).size) undef).toList = (yv :: caps) ++ List.replicate (fn.ntmps - (1 + cap.length)) undef := by
        simp [hcap.length, Nat.add_comm]
      show R2 (SRel Γ1) _ (Array.toList _)
      rw [e]
      refine R2.append (.cons ⟨hyv, rfl⟩ ?_) (R2.replicate _ (show SRel Γ1 .dead undef from trivial))
      refine R2.map_left hcapE ?_
      rintro x u ⟨B, h1, h2⟩
      exact ⟨⟨B, h1, h2⟩, by rw [h2]; rfl⟩
    · exact hyv
  refine ⟨w.heap.size + 1, [{ target := .collected w.heap.size, args := #[] }], W1, { target := .fn (.func gf') caps.toArray, args := #[yv] }, W1, gf', #[yv] ++ caps.toArray, W1, ?_, ?_, ?_, ?_, fun hh => by simp [Fence.wide] at hh, ?_⟩
  · rw [← hW1, hrc]; exact run_enterLoop_outer _ _ _ _ _
  · simp only [resolve, hgv]
    simp [go_sem, yv]
  · intro f' _; trivial
  · simp [invoke, go_sem, eg]
  refine callsIn_of_wp_marks hf hb trivial ?_ rfl
  refine nwpI_sound (X := { P := X.P, con := con, glob := X.glob, m := s.rg.length, loops := [] }) (Γ0 := ΓE) (w0 := W1) hconI (fun n hn => hI.nw n hn) (by rw [hsz]; omega) kE rE (hrc ▸ bodyY_ok hcon hm ha hbd frE) cg ht (hls s.rg.length s.fr) hIt hEx1 (Wd.refl W1) hL fun e s' p' a' w' Γ' h' hE' hW' hI' => ?_
  have key : (rangeEnd X K id out s.fr s' p').run R → LeavesInM Fence.wide 0 X.P fn a'.tmps (rangePost Fence.wide 0 X.P (w.heap.size + 1) (Exit.inBlock id Q) { a with defers := [{ target := .collected w.heap.size, args := #[] }] ++ a.defers }) a'.defers .returning w' := by
    intro h'
    unfold rangeEnd at h'
    split at h'
    case h_2 => exact h'.elim
    rename_i e2 s2 hre' hex hnorm
    have wE' : WRel ΓE s.rg W1 := wE
    obtain ⟨ds, Γs, hd, hnd, hheap, hEs, hIs, hlow, hge⟩ := hI'.inv.shut hE' wE' (Nat.le_refl _)
    rw [hd]
    refine leaves_marks ds hnd hheap ?_
    obtain ⟨v, hv⟩ := run_results_none (P := X.P) hres a'.tmps (shut ds w')
    refine ⟨v, hv, ?_⟩
    have hkl : Γs.kp (w.heap.size + 1) = some (pObj rc p') := by rw [hlow _ (by rw [hsz]; omega)]; exact hI'.rc
    have hls' : (shut ds w').heap[w.heap.size + 1]? = some (pObj rc p') := hIs.wr.kp _ _ hkl
    have hend : (Instr.endLoop (w.heap.size + 1)).run X.P (shut ds w') = .ok (p'.map codeOf) ((shut ds w').putObj (w.heap.size + 1) (.loop { rc (if p'.isNone then .ready else .done) (p'.map codeOf) with state := .exhausted })) := by
      have h4 := run_endLoop (P := X.P) hls' (by rw [hrc]; cases p' <;> simp [rcOf])
      have h5 : (rc (if p'.isNone then .ready else .done) (p'.map codeOf)).pending = p'.map codeOf := by rw [hrc]; rfl
      exact h4.trans (congrArg (fun x => Result.ok x _) h5)
    refine ⟨_, _, hend, ?_⟩
    -- behind the loop
    have hno := noCells_one hkl rfl
    have hEf : Ext ΓE W1 (Γs.strip [w.heap.size + 1]) := hEs.strip fun b hb => by rw [List.mem_singleton] at hb; subst hb; exact ⟨kE, rE⟩
    let Γf : Env := { μ := (Γs.strip [w.heap.size + 1]).μ, kp := (Γs.strip [w.heap.size + 1]).kp, ro := (Γs.strip [w.heap.size + 1]).ro, er := Γ.er }
    have hsw : SwapE K (Γs.strip [w.heap.size + 1]) Γf := ⟨rfl, rfl, rfl, fun k hk => by
      show Γ.er k = (Γs.strip [w.heap.size + 1]).er k
      rw [hEf.le.er]
      exact (if_neg hk).symm⟩
    have hle : Γ.le Γf := ⟨fun n B h => hEf.le.μ n B h, fun b o h => hEf.le.kp b o (leD.kp b o h), fun b h => hEf.le.ro b h, rfl⟩
    have hExf : Ext Γ w Γf := by
      refine ⟨hle, fun b hb => ?_, fun n B hB => ?_⟩
      · rcases hEf.ro b hb with h1 | h1 | h1
        · exact .inl h1
        · exact .inr (.inl (by omega))
        · exact .inr (.inr h1)
      · rcases hEf.nw n B hB with h1 | h1
        · exact .inl (by omega)
        · exact .inr h1
    have hIf : Inv X.glob w0.heap.size Γf { fr := s.fr, rg := s'.rg } { a with defers := [{ target := .collected w.heap.size, args := #[] }] ++ a.defers } ((shut ds w').putObj (w.heap.size + 1) (.loop { rc (if p'.isNone then .ready else .done) (p'.map codeOf) with state := .exhausted })) := by
      refine ⟨hsw.world hre' (hIs.wr.strip hno other_heap), hI.fr.mono hle, hI.gl.mono hle, fun n hn => hIs.nw n hn, ?_⟩
      obtain ⟨l, h1, h2, h3⟩ := hI.df
      refine ⟨w.heap.size :: l, by rw [List.map_cons, ← h1]; rfl, List.nodup_cons.2 ⟨fun hm => ?_, h2⟩, fun D hD => ?_⟩
      · have := (Array.getElem?_eq_some_iff.1 (hI.wr.kp _ _ (h3 _ hm).2)).1
        omega
      · rcases List.mem_cons.1 hD with rfl | hD
        · refine ⟨hW.size, hEf.le.kp _ _ ?_⟩
          exact hold_kp
        · exact ⟨(h3 D hD).1, hle.kp _ _ (h3 D hD).2⟩
    have hWf : Wd w0 ((shut ds w').putObj (w.heap.size + 1) (.loop { rc (if p'.isNone then .ready else .done) (p'.map codeOf) with state := .exhausted })) := (((hW.trans hWd1).trans hW').trans (shut_wd ds w')).trans (putObj_wd _ _ _)
    obtain ⟨Γ3, hE3, hI3⟩ := norm_sound hIf (hE.trans hW hExf) h0 hnorm
    have fin := hK e2 s2 _ _ Γ3 h' hE3 hWf hI3
    cases p' with
    | none => cases hex; exact fin
    | some j =>
      cases j with
      | normal => cases hex
      | ret =>
        cases hex
        exact wpIn_ret fin
      | exit j =>
        refine wpIn_exit ?_
        show if j = id then _ else _
        unfold outExit at hex
        simp only at hex
        split at hex
        · rename_i e; cases hex; rw [if_pos e]; exact fin
        · rename_i e; cases hex; rw [if_neg e]; exact fin
  cases e with
  | normal => exact key h'
  | ret => exact key h'
  | exit j => exact h'.elim
/-- A function with one range over a function and no loops. -/
theorem LAll.range {X : Cx} {c : Code} {id : Nat} {b : Code} {live : List Nat} {L : St → Tr (NExit × St)} (hl : loopsIn c = []) (hr : rangesIn c = [(id, b)]) (hx : X.loops = [(id, live, L)]) (h : RgOk X.P X.glob X.m id b L) : LAll X c := by
  refine ⟨fun i body hb => (by rw [hl] at hb; cases hb), fun i b' hb x hf => ?_⟩
  rw [hr, List.mem_singleton] at hb
  cases hb
  rw [hx] at hf
  simp at hf
  subst hf
  exact h
end Go.Nx
