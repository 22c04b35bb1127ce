/-
  The engine, part 19: from what is known of a function to what a row asks.
-/
import Derived.Test.YtnhadghddkgjdaaEng18
import Derived.RowKit3
namespace Go.Nx
open Go Go.RowKit

/-- What there is ahead of a call: it all stays; rows of it may be looked at. -/
def topEnv (w : World) (er : Nat → Option Value) : Env := { μ := fun _ => none, kp := fun b => w.heap[b]?, ro := fun b => decide (b < w.heap.size), er := er }
theorem topEnv_w (w : World) (er : Nat → Option Value) : WRel (topEnv w er) [] w := by
  refine ⟨fun n g h => by simp at h, fun n m B B' _ h => ?_, fun b o h => h, fun n B h => ?_, fun b h => ?_⟩
  · obtain ⟨g, h⟩ := h; simp at h
  · obtain ⟨g, h⟩ := h; simp at h
  · have hb : b < w.heap.size := by simpa [topEnv] using h
    exact ⟨w.heap[b], Array.getElem?_eq_getElem hb⟩
/-- What a tree comes to, behind a name that nothing opens by itself. -/
structure Holds {α : Type} (t : Tr α) (R : α → Prop) : Prop where
  run : t.run R
/-- A function that takes no regions. -/
theorem Known.calls {P : Program} {gl : List Nat} {f : FuncId} {T : Con} (hk : Known P gl f T) {args : List NV} {vs : List Value} {w : World} (er : Nat → Option Value) (hG : GlobOk gl (topEnv w er)) (hargs : R2 (VRel (topEnv w er)) args vs) {R : Out → Prop} (h : (T args []).run R) :
    Calls P f vs.toArray w fun e w' => ∃ o v Γ', R o ∧ e = .returned v ∧ Ext (topEnv w er) w Γ' ∧ SRel Γ' o.res v ∧ WRel Γ' o.rg w' ∧ Wd w w' := by
  refine (hk.sound args [] R h (topEnv w er) w vs (topEnv_w w er) hG hargs (fun _ _ => rfl)).mono ?_
  rintro e w' ⟨o, v, Γ', h1, h2, h3, h4, h5, h6⟩
  exact ⟨o, v, Γ', h1, h2, h3, h4, h5, h6⟩
/-- A function without loops is what its text comes to. -/
theorem known_inl {P : Program} {gl : List Nat} {f : FuncId} {fn : Func} {c : Code} {con : FuncId → Option Con} (hf : P.funcs[f]? = some fn) (hb : fn.body = some c) (hname : (fn.name == "runtime.NumGoroutine") = false) (hm : P.follows .mixedOrders = true)
    (hcon : ∀ f T, con f = some T → Known P gl f T) (hl : loopsIn c = []) : Known P gl f (fun args regs => nfun P gl con [] fn args regs) :=
  known_of hf hb hname hm fun _ _ _ h => ⟨con, [], hcon, ⟨fun id body hi => (by rw [hl] at hi; cases hi), fun id body _ x hx => (by cases hx)⟩, h⟩
theorem LAll.list {X : Cx} {c : Code} {ls : List (Nat × Code)} (hl : loopsIn c = ls) (h : ∀ p ∈ ls, ∀ x, X.loops.find? (·.1 == p.1) = some x → LOk X.P X.glob X.m p.1 p.2 x.2.2) (hr : rangesIn c = [] := by kernel_rfl) : LAll X c := by
  refine ⟨fun id body hb x hx => ?_, fun id body hb => by rw [hr] at hb; cases hb⟩
  rw [hl] at hb
  exact h (id, body) hb x hx
theorem LAll.none {X : Cx} {c : Code} (hl : loopsIn c = []) (hr : rangesIn c = [] := by kernel_rfl) : LAll X c := LAll.list hl (fun p hp => by cases hp) hr
theorem LAll.one {X : Cx} {c : Code} {id : Nat} {body : Code} {live : List Nat} {L : St → Tr (NExit × St)} (hl : loopsIn c = [(id, body)]) (hx : X.loops = [(id, live, L)]) (h : LOk X.P X.glob X.m id body L) (hr : rangesIn c = [] := by kernel_rfl) : LAll X c :=
  LAll.list hl (hr := hr) fun p hp x hf => by
    rw [List.mem_singleton] at hp
    subst hp
    rw [hx] at hf
    simp at hf
    subst hf
    exact h
/-- A function that takes m regions, with its loops. -/
theorem known_loops {P : Program} {gl : List Nat} {f : FuncId} {fn : Func} {c : Code} {con : FuncId → Option Con} {loops : List (Nat × List Nat × (St → Tr (NExit × St)))} (m : Nat) (hf : P.funcs[f]? = some fn) (hb : fn.body = some c) (hname : (fn.name == "runtime.NumGoroutine") = false) (hm : P.follows .mixedOrders = true)
    (hcon : ∀ f T, con f = some T → Known P gl f T) (hl : LAll { P := P, con := con, glob := gl, m := m, loops := loops } c) : Known P gl f (fun args regs => if regs.length = m then nfun P gl con loops fn args regs else .fail) :=
  known_of hf hb hname hm fun args regs R h => by
    by_cases e : regs.length = m
    · rw [if_pos e] at h
      exact ⟨con, loops, hcon, e ▸ hl, h⟩
    · rw [if_neg e] at h
      exact h.elim
/-- A tree may be put in another one's place, where it says enough. -/
theorem Known.less {P : Program} {gl : List Nat} {f : FuncId} {T T' : Con} (hk : Known P gl f T) (h : ∀ args regs R, (T' args regs).run R → (T args regs).run R) : Known P gl f T' :=
  ⟨hk.goes, fun args regs R hr => hk.sound args regs R (h args regs R hr)⟩
theorem con_none {P : Program} {gl : List Nat} : ∀ (f : FuncId) (T : Con), (fun _ => Option.none : FuncId → Option Con) f = some T → Known P gl f T := fun _ _ h => by cases h
theorem globOk_nil (Γ : Env) : GlobOk [] Γ := ⟨(fun x hx => by cases hx), (fun x hx => by cases hx)⟩
theorem int_rel (Γ : Env) (k : IntKind) (n : Int) : VRel Γ (.c (.i k n)) (.int k n) := ⟨rfl, rfl⟩
theorem ints_rel (Γ : Env) (k : IntKind) (l : List Int) : VRel Γ (.ag (l.map (.i k))) (.agg (l.map (.int k)).toArray) := ⟨_, rfl, R2.self_map _ _ l fun _ => ⟨rfl, rfl⟩⟩
theorem bool_rel (Γ : Env) (b : Bool) : VRel Γ (.c (.b b)) (.bool b) := ⟨rfl, rfl⟩
theorem string_rel (Γ : Env) (s : ByteArray) : VRel Γ (.c (.s s)) (.string s) := ⟨rfl, rfl⟩

end Go.Nx
