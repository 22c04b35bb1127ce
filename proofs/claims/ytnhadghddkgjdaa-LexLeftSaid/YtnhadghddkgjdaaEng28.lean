/-
  The engine, part 28: ranges over functions: the function that is ranged over is walked with the loop's body in the place of its calls of yield.
-/
import Derived.Test.YtnhadghddkgjdaaEng24
namespace Go.Nx
open Go

/-! ### evaluation -/
def NC.noE (K : Nat) : NC → Bool
  | .e k => k != K
  | _ => true
def NV.noE (K : Nat) (x : NV) : Bool := x.cells.all (NC.noE K)
def NS.noE (K : Nat) : NS → Bool
  | .v x => x.noE K
  | .tu l => l.all (NV.noE K)
  | .dead => true
def rgNoE (K : Nat) (l : List (Option Reg)) : Bool := l.all fun g => match g with
  | some { body := .cells xs, .. } => xs.all (NC.noE K)
  | _ => true
/-- The arguments of a call of the value that stands for yield. -/
def yieldArgs (K : Nat) (s : St) (op : Op) : Option (List NV) :=
  match op with
  | .call c => (match c.callee with
    | .value f => (match s.ev f with
      | .v (.c (.e k)) => if k = K then allNV (c.args.toList.map s.ev) else none
      | _ => none)
    | _ => none)
  | _ => none
/-- What a round comes to: how it was left (none: it goes on), the regions. -/
abbrev Yh := List NV → List (Option Reg) → Tr (Option NExit × List (Option Reg))
abbrev LI := List (Nat × List Nat × (St × Option NExit → Tr (NExit × St × Option NExit)))
def ystep {β : Type} (X : Cx) (Y : Yh) (K : Nat) (ops : Array Oper) (o : Oper) (s : St) (p : Option NExit) (k : St → Option NExit → Tr β) : Tr β :=
  match yieldArgs K s o.op with
  | none => nstep ops o (deffW X o.op s.rg.length) s fun s' => k s' p
  | some args =>
    match o.guard, p with
    | none, none => (Y args s.rg).bind fun r => k (St.put { fr := s.fr, rg := r.2 } o.dst (lit r.1.isNone)) r.1
    | _, _ => .fail
def yops {β : Type} (X : Cx) (Y : Yh) (K : Nat) (ops : Array Oper) : List Oper → St → Option NExit → (St → Option NExit → Tr β) → Tr β
  | [], s, p, k => k s p
  | o :: rest, s, p, k => ystep X Y K ops o s p fun s' p' => yops X Y K ops rest s' p' k
def nwpI {β : Type} (X : Cx) (Y : Yh) (K : Nat) (ls : LI) : Code → St → Option NExit → (NExit → St → Option NExit → Tr β) → Tr β
  | .skip, s, p, k => k .normal s p
  | .seq a b, s, p, k => nwpI X Y K ls a s p fun e s' p' => match e with
    | .normal => nwpI X Y K ls b s' p' k
    | e => k e s' p'
  | .cond c a b, s, p, k =>
    (match c, s.ev c with
     | .tmp t, .v (.c (.b x)) => .br x (nwpI X Y K ls a (s.put (some t) (lit true)) p k) (nwpI X Y K ls b (s.put (some t) (lit false)) p k)
     | _, .v (.c (.b x)) => .br x (nwpI X Y K ls a s p k) (nwpI X Y K ls b s p k)
     | _, _ => .fail)
  | .block id c, s, p, k =>
    (match c with
     | .loop _ =>
       (match ls.find? (·.1 == id) with
        | some (_, live, L) => (match norm X.m live s with
          | some s' => (L (s', p)).bind fun x => k x.1 x.2.1 x.2.2
          | none => .fail)
        | none => .fail)
     | c => nwpI X Y K ls c s p fun e s' p' => match e with
       | .exit j => if j = id then k .normal s' p' else k (.exit j) s' p'
       | e => k e s' p')
  | .exit id, s, p, k => k (.exit id) s p
  | .ret, s, p, k => k .ret s p
  | .region _ ops false, s, p, k => yops X Y K ops ops.toList s p (k .normal)
  | _, _, _, _ => .fail
def setAll : List NS → List Tmp → List NV → List NS
  | fr, t :: ts, x :: xs => setAll (fr.set t (.v x)) ts xs
  | fr, _, _ => fr
/-- One round of a range's body. -/
def bodyY (X : Cx) (ps : Array Tmp) (assign body : Code) (fr : List NS) : Yh := fun args rg =>
  if args.length = ps.size then
    nwp { P := X.P, con := X.con, glob := X.glob, m := rg.length, loops := [] } assign { fr := setAll fr ps.toList args, rg := rg } fun e s1 => match e with
      | .normal => nwp { P := X.P, con := X.con, glob := X.glob, m := rg.length, loops := [] } body s1 fun e s2 => match e with
        | .normal => .ret (none, s2.rg)
        | e => .ret (some e, s2.rg)
      | _ => .fail
  else .fail
def outExit (id : Nat) : Option NExit → Option NExit
  | none => some .normal
  | some (.exit j) => if j = id then some .normal else some (.exit j)
  | some .ret => some .ret
  | some .normal => none
def rangeEnd (X : Cx) (K id : Nat) (out : List Nat) (fr : List NS) (s : St) (p : Option NExit) : Tr (NExit × St) :=
  match rgNoE K s.rg, outExit id p, norm X.m out { fr := fr, rg := s.rg } with
  | true, some e, some s'' => .ret (e, s'')
  | _, _, _ => .fail
/-- A range over a function: its function is walked. 'con': what that function calls; 'ls': its loops, by the number of regions and the frame of the loop. -/
def rangeT (X : Cx) (K : Nat) (con : FuncId → Option Con) (ls : Nat → List NS → LI) (id : Nat) (out : List Nat) (gf : FuncId) (fn : Func) (c : Code) (s : St) : Tr (NExit × St) :=
  match c with
  | .rangeFunc g ps assign body =>
    (match s.ev g with
     | .v (.c (.cl gf' cap)) =>
       (match decide (gf' = gf) && s.fr.all (NS.noE K) && rgNoE K s.rg && !X.glob.tail.contains K, fn.body with
        | true, some cg => nwpI { P := X.P, con := con, glob := X.glob, m := s.rg.length, loops := [] } (bodyY X ps assign body s.fr) K (ls s.rg.length s.fr) cg
            { fr := (.v (.c (.e K)) :: cap.map fun x => .v (.c (.p x.1 x.2.1 x.2.2))) ++ List.replicate (fn.ntmps - (1 + cap.length)) .dead, rg := s.rg } none
            fun e s' p => match e with
              | .exit _ => .fail
              | _ => rangeEnd X K id out s.fr s' p
        | _, _ => .fail)
     | _ => .fail)
  | _ => .fail

/-! ### the value that stands for yield -/
def Env.setE (K : Nat) (v : Value) (Γ : Env) : Env := { μ := Γ.μ, kp := Γ.kp, ro := Γ.ro, er := fun k => if k = K then some v else Γ.er k }
structure SwapE (K : Nat) (Γ Γ' : Env) : Prop where
  μ : Γ'.μ = Γ.μ
  kp : Γ'.kp = Γ.kp
  ro : Γ'.ro = Γ.ro
  er : ∀ k, k ≠ K → Γ'.er k = Γ.er k
theorem SwapE.set (K : Nat) (v : Value) (Γ : Env) : SwapE K Γ (Γ.setE K v) := ⟨rfl, rfl, rfl, fun _ h => if_neg h⟩
section
variable {K : Nat} {Γ Γ' : Env}
theorem SwapE.roRow (h : SwapE K Γ Γ') {b o : Nat} {vs : List Value} (r : RoRow Γ b o vs) : RoRow Γ' b o vs := by
  obtain ⟨h1, c, e, fz, h2, h3⟩ := r
  exact ⟨by rw [h.ro]; exact h1, c, e, fz, by rw [h.kp]; exact h2, h3⟩
theorem SwapE.crel (h : SwapE K Γ Γ') {x : NC} {v : Value} (hx : x.noE K = true) (r : CRel Γ x v) : CRel Γ' x v := by
  cases x with
  | p r' i c => obtain ⟨B, h1, h2⟩ := r; exact ⟨B, by rw [h.μ]; exact h1, h2⟩
  | h r' o n => obtain ⟨B, o, cap, h1, h2⟩ := r; exact ⟨B, o, cap, by rw [h.μ]; exact h1, h2⟩
  | l k xs =>
    obtain ⟨a, cap, h1, h2, h3⟩ := r
    exact ⟨a, cap, h1, h2, h3.imp id fun ⟨blk, off, h4, h5⟩ => ⟨blk, off, h4, h.roRow h5⟩⟩
  | lr ks xs =>
    obtain ⟨a, cap, h1, h2, h0, h3⟩ := r
    exact ⟨a, cap, h1, h2, h0, h3.imp id fun ⟨blk, off, h4, h5⟩ => ⟨blk, off, h4, h.roRow h5⟩⟩
  | pl k xs i => obtain ⟨blk, off, h1, h2⟩ := r; exact ⟨blk, off, h1, h.roRow h2⟩
  | pr ks xs i c => obtain ⟨blk, off, h1, h2⟩ := r; exact ⟨blk, off, h1, h.roRow h2⟩
  | e k =>
    have hk : k ≠ K := by simpa [NC.noE] using hx
    show Γ'.er k = some v
    rw [h.er k hk]; exact r
  | cl f cap =>
    obtain ⟨caps, h1, h2⟩ := r
    exact ⟨caps, h1, h2.imp fun a b ⟨B, h3, h4⟩ => ⟨B, by rw [h.μ]; exact h3, h4⟩⟩
  | _ => exact r
theorem SwapE.cells (h : SwapE K Γ Γ') {xs : List NC} {vs : List Value} (hx : xs.all (NC.noE K) = true) (r : R2 (CR Γ) xs vs) : R2 (CR Γ') xs vs :=
  r.imp_mem fun x _ hm r => ⟨h.crel (List.all_eq_true.1 hx x hm) r.1, r.2⟩
theorem SwapE.vrel (h : SwapE K Γ Γ') {x : NV} {v : Value} (hx : x.noE K = true) (r : VRel Γ x v) : VRel Γ' x v := by
  cases x with
  | c x => exact ⟨h.crel (by simpa [NV.noE, NV.cells] using hx) r.1, r.2⟩
  | ag xs => obtain ⟨vs, h1, h2⟩ := r; exact ⟨vs, h1, h.cells hx h2⟩
theorem SwapE.srel (h : SwapE K Γ Γ') {x : NS} {v : Value} (hx : x.noE K = true) (r : SRel Γ x v) : SRel Γ' x v := by
  cases x with
  | v x => exact h.vrel hx r
  | tu l => obtain ⟨vs, h1, h2⟩ := r; exact ⟨vs, h1, h2.imp_mem fun x _ hm r => h.vrel (List.all_eq_true.1 hx x hm) r⟩
  | dead => trivial
theorem SwapE.frame (h : SwapE K Γ Γ') {fr : List NS} {t : Array Value} (hx : fr.all (NS.noE K) = true) (r : FrRel Γ fr t) : FrRel Γ' fr t :=
  R2.imp_mem r fun x _ hm r => h.srel (List.all_eq_true.1 hx x hm) r
theorem SwapE.body (h : SwapE K Γ Γ') {st : Nat} {b : Body} {vs : List Value} (hx : ∀ xs, b = .cells xs → xs.all (NC.noE K) = true) (r : BodyRel Γ st b vs) : BodyRel Γ' st b vs := by
  cases b with
  | cells xs => obtain ⟨l1, l2, h1, h2⟩ := r; exact ⟨l1, l2, h1, h.cells (hx xs rfl) h2⟩
  | ints k xs => exact r
  | recs ks xs => exact r
theorem SwapE.world (h : SwapE K Γ Γ') {rg : List (Option Reg)} {w : World} (hx : rgNoE K rg = true) (r : WRel Γ rg w) : WRel Γ' rg w := by
  refine ⟨fun n g hg => ?_, by rw [h.μ]; exact r.inj, by rw [h.kp]; exact r.kp, by rw [h.μ, h.kp]; exact r.apart, by rw [h.ro, h.kp]; exact r.ro⟩
  obtain ⟨B, hB, c, h1, h2, h3, h4⟩ := r.live n g hg
  refine ⟨B, by rw [h.μ]; exact hB, c, h1, h2, h3, h.body (fun xs hb => ?_) h4⟩
  have := List.all_eq_true.1 hx (some g) (List.mem_of_getElem? hg)
  obtain ⟨st, e, body⟩ := g
  simp only at hb
  subst hb
  exact this
theorem SwapE.glob (h : SwapE K Γ Γ') {gl : List Nat} (hx : gl.tail.contains K = false) (r : GlobOk gl Γ) : GlobOk gl Γ' := by
  have hne : ∀ x ∈ gl.tail, x ≠ K := fun x hm e => by
    subst e
    have : gl.tail.contains x = true := by simpa using hm
    rw [hx] at this; cases this
  refine ⟨fun x hm => ?_, fun x hm y hm' hxy => by rw [h.er x (hne x hm), h.er y (hne y hm')]; exact r.2 x hm y hm' hxy⟩
  rw [h.er x (hne x hm), h.kp]
  exact r.1 x hm
end

/-! ### left-out blocks, once more -/
theorem Ext.strip2 {A B : Env} {w : World} (l : List Nat) (h : Ext A w B) : Ext (A.strip l) w (B.strip l) := by
  refine ⟨⟨h.le.μ, fun b o hb => ?_, fun b hb => ?_, h.le.er⟩, fun b hb => ?_, h.nw⟩
  · have hb' : (if b ∈ l then none else A.kp b) = some o := hb
    by_cases hm : b ∈ l
    · rw [if_pos hm] at hb'; cases hb'
    · rw [if_neg hm] at hb'; exact (strip_kp_of hm).trans (h.le.kp b o hb')
  · have hb' : (if b ∈ l then false else A.ro b) = true := hb
    by_cases hm : b ∈ l
    · rw [if_pos hm] at hb'; cases hb'
    · rw [if_neg hm] at hb'; exact (strip_ro_of hm).trans (h.le.ro b hb')
  · have hb' : (if b ∈ l then false else B.ro b) = true := hb
    by_cases hm : b ∈ l
    · rw [if_pos hm] at hb'; cases hb'
    · rw [if_neg hm] at hb'
      rcases h.ro b hb' with h1 | h1 | h1
      · exact .inl ((strip_ro_of hm).trans h1)
      · exact .inr (.inl h1)
      · exact .inr (.inr h1)
theorem strip_strip (l : List Nat) (Γ : Env) : (Γ.strip l).strip l = Γ.strip l := by
  unfold Env.strip
  simp only [Env.mk.injEq, true_and, and_true]
  refine ⟨funext fun b => ?_, funext fun b => ?_⟩ <;> (by_cases h : b ∈ l <;> simp [h])
theorem strip_hold (b : Nat) (o : Obj) (Γ : Env) : (Γ.hold b o).strip [b] = Γ.strip [b] := by
  unfold Env.strip Env.hold
  simp only [Env.mk.injEq, true_and, and_true]
  refine funext fun b' => ?_
  by_cases h : b' = b <;> simp [h]
theorem strip_none (b : Nat) (Γ : Env) : (Γ.strip [b]).kp b = none := if_pos (by simp)
theorem noCells_one {Γ : Env} {b : Nat} {o : Obj} (h : Γ.kp b = some o) (ho : o.isCells = false) : NoCells Γ [b] := fun b' hb => by
  rw [List.mem_singleton] at hb
  subst hb
  exact ⟨o, h, ho⟩
theorem strip_self_le {Γ : Env} {l : List Nat} : (Γ.strip l).le Γ := by
  refine ⟨fun _ _ h => h, fun b o hb => ?_, fun b hb => ?_, rfl⟩
  · have hb' : (if b ∈ l then none else Γ.kp b) = some o := hb
    by_cases hm : b ∈ l
    · rw [if_pos hm] at hb'; cases hb'
    · rw [if_neg hm] at hb'; exact hb'
  · have hb' : (if b ∈ l then false else Γ.ro b) = true := hb
    by_cases hm : b ∈ l
    · rw [if_pos hm] at hb'; cases hb'
    · rw [if_neg hm] at hb'; exact hb'
theorem other_heap {w : World} {b : Nat} {o : Obj} : ∀ b', b' ∉ [b] → (w.putObj b o).heap[b']? = w.heap[b']? := fun b' h => World.putObj_heap_other (by simpa using h)
theorem putObj_wd (w : World) (b : Nat) (o : Obj) : Wd w (w.putObj b o) := ⟨rfl, rfl, rfl, by rw [World.putObj_size]; exact Nat.le_refl _⟩
/-- A block that is no cells is turned from one thing into another. -/
theorem Inv.turn {gl : List Nat} {N : Nat} {Γ : Env} {s : St} {a : Act} {w : World} {b : Nat} {o o' : Obj} (h : Inv gl N Γ s a w) (hk : Γ.kp b = some o) (ho : o.isCells = false) (ho' : o'.isCells = false) (hd : ∀ D, N ≤ D → Γ.kp D = some (.deferred (some [])) → D ≠ b) :
    Inv gl N ((Γ.strip [b]).hold b o') s a (w.putObj b o') := by
  have hn := noCells_one hk ho
  have hle := hold_le (o := o') (strip_none b Γ)
  have hlt : b < w.heap.size := (Array.getElem?_eq_some_iff.1 (h.wr.kp b o hk)).1
  refine ⟨(h.wr.strip hn other_heap).hold (strip_none b Γ) (World.putObj_heap_same hlt) ho', (FrRel.strip hn h.fr).mono hle, (h.gl.strip hn).mono hle, h.nw, ?_⟩
  obtain ⟨l, h1, h2, h3⟩ := h.df
  refine ⟨l, h1, h2, fun D hD => ⟨(h3 D hD).1, hle.kp _ _ ?_⟩⟩
  exact (strip_kp_of (by simpa using hd D (h3 D hD).1 (h3 D hD).2)).trans (h3 D hD).2
end Go.Nx
