/-
  The engine, part 17 s: what is said of memory, where some blocks that are no cells are left out: they may be turned then.
-/
import Derived.Test.YtnhadghddkgjdaaEng17
import Derived.RangeFuncNested
namespace Go.Nx
open Go

/-- The same, without what is said of these blocks. -/
def Env.strip (l : List Nat) (Γ : Env) : Env := { μ := Γ.μ, kp := fun b => if b ∈ l then none else Γ.kp b, ro := fun b => if b ∈ l then false else Γ.ro b, er := Γ.er }
/-- These blocks stay, and are no cells. -/
def NoCells (Γ : Env) (l : List Nat) : Prop := ∀ b ∈ l, ∃ o, Γ.kp b = some o ∧ o.isCells = false
section
variable {Γ : Env} {l : List Nat}
theorem strip_kp_of {b : Nat} (h : b ∉ l) : (Γ.strip l).kp b = Γ.kp b := if_neg h
theorem strip_ro_of {b : Nat} (h : b ∉ l) : (Γ.strip l).ro b = Γ.ro b := if_neg h
theorem NoCells.not_mem (h : NoCells Γ l) {b : Nat} {c : Array Value} {e : TypeId} {fz : Nat × Nat} (hb : Γ.kp b = some (.cells c e fz)) : b ∉ l := fun hm => by
  obtain ⟨o, h1, h2⟩ := h b hm
  rw [hb] at h1
  cases h1
  cases h2
theorem NoCells.not_mem' (h : NoCells Γ l) {b : Nat} (hb : Γ.kp b = none) : b ∉ l := fun hm => by
  obtain ⟨o, h1, -⟩ := h b hm
  rw [hb] at h1
  cases h1
theorem RoRow.strip (hn : NoCells Γ l) {b o : Nat} {vs : List Value} (r : RoRow Γ b o vs) : RoRow (Γ.strip l) b o vs := by
  obtain ⟨h1, c, e, fz, h2, h3⟩ := r
  have hb := hn.not_mem h2
  exact ⟨(strip_ro_of hb).trans h1, c, e, fz, (strip_kp_of hb).trans h2, h3⟩
theorem CRel.strip (hn : NoCells Γ l) {x : NC} {v : Value} (r : CRel Γ x v) : CRel (Γ.strip l) x v := by
  cases x with
  | l k xs =>
    obtain ⟨a, cap, h1, h2, h3⟩ := r
    exact ⟨a, cap, h1, h2, h3.imp id fun ⟨blk, off, h4, h5⟩ => ⟨blk, off, h4, h5.strip hn⟩⟩
  | lr ks xs =>
    obtain ⟨a, cap, h1, h2, h0, h3⟩ := r
    exact ⟨a, cap, h1, h2, h0, h3.imp id fun ⟨blk, off, h4, h5⟩ => ⟨blk, off, h4, h5.strip hn⟩⟩
  | pl k xs i => obtain ⟨blk, off, h1, h2⟩ := r; exact ⟨blk, off, h1, h2.strip hn⟩
  | pr ks xs i c => obtain ⟨blk, off, h1, h2⟩ := r; exact ⟨blk, off, h1, h2.strip hn⟩
  | _ => exact r
theorem CR.strip (hn : NoCells Γ l) {x : NC} {v : Value} (r : CR Γ x v) : CR (Γ.strip l) x v := ⟨CRel.strip hn r.1, r.2⟩
theorem VRel.strip (hn : NoCells Γ l) {x : NV} {v : Value} (r : VRel Γ x v) : VRel (Γ.strip l) x v := by
  cases x with
  | c x => exact CR.strip hn r
  | ag xs => obtain ⟨vs, h1, h2⟩ := r; exact ⟨vs, h1, h2.imp fun _ _ r => CR.strip hn r⟩
theorem SRel.strip (hn : NoCells Γ l) {x : NS} {v : Value} (r : SRel Γ x v) : SRel (Γ.strip l) x v := by
  cases x with
  | v x => exact VRel.strip hn r
  | tu xs => obtain ⟨vs, h1, h2⟩ := r; exact ⟨vs, h1, h2.imp fun _ _ r => VRel.strip hn r⟩
  | dead => trivial
theorem FrRel.strip (hn : NoCells Γ l) {fr : List NS} {t : Array Value} (r : FrRel Γ fr t) : FrRel (Γ.strip l) fr t := R2.imp r fun _ _ r => SRel.strip hn r
theorem BodyRel.strip (hn : NoCells Γ l) {st : Nat} {b : Body} {vs : List Value} (r : BodyRel Γ st b vs) : BodyRel (Γ.strip l) st b vs := by
  cases b with
  | cells xs => obtain ⟨l1, l2, h1, h2⟩ := r; exact ⟨l1, l2, h1, h2.imp fun _ _ r => CR.strip hn r⟩
  | ints k xs => exact r
  | recs ks xs => exact r
/-- The blocks that are left out may have been turned. -/
theorem WRel.strip {rg : List (Option Reg)} {w w' : World} (hn : NoCells Γ l) (h : WRel Γ rg w) (hh : ∀ b, b ∉ l → w'.heap[b]? = w.heap[b]?) : WRel (Γ.strip l) rg w' := by
  refine ⟨fun n g hg => ?_, h.inj, fun b o hb => ?_, fun n B hl hB => ?_, fun b hb => ?_⟩
  · obtain ⟨B, hB, c, h1, h2, h3, h4⟩ := h.live n g hg
    have hm := hn.not_mem' (h.apart n B ⟨g, hg⟩ hB)
    exact ⟨B, hB, c, (hh _ hm).trans h1, h2, h3, h4.strip hn⟩
  · have hb' : (if b ∈ l then none else Γ.kp b) = some o := hb
    by_cases hm : b ∈ l
    · rw [if_pos hm] at hb'; cases hb'
    · rw [if_neg hm] at hb'; exact (hh b hm).trans (h.kp b o hb')
  · show (if B.blk ∈ l then none else Γ.kp B.blk) = none
    rw [if_neg (hn.not_mem' (h.apart n B hl hB))]
    exact h.apart n B hl hB
  · have hb' : (if b ∈ l then false else Γ.ro b) = true := hb
    by_cases hm : b ∈ l
    · rw [if_pos hm] at hb'; cases hb'
    · rw [if_neg hm] at hb'
      obtain ⟨o, ho⟩ := h.ro b hb'
      exact ⟨o, (if_neg hm).trans ho⟩
theorem GlobOk.strip {gl : List Nat} (hn : NoCells Γ l) (h : GlobOk gl Γ) : GlobOk gl (Γ.strip l) := by
  refine ⟨fun x hx => ?_, h.2⟩
  obtain ⟨ad, c, e, fz, ca, ta, h1, h2, h3, h4⟩ := h.1 x hx
  exact ⟨ad, c, e, fz, ca, ta, h1, (strip_kp_of (hn.not_mem h2)).trans h2, h3, (strip_kp_of (hn.not_mem h4)).trans h4⟩
theorem Ext.strip {Γ0 : Env} {w0 : World} (h : Ext Γ0 w0 Γ) (h0 : ∀ b ∈ l, Γ0.kp b = none ∧ Γ0.ro b = false) : Ext Γ0 w0 (Γ.strip l) := by
  refine ⟨⟨h.le.μ, fun b o hb => ?_, fun b hb => ?_, h.le.er⟩, fun b hb => ?_, h.nw⟩
  · have hm : b ∉ l := fun hm => by rw [(h0 b hm).1] at hb; cases hb
    exact (strip_kp_of hm).trans (h.le.kp b o hb)
  · have hm : b ∉ l := fun hm => by rw [(h0 b hm).2] at hb; cases hb
    exact (strip_ro_of hm).trans (h.le.ro b hb)
  · have hb' : (if b ∈ l then false else Γ.ro b) = true := hb
    by_cases hm : b ∈ l
    · rw [if_pos hm] at hb'; cases hb'
    · rw [if_neg hm] at hb'; exact h.ro b hb'
end
/-- A block that is no cells, and of which nothing is said, stays as it is from here on. -/
def Env.hold (b : Nat) (o : Obj) (Γ : Env) : Env := { μ := Γ.μ, kp := fun b' => if b' = b then some o else Γ.kp b', ro := Γ.ro, er := Γ.er }
section
variable {Γ : Env} {b : Nat} {o : Obj}
theorem hold_kp : (Γ.hold b o).kp b = some o := if_pos rfl
theorem hold_le (h : Γ.kp b = none) : Γ.le (Γ.hold b o) := by
  refine ⟨fun _ _ h => h, fun b' o' hb => ?_, fun _ h => h, rfl⟩
  have hne : b' ≠ b := fun e => by rw [e, h] at hb; cases hb
  exact (if_neg hne).trans hb
theorem WRel.hold {rg : List (Option Reg)} {w : World} (h : WRel Γ rg w) (hk : Γ.kp b = none) (hw : w.heap[b]? = some o) (ho : o.isCells = false) : WRel (Γ.hold b o) rg w := by
  refine ⟨fun n g hg => ?_, h.inj, fun b' o' hb => ?_, fun n B hl hB => ?_, fun b' hb => ?_⟩
  · obtain ⟨B, hB, r⟩ := h.live n g hg
    exact ⟨B, hB, r.mono (hold_le hk)⟩
  · have hb' : (if b' = b then some o else Γ.kp b') = some o' := hb
    by_cases hm : b' = b
    · rw [if_pos hm] at hb'; cases hb'; rw [hm]; exact hw
    · rw [if_neg hm] at hb'; exact h.kp b' o' hb'
  · obtain ⟨g, hg⟩ := hl
    obtain ⟨B', hB', c, h1, -⟩ := h.live n g hg
    have : Γ.μ n = some B := hB
    rw [this] at hB'; cases hB'
    have hne : B.blk ≠ b := fun e => by rw [e, hw] at h1; cases h1; cases ho
    exact (if_neg hne).trans (h.apart n B ⟨g, hg⟩ hB)
  · obtain ⟨o', ho'⟩ := h.ro b' hb
    exact ⟨o', (hold_le hk).kp _ _ ho'⟩
theorem hold_ext {w : World} (hk : Γ.kp b = none) : Ext Γ w (Γ.hold b o) := ⟨hold_le hk, fun _ h => .inl h, fun n B h => .inr ⟨n, B, h, rfl⟩⟩
end
/-- Marks' blocks are shut. -/
def shut : List Nat → World → World
  | [], w => w
  | D :: l, w => shut l (w.putObj D (.deferred none))
theorem shut_other : ∀ (l : List Nat) (w : World) (b : Nat), b ∉ l → (shut l w).heap[b]? = w.heap[b]?
  | [], _, _, _ => rfl
  | D :: l, w, b, h => by
    rw [List.mem_cons, not_or] at h
    exact (shut_other l _ b h.2).trans (World.putObj_heap_other h.1)
theorem shut_wd : ∀ (l : List Nat) (w : World), Wd w (shut l w)
  | [], w => Wd.refl w
  | D :: l, w => by
    have h : Wd w (w.putObj D (.deferred none)) := ⟨rfl, rfl, rfl, by rw [World.putObj_size]; exact Nat.le_refl _⟩
    exact h.trans (shut_wd l _)
theorem leaves_marks {n : Nat} {P : Program} {fn : Func} {tmps : Array Value} {R : Ending → World → Prop} : ∀ (l : List Nat) {w : World}, l.Nodup → (∀ D ∈ l, w.heap[D]? = some (.deferred (some []))) →
    LeavesIn Fence.wide n P fn tmps R [] .returning (shut l w) → LeavesInM Fence.wide n P fn tmps R (l.map fun D => { target := .collected D, args := #[] }) .returning w
  | [], _, _, _, h => h
  | D :: l, w, hnd, hw, h => by
    rw [List.nodup_cons] at hnd
    refine ⟨by simp, .inl ⟨D, w.putObj D (.deferred none), rfl, run_takeDeferred (hw D (by simp)), leaves_marks l hnd.2 (fun D' hD' => ?_) h⟩⟩
    have hne : D' ≠ D := fun e => hnd.1 (e ▸ hD')
    exact (World.putObj_heap_other hne).trans (hw D' (by simp [hD']))
/-- At a function's end: the marks are come to. -/
theorem Inv.shut {gl : List Nat} {N : Nat} {rg0 : List (Option Reg)} {Γ Γ0 : Env} {s : St} {a : Act} {w w0 : World} (hI : Inv gl N Γ s a w) (hE : Ext Γ0 w0 Γ) (h0 : WRel Γ0 rg0 w0) (hN : w0.heap.size ≤ N) :
    ∃ l Γ', a.defers = l.map (fun D => { target := .collected D, args := #[] }) ∧ l.Nodup ∧ (∀ D ∈ l, w.heap[D]? = some (.deferred (some []))) ∧ Ext Γ0 w0 Γ' ∧ Inv gl N Γ' s { a with defers := [] } (Nx.shut l w) ∧ (∀ b, b < N → Γ'.kp b = Γ.kp b) ∧ ∀ D ∈ l, N ≤ D := by
  obtain ⟨l, h1, h2, h3⟩ := hI.df
  have hn : NoCells Γ l := fun D hD => ⟨_, (h3 D hD).2, rfl⟩
  have hk0 : ∀ D ∈ l, Γ0.kp D = none := fun D hD => by
    cases hk : Γ0.kp D with
    | none => rfl
    | some o =>
      have := (Array.getElem?_eq_some_iff.1 (h0.kp D o hk)).1
      have := (h3 D hD).1
      omega
  refine ⟨l, Γ.strip l, h1, h2, fun D hD => hI.wr.kp _ _ (h3 D hD).2, hE.strip fun D hD => ⟨hk0 D hD, ?_⟩, ⟨hI.wr.strip hn (shut_other l w), FrRel.strip hn hI.fr, hI.gl.strip hn, hI.nw, Df.nil _ _⟩, fun b hb => strip_kp_of fun hm => by have := (h3 b hm).1; omega, fun D hD => (h3 D hD).1⟩
  cases hr : Γ0.ro D with
  | false => rfl
  | true =>
    obtain ⟨o, ho⟩ := h0.ro D hr
    rw [hk0 D hD] at ho
    cases ho
end Go.Nx
