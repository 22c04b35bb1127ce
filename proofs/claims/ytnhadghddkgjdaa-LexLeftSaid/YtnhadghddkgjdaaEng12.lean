/-
  The engine, part 12: a call, by what is known of the callee.
-/
import Derived.Test.YtnhadghddkgjdaaEng11
namespace Go.Nx
open Go

/-- WHAT IS KNOWN OF A FUNCTION: where its tree says R, it returns, and R holds of what it yields and leaves. -/
def Sound (P : Program) (gl : List Nat) (f : FuncId) (T : Con) : Prop :=
  ∀ (args : List NV) (regs : List Reg) (R : Out → Prop), (T args regs).run R →
  ∀ (Γ : Env) (w : World) (vs : List Value), WRel Γ (regs.map some) w → GlobOk gl Γ → R2 (VRel Γ) args vs → (∀ n, regs.length ≤ n → Γ.μ n = none) →
  Calls P f vs.toArray w fun e w' => ∃ o v Γ', R o ∧ e = .returned v ∧ Ext Γ w Γ' ∧ SRel Γ' o.res v ∧ WRel Γ' o.rg w' ∧ Wd w w'

/-- A function that is entered by its code, and what is known of it. -/
structure Known (P : Program) (gl : List Nat) (f : FuncId) (T : Con) : Prop where
  goes : ∀ args w, (callFunc f args).run P w = .ok (.enter f args) w
  sound : Sound P gl f T

/-! ### arguments -/
theorem argNC_rel {P : Program} {s : St} {Γ Γ' : Env} {w : World} {passed : List Nat} {t : Option TypeId} {x y : NC} {v : Value} {c : List Bool} (hw : WRel Γ s.rg w) (hren : Ren (posIn passed) Γ Γ') (hro : RoOk Γ Γ')
    (hlent : ∀ r B g, r ∈ names x → r ∉ passed → s.rg[r]? = some (some g) → Γ.μ r = some B → Γ'.ro B.blk = true ∧ Γ'.kp B.blk = w.heap[B.blk]?)
    (r : CR Γ x v) (h : argNC P s passed t x = some (c, y)) (hc : allT c) : CR Γ' y v := by
  unfold argNC at h
  split at h
  · rename_i n off len
    split at h
    · rename_i i hi
      cases h
      exact mapNC_rel hren (fun _ => hro) r (by simp [mapNC, hi])
    · rename_i hi
      have hnp := posIn_none hi
      split at h
      · rename_i c' k xs he
        cases h
        obtain ⟨a, cap, hv, hlc, hcells⟩ := els_sound hw r he hc
        obtain ⟨⟨B, o, cap', hB, hv', hlc', hcm, hcap⟩, h1⟩ := r
        refine ⟨⟨a, cap, hv, hlc, ?_⟩, h1⟩
        simp only [els] at he
        split at he
        case h_2 => cases he
        rename_i g hg
        have hgl := (reg_eq s n g).1 hg
        obtain ⟨B', hB', cs, hcs, hst, hsz, hbody⟩ := hw.live n g hgl
        rw [hB] at hB'; cases hB'
        obtain ⟨hr1, hr2⟩ := hlent n B g (by simp [names]) hnp hgl hB
        split at he
        · rename_i k0 xs0 hb
          cases he
          rw [hb] at hbody
          obtain ⟨h1', l2, hl⟩ := hbody
          have hlen : off + len ≤ xs0.length := by simpa [allT] using hc
          rw [hv'] at hv
          simp only [Value.slice.injEq] at hv
          rcases hcap with ⟨rfl, -⟩ | h0
          · right
            refine ⟨B.blk, off * B.st, hv.1.symm, hr1, cs, g.e, (0, 0), by rw [hr2, hcs], fun j u hj => ?_⟩
            rw [List.map_take, List.map_drop] at hj
            have := prefix_get (l2 := l2) (drop_take_get hj)
            rw [← hl] at this
            rw [hst, h1', Nat.mul_one]
            simpa using this
          · left
            have : len = 0 := by omega
            subst this
            simp
        · cases he
        · cases he
      · rename_i c' ks xs he
        cases h
        obtain ⟨a, cap, hv, hlc, hcells⟩ := els_sound hw r he hc
        obtain ⟨⟨B, o, cap', hB, hv', hlc', hcm, hcap⟩, h1⟩ := r
        simp only [els] at he
        split at he
        case h_2 => cases he
        rename_i g hg
        have hgl := (reg_eq s n g).1 hg
        obtain ⟨B', hB', cs, hcs, hst, hsz, hbody⟩ := hw.live n g hgl
        rw [hB] at hB'; cases hB'
        obtain ⟨hr1, hr2⟩ := hlent n B g (by simp [names]) hnp hgl hB
        split at he
        · cases he
        · rename_i ks0 xs0 hb
          cases he
          rw [hb] at hbody
          obtain ⟨h1', h0', l2, hl⟩ := hbody
          refine ⟨⟨a, cap, hv, hlc, h0', ?_⟩, h1⟩
          have hlen : off + len ≤ xs0.length := by simpa [allT] using hc
          rw [hv'] at hv
          simp only [Value.slice.injEq] at hv
          rcases hcap with ⟨rfl, -⟩ | h0
          · right
            refine ⟨B.blk, off * B.st, hv.1.symm, hr1, cs, g.e, (0, 0), by rw [hr2, hcs], fun j u hj => ?_⟩
            rw [← rowsV_take, ← rowsV_drop] at hj
            have := prefix_get (l2 := l2) (drop_take_get hj)
            rw [← hl] at this
            rw [hst, h1']
            simpa using this
          · left
            have : len = 0 := by omega
            subst this
            simp
        · cases he
      · cases h
  · obtain ⟨hv, h1⟩ := r
    cases h
    exact ⟨hv, h1⟩
  · simp only [Option.map_eq_some_iff] at h
    obtain ⟨z, hz, he⟩ := h
    cases he
    exact mapNC_rel hren (fun _ => hro) r hz
theorem allT_append {a b : List Bool} (h : allT (a ++ b)) : allT a ∧ allT b := by
  constructor <;> intro x hx <;> exact h x (by simp [hx])
theorem argL_rel {P : Program} {s : St} {Γ Γ' : Env} {w : World} {passed : List Nat} {t : Option TypeId} (hw : WRel Γ s.rg w) (hren : Ren (posIn passed) Γ Γ') (hro : RoOk Γ Γ') :
    ∀ {xs ys : List NC} {vs : List Value} {c : List Bool}, (∀ r B g, r ∈ xs.flatMap names → r ∉ passed → s.rg[r]? = some (some g) → Γ.μ r = some B → Γ'.ro B.blk = true ∧ Γ'.kp B.blk = w.heap[B.blk]?) →
    R2 (CR Γ) xs vs → argL (argNC P s passed t) xs = some (c, ys) → allT c → R2 (CR Γ') ys vs
  | [], ys, vs, c, _, r, h, _ => by
    simp only [argL, Option.some.injEq, Prod.mk.injEq] at h
    obtain ⟨-, rfl⟩ := h
    cases r; exact .nil
  | x :: xs, ys, vs, c, hl, r, h, hc => by
    simp only [argL] at h
    split at h
    · rename_i c1 a c2 l h1 h2
      cases h
      obtain ⟨hc1, hc2⟩ := allT_append hc
      cases r with
      | cons r1 r2 =>
        exact .cons (argNC_rel hw hren hro (fun q B g hq => hl q B g (by simp [hq])) r1 h1 hc1) (argL_rel hw hren hro (fun q B g hq => hl q B g (by simp only [List.flatMap_cons, List.mem_append]; exact .inr hq)) r2 h2 hc2)
    · cases h
theorem argNV_rel {P : Program} {s : St} {Γ Γ' : Env} {w : World} {passed : List Nat} {t : Option TypeId} {x y : NV} {v : Value} {c : List Bool} (hw : WRel Γ s.rg w) (hren : Ren (posIn passed) Γ Γ') (hro : RoOk Γ Γ')
    (hlent : ∀ r B g, r ∈ x.names → r ∉ passed → s.rg[r]? = some (some g) → Γ.μ r = some B → Γ'.ro B.blk = true ∧ Γ'.kp B.blk = w.heap[B.blk]?)
    (r : VRel Γ x v) (h : argNV P s passed t x = some (c, y)) (hc : allT c) : VRel Γ' y v := by
  cases x with
  | c x =>
    simp only [argNV, Option.map_eq_some_iff] at h
    obtain ⟨p, hp, he⟩ := h
    cases he
    exact argNC_rel hw hren hro (fun q B g hq => hlent q B g (by simp [NV.names, NV.cells, hq])) r hp hc
  | ag xs =>
    simp only [argNV, Option.map_eq_some_iff] at h
    obtain ⟨p, hp, he⟩ := h
    cases he
    obtain ⟨vs, hv, hr⟩ := r
    exact ⟨vs, hv, argL_rel hw hren hro (fun q B g hq => hlent q B g hq) hr hp hc⟩
theorem argsNV_rel {P : Program} {s : St} {Γ Γ' : Env} {w : World} {passed : List Nat} (hw : WRel Γ s.rg w) (hren : Ren (posIn passed) Γ Γ') (hro : RoOk Γ Γ') :
    ∀ {ts : List TypeId} {xs ys : List NV} {vs : List Value} {c : List Bool}, (∀ r B g, r ∈ xs.flatMap NV.names → r ∉ passed → s.rg[r]? = some (some g) → Γ.μ r = some B → Γ'.ro B.blk = true ∧ Γ'.kp B.blk = w.heap[B.blk]?) →
    R2 (VRel Γ) xs vs → argsNV P s passed ts xs = some (c, ys) → allT c → R2 (VRel Γ') ys vs
  | _, [], ys, vs, c, _, r, h, _ => by
    simp only [argsNV, Option.some.injEq, Prod.mk.injEq] at h
    obtain ⟨-, rfl⟩ := h
    cases r; exact .nil
  | ts, x :: xs, ys, vs, c, hl, r, h, hc => by
    simp only [argsNV] at h
    split at h
    · rename_i c1 a c2 l h1 h2
      cases h
      obtain ⟨hc1, hc2⟩ := allT_append hc
      cases r with
      | cons r1 r2 =>
        exact .cons (argNV_rel hw hren hro (fun q B g hq => hl q B g (by simp only [List.flatMap_cons, List.mem_append]; exact .inl hq)) r1 h1 hc1) (argsNV_rel hw hren hro (fun q B g hq => hl q B g (by simp only [List.flatMap_cons, List.mem_append]; exact .inr hq)) r2 h2 hc2)
    · cases h

/-! ### the list of regions behind updates -/
theorem ups_append (s : St) (a b : List (Nat × Option Reg)) : s.ups (a ++ b) = (s.ups a).ups b := by
  induction a generalizing s with
  | nil => rfl
  | cons x a ih => obtain ⟨n, g⟩ := x; exact ih _
theorem ups_fr (s : St) (u : List (Nat × Option Reg)) : (s.ups u).fr = s.fr := by
  induction u generalizing s with
  | nil => rfl
  | cons x u ih => obtain ⟨n, g⟩ := x; exact (ih _).trans rfl
/-- A region behind updates: one of these, or an old one that none of them names. -/
theorem ups_get {s : St} {u : List (Nat × Option Reg)} {n : Nat} {g : Reg} (h : (s.ups u).rg[n]? = some (some g)) : (n, some g) ∈ u ∨ (s.rg[n]? = some (some g) ∧ ∀ x, (n, x) ∉ u) := by
  induction u generalizing s with
  | nil => exact .inr ⟨h, by simp⟩
  | cons x u ih =>
    obtain ⟨m, y⟩ := x
    rcases ih (s := s.setReg m y) h with h1 | ⟨h1, h2⟩
    · exact .inl (by simp [h1])
    · rcases (putAt_get _ _ _ _ _).1 h1 with ⟨rfl, rfl⟩ | ⟨h3, h4⟩
      · exact .inl (by simp)
      · refine .inr ⟨h4, fun x hx => ?_⟩
        simp only [List.mem_cons, Prod.mk.injEq] at hx
        rcases hx with ⟨rfl, -⟩ | hx
        · exact h3 rfl
        · exact h2 x hx
/-- Behind updates that end in none. -/
theorem ups_kill {s : St} {l : List Nat} {n : Nat} {g : Reg} (h : (s.ups (l.map fun n => (n, none))).rg[n]? = some (some g)) : s.rg[n]? = some (some g) ∧ n ∉ l := by
  rcases ups_get h with h1 | ⟨h1, h2⟩
  · simp only [List.mem_map, Prod.mk.injEq, reduceCtorEq, and_false, exists_false] at h1
  · refine ⟨h1, fun hn => h2 none (by simp only [List.mem_map, Prod.mk.injEq, and_true]; exact ⟨n, hn, rfl⟩)⟩
theorem upsOf_mem {back : Nat → Option Nat} : ∀ {rg : List (Option Reg)} {j : Nat} {u : List (Nat × Option Reg)}, upsOf back j rg = some u →
    (∀ n x, (n, x) ∈ u → ∃ i, back (j + i) = some n ∧ rg[i]? = some x) ∧ (∀ i x, rg[i]? = some x → ∃ n, back (j + i) = some n ∧ (n, x) ∈ u)
  | [], j, u, h => by simp [upsOf] at h; subst h; exact ⟨fun n x h => by simp at h, fun i x h => by simp at h⟩
  | g :: l, j, u, h => by
    simp only [upsOf] at h
    split at h
    · rename_i n r hn hr
      cases h
      obtain ⟨h1, h2⟩ := upsOf_mem hr
      refine ⟨fun m x hm => ?_, fun i x hi => ?_⟩
      · simp only [List.mem_cons, Prod.mk.injEq] at hm
        rcases hm with ⟨rfl, rfl⟩ | hm
        · exact ⟨0, hn, by simp⟩
        · obtain ⟨i, h3, h4⟩ := h1 m x hm
          exact ⟨i + 1, by rw [← h3]; congr 1; omega, by simpa using h4⟩
      · cases i with
        | zero => simp at hi; subst hi; exact ⟨n, hn, by simp⟩
        | succ i =>
          obtain ⟨m, h3, h4⟩ := h2 i x (by simpa using hi)
          exact ⟨m, by rw [← h3]; congr 1; omega, by simp [h4]⟩
    · cases h

end Go.Nx
