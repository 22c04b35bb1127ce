/-
  The engine, part 32: one shape for slices that may be nil: rows moved to a place, what comes in taken apart.
-/
import Derived.Test.YtjfgphfdaghilaaGreatDoorEngC
namespace Go.Nx
open Go

theorem WRel.recell {Γ : Env} {rg : List (Option Reg)} {w : World} (hW : WRel Γ rg w) {r st : Nat} {e : TypeId} {xs ys : List NC} (hr : rg[r]? = some (some ⟨st, e, .cells xs⟩)) (hlen : ys.length = xs.length)
    (hxy : ∀ B c l l2, Γ.μ r = some B → w.heap[B.blk]? = some (.cells c B.e (0, 0)) → c.toList.drop B.o = l ++ l2 → R2 (CR Γ) xs l → R2 (CR Γ) ys l) : WRel Γ (putAt rg r (some ⟨st, e, .cells ys⟩)) w := by
  refine ⟨fun n g hn => ?_, fun a b Ba Bb hne la lb => hW.inj a b Ba Bb hne ?_ ?_, hW.kp, fun n B ln => hW.apart n B ?_, hW.ro⟩
  · rcases (putAt_get _ _ _ _ _).1 hn with ⟨rfl, he⟩ | ⟨h1, h2⟩
    · cases he
      obtain ⟨B, hB, hrr⟩ := hW.live n _ hr
      refine ⟨B, hB, ?_⟩
      rcases hrr with ⟨-, ⟨k, hk⟩ | ⟨ks, hk⟩ | ⟨sch, hk, -⟩⟩ | ⟨h0, c, h1, h2, h3, ⟨l1, l2, h4, h5⟩, h6⟩ | ⟨-, hM⟩
      · cases hk
      · cases hk
      · cases hk
      rotate_left
      · obtain ⟨_, _, _, _, _, hk, -⟩ := hM.mp; cases hk
      exact .inr (.inl ⟨h0, c, h1, h2, h3, ⟨l1, l2, h4, hxy B c l1 l2 hB h1 h4 h5⟩, h6.same (congrArg some hlen) rfl⟩)
    · exact hW.live n g h2
  · rcases (putAt_live _ _ _ _).1 la with ⟨rfl, -⟩ | ⟨-, h⟩
    · exact ⟨_, hr⟩
    · exact h
  · rcases (putAt_live _ _ _ _).1 lb with ⟨rfl, -⟩ | ⟨-, h⟩
    · exact ⟨_, hr⟩
    · exact h
  · rcases (putAt_live _ _ _ _).1 ln with ⟨rfl, -⟩ | ⟨-, h⟩
    · exact ⟨_, hr⟩
    · exact h
theorem R2.reset {Γ : Env} {xs : List NC} {l : List Value} {j : Nat} {x y : NC} (hj : xs[j]? = some x) (hc : ∀ v, CR Γ x v → CR Γ y v) (h : R2 (CR Γ) xs l) : R2 (CR Γ) (xs.set j y) l := by
  obtain ⟨u, hu, hcu⟩ := h.get hj
  have := h.set j (hc u hcu)
  have hl : l.set j u = l := by
    apply List.ext_getElem?
    intro q
    rw [List.getElem?_set]
    split
    · rename_i e; subst e
      split
      · exact hu.symm
      · rename_i hq; rw [List.getElem?_eq_none (by omega)] at hu; cases hu
    · rfl
  rw [hl] at this
  exact this
theorem WRel.move {Γ : Env} {rg : List (Option Reg)} {w : World} (h : WRel Γ rg w) {k nm : Nat} {g : Reg} {B : Blk} (hk : rg[k]? = some (some g)) (hB : Γ.μ k = some B) (hnm : Γ.μ nm = none) :
    WRel (Γ.add nm B) (putAt (putAt rg k none) nm (some g)) w := by
  have hle := Γ.le_add nm B hnm
  have hkn : k ≠ nm := fun e => by rw [e, hnm] at hB; cases hB
  have hpt : ∀ {m B'}, (Γ.add nm B).pt m = some B' → (m = nm ∧ Γ.pt k = some B') ∨ (m ≠ nm ∧ Γ.pt m = some B') := fun {m B'} h' => by
    by_cases e : m = nm
    · subst e
      obtain ⟨h1, h2⟩ := Env.pt_iff.1 h'
      rw [Env.add_self] at h1
      cases h1
      exact .inl ⟨rfl, Env.pt_iff.2 ⟨hB, h2⟩⟩
    · rw [Env.add_other e] at h'; exact .inr ⟨e, h'⟩
  have hl : ∀ m, m ≠ nm → Nx.live (putAt (putAt rg k none) nm (some g)) m → m ≠ k ∧ Nx.live rg m := fun m e hm => by
    rcases (putAt_live _ _ _ _).1 hm with ⟨h1, -⟩ | ⟨-, h1⟩
    · exact (e h1).elim
    · rcases (putAt_live _ _ _ _).1 h1 with ⟨-, h2⟩ | h2
      · cases h2
      · exact h2
  have lk : Nx.live rg k := ⟨_, hk⟩
  refine ⟨fun m g' hm => ?_, fun a b B1 B2 hne la lb ea eb => ?_, h.kp, fun m B' hm eB => ?_, h.ro⟩
  · rcases (putAt_get _ _ _ _ _).1 hm with ⟨rfl, e⟩ | ⟨hne, e⟩
    · cases e
      obtain ⟨B', h1, h2⟩ := h.live k g hk
      rw [hB] at h1
      cases h1
      exact ⟨B, Env.add_self _ _ _, h2.mono hle⟩
    · rcases (putAt_get _ _ _ _ _).1 e with ⟨-, e⟩ | ⟨-, e⟩
      · cases e
      obtain ⟨B', h1, h2⟩ := h.live m g' e
      exact ⟨B', hle.μ _ _ h1, h2.mono hle⟩
  · rcases hpt ea with ⟨a1, a2⟩ | ⟨a1, a2⟩ <;> rcases hpt eb with ⟨b1, b2⟩ | ⟨b1, b2⟩
    · exact (hne (a1.trans b1.symm)).elim
    · obtain ⟨c1, c2⟩ := hl b b1 lb
      exact h.inj k b B1 B2 (fun e => c1 e.symm) lk c2 a2 b2
    · obtain ⟨c1, c2⟩ := hl a a1 la
      exact h.inj a k B1 B2 c1 c2 lk a2 b2
    · exact h.inj a b B1 B2 hne (hl a a1 la).2 (hl b b1 lb).2 a2 b2
  · rcases hpt eB with ⟨a1, a2⟩ | ⟨a1, a2⟩
    · exact h.apart k B' lk a2
    · exact h.apart m B' (hl m a1 hm).2 a2
/-- A row in a record's cell is moved to the end, as one that may be nil. -/
theorem WeakF.hz {x : NS} {r j k n st : Nat} {e : TypeId} {xs : List NC} {rg : List (Option Reg)} {g : Reg} (hrk : r ≠ k) (hr : rg[r]? = some (some ⟨st, e, .cells xs⟩)) (hj : xs[j]? = some (.h k 0 n)) (hk : rg[k]? = some (some g)) :
    WeakF ⟨x, rg⟩ ⟨x, putAt (putAt (putAt rg k none) rg.length (some g)) r (some ⟨st, e, .cells (xs.set j (.hz rg.length n))⟩)⟩ := by
  intro Γ0 Γ w0 w v hE hS hW hF
  have h0 := hF rg.length (Nat.le_refl _)
  obtain ⟨B, hB, hrr⟩ := hW.live k g hk
  have hle := Γ.le_add rg.length B h0
  have hrl : r < rg.length := (List.getElem?_eq_some_iff.1 hr).1
  have hc : ∀ v, CR (Γ.add rg.length B) (.h k 0 n) v → CR (Γ.add rg.length B) (.hz rg.length n) v := fun v hv => by
    refine ⟨.inr ?_, hv.2⟩
    obtain ⟨B', o, cap, h1, h2⟩ := hv.1
    refine ⟨B', o, cap, ?_, h2⟩
    obtain ⟨k1, k2⟩ := Env.wh_iff.1 h1
    have : (Γ.add rg.length B).μ k = Γ.μ k := by
      have : k ≠ rg.length := fun e => by rw [e, h0] at hB; cases hB
      simp [Env.add, this]
    rw [this, hB] at k1
    cases k1
    exact Env.wh_iff.2 ⟨Env.add_self _ _ _, k2⟩
  refine ⟨Γ.add rg.length B, ⟨hE.le.trans hle, hE.ro, fun m B' hB' => ?_⟩, hS.mono hle, (hW.move hk hB h0).recell (xs := xs) ?_ (List.length_set ..) fun _ _ l _ _ _ _ hl => R2.reset hj hc hl, fun m hm => ?_⟩
  · by_cases e : m = rg.length
    · subst e
      obtain ⟨h1, h2⟩ := Env.pt_iff.1 hB'
      rw [Env.add_self] at h1
      cases h1
      exact hE.nw k B (Env.pt_iff.2 ⟨hB, h2⟩)
    · rw [Env.add_other e] at hB'
      exact hE.nw m B' hB'
  · exact (putAt_get _ _ _ _ _).2 (.inr ⟨by omega, (putAt_get _ _ _ _ _).2 (.inr ⟨hrk, hr⟩)⟩)
  · have h1 := (putAt_length rg k none).1
    have h2 := putAt_length (putAt rg k none) rg.length (some g)
    have h3 := putAt_length (putAt (putAt rg k none) rg.length (some g)) r (some ⟨st, e, .cells (xs.set j (.hz rg.length n))⟩)
    have hm' : (putAt (putAt (putAt rg k none) rg.length (some g)) r (some ⟨st, e, .cells (xs.set j (.hz rg.length n))⟩)).length ≤ m := hm
    have hne : m ≠ rg.length := by omega
    have : (Γ.add rg.length B).μ m = Γ.μ m := by simp [Env.add, hne]
    rw [this]
    exact hF m (show rg.length ≤ m by omega)
/-- A row that may be nil is moved to the end. -/
theorem WeakF.hz2 {x : NS} {r j k n st : Nat} {e : TypeId} {xs : List NC} {rg : List (Option Reg)} {g : Reg} (hrk : r ≠ k) (hr : rg[r]? = some (some ⟨st, e, .cells xs⟩)) (hj : xs[j]? = some (.hz k n)) (hk : rg[k]? = some (some g)) :
    WeakF ⟨x, rg⟩ ⟨x, putAt (putAt (putAt rg k none) rg.length (some g)) r (some ⟨st, e, .cells (xs.set j (.hz rg.length n))⟩)⟩ := by
  intro Γ0 Γ w0 w v hE hS hW hF
  have h0 := hF rg.length (Nat.le_refl _)
  obtain ⟨B, hB, hrr⟩ := hW.live k g hk
  have hle := Γ.le_add rg.length B h0
  have hrl : r < rg.length := (List.getElem?_eq_some_iff.1 hr).1
  have hc : ∀ v, CR (Γ.add rg.length B) (.hz k n) v → CR (Γ.add rg.length B) (.hz rg.length n) v := fun v hv => by
    rcases hv.1 with ⟨z1, z2, -⟩ | hv1
    · exact ⟨.inl ⟨z1, z2, B, Env.add_self _ _ _⟩, hv.2⟩
    refine ⟨.inr ?_, hv.2⟩
    obtain ⟨B', o, cap, h1, h2⟩ := hv1
    refine ⟨B', o, cap, ?_, h2⟩
    obtain ⟨k1, k2⟩ := Env.wh_iff.1 h1
    have : (Γ.add rg.length B).μ k = Γ.μ k := by
      have : k ≠ rg.length := fun e => by rw [e, h0] at hB; cases hB
      simp [Env.add, this]
    rw [this, hB] at k1
    cases k1
    exact Env.wh_iff.2 ⟨Env.add_self _ _ _, k2⟩
  refine ⟨Γ.add rg.length B, ⟨hE.le.trans hle, hE.ro, fun m B' hB' => ?_⟩, hS.mono hle, (hW.move hk hB h0).recell (xs := xs) ?_ (List.length_set ..) fun _ _ l _ _ _ _ hl => R2.reset hj hc hl, fun m hm => ?_⟩
  · by_cases e : m = rg.length
    · subst e
      obtain ⟨h1, h2⟩ := Env.pt_iff.1 hB'
      rw [Env.add_self] at h1
      cases h1
      exact hE.nw k B (Env.pt_iff.2 ⟨hB, h2⟩)
    · rw [Env.add_other e] at hB'
      exact hE.nw m B' hB'
  · exact (putAt_get _ _ _ _ _).2 (.inr ⟨by omega, (putAt_get _ _ _ _ _).2 (.inr ⟨hrk, hr⟩)⟩)
  · have h1 := (putAt_length rg k none).1
    have h2 := putAt_length (putAt rg k none) rg.length (some g)
    have h3 := putAt_length (putAt (putAt rg k none) rg.length (some g)) r (some ⟨st, e, .cells (xs.set j (.hz rg.length n))⟩)
    have hm' : (putAt (putAt (putAt rg k none) rg.length (some g)) r (some ⟨st, e, .cells (xs.set j (.hz rg.length n))⟩)).length ≤ m := hm
    have hne : m ≠ rg.length := by omega
    have : (Γ.add rg.length B).μ m = Γ.μ m := by simp [Env.add, hne]
    rw [this]
    exact hF m (show rg.length ≤ m by omega)
/-- What comes in with a slice that may be nil: what is known with nil, and with a row. -/
theorem KnownF.hzIn {P : Program} {gl : List Nat} {f : FuncId} {T T' : Con} (h : KnownF P gl f T) (hT : ∀ args regs R, (T' args regs).run R → ∃ r j k n st e xs, regs[r]? = some ⟨st, e, .cells xs⟩ ∧ xs[j]? = some (.hz k n) ∧
      (n = 0 → (T args (regs.set r ⟨st, e, .cells (xs.set j .sn)⟩)).run R) ∧ (T args (regs.set r ⟨st, e, .cells (xs.set j (.h k 0 n))⟩)).run R) : KnownF P gl f T' := by
  refine ⟨h.goes, fun args regs R hR Γ w vs hw hG hv hn => ?_⟩
  obtain ⟨r, j, k, n, st, e, xs, hr, hj, hN, hH⟩ := hT args regs R hR
  have hrl : r < regs.length := (List.getElem?_eq_some_iff.1 hr).1
  have hr' : (regs.map some)[r]? = some (some ⟨st, e, .cells xs⟩) := by rw [List.getElem?_map, hr]; rfl
  have hput : ∀ g : Reg, putAt (regs.map some) r (some g) = (regs.set r g).map some := fun g => by
    unfold putAt
    rw [if_pos (by rw [List.length_map]; exact hrl), List.map_set]
  obtain ⟨B, hB, hrr⟩ := hw.live r _ hr'
  rcases hrr with ⟨-, ⟨k', hk⟩ | ⟨ks, hk⟩ | ⟨sch, hk, -⟩⟩ | ⟨h0, c, h1, h2, h3, ⟨l1, l2, h4, h5⟩, h6⟩ | ⟨-, hM⟩
  · cases hk
  · cases hk
  · cases hk
  rotate_left
  · obtain ⟨_, _, _, _, _, hk, -⟩ := hM.mp; cases hk
  obtain ⟨u, hu, hcu⟩ := h5.get hj
  have go : ∀ y, CR Γ y u → (T args (regs.set r ⟨st, e, .cells (xs.set j y)⟩)).run R → Calls P f vs.toArray w fun e w' => ∃ o v Γ', (R o ∧ ∀ n, o.rg.length ≤ n → Γ'.μ n = none) ∧ e = .returned v ∧ Ext Γ w Γ' ∧ SRel Γ' o.res v ∧ WRel Γ' o.rg w' ∧ Wd w w' := fun y hy hrun => by
    refine h.sound args _ R hrun Γ w vs ?_ hG hv (fun n hn' => hn n (by rw [List.length_set] at hn'; exact hn'))
    rw [← hput]
    refine hw.recell hr' (List.length_set ..) fun B' c' l l2' hB' hc' hl' hl => ?_
    rw [hB] at hB'
    cases hB'
    rw [h1] at hc'
    cases hc'
    have e1 : l = l1 := by
      have a1 := hl.length
      have a2 := h5.length
      rw [h4] at hl'
      exact ((List.append_inj hl' (by omega)).1).symm
    subst e1
    have := hl.set j hy
    have e2 : l.set j u = l := by
      apply List.ext_getElem?
      intro q
      rw [List.getElem?_set]
      split
      · rename_i e; subst e
        split
        · exact hu.symm
        · rename_i hq; rw [List.getElem?_eq_none (by omega)] at hu; cases hu
      · rfl
    rw [e2] at this
    exact this
  rcases hcu.1 with ⟨hn0, hnil, -⟩ | hreal
  · exact go .sn ⟨hnil, hcu.2⟩ (hN hn0)
  · exact go (.h k 0 n) ⟨hreal, hcu.2⟩ hH
end Go.Nx
