/-
  The engine, part 26: outcomes that say less: regions that are dropped, an empty list for nil, a row that stays as it is for a region.
-/
import Derived.Test.YtnhadghddkgjdaaEng24
namespace Go.Nx
open Go

/-- One outcome says all that another one says. -/
def Weak (o o' : Out) : Prop := ∀ (Γ0 Γ : Env) (w0 w : World) (v : Value), Ext Γ0 w0 Γ → SRel Γ o.res v → WRel Γ o.rg w → ∃ Γ', Ext Γ0 w0 Γ' ∧ SRel Γ' o'.res v ∧ WRel Γ' o'.rg w
theorem Weak.refl (o : Out) : Weak o o := fun _ Γ _ _ _ h1 h2 h3 => ⟨Γ, h1, h2, h3⟩
theorem Weak.trans {a b c : Out} (h : Weak a b) (k : Weak b c) : Weak a c := fun Γ0 Γ w0 w v h1 h2 h3 => by
  obtain ⟨Γ', h4, h5, h6⟩ := h Γ0 Γ w0 w v h1 h2 h3
  exact k Γ0 Γ' w0 w v h4 h5 h6
/-- What is known of outcomes is known of those that say less. -/
theorem Known.weak {P : Program} {gl : List Nat} {f : FuncId} {T T' : Con} (h : Known P gl f T) (hT : ∀ args regs R, (T' args regs).run R → (T args regs).run fun o => ∃ o', Weak o o' ∧ R o') : Known P gl f T' := by
  refine ⟨h.goes, fun args regs R hR Γ w vs hw hG hv hn => ?_⟩
  refine (h.sound args regs _ (hT args regs R hR) Γ w vs hw hG hv hn).mono ?_
  rintro e w' ⟨o, v, Γ', ⟨o', hO, ho⟩, he, hE, hS, hW, hd⟩
  obtain ⟨Γ'', h1, h2, h3⟩ := hO Γ Γ' w w' v hE hS hW
  exact ⟨o', v, Γ'', ho, he, h1, h2, h3, hd⟩
theorem WRel.fewer {Γ : Env} {rg rg' : List (Option Reg)} {w : World} (h : WRel Γ rg w) (hs : ∀ (n : Nat) (g : Reg), rg'[n]? = some (some g) → rg[n]? = some (some g)) : WRel Γ rg' w := by
  have hl : ∀ n : Nat, Nx.live rg' n → Nx.live rg n := fun n ⟨g, hg⟩ => ⟨g, hs n g hg⟩
  exact ⟨fun n g hg => h.live n g (hs n g hg), fun n m B B' hne ha hb => h.inj n m B B' hne (hl n ha) (hl m hb), h.kp, fun n B hn => h.apart n B (hl n hn), h.ro⟩
theorem Weak.drop {x : NS} {rg rg' : List (Option Reg)} (hs : ∀ (n : Nat) (g : Reg), rg'[n]? = some (some g) → rg[n]? = some (some g)) : Weak ⟨x, rg⟩ ⟨x, rg'⟩ :=
  fun _ Γ _ _ _ h1 h2 h3 => ⟨Γ, h1, h2, h3.fewer hs⟩
theorem Weak.nil_rows {ks : List CK} {rg : List (Option Reg)} (hk : 0 < ks.length) : Weak ⟨.v (.c .sn), rg⟩ ⟨.v (.c (.lr ks [])), rg⟩ :=
  fun _ Γ _ _ _ h1 h2 h3 => by
    obtain ⟨h4, h5⟩ := h2
    have h4' : _ = Value.slice none 0 0 := h4
    exact ⟨Γ, h1, ⟨⟨none, 0, h4', Nat.le_refl _, hk, .inl rfl⟩, h5⟩, h3⟩
theorem Weak.rows {k st : Nat} {e : TypeId} {ks : List CK} {xs : List (List Sc)} {rg : List (Option Reg)} (hk : rg[k]? = some (some ⟨st, e, .recs ks xs⟩)) : Weak ⟨.v (.c (.h k 0 xs.length)), rg⟩ ⟨.v (.c (.lr ks xs)), putAt rg k none⟩ := by
  intro Γ0 Γ w0 w v hE hS hW
  obtain ⟨B, hB, cs, hcs, hst, hsz, hst1, hks, l2, hl⟩ := hW.live k _ hk
  have hlive : live rg k := ⟨_, hk⟩
  have hk0 : Γ.kp B.blk = none := hW.apart k B hlive hB
  have hold : ∀ (n : Nat) (g : Reg), (putAt rg k none)[n]? = some (some g) → n ≠ k ∧ rg[n]? = some (some g) := fun n g hn => by
    rcases (putAt_get _ _ _ _ _).1 hn with ⟨_, he⟩ | ⟨h1, h2⟩
    · cases he
    · exact ⟨h1, h2⟩
  let Γ'' : Env := { Γ with kp := fun b => if b = B.blk then some (.cells cs e (0, 0)) else Γ.kp b, ro := fun b => if b = B.blk then true else Γ.ro b }
  have hle : Γ.le Γ'' := ⟨fun _ _ h => h, fun b o h => by
      show (if b = B.blk then _ else Γ.kp b) = some o
      by_cases hb : b = B.blk
      · rw [hb, hk0] at h; cases h
      · rw [if_neg hb]; exact h, fun b h => by
      show (if b = B.blk then true else Γ.ro b) = true
      by_cases hb : b = B.blk
      · rw [if_pos hb]
      · rw [if_neg hb]; exact h, rfl⟩
  refine ⟨Γ'', ⟨hE.le.trans hle, fun b h => ?_, fun n B' h => hE.nw n B' h⟩, ?_, ⟨fun n g h => ?_, fun a b Ba Bb hne la lb ha hb => ?_, fun b o h => ?_, fun n Bn hn hBn => ?_, fun b h => ?_⟩⟩
  · have h : (if b = B.blk then true else Γ.ro b) = true := h
    by_cases hb : b = B.blk
    · rcases hE.nw k B hB with h1 | ⟨n', B', h1, h2⟩
      · rw [hb]; exact .inr (.inl h1)
      · exact .inr (.inr ⟨n', B', h1, by rw [h2, hb]⟩)
    · rw [if_neg hb] at h; exact hE.ro b h
  · obtain ⟨⟨B', o, cap, hB', rfl, hc, hcm, ho⟩, h1⟩ := hS
    rw [hB] at hB'
    cases hB'
    refine ⟨⟨_, cap, rfl, hc, hks, ?_⟩, h1⟩
    rcases ho with ⟨ho, _⟩ | ho
    · refine .inr ⟨B.blk, 0, by rw [ho, Nat.zero_mul], ?_, cs, e, (0, 0), ?_, fun j u hj => ?_⟩
      · show (if B.blk = B.blk then true else Γ.ro B.blk) = true
        rw [if_pos rfl]
      · show (if B.blk = B.blk then some _ else Γ.kp B.blk) = _
        rw [if_pos rfl]
      · rw [Nat.zero_add, ← Array.getElem?_toList, hl]
        exact prefix_get hj
    · exact .inl (List.eq_nil_of_length_eq_zero (by omega))
  · obtain ⟨hne, hg⟩ := hold n g h
    obtain ⟨Bn, hBn, hr⟩ := hW.live n g hg
    exact ⟨Bn, hBn, hr.mono hle⟩
  · obtain ⟨ga, ha'⟩ := la
    obtain ⟨gb, hb'⟩ := lb
    exact hW.inj a b Ba Bb hne ⟨ga, (hold a ga ha').2⟩ ⟨gb, (hold b gb hb').2⟩ ha hb
  · have h : (if b = B.blk then some (Obj.cells cs e (0, 0)) else Γ.kp b) = some o := h
    by_cases hb : b = B.blk
    · rw [if_pos hb] at h
      cases h
      rw [hb]; exact hcs
    · rw [if_neg hb] at h; exact hW.kp b o h
  · obtain ⟨g, hg⟩ := hn
    obtain ⟨hne, hg⟩ := hold n g hg
    show (if Bn.blk = B.blk then some _ else Γ.kp Bn.blk) = none
    rw [if_neg (hW.inj n k Bn B hne ⟨g, hg⟩ hlive hBn hB)]
    exact hW.apart n Bn ⟨g, hg⟩ hBn
  · have h : (if b = B.blk then true else Γ.ro b) = true := h
    show ∃ o, (if b = B.blk then some (Obj.cells cs e (0, 0)) else Γ.kp b) = some o
    by_cases hb : b = B.blk
    · exact ⟨_, by rw [if_pos hb]⟩
    · rw [if_neg hb] at h ⊢; exact hW.ro b h

theorem Weak.ints {k st : Nat} {e : TypeId} {q : IntKind} {xs : List Int} {rg : List (Option Reg)} (hk : rg[k]? = some (some ⟨st, e, .ints q xs⟩)) : Weak ⟨.v (.c (.h k 0 xs.length)), rg⟩ ⟨.v (.c (.l q xs)), putAt rg k none⟩ := by
  intro Γ0 Γ w0 w v hE hS hW
  obtain ⟨B, hB, cs, hcs, hst, hsz, hst1, l2, hl⟩ := hW.live k _ hk
  have hlive : live rg k := ⟨_, hk⟩
  have hk0 : Γ.kp B.blk = none := hW.apart k B hlive hB
  have hold : ∀ (n : Nat) (g : Reg), (putAt rg k none)[n]? = some (some g) → n ≠ k ∧ rg[n]? = some (some g) := fun n g hn => by
    rcases (putAt_get _ _ _ _ _).1 hn with ⟨_, he⟩ | ⟨h1, h2⟩
    · cases he
    · exact ⟨h1, h2⟩
  let Γ'' : Env := { Γ with kp := fun b => if b = B.blk then some (.cells cs e (0, 0)) else Γ.kp b, ro := fun b => if b = B.blk then true else Γ.ro b }
  have hle : Γ.le Γ'' := ⟨fun _ _ h => h, fun b o h => by
      show (if b = B.blk then _ else Γ.kp b) = some o
      by_cases hb : b = B.blk
      · rw [hb, hk0] at h; cases h
      · rw [if_neg hb]; exact h, fun b h => by
      show (if b = B.blk then true else Γ.ro b) = true
      by_cases hb : b = B.blk
      · rw [if_pos hb]
      · rw [if_neg hb]; exact h, rfl⟩
  refine ⟨Γ'', ⟨hE.le.trans hle, fun b h => ?_, fun n B' h => hE.nw n B' h⟩, ?_, ⟨fun n g h => ?_, fun a b Ba Bb hne la lb ha hb => ?_, fun b o h => ?_, fun n Bn hn hBn => ?_, fun b h => ?_⟩⟩
  · have h : (if b = B.blk then true else Γ.ro b) = true := h
    by_cases hb : b = B.blk
    · rcases hE.nw k B hB with h1 | ⟨n', B', h1, h2⟩
      · rw [hb]; exact .inr (.inl h1)
      · exact .inr (.inr ⟨n', B', h1, by rw [h2, hb]⟩)
    · rw [if_neg hb] at h; exact hE.ro b h
  · obtain ⟨⟨B', o, cap, hB', rfl, hc, hcm, ho⟩, h1⟩ := hS
    rw [hB] at hB'
    cases hB'
    refine ⟨⟨_, cap, rfl, hc, ?_⟩, h1⟩
    rcases ho with ⟨ho, _⟩ | ho
    · refine .inr ⟨B.blk, 0, by rw [ho, Nat.zero_mul], ?_, cs, e, (0, 0), ?_, fun j u hj => ?_⟩
      · show (if B.blk = B.blk then true else Γ.ro B.blk) = true
        rw [if_pos rfl]
      · show (if B.blk = B.blk then some _ else Γ.kp B.blk) = _
        rw [if_pos rfl]
      · rw [Nat.zero_add, ← Array.getElem?_toList, hl]
        exact prefix_get hj
    · exact .inl (List.eq_nil_of_length_eq_zero (by omega))
  · obtain ⟨hne, hg⟩ := hold n g h
    obtain ⟨Bn, hBn, hr⟩ := hW.live n g hg
    exact ⟨Bn, hBn, hr.mono hle⟩
  · obtain ⟨ga, ha'⟩ := la
    obtain ⟨gb, hb'⟩ := lb
    exact hW.inj a b Ba Bb hne ⟨ga, (hold a ga ha').2⟩ ⟨gb, (hold b gb hb').2⟩ ha hb
  · have h : (if b = B.blk then some (Obj.cells cs e (0, 0)) else Γ.kp b) = some o := h
    by_cases hb : b = B.blk
    · rw [if_pos hb] at h
      cases h
      rw [hb]; exact hcs
    · rw [if_neg hb] at h; exact hW.kp b o h
  · obtain ⟨g, hg⟩ := hn
    obtain ⟨hne, hg⟩ := hold n g hg
    show (if Bn.blk = B.blk then some _ else Γ.kp Bn.blk) = none
    rw [if_neg (hW.inj n k Bn B hne ⟨g, hg⟩ hlive hBn hB)]
    exact hW.apart n Bn ⟨g, hg⟩ hBn
  · have h : (if b = B.blk then true else Γ.ro b) = true := h
    show ∃ o, (if b = B.blk then some (Obj.cells cs e (0, 0)) else Γ.kp b) = some o
    by_cases hb : b = B.blk
    · exact ⟨_, by rw [if_pos hb]⟩
    · rw [if_neg hb] at h ⊢; exact hW.ro b h

theorem Weak.nil_ints {q : IntKind} {rg : List (Option Reg)} : Weak ⟨.v (.c .sn), rg⟩ ⟨.v (.c (.l q [])), rg⟩ :=
  fun _ Γ _ _ _ h1 h2 h3 => by
    obtain ⟨h4, h5⟩ := h2
    have h4' : _ = Value.slice none 0 0 := h4
    exact ⟨Γ, h1, ⟨⟨none, 0, h4', Nat.le_refl _, .inl rfl⟩, h5⟩, h3⟩
end Go.Nx
