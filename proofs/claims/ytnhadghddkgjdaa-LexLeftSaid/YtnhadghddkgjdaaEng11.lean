/-
  The engine, part 11: names are others.
-/
import Derived.Test.YtnhadghddkgjdaaEng10
namespace Go.Nx
open Go

/-- What may be looked at under the one may be looked at under the other. -/
def RoOk (Γ Γ' : Env) : Prop := ∀ b o, Γ.ro b = true → Γ.kp b = some o → Γ'.ro b = true ∧ Γ'.kp b = some o
/-- Names go over into others. -/
structure Ren (ρ : Nat → Option Nat) (Γ Γ' : Env) : Prop where
  μ : ∀ n j B, ρ n = some j → Γ.μ n = some B → Γ'.μ j = some B
  er : Γ'.er = Γ.er

theorem RoRow.ren {Γ Γ' : Env} (h : RoOk Γ Γ') {b o : Nat} {vs : List Value} (r : RoRow Γ b o vs) : RoRow Γ' b o vs := by
  obtain ⟨h1, c, e, fz, h2, h3⟩ := r
  exact ⟨(h _ _ h1 h2).1, c, e, fz, (h _ _ h1 h2).2, h3⟩
theorem mapM_cap {ρ : Nat → Option Nat} : ∀ {cap l : List (Nat × Nat × Nat)}, (cap.mapM fun x => (ρ x.1).map fun r => (r, x.2)) = some l → R2 (fun (x y : Nat × Nat × Nat) => ρ x.1 = some y.1 ∧ y.2 = x.2) cap l
  | [], l, h => by simp at h; subst h; exact .nil
  | x :: cap, l, h => by
    rw [List.mapM_cons] at h
    simp only [Option.bind_eq_bind, Option.bind_eq_some_iff, Option.map_eq_some_iff, Option.pure_def, Option.some.injEq] at h
    obtain ⟨y, ⟨r, hr, rfl⟩, l', hl', rfl⟩ := h
    exact .cons ⟨hr, rfl⟩ (mapM_cap hl')
theorem R2.trans_left {α β γ : Type} {R : α → β → Prop} {S : α → γ → Prop} {T : β → γ → Prop} {l : List α} {m : List β} {k : List γ} (h : R2 R l m) (g : R2 S l k) (ht : ∀ a b c, R a b → S a c → T b c) : R2 T m k := by
  induction h generalizing k with
  | nil => cases g; exact .nil
  | cons r _ ih => cases g with
    | cons s g => exact .cons (ht _ _ _ r s) (ih g)
theorem mapNC_rel {ρ : Nat → Option Nat} {Γ Γ' : Env} (h : Ren ρ Γ Γ') {x y : NC} {v : Value} (hl : x.isL = true → RoOk Γ Γ') (r : CR Γ x v) (hm : mapNC ρ x = some y) : CR Γ' y v := by
  refine ⟨?_, r.2⟩
  replace r := r.1
  cases x with
  | p n i c =>
    simp only [mapNC, Option.map_eq_some_iff] at hm
    obtain ⟨j, hj, rfl⟩ := hm
    obtain ⟨B, hB, hv⟩ := r
    exact ⟨B, h.μ _ _ _ hj hB, hv⟩
  | h n o len =>
    simp only [mapNC, Option.map_eq_some_iff] at hm
    obtain ⟨j, hj, rfl⟩ := hm
    obtain ⟨B, o, cap, hB, hv⟩ := r
    exact ⟨B, o, cap, h.μ _ _ _ hj hB, hv⟩
  | cl f cap =>
    simp only [mapNC, Option.map_eq_some_iff] at hm
    obtain ⟨l, hl', rfl⟩ := hm
    obtain ⟨caps, hv, hr⟩ := r
    refine ⟨caps, hv, (mapM_cap hl').trans_left hr ?_⟩
    rintro a b c ⟨h1, h2⟩ ⟨B, hB, hc⟩
    exact ⟨B, h.μ _ _ _ h1 hB, by rw [h2]; exact hc⟩
  | l k xs =>
    cases hm
    obtain ⟨a, cap, h1, h2, h3⟩ := r
    exact ⟨a, cap, h1, h2, h3.imp id fun ⟨b, o, h4, h5⟩ => ⟨b, o, h4, h5.ren (hl rfl)⟩⟩
  | lr ks xs =>
    cases hm
    obtain ⟨a, cap, h1, h2, h0, h3⟩ := r
    exact ⟨a, cap, h1, h2, h0, h3.imp id fun ⟨b, o, h4, h5⟩ => ⟨b, o, h4, h5.ren (hl rfl)⟩⟩
  | pl k xs i => cases hm; obtain ⟨b, o, h1, h2⟩ := r; exact ⟨b, o, h1, h2.ren (hl rfl)⟩
  | pr ks xs i c => cases hm; obtain ⟨b, o, h1, h2⟩ := r; exact ⟨b, o, h1, h2.ren (hl rfl)⟩
  | e k => cases hm; have e := h.er; simp only [CRel] at r ⊢; rw [e]; exact r
  | i k n => cases hm; exact r
  | b x => cases hm; exact r
  | s x => cases hm; exact r
  | pn => cases hm; exact r
  | sn => cases hm; exact r
  | g x => cases hm; exact r
  | en => cases hm; exact r
theorem mapL_spec {α β : Type} {f : α → Option β} : ∀ {l : List α} {m : List β}, mapL f l = some m → R2 (fun a b => f a = some b) l m
  | [], m, h => by simp [mapL] at h; subst h; exact .nil
  | x :: l, m, h => by
    simp only [mapL] at h
    split at h
    · rename_i a r ha hr
      cases h
      exact .cons ha (mapL_spec hr)
    · cases h
theorem mapCells_rel {ρ : Nat → Option Nat} {Γ Γ' : Env} (h : Ren ρ Γ Γ') {xs ys : List NC} {vs : List Value} (hl : xs.any NC.isL = true → RoOk Γ Γ') (r : R2 (CR Γ) xs vs) (hm : mapL (mapNC ρ) xs = some ys) : R2 (CR Γ') ys vs := by
  have h1 := mapL_spec hm
  clear hm
  induction h1 generalizing vs with
  | nil => cases r; exact .nil
  | cons a b ih =>
    cases r with
    | cons r1 r2 =>
      exact .cons (mapNC_rel h (fun e => hl (by simp [e])) r1 a) (ih (fun e => hl (by simp only [List.any_cons, Bool.or_eq_true]; exact .inr e)) r2)
theorem mapNV_rel {ρ : Nat → Option Nat} {Γ Γ' : Env} (h : Ren ρ Γ Γ') {x y : NV} {v : Value} (hl : x.cells.any NC.isL = true → RoOk Γ Γ') (r : VRel Γ x v) (hm : mapNV (mapNC ρ) x = some y) : VRel Γ' y v := by
  cases x with
  | c x =>
    simp only [mapNV, Option.map_eq_some_iff] at hm
    obtain ⟨z, hz, rfl⟩ := hm
    exact mapNC_rel h (fun e => hl (by simp [NV.cells, e])) r hz
  | ag xs =>
    simp only [mapNV, Option.map_eq_some_iff] at hm
    obtain ⟨z, hz, rfl⟩ := hm
    obtain ⟨vs, hv, hr⟩ := r
    exact ⟨vs, hv, mapCells_rel h hl hr hz⟩
theorem mapNS_rel {ρ : Nat → Option Nat} {Γ Γ' : Env} (h : Ren ρ Γ Γ') {x y : NS} {v : Value} (hl : x.anyL = true → RoOk Γ Γ') (r : SRel Γ x v) (hm : mapNS (mapNC ρ) x = some y) : SRel Γ' y v := by
  cases x with
  | v x =>
    simp only [mapNS, Option.map_eq_some_iff] at hm
    obtain ⟨z, hz, rfl⟩ := hm
    exact mapNV_rel h hl r hz
  | tu l =>
    simp only [mapNS, Option.map_eq_some_iff] at hm
    obtain ⟨z, hz, rfl⟩ := hm
    obtain ⟨vs, hv, hr⟩ := r
    refine ⟨vs, hv, ?_⟩
    have h1 := mapL_spec hz
    simp only [NS.anyL] at hl
    clear hv hz
    induction h1 generalizing vs with
    | nil => cases hr; exact .nil
    | cons a b ih =>
      cases hr with
      | cons r1 r2 => exact .cons (mapNV_rel h (fun e => hl (by simp only [List.any_cons, Bool.or_eq_true]; exact .inl e)) r1 a) (ih (fun e => hl (by simp only [List.any_cons, Bool.or_eq_true]; exact .inr e)) _ r2)
  | dead => simp only [mapNS, Option.some.injEq] at hm; subst hm; trivial
def Reg.anyL (g : Reg) : Bool :=
  match g.body with
  | .cells xs => xs.any NC.isL
  | _ => false
theorem mapReg_rel {ρ : Nat → Option Nat} {Γ Γ' : Env} (h : Ren ρ Γ Γ') {g g' : Reg} {B : Blk} {w : World} (hl : g.anyL = true → RoOk Γ Γ') (r : RegRel Γ g B w) (hm : mapReg (mapNC ρ) g = some g') : RegRel Γ' g' B w := by
  obtain ⟨c, h1, h2, h3, h4⟩ := r
  unfold mapReg at hm
  split at hm
  · rename_i xs hb
    simp only [Option.map_eq_some_iff] at hm
    obtain ⟨z, hz, rfl⟩ := hm
    rw [hb] at h4
    obtain ⟨l1, l2, h5, h6⟩ := h4
    exact ⟨c, h1, h2, h3, l1, l2, h5, mapCells_rel h (fun e => hl (by simp only [Reg.anyL, hb]; exact e)) h6 hz⟩
  · rename_i hnb
    cases hm
    refine ⟨c, h1, h2, h3, ?_⟩
    cases hb : g.body with
    | cells xs => exact (hnb xs hb).elim
    | ints k xs => rw [hb] at h4; exact h4
    | recs ks xs => rw [hb] at h4; exact h4
theorem mapRg_get {f : NC → Option NC} : ∀ {l m : List (Option Reg)}, mapRg f l = some m → m.length = l.length ∧ ∀ (j : Nat) (g' : Reg), (m[j]? = some (some g') → ∃ g, l[j]? = some (some g) ∧ mapReg f g = some g')
  | [], m, h => by simp [mapRg] at h; subst h; exact ⟨rfl, fun j g' hj => by simp at hj⟩
  | none :: l, m, h => by
    simp only [mapRg, Option.map_eq_some_iff] at h
    obtain ⟨r, hr, rfl⟩ := h
    obtain ⟨h1, h2⟩ := mapRg_get hr
    refine ⟨by simp [h1], fun j g' hj => ?_⟩
    cases j with
    | zero => simp at hj
    | succ j => simpa using h2 j g' (by simpa using hj)
  | some g :: l, m, h => by
    simp only [mapRg] at h
    split at h
    · rename_i a r ha hr
      cases h
      obtain ⟨h1, h2⟩ := mapRg_get hr
      refine ⟨by simp [h1], fun j g' hj => ?_⟩
      cases j with
      | zero => simp at hj; subst hj; exact ⟨g, by simp, ha⟩
      | succ j => simpa using h2 j g' (by simpa using hj)
    · cases h

theorem posIn_spec {l : List Nat} {n j : Nat} (h : posIn l n = some j) : l[j]? = some n := by
  unfold posIn at h
  rw [List.findIdx?_eq_some_iff_getElem] at h
  obtain ⟨hj, he, -⟩ := h
  rw [List.getElem?_eq_getElem hj]
  simpa using he
theorem posIn_none {l : List Nat} {n : Nat} (h : posIn l n = none) : n ∉ l := by
  unfold posIn at h
  rw [List.findIdx?_eq_none_iff] at h
  intro hn
  have := h n hn
  simp at this
theorem nodup_get {l : List Nat} (h : l.Nodup) {i j n : Nat} (hi : l[i]? = some n) (hj : l[j]? = some n) : i = j := by
  obtain ⟨h1, h2⟩ := List.getElem?_eq_some_iff.1 hi
  obtain ⟨h3, h4⟩ := List.getElem?_eq_some_iff.1 hj
  rcases Nat.lt_trichotomy i j with hij | hij | hij
  · exact absurd (h2.trans h4.symm) ((List.pairwise_iff_getElem.1 h) i j h1 h3 hij)
  · exact hij
  · exact absurd (h4.trans h2.symm) ((List.pairwise_iff_getElem.1 h) j i h3 h1 hij)
theorem reach_nodup (s : St) : ∀ (fuel : Nat) (todo acc : List Nat), acc.Nodup → (reach s fuel todo acc).Nodup
  | 0, todo, acc, h => by simpa [reach] using h
  | fuel + 1, [], acc, h => by simpa [reach] using h
  | fuel + 1, n :: todo, acc, h => by
    simp only [reach]
    split
    · exact reach_nodup s fuel todo acc h
    · rename_i hc
      split
      · refine reach_nodup s fuel _ _ ?_
        rw [List.nodup_append]
        refine ⟨h, by simp, ?_⟩
        intro a ha b hb
        simp only [List.mem_singleton] at hb
        subst hb
        rintro rfl
        exact hc (by simpa using ha)
      · exact reach_nodup s fuel todo acc h

/-- The regions under names 0, 1, .. that a list gives. -/
theorem WRel.restrict {Γ Γ' : Env} {s : St} {w : World} {L : List Nat} {rg' : List (Option Reg)} (hw : WRel Γ s.rg w) (hL : L.Nodup) (hm : mapRg (mapNC (posIn L)) (L.map s.reg) = some rg')
    (hμ : ∀ j, Γ'.μ j = (L[j]?).bind Γ.μ) (her : Γ'.er = Γ.er) (hro : RoOk Γ Γ')
    (hkp : ∀ b o, Γ'.kp b = some o → w.heap[b]? = some o) (hap : ∀ n B, n ∈ L → Nx.live s.rg n → Γ.μ n = some B → Γ'.kp B.blk = none) (hrk : ∀ b, Γ'.ro b = true → ∃ o, Γ'.kp b = some o) : WRel Γ' rg' w := by
  have hren : Ren (posIn L) Γ Γ' := ⟨fun n j B h1 h2 => by rw [hμ, posIn_spec h1]; exact h2, her⟩
  obtain ⟨hlen, hget⟩ := mapRg_get hm
  have hl : ∀ (j : Nat) (g' : Reg), rg'[j]? = some (some g') → ∃ n g, L[j]? = some n ∧ s.rg[n]? = some (some g) ∧ mapReg (mapNC (posIn L)) g = some g' := by
    intro j g' hj
    obtain ⟨g, hg, hmg⟩ := hget j g' hj
    rw [List.getElem?_map] at hg
    cases e : L[j]? with
    | none => simp [e] at hg
    | some n =>
      simp only [e, Option.map_some, Option.some.injEq] at hg
      exact ⟨n, g, rfl, (reg_eq s n g).1 hg, hmg⟩
  refine ⟨fun j g' hj => ?_, fun i j B B' hne li lj hB hB' => ?_, hkp, fun j B lj hB => ?_, hrk⟩
  · obtain ⟨n, g, h1, h2, h3⟩ := hl j g' hj
    obtain ⟨B, hB, hr⟩ := hw.live n g h2
    exact ⟨B, by rw [hμ, h1]; exact hB, mapReg_rel hren (fun _ => hro) hr h3⟩
  · obtain ⟨gi, hi⟩ := li
    obtain ⟨gj, hj⟩ := lj
    obtain ⟨n, g, h1, h2, -⟩ := hl i gi hi
    obtain ⟨n', g', h1', h2', -⟩ := hl j gj hj
    rw [hμ, h1] at hB
    rw [hμ, h1'] at hB'
    refine hw.inj n n' B B' ?_ ⟨g, h2⟩ ⟨g', h2'⟩ hB hB'
    rintro rfl
    exact hne (nodup_get hL h1 h1')
  · obtain ⟨g, hg⟩ := lj
    obtain ⟨n, g', h1, h2, -⟩ := hl j g hg
    rw [hμ, h1] at hB
    exact hap n B (List.mem_of_getElem? h1) ⟨g', h2⟩ hB

end Go.Nx
