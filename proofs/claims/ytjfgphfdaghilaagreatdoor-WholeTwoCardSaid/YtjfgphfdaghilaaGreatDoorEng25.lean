/-
  The engine, part 25: the listed variables that hold errors, each its own.
-/
import Derived.Test.YtjfgphfdaghilaaGreatDoorEngC
import Derived.LaidLaws
import Derived.LaidMore
namespace Go.Nx
open Go Go.RowKit Go.ChangeShapes Go.WideShapes Go.ChangeAt

/-- A datum that an error of errors.New reads as. -/
def isErrD (d : DataW Unit) : Bool :=
  match d with
  | .iface "*errors.errorString" (.ptr (.agg [.lit (.string _)])) => true
  | _ => false
theorem isErrD_spec {d : DataW Unit} (h : isErrD d = true) : ∃ text, d = .iface "*errors.errorString" (.ptr (.agg [.lit (.string text)])) := by
  unfold isErrD at h
  split at h
  · exact ⟨_, rfl⟩
  · cases h
/-- What the tables say of the errors' types. -/
structure ErrTypes (P : Program) (ti et te ts : TypeId) : Prop where
  hti : ∃ ms, P.underlying ti = some (.interface ms)
  row : ∀ u, P.typeName? 3 u = some "*errors.errorString" → u = et
  het : P.underlying et = some (.pointer te)
  hte : ∃ f : Field, P.underlying te = some (.struct #[f]) ∧ f.type = ts ∧ f.offset = 0
  hts : P.underlying ts = some .string
  hce : P.cellsOf te = 1
  hcs : P.cellsOf ts = 1
/-- One listed variable: where it is, what it holds. -/
structure ErrAt (W : World) (et : TypeId) (ps : List MemPlace) (g : Nat) (ad : Addr) : Prop where
  cell : ∃ c e fz, W.heap[g]? = some (.cells c e fz) ∧ c[0]? = some (.iface et (.pointer (some ad)))
  obj : ∃ c t, W.heap[ad.block]? = some (.cells c t (0, 0))
  place : MemPlace.cell ad.block ad.off ∈ ps
  spot : ad.spot = none
theorem laid_errs {P : Program} {W : World} {ti et te ts : TypeId} (hT : ErrTypes P ti et te ts) :
    ∀ {laid : List (String × DataW Unit)} {gs : List Nat} {ps : List MemPlace}, (laid.all fun x => isErrD x.2) = true → mapL (fun x : String × DataW Unit => P.globalNamed x.1) laid = some gs → (gs.all fun g => (P.globals[g]?).map (·.type) == some ti) = true →
      DataW.LaidVars P W laid ps → ps.Nodup → (∀ b off, MemPlace.cell b off ∈ ps → (∃ c t, W.heap[b]? = some (.cells c t (0, 0))) ∧ ∀ u v, W.cell? ⟨b, off, none⟩ = some (.iface u v) → Value.okWide P W .any 0 u v) →
      ∃ ads : List Addr, R2 (ErrAt W et ps) gs ads ∧ ads.Nodup
  | [], gs, ps, _, hg, _, _, _, _ => by
    simp [mapL] at hg
    subst hg
    exact ⟨[], .nil, by simp⟩
  | (n, d) :: laid, gs, ps, he, hg, ht, hL, hnd, hps => by
    simp only [mapL] at hg
    split at hg
    case h_2 => cases hg
    rename_i g gs' h1 h2
    cases hg
    simp only [List.all_cons, Bool.and_eq_true, beq_iff_eq] at he ht
    obtain ⟨g', t, cs, fuel, p, q, hg', htt, hv, hd, hrest, e⟩ := hL
    rw [h1] at hg'
    cases hg'
    rw [ht.1] at htt
    cases htt
    obtain ⟨text, rfl⟩ := isErrD_spec he.1
    obtain ⟨ms, hms⟩ := hT.hti
    obtain ⟨f, hf1, hf2, hf3⟩ := hT.hte
    subst e
    rw [List.append_assoc] at hnd
    have hnd2 := (List.nodup_append.1 hnd).2.1
    obtain ⟨hndp, hndq, hdis⟩ := List.nodup_append.1 hnd2
    have hok : ∀ u v, cs.toList = [.iface u v] → Value.okWide P W .any 0 u v := fun u v ec => by
      have hc1 : cs = #[.iface u v] := by
        apply Array.ext'
        simpa using ec
      refine (hps g 0 ?_).2 u v ?_
      · rw [List.append_assoc, List.mem_append]
        left
        rw [hc1]
        simp [MemPlace.row]
      · have := World.var?_cell h1 hv 0
        rw [this, hc1]
        rfl
    obtain ⟨ad, s, hcs, hcell, -, -, rfl⟩ := errorString_of_trod hms hT.row hT.het hf1 hf2 hf3 hT.hts hT.hce hT.hcs hd hok
    obtain ⟨ads, hads, hand⟩ := laid_errs hT he.2 h2 ht.2 hrest hndq fun b off hm => hps b off (by rw [List.append_assoc, List.mem_append, List.mem_append]; exact .inr (.inr hm))
    have hpl : MemPlace.cell ad.block ad.off ∈ MemPlace.row ad 1 := by simp [MemPlace.row]
    have hc1 : cs = #[.iface et (.pointer (some ad))] := by
      apply Array.ext'
      simpa using hcs
    have hobj := (hps ad.block ad.off (by rw [List.append_assoc, List.mem_append, List.mem_append]; exact .inr (.inl hpl))).1
    have hspot : ad.spot = none := by
      obtain ⟨c, t, hb⟩ := hobj
      unfold World.cell? at hcell
      rw [hb] at hcell
      cases hsp : ad.spot with
      | none => rfl
      | some k => rw [hsp] at hcell; simp at hcell
    refine ⟨ad :: ads, .cons ⟨?_, hobj, ?_, hspot⟩ (hads.imp fun g a h => ⟨h.cell, h.obj, ?_, h.spot⟩), ?_⟩
    · have h0 := World.var?_cell h1 hv 0
      rw [hc1] at h0
      have h0' : W.cell? ⟨g, 0, none⟩ = some (.iface et (.pointer (some ad))) := h0
      unfold World.cell? at h0'
      split at h0'
      · rename_i c e fz hb
        exact ⟨c, e, fz, hb, by simpa using h0'⟩
      · cases h0'
    · rw [List.append_assoc, List.mem_append, List.mem_append]; exact .inr (.inl hpl)
    · rw [List.append_assoc, List.mem_append, List.mem_append]; exact .inr (.inr h.place)
    · refine List.nodup_cons.2 ⟨fun hm => ?_, hand⟩
      obtain ⟨j, hj⟩ := List.getElem?_of_mem hm
      have hlen := hads.length
      have hjl : j < gs'.length := by rw [hlen]; exact (List.getElem?_eq_some_iff.1 hj).1
      obtain ⟨b, hb, hE⟩ := hads.get (List.getElem?_eq_getElem hjl)
      rw [hj] at hb
      cases hb
      exact hdis _ hpl _ hE.place rfl
theorem nodup_getA {α : Type} {l : List α} (h : l.Nodup) {i j : Nat} {n : α} (hi : l[i]? = some n) (hj : l[j]? = some n) : i = j := by
  obtain ⟨h1, h2⟩ := List.getElem?_eq_some_iff.1 hi
  obtain ⟨h3, h4⟩ := List.getElem?_eq_some_iff.1 hj
  rcases Nat.lt_trichotomy i j with hij | hij | hij
  · exact absurd (h2.trans h4.symm) ((List.pairwise_iff_getElem.1 h) i j h1 h3 hij)
  · exact hij
  · exact absurd (h4.trans h2.symm) ((List.pairwise_iff_getElem.1 h) j i h3 h1 hij)
/-- What the listed variables hold. -/
def erOf (W : World) (g : Nat) : Option Value := W.cell? ⟨g, 0, none⟩
theorem glob_of_laid {P : Program} {W : World} {ti et te ts : TypeId} (hT : ErrTypes P ti et te ts) {laid : List (String × DataW Unit)} {gs : List Nat} (he : (laid.all fun x => isErrD x.2) = true) (hg : mapL (fun x : String × DataW Unit => P.globalNamed x.1) laid = some gs)
    (ht : (gs.all fun g => (P.globals[g]?).map (·.type) == some ti) = true) (hL : laidMet P laid W) {vs : List Nat} (hsub : (vs.all fun v => gs.contains v) = true) : GlobOk (et :: vs) (topEnv W (erOf W)) := by
  obtain ⟨ps, hlv, hnd, hps⟩ := hL
  obtain ⟨ads, hads, hand⟩ := laid_errs hT he hg ht hlv hnd hps
  have key : ∀ x ∈ vs, ∃ (j : Nat) (ad : Addr), gs[j]? = some x ∧ ads[j]? = some ad ∧ ErrAt W et ps x ad := by
    intro x hx
    have hm : x ∈ gs := List.contains_iff_mem.1 (List.all_eq_true.1 hsub x hx)
    obtain ⟨j, hj⟩ := List.getElem?_of_mem hm
    obtain ⟨ad, ha, hE⟩ := hads.get hj
    exact ⟨j, ad, hj, ha, hE⟩
  have er : ∀ {x : Nat} {ad : Addr}, ErrAt W et ps x ad → erOf W x = some (.iface et (.pointer (some ad))) := by
    intro x ad hE
    obtain ⟨c, e, fz, hb, hc⟩ := hE.cell
    unfold erOf World.cell?
    rw [hb]
    simpa using hc
  refine ⟨fun x hx => ?_, fun x hx y hy hne hxy => ?_⟩
  · obtain ⟨j, ad, -, -, hE⟩ := key x hx
    obtain ⟨c, e, fz, hb, hc⟩ := hE.cell
    obtain ⟨c2, t2, hb2⟩ := hE.obj
    exact ⟨ad, c, e, fz, c2, t2, er hE, hb, hc, hb2⟩
  · obtain ⟨j, ad, hj, ha, hE⟩ := key x hx
    obtain ⟨k, bd, hk, hb, hF⟩ := key y hy
    have hxy' : erOf W x = erOf W y := hxy
    rw [er hE, er hF] at hxy'
    cases hxy'
    have : j = k := nodup_getA hand ha hb
    subst this
    rw [hj] at hk
    cases hk
    exact hne rfl
end Go.Nx
