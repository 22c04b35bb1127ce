/-
  The engine, part 13: a call is what its tree says.
-/
import Derived.Test.YtnhadghddkgjdaaEng12
namespace Go.Nx
open Go

theorem ncallP_sound {X : Cx} (hcon : ∀ f T, X.con f = some T → Known X.P X.glob f T) {passed : List Nat} (hnd : passed.Nodup) {f : FuncId} {args : List NV} {nm : Nat} {s : St} {Γ : Env} {w : World} {vs : List Value} {R : Eff → Prop}
    (hw : WRel Γ s.rg w) (hG : GlobOk X.glob Γ) (hargs : R2 (VRel Γ) args vs) (hnm : ∀ k, nm ≤ k → k < nm + 8 → Γ.μ k = none) (h : (ncallP X passed f args nm s).run R) :
    Calls X.P f vs.toArray w fun e w' => ∃ x v, R x ∧ e = .returned v ∧ EffOk Γ s w nm x v w' := by
  unfold ncallP at h
  split at h
  case h_2 => exact h.elim
  rename_i T fn hT hfn
  simp only at h
  split at h
  case h_2 => exact h.elim
  rename_i c args' regs hargs' hregs
  split at h
  case h_1 => exact h.elim
  obtain ⟨hc, h⟩ := (chkT_run _ _ _).1 h
  rw [Tr.run_bind] at h
  generalize hlent : ((args.flatMap NV.names).filter fun n => !passed.contains n) = lent at *
  have hlt : ∀ {b : Nat} {o : Obj}, w.heap[b]? = some o → b < w.heap.size := fun e => (Array.getElem?_eq_some_iff.1 e).1
  -- the regions that are handed over
  have hreg2 := mapL_spec hregs
  have hplive : ∀ n ∈ passed, live s.rg n := by
    intro n hn
    obtain ⟨j, hj⟩ := List.getElem?_of_mem hn
    obtain ⟨g, hg, hr⟩ := hreg2.get hj
    simp only [Option.bind_eq_some_iff] at hr
    obtain ⟨g0, h1, -⟩ := hr
    exact ⟨g0, (reg_eq s n g0).1 h1⟩
  have hrg : mapRg (mapNC (posIn passed)) (passed.map s.reg) = some (regs.map some) := by
    clear hplive hnd h hargs' hregs hlent
    have key : ∀ {L : List Nat} {regs : List Reg}, R2 (fun n g => (s.reg n).bind (mapReg (mapNC (posIn passed))) = some g) L regs → mapRg (mapNC (posIn passed)) (L.map s.reg) = some (regs.map some) := by
      intro L regs hr
      induction hr with
      | nil => rfl
      | cons a _ ih =>
        simp only [Option.bind_eq_some_iff] at a
        obtain ⟨g0, h1, h2⟩ := a
        simp only [List.map_cons, h1, mapRg, h2, ih]
    exact key hreg2
  -- where they lie
  let PB : Nat → Prop := fun b => ∃ n B, n ∈ passed ∧ Γ.μ n = some B ∧ B.blk = b
  let LB : Nat → Prop := fun b => ∃ n B, n ∈ lent ∧ live s.rg n ∧ Γ.μ n = some B ∧ B.blk = b
  have hPBlive : ∀ b, PB b → ∃ o, w.heap[b]? = some o ∧ Γ.kp b = none := by
    rintro b ⟨n, B, hn, hB, rfl⟩
    obtain ⟨g, hg⟩ := hplive n hn
    obtain ⟨B', hB', cs, hcs, -⟩ := hw.live n g hg
    rw [hB] at hB'; cases hB'
    exact ⟨_, hcs, hw.apart n B ⟨g, hg⟩ hB⟩
  have hLBpb : ∀ b, LB b → ¬ PB b := by
    rintro b ⟨n, B, hn, hl, hB, rfl⟩ ⟨n', B', hn', hB', he⟩
    have hne : n ≠ n' := by
      rintro rfl
      rw [← hlent] at hn
      simp only [List.mem_filter, Bool.not_eq_eq_eq_not, Bool.not_true] at hn
      have := hn.2
      simp at this
      exact this hn'
    exact hw.inj n n' B B' hne hl (hplive n' hn') hB hB' he.symm
  obtain ⟨kpc, hkpc1, hkpc2⟩ : ∃ kp : Nat → Option Obj, (∀ b, PB b → kp b = none) ∧ (∀ b, ¬ PB b → kp b = w.heap[b]?) := by
    classical
    exact ⟨fun b => if PB b then none else w.heap[b]?, fun b hb => if_pos hb, fun b hb => if_neg hb⟩
  obtain ⟨roc, hroc⟩ : ∃ ro : Nat → Bool, ∀ b, ro b = true ↔ (Γ.ro b = true ∨ LB b) := by
    classical
    exact ⟨fun b => decide (Γ.ro b = true ∨ LB b), fun b => by simp⟩
  let Γc : Env := { μ := fun j => (passed[j]?).bind Γ.μ, kp := kpc, ro := roc, er := Γ.er }
  have hkpold : ∀ b o, Γ.kp b = some o → ¬ PB b ∧ kpc b = some o := by
    intro b o hb
    have hn : ¬ PB b := fun hp => by obtain ⟨_, _, h2⟩ := hPBlive b hp; rw [h2] at hb; cases hb
    exact ⟨hn, by rw [hkpc2 b hn]; exact hw.kp b o hb⟩
  have hroOk : RoOk Γ Γc := fun b o h1 h2 => ⟨(hroc b).2 (.inl h1), (hkpold b o h2).2⟩
  have hren : Ren (posIn passed) Γ Γc := ⟨fun n j B h1 h2 => by show (passed[j]?).bind Γ.μ = _; rw [posIn_spec h1]; exact h2, rfl⟩
  have hrosome : ∀ b, roc b = true → ∃ o, kpc b = some o := by
    intro b hb
    rcases (hroc b).1 hb with h1 | h1
    · obtain ⟨o, ho⟩ := hw.ro b h1
      exact ⟨o, (hkpold b o ho).2⟩
    · have hnp := hLBpb b h1
      obtain ⟨n, B, hn, ⟨g, hg⟩, hB, rfl⟩ := h1
      obtain ⟨B', hB', cs, hcs, -⟩ := hw.live n g hg
      rw [hB] at hB'; cases hB'
      exact ⟨_, by rw [hkpc2 _ hnp]; exact hcs⟩
  have hwc : WRel Γc (regs.map some) w := by
    refine hw.restrict hnd hrg (fun _ => rfl) rfl hroOk (fun b o hb => ?_) (fun n B hn hl hB => ?_) hrosome
    · by_cases hp : PB b
      · have : kpc b = some o := hb; rw [hkpc1 b hp] at this; cases this
      · have : kpc b = some o := hb; rw [hkpc2 b hp] at this; exact this
    · exact hkpc1 _ ⟨n, B, hn, hB, rfl⟩
  have hGc : GlobOk X.glob Γc := by
    refine ⟨fun x hx => ?_, hG.2⟩
    obtain ⟨ad, c, e, fz, ca, ta, h1, h2, h3, h4⟩ := hG.1 x hx
    exact ⟨ad, c, e, fz, ca, ta, h1, (hkpold _ _ h2).2, h3, (hkpold _ _ h4).2⟩
  have hargsc : R2 (VRel Γc) args' vs := by
    refine argsNV_rel hw hren hroOk (fun r B g hr hnp hg hB => ?_) hargs hargs' hc
    have hlb : LB B.blk := ⟨r, B, by rw [← hlent]; simp [hr, hnp], ⟨g, hg⟩, hB, rfl⟩
    exact ⟨(hroc _).2 (.inr hlb), hkpc2 _ (hLBpb _ hlb)⟩
  have hout : ∀ n, regs.length ≤ n → Γc.μ n = none := by
    intro n hn
    show (passed[n]?).bind Γ.μ = none
    rw [List.getElem?_eq_none (by rw [hreg2.length]; exact hn)]; rfl
  refine ((hcon f T hT).sound args' regs _ h Γc w vs hwc hGc hargsc hout).mono ?_
  rintro e w2 ⟨o, v, Γ2, hR, rfl, hext, hres, hw2, hwd⟩
  clear h
  -- what comes back
  split at hR
  case h_2 => exact hR.elim
  rename_i res ups hmres hups
  simp only [Option.bind_eq_some_iff] at hups
  obtain ⟨rg, hmrg, hups⟩ := hups
  split at hR
  case isFalse => exact hR.elim
  rename_i htot
  generalize hback : backTo passed nm o.rg.length = back at *
  refine ⟨_, v, hR, rfl, ?_⟩
  have hplen : passed.length = regs.length := hreg2.length
  have hfresh : ∀ n ∈ passed, ¬ (nm ≤ n ∧ n < nm + 8) := by
    intro n hn hh
    obtain ⟨g, hg⟩ := hplive n hn
    obtain ⟨B, hB, -⟩ := hw.live n g hg
    rw [hnm n hh.1 hh.2] at hB; cases hB
  have hbspec : ∀ {j n : Nat}, back j = some n → (j < passed.length ∧ passed[j]? = some n) ∨ (passed.length ≤ j ∧ j < o.rg.length ∧ n = nm + (j - passed.length)) := by
    intro j n hj
    rw [← hback] at hj
    unfold backTo at hj
    split at hj
    · exact .inl ⟨by assumption, hj⟩
    · split at hj
      · simp only [Option.some.injEq] at hj; exact .inr ⟨by omega, by assumption, hj.symm⟩
      · cases hj
  have hpblk : ∀ {j n : Nat} {B : Blk}, passed[j]? = some n → Γ.μ n = some B → Γ2.μ j = some B := by
    intro j n B hj hB
    exact hext.le.μ j B (by show (passed[j]?).bind Γ.μ = _; rw [hj]; exact hB)
  let F : Prop := (o.res.anyL || rgAnyL o.rg) = true
  obtain ⟨kp', hkp1, hkp2⟩ : ∃ kp : Nat → Option Obj, (∀ b, F ∧ Γ2.ro b = true → kp b = Γ2.kp b) ∧ (∀ b, ¬ (F ∧ Γ2.ro b = true) → kp b = Γ.kp b) := by
    classical
    exact ⟨fun b => if F ∧ Γ2.ro b = true then Γ2.kp b else Γ.kp b, fun b hb => if_pos hb, fun b hb => if_neg hb⟩
  obtain ⟨ro', hro'⟩ : ∃ ro : Nat → Bool, ∀ b, ro b = true ↔ (Γ.ro b = true ∨ (F ∧ Γ2.ro b = true)) := by
    classical
    exact ⟨fun b => decide (Γ.ro b = true ∨ (F ∧ Γ2.ro b = true)), fun b => by simp⟩
  let Γ' : Env := { μ := fun n => if nm ≤ n ∧ n < nm + (o.rg.length - passed.length) then Γ2.μ (passed.length + (n - nm)) else Γ.μ n, kp := kp', ro := ro', er := Γ.er }
  have hμold : ∀ n, ¬ (nm ≤ n ∧ n < nm + (o.rg.length - passed.length)) → Γ'.μ n = Γ.μ n := fun n hn => if_neg hn
  have hμnew : ∀ n, (nm ≤ n ∧ n < nm + (o.rg.length - passed.length)) → Γ'.μ n = Γ2.μ (passed.length + (n - nm)) := fun n hn => if_pos hn
  have hk2 : ∀ b o', Γ.kp b = some o' → Γ2.kp b = some o' := fun b o' hb => hext.le.kp b o' (hkpold b o' hb).2
  have hle : Γ.le Γ' := by
    refine ⟨fun n B hB => ?_, fun b o' hb => ?_, fun b hb => (hro' b).2 (.inl hb), rfl⟩
    · have hn : ¬ (nm ≤ n ∧ n < nm + (o.rg.length - passed.length)) := fun hh => by rw [hnm n hh.1 (by omega)] at hB; cases hB
      rw [hμold n hn]; exact hB
    · show kp' b = _
      by_cases hf : F ∧ Γ2.ro b = true
      · rw [hkp1 b hf]; exact hk2 b o' hb
      · rw [hkp2 b hf]; exact hb
  have hΓ2blk : ∀ j B, Γ2.μ j = some B → w.heap.size ≤ B.blk ∨ ∃ n B', Γ.μ n = some B' ∧ B'.blk = B.blk := by
    intro j B hB
    rcases hext.nw j B hB with h1 | ⟨n', B', h1, h2⟩
    · exact .inl h1
    · have h3 : (passed[n']?).bind Γ.μ = some B' := h1
      simp only [Option.bind_eq_some_iff] at h3
      obtain ⟨n, -, h4⟩ := h3
      exact .inr ⟨n, B', h4, h2⟩
  have hExt : Ext Γ w Γ' := by
    refine ⟨hle, fun b hb => ?_, fun n B hB => ?_⟩
    · rcases (hro' b).1 hb with h1 | ⟨-, h1⟩
      · exact .inl h1
      · rcases hext.ro b h1 with h2 | h2 | ⟨n, B, h2, h3⟩
        · rcases (hroc b).1 h2 with h3 | ⟨n, B, -, -, h4, h5⟩
          · exact .inl h3
          · exact .inr (.inr ⟨n, B, h4, h5⟩)
        · exact .inr (.inl h2)
        · have h4 : (passed[n]?).bind Γ.μ = some B := h2
          simp only [Option.bind_eq_some_iff] at h4
          obtain ⟨n', -, h5⟩ := h4
          exact .inr (.inr ⟨n', B, h5, h3⟩)
    · by_cases hn : nm ≤ n ∧ n < nm + (o.rg.length - passed.length)
      · rw [hμnew n hn] at hB; exact hΓ2blk _ B hB
      · rw [hμold n hn] at hB; exact .inr ⟨n, B, hB, rfl⟩
  have hren' : Ren back Γ2 Γ' := by
    refine ⟨fun j n B hj hB => ?_, ?_⟩
    · rcases hbspec hj with ⟨h1, h2⟩ | ⟨h1, h2, rfl⟩
      · have hmem := List.mem_of_getElem? h2
        rw [hμold n (fun hh => hfresh n hmem (by omega))]
        obtain ⟨g, hg⟩ := hplive n hmem
        obtain ⟨B0, hB0, -⟩ := hw.live n g hg
        rw [hpblk h2 hB0] at hB
        cases hB; exact hB0
      · rw [hμnew _ (by omega)]
        have e : passed.length + (nm + (j - passed.length) - nm) = j := by omega
        rw [e]; exact hB
    · show Γ.er = Γ2.er
      rw [hext.le.er]
  have hroF : F → RoOk Γ2 Γ' := fun hf b o' h1 h2 => ⟨(hro' b).2 (.inr ⟨hf, h1⟩), by show kp' b = _; rw [hkp1 b ⟨hf, h1⟩]; exact h2⟩
  -- regions that stay aside
  have haside : ∀ {n : Nat} {g : Reg} {B : Blk}, n ∉ passed → s.rg[n]? = some (some g) → Γ.μ n = some B → ¬ PB B.blk ∧ Γ2.kp B.blk = w.heap[B.blk]? ∧ w2.heap[B.blk]? = w.heap[B.blk]? := by
    intro n g B hn hg hB
    have hnp : ¬ PB B.blk := by
      rintro ⟨n', B', hn', hB', he⟩
      exact hw.inj n' n B' B (fun e => hn (e ▸ hn')) (hplive n' hn') ⟨g, hg⟩ hB' hB he
    obtain ⟨B', hB', cs, hcs, -⟩ := hw.live n g hg
    rw [hB] at hB'; cases hB'
    have h1 : Γ2.kp B.blk = some (.cells cs g.e (0, 0)) := hext.le.kp _ _ (by show kpc _ = _; rw [hkpc2 _ hnp]; exact hcs)
    exact ⟨hnp, by rw [h1, hcs], by rw [hw2.kp _ _ h1, hcs]⟩
  obtain ⟨hmlen, hmget⟩ := mapRg_get hmrg
  obtain ⟨hu1, hu2⟩ := upsOf_mem hups
  simp only [Nat.zero_add] at hu1 hu2
  -- what a region is behind the call
  have hcase : ∀ {n : Nat} {g : Reg}, (s.ups (ups ++ (if o.res.anyL || rgAnyL o.rg then lent.map fun n => (n, none) else []))).rg[n]? = some (some g) →
      (F → n ∉ lent) ∧ ((∃ j, back j = some n ∧ rg[j]? = some (some g)) ∨ (n ∉ passed ∧ s.rg[n]? = some (some g) ∧ ¬ (nm ≤ n ∧ n < nm + (o.rg.length - passed.length)))) := by
    intro n g hg
    rw [ups_append] at hg
    have hg2 : (F → n ∉ lent) ∧ (s.ups ups).rg[n]? = some (some g) := by
      by_cases hf : F
      · rw [if_pos hf] at hg
        obtain ⟨h1, h2⟩ := ups_kill hg
        exact ⟨fun _ => h2, h1⟩
      · rw [if_neg hf] at hg
        exact ⟨fun h => (hf h).elim, hg⟩
    refine ⟨hg2.1, ?_⟩
    rcases ups_get hg2.2 with h1 | ⟨h1, h2⟩
    · obtain ⟨i, h3, h4⟩ := hu1 _ _ h1
      exact .inl ⟨i, h3, h4⟩
    · refine .inr ⟨fun hn => ?_, h1, fun hh => ?_⟩
      · obtain ⟨j, hj⟩ := List.getElem?_of_mem hn
        have hjl : j < rg.length := by rw [hmlen]; have := (List.getElem?_eq_some_iff.1 hj).1; omega
        obtain ⟨m, h3, h4⟩ := hu2 j _ (List.getElem?_eq_getElem hjl)
        have : back j = some n := by rw [← hback]; unfold backTo; rw [if_pos (List.getElem?_eq_some_iff.1 hj).1]; exact hj
        rw [this] at h3; cases h3
        exact h2 _ h4
      · obtain ⟨B, hB, -⟩ := hw.live n g h1
        rw [hnm n hh.1 (by omega)] at hB; cases hB
  have hLany : ∀ (j : Nat) (g : Reg), o.rg[j]? = some (some g) → g.anyL = true → F := by
    intro j g hj hg
    show (_ || _) = true
    rw [Bool.or_eq_true]
    right
    unfold rgAnyL
    rw [List.any_eq_true]
    refine ⟨some g, List.mem_of_getElem? hj, ?_⟩
    unfold Reg.anyL at hg
    obtain ⟨st, e, body⟩ := g
    cases body <;> simp at hg ⊢
    exact hg
  have hback2 : ∀ {j n : Nat} {g : Reg}, back j = some n → rg[j]? = some (some g) → ∃ B, Γ'.μ n = some B ∧ Γ2.μ j = some B ∧ RegRel Γ' g B w2 ∧ live o.rg j ∧ Γ2.kp B.blk = none := by
    intro j n g hj hg
    obtain ⟨g0, hg0, hmg⟩ := hmget j g hg
    obtain ⟨B, hB, hr⟩ := hw2.live j g0 hg0
    exact ⟨B, hren'.μ _ _ _ hj hB, hB, mapReg_rel hren' (fun e => hroF (hLany j g0 hg0 e)) hr hmg, ⟨g0, hg0⟩, hw2.apart j B ⟨g0, hg0⟩ hB⟩
  refine ⟨Γ', hExt, mapNS_rel hren' (fun e => hroF (by show (_ || _) = true; rw [e]; rfl)) hres hmres, ?_, hwd, fun n h1 h2 => ?_⟩
  rotate_left
  · by_cases hn : nm ≤ n ∧ n < nm + (o.rg.length - passed.length)
    · exfalso
      refine h2 ⟨hn.1, by omega, ?_⟩
      have hjl : passed.length + (n - nm) < rg.length := by rw [hmlen]; omega
      obtain ⟨m, h3, h4⟩ := hu2 _ _ (List.getElem?_eq_getElem hjl)
      have : m = n := by
        rcases hbspec h3 with ⟨h5, -⟩ | ⟨-, -, h5⟩
        · omega
        · omega
      subst this
      exact ups_len (List.mem_append_left _ h4)
    · rw [hμold n hn]; exact h1
  refine ⟨fun n g hn => ?_, fun a b Ba Bb hne la lb ha hb => ?_, fun b o' hb => ?_, fun n B ln hB => ?_, fun b hb => ?_⟩
  · obtain ⟨-, ⟨j, h1, h2⟩ | ⟨h1, h2, h3⟩⟩ := hcase hn
    · obtain ⟨B, h3, -, h4, -⟩ := hback2 h1 h2
      exact ⟨B, h3, h4⟩
    · obtain ⟨B, hB, hr⟩ := hw.live n g h2
      exact ⟨B, hle.μ _ _ hB, (hr.heap (haside h1 h2 hB).2.2).mono hle⟩
  · obtain ⟨ga, hga⟩ := la
    obtain ⟨gb, hgb⟩ := lb
    obtain ⟨-, ⟨ja, a1, a2⟩ | ⟨a1, a2, a3⟩⟩ := hcase hga <;> obtain ⟨-, ⟨jb, b1, b2⟩ | ⟨b1, b2, b3⟩⟩ := hcase hgb
    · obtain ⟨B1, e1, e2, -, e3, -⟩ := hback2 a1 a2
      obtain ⟨B2, f1, f2, -, f3, -⟩ := hback2 b1 b2
      rw [ha] at e1; cases e1
      rw [hb] at f1; cases f1
      exact hw2.inj ja jb _ _ (fun e => by subst e; rw [a1] at b1; cases b1; exact hne rfl) e3 f3 e2 f2
    · obtain ⟨B1, e1, e2, -, e3, e4⟩ := hback2 a1 a2
      rw [ha] at e1; cases e1
      rw [hμold b b3] at hb
      obtain ⟨-, h5, -⟩ := haside b1 b2 hb
      intro e
      rw [← e, e4] at h5
      obtain ⟨B', hB', cs, hcs, -⟩ := hw.live b gb b2
      rw [hb] at hB'; cases hB'
      rw [← e] at hcs
      rw [hcs] at h5; cases h5
    · obtain ⟨B1, e1, e2, -, e3, e4⟩ := hback2 b1 b2
      rw [hb] at e1; cases e1
      rw [hμold a a3] at ha
      obtain ⟨-, h5, -⟩ := haside a1 a2 ha
      intro e
      rw [e, e4] at h5
      obtain ⟨B', hB', cs, hcs, -⟩ := hw.live a ga a2
      rw [ha] at hB'; cases hB'
      rw [e] at hcs
      rw [hcs] at h5; cases h5
    · rw [hμold a a3] at ha
      rw [hμold b b3] at hb
      exact hw.inj a b Ba Bb hne ⟨ga, a2⟩ ⟨gb, b2⟩ ha hb
  · have hb' : kp' b = some o' := hb
    by_cases hf : F ∧ Γ2.ro b = true
    · rw [hkp1 b hf] at hb'; exact hw2.kp b o' hb'
    · rw [hkp2 b hf] at hb'; exact hw2.kp b o' (hk2 b o' hb')
  · obtain ⟨g, hg⟩ := ln
    show kp' B.blk = none
    obtain ⟨hnl, ⟨j, h1, h2⟩ | ⟨h1, h2, h3⟩⟩ := hcase hg
    · obtain ⟨B1, e1, e2, -, e3, e4⟩ := hback2 h1 h2
      rw [hB] at e1; cases e1
      by_cases hf : F ∧ Γ2.ro B.blk = true
      · rw [hkp1 _ hf]; exact e4
      · rw [hkp2 _ hf]
        cases e : Γ.kp B.blk with
        | none => rfl
        | some o' => rw [hk2 _ _ e] at e4; cases e4
    · rw [hμold n h3] at hB
      have hap := hw.apart n B ⟨g, h2⟩ hB
      by_cases hf : F ∧ Γ2.ro B.blk = true
      · exfalso
        obtain ⟨hnp, -, -⟩ := haside h1 h2 hB
        rcases hext.ro _ hf.2 with h4 | h4 | ⟨j, B', h4, h5⟩
        · rcases (hroc _).1 h4 with h5 | ⟨r, B', hr, lr, hB', he⟩
          · obtain ⟨o', ho⟩ := hw.ro _ h5
            rw [hap] at ho; cases ho
          · have : r = n := by
              by_cases e : r = n
              · exact e
              · exact (hw.inj r n B' B e lr ⟨g, h2⟩ hB' hB he).elim
            subst this
            exact hnl hf.1 hr
        · obtain ⟨B', hB', cs, hcs, -⟩ := hw.live n g h2
          rw [hB] at hB'; cases hB'
          have := hlt hcs
          omega
        · have h6 : (passed[j]?).bind Γ.μ = some B' := h4
          simp only [Option.bind_eq_some_iff] at h6
          obtain ⟨n', h7, h8⟩ := h6
          exact hnp ⟨n', B', List.mem_of_getElem? h7, h8, h5⟩
      · rw [hkp2 _ hf]; exact hap
  · show ∃ o', kp' b = some o'
    by_cases hf : F ∧ Γ2.ro b = true
    · rw [hkp1 b hf]; exact hw2.ro b hf.2
    · rw [hkp2 b hf]
      rcases (hro' b).1 hb with h1 | h1
      · exact hw.ro b h1
      · exact (hf h1).elim

theorem ncall_sound {X : Cx} (hcon : ∀ f T, X.con f = some T → Known X.P X.glob f T) {f : FuncId} {args : List NV} {nm : Nat} {s : St} {Γ : Env} {w : World} {vs : List Value} {R : Eff → Prop}
    (hw : WRel Γ s.rg w) (hG : GlobOk X.glob Γ) (hargs : R2 (VRel Γ) args vs) (hnm : ∀ k, nm ≤ k → k < nm + 8 → Γ.μ k = none) (h : (ncall X f args nm s).run R) :
    Calls X.P f vs.toArray w fun e w' => ∃ x v, R x ∧ e = .returned v ∧ EffOk Γ s w nm x v w' :=
  ncallP_sound hcon (reach_nodup s _ _ _ (by simp)) hw hG hargs hnm h

end Go.Nx
