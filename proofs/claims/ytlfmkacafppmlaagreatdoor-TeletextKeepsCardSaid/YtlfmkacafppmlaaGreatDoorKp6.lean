/-
  Joined: AqU, AqV, AqVa, AqVb, AqX, AqY, AqZ, AqZa, AqN1, AqN2, BmA, BmB, BmC, BmD, BmE, LsZ, SvTz, SvOz, SvUz, SvQz, BmH, BmI, BmJ, BmG, BmK, AqN3, AqN4, AqN5, NxA, NxB, NxC, RvB, RvC, RvD, RvE, RvF, RvG, BmF, KeA, KeB, KeC, KeD, KeE.
-/
import Derived.Test.YtlfmkacafppmlaaGreatDoorKp5
set_option linter.unusedVariables false
namespace Go.Proofs.YtlfmkacafppmlaaGreatDoor.mac
open Go Go.Nx Go.Proofs.YtlfmkacafppmlaaGreatDoor.pk Go.Proofs.YtlfmkacafppmlaaGreatDoor.ac Go.Proofs.YtlfmkacafppmlaaGreatDoor.sto Go.Proofs.YtlfmkacafppmlaaGreatDoor.pge Go.Proofs.YtlfmkacafppmlaaGreatDoor.dec
noncomputable def Mv.part (m : Mv) (p : Px) : Mv :=
  match p.kd == 2 with
  | true => m.with (rowP m.p p.row p.ds)
  | false => match p.kd == 3 with
    | true => m.extra p
    | false => match p.kd == 4 with
      | true => m.linked p
      | false => match p.kd == 5 && tr.regB p.kd p.cd p.ds with
        | true => m.with { m.p with df := IntKind.i64.wrap (1 + rgN p.kd p.cd p.ds) }
        | false => m
noncomputable def Mc.insM (M : Mc) (g : Nat) (p : Px) : Mc := match (M.v g).opn with
  | true => M.withV g ((M.v g).part p)
  | false => M
theorem rowP_fits {p : Pg} {row : Int} {ds : List Int} (h : fits p) : fits (rowP p row ds) := by
  unfold rowP
  split <;> exact h
theorem exV_len {n : Nat} {E l : List (List Sc)} (hn : n < 16) (hE : E.length ≤ 208) : (exV n E l).length ≤ 208 := by
  have lP := padE_length (13 * (n + 1)) E
  unfold exV
  rw [splice_len13, splice_len13]
  · omega
  · rw [List.length_replicate]; omega
  · rw [splice_len13 (by rw [List.length_replicate]; omega), List.length_take]; omega
theorem extraP_fits {p : Pg} {c : Int} {l : List (List Sc)} (h : fits p) : fits (extraP p c l) := by
  unfold extraP
  split
  · rename_i hc
    have hc := of_decide_eq_true hc
    exact exV_len (by omega) h
  · exact h
theorem part_fits {m : Mv} {p : Px} (h : fits m.p) : fits (m.part p).p := by
  unfold Mv.part
  split
  · exact rowP_fits h
  · split
    · unfold Mv.extra
      split
      · exact extraP_fits h
      · exact h
    · split
      · unfold Mv.linked
        split <;> exact h
      · split <;> exact h
theorem part_txt (m : Mv) (p : Px) : (m.part p).t = m.t := by
  unfold Mv.part
  split
  · rfl
  · split
    · unfold Mv.extra
      split <;> rfl
    · split
      · unfold Mv.linked
        split <;> rfl
      · split <;> rfl
theorem insM_good {M : Mc} (h : M.good) {g : Nat} (hg : g < 9) (p : Px) : (M.insM g p).good := by
  unfold Mc.insM
  split
  · exact h.upd hg (part_fits (h.vfit g)) (by rw [part_txt]; exact h.txt g)
  · exact h
theorem inT_of {M : Mc} {g : Nat} {row kd cd : Int} {ds : List Int} {R : Out → Prop} (hM : M.good) (hl : kd = 3 ∨ kd = 4 ∨ kd = 5 → ds.length = 39) (hb : ∀ b ∈ ds, 0 ≤ b ∧ b < 256) (h : R (oMe (M.insM g ⟨g, row, kd, cd, ds⟩) .en)) : inT M g row kd cd ds R := by
  have hf := hM.vfit g
  have hf' : (M.v g).p.ex.length ≤ 208 := hf
  unfold inT
  unfold Mc.insM at h
  cases ho : (M.v g).opn with
  | false => rw [ho] at h; exact sT rfl h
  | true =>
    rw [ho] at h
    refine sF rfl ?_
    have h : R (oMe (M.withV g ((M.v g).part ⟨g, row, kd, cd, ds⟩)) .en) := h
    unfold Mv.part at h
    simp only at h
    cases h2 : (kd == 2) with
    | true => rw [h2] at h; exact sT rfl ⟨⟨rfl, by omega, hb⟩, h⟩
    | false =>
      rw [h2] at h
      refine sF rfl ?_
      cases h3 : (kd == 3) with
      | true =>
        rw [h3] at h
        have e3 := eq_of_beq h3
        exact sT rfl ⟨⟨⟨rfl, rfl⟩, ⟨e3, hl (.inl e3), hb⟩, hf⟩, h⟩
      | false =>
        rw [h3] at h
        refine sF rfl ?_
        cases h4 : (kd == 4) with
        | true =>
          rw [h4] at h
          have e4 := eq_of_beq h4
          exact sT rfl ⟨⟨⟨rfl, rfl⟩, e4, hl (.inr (.inl e4))⟩, h⟩
        | false =>
          rw [h4] at h
          refine sF rfl ?_
          cases h5 : (kd == 5) with
          | true =>
            rw [h5, Bool.true_and] at h
            have hl5 := hl (.inr (.inr (eq_of_beq h5)))
            refine sT rfl ⟨⟨by omega, by omega, hb⟩, ?_⟩
            cases hr : tr.regB kd cd ds with
            | true => rw [hr] at h; exact sT rfl h
            | false =>
              rw [hr] at h
              have h : R (oMe (M.withV g (M.v g)) .en) := h
              rw [withV_self] at h
              exact sF rfl h
          | false =>
            rw [h5, Bool.false_and] at h
            have h : R (oMe (M.withV g (M.v g)) .en) := h
            rw [withV_self] at h
            exact sF rfl h
noncomputable def tIn : Con := fun args regs => match args with
  | [.c (.p 0 0 0), v] => (match rdPv v with
    | some p => onM regs fun M => .must (args = [.c (.p 0 0 0), p.nv] ∧ (1 ≤ p.mg ∧ p.mg ≤ 8) ∧ M.good ∧ (p.kd = 3 ∨ p.kd = 4 ∨ p.kd = 5 → p.ds.length = 39) ∧ ∀ b ∈ p.ds, 0 ≤ b ∧ b < 256) (.ret (oMe (M.insM p.mg.toNat p) .en))
    | none => .fail)
  | _ => .fail
attribute [local irreducible] t_inC in
set_option maxRecDepth 100000 in
theorem kIn : Known Tryz.prog GL 58 tIn := by
  refine k_inC.less fun args regs R h => ?_
  unfold tIn at h
  split at h
  case h_2 => exact h.elim
  split at h
  case h_2 => exact h.elim
  rename_i p _
  obtain ⟨M, rfl, hM, ⟨h1, hg, hgd, hl, hb⟩, h⟩ := onM_elim h
  rw [h1]
  obtain ⟨g, row, kd, cd, ds⟩ := p
  have hg : g = 1 ∨ g = 2 ∨ g = 3 ∨ g = 4 ∨ g = 5 ∨ g = 6 ∨ g = 7 ∨ g = 8 := by have := hg.1; have := hg.2; simp only at *; omega
  rcases hg with rfl | rfl | rfl | rfl | rfl | rfl | rfl | rfl
  · exact (in_tree1 M row kd cd ds R).mpr (inT_of hgd hl hb h)
  · exact (in_tree2 M row kd cd ds R).mpr (inT_of hgd hl hb h)
  · exact (in_tree3 M row kd cd ds R).mpr (inT_of hgd hl hb h)
  · exact (in_tree4 M row kd cd ds R).mpr (inT_of hgd hl hb h)
  · exact (in_tree5 M row kd cd ds R).mpr (inT_of hgd hl hb h)
  · exact (in_tree6 M row kd cd ds R).mpr (inT_of hgd hl hb h)
  · exact (in_tree7 M row kd cd ds R).mpr (inT_of hgd hl hb h)
  · exact (in_tree8 M row kd cd ds R).mpr (inT_of hgd hl hb h)
noncomputable def tRdQ (q : PkR) : Con := fun args regs => match args, regs with
  | [.c (.l _ bs)], [] => .must (args = [.c (.l .u8 bs)] ∧ pkV bs = q) (.ret q.out)
  | [.c .sn], [] => .must (q = .bad eLen) (.ret q.out)
  | _, _ => .fail
theorem kRdQ (q : PkR) : Known Tryz.prog GL 54 (tRdQ q) := by
  refine kRdS.less fun args regs R h => ?_
  unfold tRdQ at h
  split at h
  case h_3 => exact h.elim
  case h_1 =>
    obtain ⟨⟨h1, h2⟩, h⟩ := h
    rw [h1]
    subst h2
    exact h
  case h_2 =>
    obtain ⟨h1, h⟩ := h
    subst h1
    exact h
noncomputable def c_pk (q : PkR) : FuncId → Option Con := conOf [(54, tRdQ q), (55, tHd), (56, tr.tRegion), (57, sv.tSrd), (58, tIn)]
theorem kc_pk (q : PkR) : ∀ f T, c_pk q f = some T → Known Tryz.prog GL f T := (Knowns.cons (kRdQ q) (.cons kHd (.cons tr.kRegion (.cons sv.kSrd (.cons kIn .nil))))).get
noncomputable def t_pk0 (q : PkR) : Con := fun args regs => nfun Tryz.prog GL (c_pk q) [] Tryz.f15 args regs
theorem k_pk0 (q : PkR) : KnownF Tryz.prog GL 15 (t_pk0 q) := known_inlF Tryz.func15 rfl (by kernel_rfl) mixed (kc_pk q) (by kernel_rfl)
noncomputable def t_pkC (q : PkR) : Con := softT [] [] [] [] 9 (canonT 8 [(1, 2, ordReg [])] none (t_pk0 q))
theorem k_pkC (q : PkR) : Known Tryz.prog GL 15 (t_pkC q) := ((k_pk0 q).canon 8 [(1, 2, ordReg [])] none).soft [] [] [] [] 9
noncomputable def ixV (ds : List Int) : Ix := ⟨sv.mgV ds, sv.pgV ds, sv.sbV ds, sv.nwV ds, sv.ofS ds, sv.dyV ds, sv.hrV ds, sv.miV ds, sv.seV ds, sv.txV ds, true⟩
noncomputable def pkT (M : Mc) (g : Nat) (row kd cd : Int) (ds : List Int) (R : Out → Prop) : Prop :=
  sel (kd == 1) ((inM M = inM (bk M) ∧ (bk M).ok) ∧ ([NV.c (.p 0 0 0), (⟨(g : Int), row, kd, cd, ds⟩ : Px).nv] = [.c (.p 0 0 0), (⟨(g : Int), row, 1, cd, ds⟩ : Px).nv] ∧ (1 ≤ (g : Int) ∧ (g : Int) ≤ 8) ∧ (bk M).good ∧ ds.length = 40 ∧ ∀ b ∈ ds, 0 ≤ b ∧ b < 256) ∧
      sel (hdOk ds) (R (oMe ((bk M).hdM g ds) .en)) (R (oMe (bk M) (.e eBit))))
    (sel (kd == 6) (rgT kd cd ds (R (oMe (M.withV g { M.v g with rg := rgN kd cd ds, td := true }) .en)) (R (oMe M .en)))
    (sel (kd == 7) ((sv.okK g kd cd = true → ds.length = 39 ∧ ∀ x ∈ ds, 0 ≤ x ∧ x < 256) ∧ sel (sv.okK g kd cd) (sel (sv.all6 ds) (sel (sv.clkG (sv.gD ds)) (R (oMe { M with inf := ixV ds } .en)) (R (oMe M (.e eRng)))) (R (oMe M (.e eBit)))) (R (oMe M (.e eKnd))))
      ((inM M = inM (bk M) ∧ (bk M).ok) ∧ ([NV.c (.p 0 0 0), (⟨(g : Int), row, kd, cd, ds⟩ : Px).nv] = [.c (.p 0 0 0), (⟨(g : Int), row, kd, cd, ds⟩ : Px).nv] ∧ (1 ≤ (g : Int) ∧ (g : Int) ≤ 8) ∧ (bk M).good ∧ (kd = 3 ∨ kd = 4 ∨ kd = 5 → ds.length = 39) ∧ ∀ b ∈ ds, 0 ≤ b ∧ b < 256) ∧
        R (oMe ((bk M).insM g ⟨g, row, kd, cd, ds⟩) .en))))
theorem pk_treeBL (M : Mc) (bs : List Int) (R : Out → Prop) : (t_pkC (.bad eLen) [.c (.p 0 0 0), .c (.l .u8 bs)] (inM M)).run R = (([NV.c (.l .u8 bs)] = [NV.c (.l .u8 bs)] ∧ pkV bs = .bad eLen) ∧ R (oMe M (.e eLen))) := by kernel_rfl
theorem pk_treeBB (M : Mc) (bs : List Int) (R : Out → Prop) : (t_pkC (.bad eBit) [.c (.p 0 0 0), .c (.l .u8 bs)] (inM M)).run R = (([NV.c (.l .u8 bs)] = [NV.c (.l .u8 bs)] ∧ pkV bs = .bad eBit) ∧ R (oMe M (.e eBit))) := by kernel_rfl
theorem pk_treeBK (M : Mc) (bs : List Int) (R : Out → Prop) : (t_pkC (.bad eKnd) [.c (.p 0 0 0), .c (.l .u8 bs)] (inM M)).run R = (([NV.c (.l .u8 bs)] = [NV.c (.l .u8 bs)] ∧ pkV bs = .bad eKnd) ∧ R (oMe M (.e eKnd))) := by kernel_rfl
theorem pk_treeN (M : Mc) (R : Out → Prop) : (t_pkC (.bad eLen) [.c (.p 0 0 0), .c .sn] (inM M)).run R = (PkR.bad eLen = .bad eLen ∧ R (oMe M (.e eLen))) := by kernel_rfl
theorem pk_tree1 (M : Mc) (row kd cd : Int) (ds bs : List Int) (R : Out → Prop) : (t_pkC (.ok ⟨1, row, kd, cd, ds⟩) [.c (.p 0 0 0), .c (.l .u8 bs)] (inM M)).run R = (([NV.c (.l .u8 bs)] = [NV.c (.l .u8 bs)] ∧ pkV bs = .ok ⟨1, row, kd, cd, ds⟩) ∧ pkT M 1 row kd cd ds R) := by kernel_rfl
theorem pk_tree2 (M : Mc) (row kd cd : Int) (ds bs : List Int) (R : Out → Prop) : (t_pkC (.ok ⟨2, row, kd, cd, ds⟩) [.c (.p 0 0 0), .c (.l .u8 bs)] (inM M)).run R = (([NV.c (.l .u8 bs)] = [NV.c (.l .u8 bs)] ∧ pkV bs = .ok ⟨2, row, kd, cd, ds⟩) ∧ pkT M 2 row kd cd ds R) := by kernel_rfl
theorem pk_tree3 (M : Mc) (row kd cd : Int) (ds bs : List Int) (R : Out → Prop) : (t_pkC (.ok ⟨3, row, kd, cd, ds⟩) [.c (.p 0 0 0), .c (.l .u8 bs)] (inM M)).run R = (([NV.c (.l .u8 bs)] = [NV.c (.l .u8 bs)] ∧ pkV bs = .ok ⟨3, row, kd, cd, ds⟩) ∧ pkT M 3 row kd cd ds R) := by kernel_rfl
theorem pk_tree4 (M : Mc) (row kd cd : Int) (ds bs : List Int) (R : Out → Prop) : (t_pkC (.ok ⟨4, row, kd, cd, ds⟩) [.c (.p 0 0 0), .c (.l .u8 bs)] (inM M)).run R = (([NV.c (.l .u8 bs)] = [NV.c (.l .u8 bs)] ∧ pkV bs = .ok ⟨4, row, kd, cd, ds⟩) ∧ pkT M 4 row kd cd ds R) := by kernel_rfl
theorem pk_tree5 (M : Mc) (row kd cd : Int) (ds bs : List Int) (R : Out → Prop) : (t_pkC (.ok ⟨5, row, kd, cd, ds⟩) [.c (.p 0 0 0), .c (.l .u8 bs)] (inM M)).run R = (([NV.c (.l .u8 bs)] = [NV.c (.l .u8 bs)] ∧ pkV bs = .ok ⟨5, row, kd, cd, ds⟩) ∧ pkT M 5 row kd cd ds R) := by kernel_rfl
theorem pk_tree6 (M : Mc) (row kd cd : Int) (ds bs : List Int) (R : Out → Prop) : (t_pkC (.ok ⟨6, row, kd, cd, ds⟩) [.c (.p 0 0 0), .c (.l .u8 bs)] (inM M)).run R = (([NV.c (.l .u8 bs)] = [NV.c (.l .u8 bs)] ∧ pkV bs = .ok ⟨6, row, kd, cd, ds⟩) ∧ pkT M 6 row kd cd ds R) := by kernel_rfl
theorem pk_tree7 (M : Mc) (row kd cd : Int) (ds bs : List Int) (R : Out → Prop) : (t_pkC (.ok ⟨7, row, kd, cd, ds⟩) [.c (.p 0 0 0), .c (.l .u8 bs)] (inM M)).run R = (([NV.c (.l .u8 bs)] = [NV.c (.l .u8 bs)] ∧ pkV bs = .ok ⟨7, row, kd, cd, ds⟩) ∧ pkT M 7 row kd cd ds R) := by kernel_rfl
theorem pk_tree8 (M : Mc) (row kd cd : Int) (ds bs : List Int) (R : Out → Prop) : (t_pkC (.ok ⟨8, row, kd, cd, ds⟩) [.c (.p 0 0 0), .c (.l .u8 bs)] (inM M)).run R = (([NV.c (.l .u8 bs)] = [NV.c (.l .u8 bs)] ∧ pkV bs = .ok ⟨8, row, kd, cd, ds⟩) ∧ pkT M 8 row kd cd ds R) := by kernel_rfl
noncomputable def Mc.pkM (M : Mc) (p : Px) : Mc × Option Nat :=
  match p.kd == 1 with
  | true => (match hdOk p.ds with
    | true => (M.hdM p.mg.toNat p.ds, none)
    | false => (M, some eBit))
  | false => match p.kd == 6 with
    | true => (match tr.regB p.kd p.cd p.ds with
      | true => (M.withV p.mg.toNat { M.v p.mg.toNat with rg := rgN p.kd p.cd p.ds, td := true }, none)
      | false => (M, none))
    | false => match p.kd == 7 with
      | true => (match sv.okK p.mg p.kd p.cd with
        | true => (match sv.all6 p.ds with
          | true => (match sv.clkG (sv.gD p.ds) with
            | true => ({ M with inf := ixV p.ds }, none)
            | false => (M, some eRng))
          | false => (M, some eBit))
        | false => (M, some eKnd))
      | false => (M.insM p.mg.toNat p, none)
noncomputable def Mc.step (M : Mc) (bs : List Int) : Mc × Option Nat := match pkV bs with
  | .bad k => (M, some k)
  | .ok p => M.pkM p
theorem pkM_good {M : Mc} (h : M.good) {p : Px} (hg : 1 ≤ p.mg ∧ p.mg ≤ 8) : (M.pkM p).1.good := by
  have hn : p.mg.toNat < 9 := by omega
  unfold Mc.pkM
  split
  · split
    · exact hdM_good h (by omega) _
    · exact h
  · split
    · split
      · exact h.upd hn (h.vfit _) (h.txt _)
      · exact h
    · split
      · split
        · split
          · split
            · exact ⟨h.far, h.nd, h.m1, h.m8, h.len, h.fit, h.vfit, h.txt⟩
            · exact h
          · exact h
        · exact h
      · exact insM_good h hn p
theorem kindF_cases (r : Int) : kindF r = 0 ∨ (kindF r = 1 ∧ r = 0) ∨ (kindF r = 2 ∧ 1 ≤ r ∧ r ≤ 24) ∨ (3 ≤ kindF r ∧ kindF r ≤ 7 ∧ 26 ≤ r ∧ r ≤ 30) := by
  unfold kindF
  by_cases h0 : r = 0
  · subst h0; exact .inr (.inl ⟨rfl, rfl⟩)
  · rw [decide_eq_false h0]
    by_cases h1 : 1 ≤ r ∧ r ≤ 24
    · refine .inr (.inr (.inl ⟨?_, h1⟩))
      simp [h1]
    · by_cases h2 : 26 ≤ r ∧ r ≤ 30
      · refine .inr (.inr (.inr ?_))
        have : r = 26 ∨ r = 27 ∨ r = 28 ∨ r = 29 ∨ r = 30 := by omega
        rcases this with rfl | rfl | rfl | rfl | rfl <;> decide
      · left
        have e1 : (decide (r ≥ 1) && decide (r ≤ 24)) = false := by
          rw [Bool.and_eq_false_iff]
          by_cases c : r ≥ 1
          · exact .inr (decide_eq_false fun h => h1 ⟨c, h⟩)
          · exact .inl (decide_eq_false c)
        have e2 : (decide (r ≥ 26) && decide (r ≤ 30)) = false := by
          rw [Bool.and_eq_false_iff]
          by_cases c : r ≥ 26
          · exact .inr (decide_eq_false fun h => h2 ⟨c, h⟩)
          · exact .inl (decide_eq_false c)
        simp [e1, e2]
theorem getN_rng (b : Int) : 0 ≤ getN b ∧ getN b < 16 := by
  unfold getN pk.get
  cases h : (List.range 16).find? (hit b) with
  | none => exact ⟨by decide, by decide⟩
  | some n =>
    have := List.mem_of_find?_eq_some h
    rw [List.mem_range] at this
    show 0 ≤ ((n : Nat) : Int) ∧ ((n : Nat) : Int) < 16
    omega
theorem magOf_rng (x : Int) (h : 0 ≤ x ∧ x < 16) : 1 ≤ magOf x ∧ magOf x ≤ 8 := by
  have : x = 0 ∨ x = 1 ∨ x = 2 ∨ x = 3 ∨ x = 4 ∨ x = 5 ∨ x = 6 ∨ x = 7 ∨ x = 8 ∨ x = 9 ∨ x = 10 ∨ x = 11 ∨ x = 12 ∨ x = 13 ∨ x = 14 ∨ x = 15 := by omega
  rcases this with rfl | rfl | rfl | rfl | rfl | rfl | rfl | rfl | rfl | rfl | rfl | rfl | rfl | rfl | rfl | rfl <;> decide
structure Fine (p : Px) : Prop where
  mg : 1 ≤ p.mg ∧ p.mg ≤ 8
  kd : 1 ≤ p.kd ∧ p.kd ≤ 7
  l40 : p.kd ≤ 2 → p.ds.length = 40
  l39 : 3 ≤ p.kd → p.ds.length = 39
  by' : ∀ b ∈ p.ds, 0 ≤ b ∧ b < 256
theorem pkV_fine {bs : List Int} {p : Px} (hb : ∀ b ∈ bs, 0 ≤ b ∧ b < 256) (h : pkV bs = .ok p) : Fine p := by
  unfold pkV at h
  split at h
  · cases h
  rename_i hl
  have hl := of_decide_eq_true hl
  split at h
  · cases h
  split at h
  · cases h
  rename_i hk
  have hk := of_decide_eq_false hk
  have hm := magOf_rng _ (getN_rng (bs.getD 0 0))
  have hc := kindF_cases (rwB bs)
  split at h
  · rename_i hr
    have hr := of_decide_eq_false hr
    cases h
    refine ⟨hm, ⟨?_, ?_⟩, fun _ => ?_, fun h3 => ?_, fun b hb' => hb b (List.mem_of_mem_drop hb')⟩
    · simp only; omega
    · simp only; omega
    · simp only [List.length_drop]; omega
    · simp only at h3; omega
  · rename_i hr
    have hr := of_decide_eq_true hr
    split at h
    · cases h
      refine ⟨hm, ⟨?_, ?_⟩, fun h3 => ?_, fun _ => ?_, fun b hb' => hb b (List.mem_of_mem_drop (List.mem_of_mem_drop hb'))⟩
      · simp only; omega
      · simp only; omega
      · simp only at h3; omega
      · simp only [List.length_drop]; omega
    · cases h
theorem pkV_bad {bs : List Int} {k : Nat} (h : pkV bs = .bad k) : k = eLen ∨ k = eBit ∨ k = eKnd := by
  unfold pkV at h
  split at h
  · cases h; exact .inl rfl
  split at h
  · cases h; exact .inr (.inl rfl)
  split at h
  · cases h; exact .inr (.inr rfl)
  split at h
  · cases h
  split at h
  · cases h
  · cases h; exact .inr (.inl rfl)
theorem step_good {M : Mc} (h : M.good) {bs : List Int} (hb : ∀ b ∈ bs, 0 ≤ b ∧ b < 256) : (M.step bs).1.good := by
  unfold Mc.step
  split
  · exact h
  · rename_i p hp
    exact pkM_good h (pkV_fine hb hp).mg
def ncE : Option Nat → NC
  | none => .en
  | some k => .e k
noncomputable def errT (e : Option Nat) (M : Mc) : Tr Out :=
  .br (e == none) (.ret (oMe M .en)) (.br (e == some eLen) (.ret (oMe M (.e eLen))) (.br (e == some eBit) (.ret (oMe M (.e eBit))) (.br (e == some eKnd) (.ret (oMe M (.e eKnd))) (.ret (oMe M (.e eRng))))))
theorem errT_run {e : Option Nat} {M : Mc} {R : Out → Prop} (he : e = none ∨ e = some eLen ∨ e = some eBit ∨ e = some eKnd ∨ e = some eRng) (h : (errT e M).run R) : R (oMe M (ncE e)) := by
  rcases he with rfl | rfl | rfl | rfl | rfl
  all_goals exact h
theorem pkT_of {M : Mc} {p : Px} {g : Nat} {R : Out → Prop} (hg : (g : Int) = p.mg) (hM : M.good) (hp : Fine p) (h : R (oMe (M.pkM p).1 (ncE (M.pkM p).2))) : pkT M g p.row p.kd p.cd p.ds R := by
  have hgn : p.mg.toNat = g := by omega
  unfold pkT
  rw [hM.bk, hg]
  unfold Mc.pkM at h
  rw [hgn] at h
  cases h1 : (p.kd == 1) with
  | true =>
    have e1 := eq_of_beq h1
    rw [h1] at h
    refine sT rfl ⟨⟨rfl, hM.ok⟩, ⟨by rw [e1], hp.mg, hM, hp.l40 (by omega), hp.by'⟩, ?_⟩
    cases ho : hdOk p.ds with
    | true => rw [ho] at h; exact sT rfl h
    | false => rw [ho] at h; exact sF rfl h
  | false =>
    rw [h1] at h
    refine sF rfl ?_
    cases h6 : (p.kd == 6) with
    | true =>
      have e6 := eq_of_beq h6
      rw [h6] at h
      have hl := hp.l39 (by omega)
      refine sT rfl ⟨⟨by omega, by omega, hp.by'⟩, ?_⟩
      cases ho : tr.regB p.kd p.cd p.ds with
      | true => rw [ho] at h; exact sT rfl h
      | false => rw [ho] at h; exact sF rfl h
    | false =>
      rw [h6] at h
      refine sF rfl ?_
      cases h7 : (p.kd == 7) with
      | true =>
        have e7 := eq_of_beq h7
        rw [h7] at h
        refine sT rfl ⟨fun _ => ⟨hp.l39 (by omega), hp.by'⟩, ?_⟩
        cases ho : sv.okK p.mg p.kd p.cd with
        | false => rw [ho] at h; exact sF rfl h
        | true =>
          rw [ho] at h
          refine sT rfl ?_
          cases ha : sv.all6 p.ds with
          | false => rw [ha] at h; exact sF rfl h
          | true =>
            rw [ha] at h
            refine sT rfl ?_
            cases hc : sv.clkG (sv.gD p.ds) with
            | false => rw [hc] at h; exact sF rfl h
            | true => rw [hc] at h; exact sT rfl h
      | false =>
        rw [h7] at h
        exact sF rfl ⟨⟨rfl, hM.ok⟩, ⟨rfl, hp.mg, hM, fun h3 => hp.l39 (by omega), hp.by'⟩, h⟩
noncomputable def tPk : Con := fun args regs => match args with
  | [.c (.p 0 0 0), .c (.l _ bs)] => onM regs fun M => .must (args = [.c (.p 0 0 0), .c (.l .u8 bs)] ∧ M.good ∧ ∀ b ∈ bs, 0 ≤ b ∧ b < 256) (errT (M.step bs).2 (M.step bs).1)
  | [.c (.p 0 0 0), .c .sn] => onM regs fun M => .ret (oMe M (.e eLen))
  | _ => .fail
theorem Known_any {P : Program} {gl : List Nat} {f : FuncId} {ι : Type} {T : ι → Con} {T' : Con} (i0 : ι) (hk : ∀ i, Known P gl f (T i)) (h : ∀ args regs R, (T' args regs).run R → ∃ i, (T i args regs).run R) : Known P gl f T' :=
  ⟨(hk i0).goes, fun args regs R hr => by obtain ⟨i, hi⟩ := h args regs R hr; exact (hk i).sound args regs R hi⟩
theorem pkM_err (M : Mc) (p : Px) : (M.pkM p).2 = none ∨ (M.pkM p).2 = some eLen ∨ (M.pkM p).2 = some eBit ∨ (M.pkM p).2 = some eKnd ∨ (M.pkM p).2 = some eRng := by
  unfold Mc.pkM
  split
  · split
    · exact .inl rfl
    · exact .inr (.inr (.inl rfl))
  · split
    · split <;> exact .inl rfl
    · split
      · split
        · split
          · split
            · exact .inl rfl
            · exact .inr (.inr (.inr (.inr rfl)))
          · exact .inr (.inr (.inl rfl))
        · exact .inr (.inr (.inr (.inl rfl)))
      · exact .inl rfl
theorem step_err (M : Mc) (bs : List Int) : (M.step bs).2 = none ∨ (M.step bs).2 = some eLen ∨ (M.step bs).2 = some eBit ∨ (M.step bs).2 = some eKnd ∨ (M.step bs).2 = some eRng := by
  unfold Mc.step
  split
  · rename_i k hk
    rcases pkV_bad hk with rfl | rfl | rfl
    · exact .inr (.inl rfl)
    · exact .inr (.inr (.inl rfl))
    · exact .inr (.inr (.inr (.inl rfl)))
  · exact pkM_err M _
set_option maxRecDepth 100000 in
attribute [local irreducible] t_pkC pkT inM in
set_option maxHeartbeats 1000000 in
theorem pk_in {M : Mc} {bs : List Int} {R : Out → Prop} (hM : M.good) (hb : ∀ b ∈ bs, 0 ≤ b ∧ b < 256) (h : R (oMe (M.step bs).1 (ncE (M.step bs).2))) : (t_pkC (pkV bs) [.c (.p 0 0 0), .c (.l .u8 bs)] (inM M)).run R := by
  unfold Mc.step at h
  cases hq : pkV bs with
  | bad k =>
    rw [hq] at h
    rcases pkV_bad hq with rfl | rfl | rfl
    · exact (pk_treeBL M bs R).mpr ⟨⟨rfl, hq⟩, h⟩
    · exact (pk_treeBB M bs R).mpr ⟨⟨rfl, hq⟩, h⟩
    · exact (pk_treeBK M bs R).mpr ⟨⟨rfl, hq⟩, h⟩
  | ok p =>
    rw [hq] at h
    have hp := pkV_fine hb hq
    have key : ∀ g : Nat, (g : Int) = p.mg → pkT M g p.row p.kd p.cd p.ds R := fun g hg => pkT_of hg hM hp h
    clear h
    obtain ⟨g, row, kd, cd, ds⟩ := p
    have hg : g = 1 ∨ g = 2 ∨ g = 3 ∨ g = 4 ∨ g = 5 ∨ g = 6 ∨ g = 7 ∨ g = 8 := by have := hp.mg; simp only at this; omega
    rcases hg with rfl | rfl | rfl | rfl | rfl | rfl | rfl | rfl
    · exact (pk_tree1 M row kd cd ds bs R).mpr ⟨⟨rfl, hq⟩, key 1 rfl⟩
    · exact (pk_tree2 M row kd cd ds bs R).mpr ⟨⟨rfl, hq⟩, key 2 rfl⟩
    · exact (pk_tree3 M row kd cd ds bs R).mpr ⟨⟨rfl, hq⟩, key 3 rfl⟩
    · exact (pk_tree4 M row kd cd ds bs R).mpr ⟨⟨rfl, hq⟩, key 4 rfl⟩
    · exact (pk_tree5 M row kd cd ds bs R).mpr ⟨⟨rfl, hq⟩, key 5 rfl⟩
    · exact (pk_tree6 M row kd cd ds bs R).mpr ⟨⟨rfl, hq⟩, key 6 rfl⟩
    · exact (pk_tree7 M row kd cd ds bs R).mpr ⟨⟨rfl, hq⟩, key 7 rfl⟩
    · exact (pk_tree8 M row kd cd ds bs R).mpr ⟨⟨rfl, hq⟩, key 8 rfl⟩
attribute [local irreducible] t_pkC in
set_option maxRecDepth 100000 in
theorem kPk : Known Tryz.prog GL 15 tPk := by
  refine Known_any (.bad 0) k_pkC fun args regs R h => ?_
  unfold tPk at h
  split at h
  case h_3 => exact h.elim
  case h_1 =>
    rename_i _ bs
    obtain ⟨M, rfl, hM, ⟨h1, hg, hb⟩, h⟩ := onM_elim h
    rw [h1]
    exact ⟨pkV bs, pk_in hg hb (errT_run (step_err M bs) h)⟩
  case h_2 =>
    obtain ⟨M, rfl, hM, h⟩ := onM_elim h
    exact ⟨.bad eLen, (pk_treeN M R).mpr ⟨rfl, h⟩⟩
theorem clN_tree (R : Out → Prop) : (t_clT [.c .sn] []).run R = R ⟨.v (.c (.lr K3 [])), []⟩ := by kernel_rfl
noncomputable def tclTN : Con := fun args regs => match args, regs with
  | [.c .sn], [] => .ret ⟨.v (.c (.lr K3 [])), []⟩
  | [.c (.lr ks xs)], [] => tclTV [.c (.lr ks xs)] []
  | _, _ => .fail
noncomputable def clAny : Bool → Con
  | true => t_clT
  | false => tclTV
set_option maxRecDepth 100000 in
attribute [local irreducible] t_clT in
theorem kclTN : Known Tryz.prog GL 142 tclTN := by
  refine Known_any (T := clAny) true (fun b => by cases b; exact kclTV; exact kt_clT) fun args regs R h => ?_
  unfold tclTN at h
  split at h
  · exact ⟨true, (Box.of_eq (clN_tree R) h).out⟩
  · exact ⟨false, h⟩
  · exact h.elim
noncomputable def c_own1 : FuncId → Option Con := conOf [(142, tclTN)]
theorem kc_own1 : ∀ f T, c_own1 f = some T → Known Tryz.prog GL f T := (Knowns.cons kclTN .nil).get
noncomputable def t_own1 : Con := fun args regs => nfun Tryz.prog GL c_own1 [] Tryz.f74 args regs
theorem k_own1 : Known Tryz.prog GL 74 t_own1 := known_inl Tryz.func74 rfl (by kernel_rfl) mixed kc_own1 (by kernel_rfl)
noncomputable def pgN (p : Pg) : NV := .sg (pgSegs p .sn [] fun q => [.cells q])
theorem own1_tree (p : Pg) (R : Out → Prop) : (t_own1 [pgV p] []).run R = (([NV.c (.lr K3 p.ex)] = [NV.c (.lr K3 p.ex)] ∧ p.ex.length ≤ 1000000) ∧ R (oPg p)) := by kernel_rfl
theorem own1_nil (R : Out → Prop) : (t_own1 [pgN pgZ] []).run R = R (oPg pgZ) := by kernel_rfl
noncomputable def tOwnN : Con := fun args regs => match args, regs with
  | [v], [] => (match rdPg v with
    | some p => .must (args = [pgV p] ∧ fits p) (.ret (oPg p))
    | none => .must (args = [pgN pgZ]) (.ret (oPg pgZ)))
  | _, _ => .fail
attribute [local irreducible] t_own1 in
set_option maxRecDepth 100000 in
theorem kOwnN : Known Tryz.prog GL 74 tOwnN := by
  refine k_own1.less fun args regs R h => ?_
  unfold tOwnN at h
  split at h
  case h_2 => exact h.elim
  split at h
  · rename_i p _
    obtain ⟨⟨h1, h2⟩, h⟩ := h
    rw [h1]
    unfold fits at h2
    exact (Box.of_eq (own1_tree p R) ⟨⟨rfl, by omega⟩, h⟩).out
  · obtain ⟨h1, h⟩ := h
    rw [h1]
    exact (Box.of_eq (own1_nil R) h).out
noncomputable def c_fd2 : FuncId → Option Con := conOf [(73, tGe), (74, tOwnN), (75, t_all)]
theorem kc_fd2 : ∀ f T, c_fd2 f = some T → Known Tryz.prog GL f T := (Knowns.cons kGe (.cons kOwnN (.cons k_all .nil))).get
noncomputable def XFe : Cx := { P := Tryz.prog, con := c_fd2, glob := GL, m := 4, loops := [] }
noncomputable def XIt : Cx := { P := Tryz.prog, con := cIt, glob := GL, m := 9, loops := [] }
noncomputable def fr0 : List NS := frame 50 [(3, .v (.c (.p 4 0 0))), (4, .v (.c (.p 5 0 0))), (8, .v (.c (.p 6 0 0))), (9, .v (.c (.p 7 0 0))), (31, .v (.c (.cl 143 [(8, 0, 0)])))]
noncomputable def YF : Yh := bodyY XFe (psOf rgF) (asOf rgF) (bdOf rgF) fr0
noncomputable def frIt (n i : Int) (l : Nat) : List NS := frame 32 [(0, .v (.c (.e 1000))), (1, .v (.c (.p 8 0 0))), (8, .v (.c (.hz 9 l))), (9, .v (.c (.i .i64 n))), (10, .v (.c (.i .i64 i)))]
noncomputable def pgO : Option Pg → Reg
  | some p => pgReg p (.lr K3 p.ex)
  | none => pgReg pgZ .sn
noncomputable def rgI (M : Mc) (k : Ky) (o : Option Pg) : List (Option Reg) := [some (mcG 1 M.v M.inf), some (stM M.st.sto (.hz 3 M.st.sto.l.length)), some (mpReg M.st.sto.m), some (ordReg (kyRows M.st.sto.l)), some (plReg k), some (pgReg pgZ .sn), some (pgO o), some ⟨1, 4, .cells [.b o.isSome]⟩, some ⟨1, 117, .cells [.p 1 0 0]⟩]
noncomputable def SF (M : Mc) (k : Ky) (o : Option Pg) (i : Int) : St := { fr := frIt M.st.L.length i M.st.L.length, rg := rgI M k o ++ [some (ordReg (kyRows (M.st.L.map kyP)))] }
noncomputable def DF (M : Mc) (k : Ky) (o : Option Pg) : St := { fr := frame 32 [], rg := rgI M k o }
noncomputable abbrev itC : Code := bodyLoop f_it 0
noncomputable def rndF (s : St) : Tr ROI := roundI XIt YF KI [] 0 [0, 1, 8, 9, 10] [] itC s Option.none
def rkF (M : Mc) (i : Int) : Ky := toKy ((kyRows (M.st.L.map kyP)).getD i.toNat [])
noncomputable def nxF (M : Mc) (k : Ky) (o : Option Pg) (i : Int) (R : ROI → Prop) : Prop := R (.next (SF M k o (IntKind.i64.wrap (i + 1))) Option.none)
noncomputable def inF (M : Mc) (k : Ky) (o : Option Pg) (i : Int) (R : ROI → Prop) : Prop :=
  sel (decide (i < (M.st.L.length : Int))) (sel (decide (0 ≤ i)) (sel (decide (i < (M.st.L.length : Int))) (sel (decide (i.toNat < (kyRows (M.st.L.map kyP)).length)) (sel (mpHas plSch (kyFC (rkF M i)) M.st.sto.m)
    (true = true ∧ sel ((rkF M i).1 == k.1) (sel ((rkF M i).2.1 == k.2.1) (nxF M k (some (ofRow (mpGet plSch (kyFC (rkF M i)) M.st.sto.m))) i R) (nxF M k o i R)) (nxF M k o i R)) (nxF M k o i R)) False) False) False) (R (.done .normal (DF M k o) Option.none))
theorem round_F0 (M : Mc) (k : Ky) (i : Int) (R : ROI → Prop) : (rndF (SF M k none i)).run R = inF M k none i R := by kernel_rfl
theorem round_F1 (M : Mc) (k : Ky) (p : Pg) (i : Int) (R : ROI → Prop) : (rndF (SF M k (some p) i)).run R = inF M k (some p) i R := by kernel_rfl
theorem round_F (M : Mc) (k : Ky) (i : Int) (R : ROI → Prop) : ∀ o : Option Pg, (rndF (SF M k o i)).run R = inF M k o i R
  | none => round_F0 M k i R
  | some p => round_F1 M k p i R
def hitF (k : Ky) (p : Pg) : Bool := (p.mg == k.1) && (p.pn == k.2.1)
def stepF (k : Ky) (o : Option Pg) (p : Pg) : Option Pg := match hitF k p with
  | true => some p
  | false => o
def lastF (k : Ky) (L : List Pg) : Option Pg := L.foldl (stepF k) none
theorem rk_eq {M : Mc} {i : Int} (h : i.toNat < M.st.L.length) : rkF M i = kyP M.st.L[i.toNat] := by
  unfold rkF
  rw [kyRows_getD (by rw [List.length_map]; exact h), List.getD_eq_getElem?_getD, List.getElem?_map, List.getElem?_eq_getElem h]
  rfl
theorem find_nd : ∀ {L : List Pg} {n : Nat} (hn : n < L.length), (L.map kyP).Nodup → L.find? (fun p => kyEq (kyP L[n]) (kyP p)) = some L[n]
  | [], n, hn, _ => absurd hn (Nat.not_lt_zero _)
  | q :: L, 0, _, _ => by
    rw [List.find?_cons]
    show (match kyEq (kyP q) (kyP q) with | true => some q | false => _) = some q
    rw [kyEq_iff.2 rfl]
  | q :: L, n + 1, hn, h => by
    rw [List.map_cons, List.nodup_cons] at h
    have hn' : n < L.length := Nat.lt_of_succ_lt_succ hn
    rw [List.find?_cons]
    show (match kyEq (kyP L[n]) (kyP q) with | true => some q | false => L.find? (fun p => kyEq (kyP L[n]) (kyP p))) = some L[n]
    cases hk : kyEq (kyP L[n]) (kyP q) with
    | true => exact (h.1 (kyEq_iff.1 hk ▸ List.mem_map.2 ⟨L[n], List.getElem_mem hn', rfl⟩)).elim
    | false => exact find_nd hn' h.2
theorem mp_nth {L : List Pg} {n : Nat} (hn : n < L.length) (h : (L.map kyP).Nodup) : mpHas plSch (kyFC (kyP L[n])) (ents L) = true ∧ ofRow (mpGet plSch (kyFC (kyP L[n])) (ents L)) = L[n] := by
  have := mp_find (kyP L[n]) L
  rw [find_nd hn h] at this
  exact this
structure AF where
  o : Option Pg
  i : Int
noncomputable def endF (M : Mc) (k : Ky) (o : Option Pg) : Tr (NExit × St × Option NExit) := .br o.isSome (.ret (.normal, DF M k (some (o.getD pgZ)), Option.none)) (.ret (.normal, DF M k none, Option.none))
def preF (M : Mc) (k : Ky) (a : AF) (R : NExit × St × Option NExit → Prop) : Prop := (0 ≤ a.i ∧ a.i ≤ (M.st.L.length : Int)) ∧ M.good ∧ (endF M k ((M.st.L.drop a.i.toNat).foldl (stepF k) a.o)).run R
noncomputable def hF (M : Mc) (k : Ky) (a : AF) : St × Option NExit := (SF M k a.o a.i, Option.none)
def nxtF (M : Mc) (k : Ky) (a : AF) (R : NExit × St × Option NExit → Prop) (o : ROI) : Prop := match o with
  | .next s p => ∃ y, (s, p) = hF M k y ∧ ((M.st.L.length : Int) - y.i).toNat < ((M.st.L.length : Int) - a.i).toNat ∧ preF M k y R
  | .done e s p => R (e, s, p)
theorem inF_in (M : Mc) (k : Ky) (a : AF) (R : NExit × St × Option NExit → Prop) (h : preF M k a R) : inF M k a.o a.i (nxtF M k a R) := by
  obtain ⟨o, i⟩ := a
  obtain ⟨⟨h0, hle⟩, hg, hR⟩ := h
  simp only at h0 hle hR
  unfold inF
  by_cases hlt : i < (M.st.L.length : Int)
  · have hj : i.toNat < M.st.L.length := by omega
    have hl8 := hg.lt
    have hw : IntKind.i64.wrap (i + 1) = i + 1 := by rw [IntKind.wrap_i64]; omega
    have ht : (i + 1).toNat = i.toNat + 1 := by omega
    have nx : ∀ o', (endF M k ((M.st.L.drop (i.toNat + 1)).foldl (stepF k) o')).run R → nxF M k o' i (nxtF M k ⟨o, i⟩ R) := fun o' h' => by
      unfold nxF
      rw [hw]
      exact ⟨⟨o', i + 1⟩, rfl, by simp only; omega, ⟨by simp only; omega, by simp only; omega⟩, hg, by simp only; rw [ht]; exact h'⟩
    rw [List.drop_eq_getElem_cons hj, List.foldl_cons] at hR
    have hm := mp_nth hj hg.nd
    rw [rk_eq hj]
    refine sT (decide_eq_true hlt) (sT (decide_eq_true h0) (sT (decide_eq_true hlt) (sT (decide_eq_true (by rw [kyRows_length, List.length_map]; exact hj)) ?_)))
    show sel (mpHas plSch (kyFC (kyP M.st.L[i.toNat])) (ents M.st.L)) (true = true ∧ sel _ (sel _ (nxF M k (some (ofRow (mpGet plSch (kyFC (kyP M.st.L[i.toNat])) (ents M.st.L)))) i _) _) _) _
    rw [hm.2]
    refine sT hm.1 ⟨rfl, ?_⟩
    generalize M.st.L[i.toNat] = p at hR ⊢
    show sel (p.mg == k.1) (sel (p.pn == k.2.1) _ _) _
    cases h1 : p.mg == k.1 with
    | false =>
      refine nx o ?_
      unfold stepF hitF at hR
      rw [h1] at hR
      exact hR
    | true =>
      show sel (p.pn == k.2.1) _ _
      cases h2 : p.pn == k.2.1 with
      | false =>
        refine nx o ?_
        unfold stepF hitF at hR
        rw [h1, h2] at hR
        exact hR
      | true =>
        refine nx (some p) ?_
        unfold stepF hitF at hR
        rw [h1, h2] at hR
        exact hR
  · refine sF (decide_eq_false hlt) ?_
    rw [List.drop_eq_nil_iff.2 (by omega)] at hR
    cases o with
    | none => exact hR
    | some p => exact hR
set_option maxRecDepth 100000 in
theorem loop_F (M : Mc) (k : Ky) : LOkI Tryz.prog GL 9 KI YF 0 itC (fun s => .must (s = (SF M k none 0, Option.none) ∧ M.good) (endF M k (lastF k M.st.L))) := by
  refine loopI_ok (X := XIt) (ls := []) kcIt (by kernel_rfl) (LAllI.none (by kernel_rfl)) [0, 1, 8, 9, 10] [] (hF M k) (fun a => ((M.st.L.length : Int) - a.i).toNat) (preF M k) ?_ ?_
  · rintro s R ⟨⟨hs, hg⟩, hR⟩
    exact ⟨⟨none, 0⟩, hs, ⟨by simp only; omega, by simp only; omega⟩, hg, hR⟩
  · intro a R h
    have := (Box.of_eq (round_F M k a.i (nxtF M k a R) a.o) (inF_in M k a R h)).out
    exact Tr.run_mono _ (fun o ho => ho) this
noncomputable def LF (M : Mc) (k : Ky) (m : Nat) (fr : List NS) (s : St × Option NExit) : Tr (NExit × St × Option NExit) := .must ((m = 9 ∧ fr = fr0) ∧ s = (SF M k none 0, Option.none) ∧ M.good) (endF M k (lastF k M.st.L))
theorem loop_F' (M : Mc) (k : Ky) (m : Nat) (fr : List NS) : LOkI Tryz.prog GL m KI (bodyY XFe (psOf rgF) (asOf rgF) (bdOf rgF) fr) 0 itC (LF M k m fr) := by
  intro l rc N Γ0 w0 h0 hN h0k h0r hY s p Γ a w R Q hI hE hW hL hK
  unfold LF at hL
  obtain ⟨⟨⟨rfl, hfr⟩, h2⟩, h4⟩ := hL
  rw [hfr] at hY
  exact loop_F M k l rc N Γ0 w0 h0 hN h0k h0r hY s p Γ a w R Q hI hE hW ⟨h2, h4⟩ hK
noncomputable def lsF (M : Mc) (k : Ky) (m : Nat) (fr : List NS) : LI := [(0, [0, 1, 8, 9, 10], LF M k m fr)]
noncomputable def RF (M : Mc) (k : Ky) : St → Tr (NExit × St) := rangeT XFe KI cIt (lsF M k) 0 [4, 8, 9] 143 f_it rgF
noncomputable def codeIt : Code := f_it.body.getD .skip
theorem it_body : f_it.body = some codeIt := by kernel_rfl
theorem it_loops : loopsIn codeIt = [(0, itC)] := by kernel_rfl
theorem rgF_eq : rgF = .rangeFunc (.tmp 31) (psOf rgF) (asOf rgF) (bdOf rgF) := by kernel_rfl
theorem con_e : ∀ f T, XFe.con f = some T → Known Tryz.prog GL f T := kc_fd2
theorem rF_ok (M : Mc) (k : Ky) : RgOk Tryz.prog GL 4 0 rgF (RF M k) := by
  have h := rangeT_ok (X := XFe) con_e (K := KI) kcIt (ls := lsF M k) (id := 0) (out := [4, 8, 9]) (g := .tmp 31) (ps := psOf rgF) (assign := asOf rgF) (body := bdOf rgF) Tryz.func143 it_body (by kernel_rfl) (by kernel_rfl) (by kernel_rfl) (by kernel_rfl) (by kernel_rfl)
    (fun m fr => LAllI.one (id := 0) (body := itC) (live := [0, 1, 8, 9, 10]) (L := LF M k m fr) it_loops rfl (loop_F' M k m fr))
  rw [← rgF_eq] at h
  exact h
noncomputable def lpF (M : Mc) (k : Ky) : List (Nat × List Nat × (St → Tr (NExit × St))) := [(0, [3, 4, 8, 9, 31], RF M k)]
noncomputable def t_fd (M : Mc) (k : Ky) : Con := fun args regs => if regs.length = 4 then nfun Tryz.prog GL c_fd2 (lpF M k) f_fd args regs else .fail
theorem fd_loops : loopsIn (f_fd.body.getD .skip) = [] := by kernel_rfl
theorem fd_ranges : rangesIn (f_fd.body.getD .skip) = [(0, rgF)] := by kernel_rfl
theorem k_fd (M : Mc) (k : Ky) : Known Tryz.prog GL 22 (t_fd M k) := by
  refine known_loops (c := f_fd.body.getD .skip) 4 Tryz.func22 (by kernel_rfl) (by kernel_rfl) mixed kc_fd2 ⟨fun i b hb x hf => ?_, fun i b hb x hf => ?_⟩
  · rw [fd_loops] at hb
    cases hb
  · rw [fd_ranges, List.mem_singleton] at hb
    cases hb
    have : x = (0, [3, 4, 8, 9, 31], RF M k) := by simpa [lpF] using hf.symm
    subst this
    exact rF_ok M k
noncomputable def oFd (M : Mc) (x : Pg × Bool) : Out := ⟨.tu [pgV x.1, .c (.b x.2)], (inM M).map some⟩
noncomputable def eqSt (M : Mc) (x : Sp) (A : Prop) : Prop := some (stM M.st.sto (.hz 3 M.st.sto.l.length)) = some (stM x.sto (.hz 3 x.sto.l.length)) ∧ (some (mpReg M.st.sto.m) = some (mpReg x.sto.m) ∧ (some (ordReg (kyRows M.st.sto.l)) = some (ordReg (kyRows x.sto.l)) ∧ A))
noncomputable def fdT (M : Mc) (k : Ky) (R : Out → Prop) : Prop :=
  sel (k.2.2 != 16255)
    ((inP M.st = inP (mpP M.st) ∧ (mpP M.st).ok) ∧ eqSt M (mpP M.st) (([pgV ((mpP M.st).get k).1] = [pgV ((mpP M.st).get k).1] ∧ fits ((mpP M.st).get k).1) ∧ R (oFd M ((mpP M.st).get k))))
    ((inP M.st = inP (mpP M.st) ∧ (mpP M.st).ok) ∧ (((9 = 9 ∧ fr0 = fr0) ∧ (SF { M with st := mpP M.st } k none 0, Option.none) = (SF M k none 0, (Option.none : Option NExit)) ∧ M.good) ∧
      sel (lastF k M.st.L).isSome (([pgV ((lastF k M.st.L).getD pgZ)] = [pgV ((lastF k M.st.L).getD pgZ)] ∧ fits ((lastF k M.st.L).getD pgZ)) ∧ R (oFd M ((lastF k M.st.L).getD pgZ, true)))
        ([pgN pgZ] = [pgN pgZ] ∧ R (oFd M (pgZ, false)))))
theorem fd_tree (M : Mc) (a b c : Int) (R : Out → Prop) : (t_fd M (a, b, c) [.c (.p 0 0 0), .ag (kyNC (a, b, c))] (inM M)).run R = fdT M (a, b, c) R := by kernel_rfl
def Mc.find (M : Mc) (k : Ky) : Pg × Bool := match k.2.2 != 16255 with
  | true => M.st.get k
  | false => ((lastF k M.st.L).getD pgZ, (lastF k M.st.L).isSome)
theorem fold_mem (k : Ky) : ∀ (L : List Pg) (o : Option Pg) {p : Pg}, L.foldl (stepF k) o = some p → o = some p ∨ p ∈ L
  | [], o, p, h => .inl h
  | q :: L, o, p, h => by
    rcases fold_mem k L _ h with h | h
    · unfold stepF at h
      split at h
      · cases h; exact .inr (List.mem_cons_self ..)
      · exact .inl h
    · exact .inr (List.mem_cons_of_mem _ h)
theorem last_fits {M : Mc} (h : M.good) (k : Ky) : fits ((lastF k M.st.L).getD pgZ) := by
  cases hl : lastF k M.st.L with
  | none => exact fits_z
  | some p =>
    rcases fold_mem k _ _ hl with h' | h'
    · cases h'
    · exact h.fit p h'
set_option maxRecDepth 100000 in
theorem fd_in {M : Mc} {k : Ky} {R : Out → Prop} (hM : M.good) (h : R (oFd M (M.find k))) : fdT M k R := by
  unfold fdT
  rw [mpP_eq]
  unfold Mc.find at h
  cases hs : k.2.2 != 16255 with
  | true =>
    rw [hs] at h
    exact ⟨⟨rfl, hM.ok.2⟩, rfl, rfl, rfl, ⟨rfl, get_fits hM.fit k⟩, h⟩
  | false =>
    rw [hs] at h
    refine ⟨⟨rfl, hM.ok.2⟩, ⟨⟨rfl, rfl⟩, rfl, hM⟩, ?_⟩
    have hf := last_fits hM k
    cases hl : lastF k M.st.L with
    | none =>
      rw [hl] at h
      exact ⟨rfl, h⟩
    | some p =>
      rw [hl] at h hf
      exact ⟨⟨rfl, hf⟩, h⟩
noncomputable def tFd : Con := fun args regs => match args with
  | [.c (.p 0 0 0), .ag [.i _ a, .i _ b, .i _ c]] => onM regs fun M => .must (args = [.c (.p 0 0 0), .ag (kyNC (a, b, c))] ∧ M.good) (.ret (oFd M (M.find (a, b, c))))
  | _ => .fail
def mcZ : Mc := ⟨fun _ => mvZ, ixZ, ⟨1, ky0, false, []⟩⟩
attribute [local irreducible] t_fd in
set_option maxRecDepth 100000 in
theorem kFd : Known Tryz.prog GL 22 tFd := by
  refine Known_any (ι := Mc × Ky) (T := fun x => t_fd x.1 x.2) (mcZ, ky0) (fun x => k_fd x.1 x.2) fun args regs R h => ?_
  unfold tFd at h
  split at h
  case h_2 => exact h.elim
  rename_i _ a _ b _ c
  obtain ⟨M, rfl, hM, ⟨h1, hg⟩, h⟩ := onM_elim h
  rw [h1]
  exact ⟨(M, a, b, c), (Box.of_eq (fd_tree M a b c R) (fd_in hg h)).out⟩
noncomputable def t_snew : Con := fun args regs => nfun Tryz.prog GL (fun _ => Option.none) [] Tryz.f53 args regs
theorem k_snew : KnownF Tryz.prog GL 53 t_snew := known_inlF Tryz.func53 rfl (by kernel_rfl) mixed con_none (by kernel_rfl)
noncomputable def c_new : FuncId → Option Con := conOf [(53, t_snew)]
theorem kc_new : ∀ f T, c_new f = some T → Known Tryz.prog GL f T := (Knowns.cons k_snew.known .nil).get
noncomputable def t_new0 : Con := fun args regs => nfun Tryz.prog GL c_new [] Tryz.f14 args regs
theorem k_new0 : KnownF Tryz.prog GL 14 t_new0 := known_inlF Tryz.func14 rfl (by kernel_rfl) mixed kc_new (by kernel_rfl)
def nilsM : List (Nat × Nat × Nat × NC) := [0, 1, 2, 3, 4, 5, 6, 7, 8].flatMap fun g => [(0, 9 * g + 5, 0, .lr K3 []), (0, 9 * (g + 1), 1, .l .u8 [])]
def canonL (F : Nat) (cs : List (Nat × Nat × Reg)) (o : Out) : Tr Out :=
  match o.rg with
  | [] => .ret o
  | _ => canonO F cs none o
def canonV (F : Nat) (cs : List (Nat × Nat × Reg)) (T : Con) : Con := fun args regs => (T args regs).bind (canonL F cs)
theorem KnownF_canonV {P : Program} {gl : List Nat} {f : FuncId} {T : Con} (h : KnownF P gl f T) (F : Nat) (cs : List (Nat × Nat × Reg)) : KnownF P gl f (canonV F cs T) := by
  refine h.weak fun args regs R hR => ?_
  unfold canonV at hR
  rw [Tr.run_bind] at hR
  refine Tr.run_mono _ (fun o ho => ?_) hR
  unfold canonL at ho
  split at ho
  · exact ⟨_, WeakF.refl _, ho⟩
  · exact canonO_ok ho
noncomputable def t_newC : Con := softT [] [] [] nilsM 4 (canonV 3 [(1, 2, ordReg [])] t_new0)
theorem k_newC : Known Tryz.prog GL 14 t_newC := (KnownF_canonV k_new0 3 [(1, 2, ordReg [])]).soft [] [] [] nilsM 4
def mcN (n : Int) : Mc := ⟨fun _ => mvZ, ixZ, ⟨n, (0, 0, 0), false, []⟩⟩
noncomputable def oNo : Out := ⟨.tu [.c .pn, .c (.e eRng)], []⟩
noncomputable def oNw (n : Int) : Out := ⟨.tu [.c (.p 0 0 0), .c .en], (inM (mcN n)).map some⟩
theorem nw_tree (n : Int) (R : Out → Prop) : (t_newC [.c (.i .i64 n)] []).run R = sel (decide (n < 1)) (R oNo) (sel (decide (n > 800)) (R oNo) (R (oNw n))) := by kernel_rfl
noncomputable def tNewM : Con := fun args regs => match args, regs with
  | [.c (.i _ n)], [] => .must (args = [.c (.i .i64 n)]) (.br (decide (n < 1)) (.ret oNo) (.br (decide (n > 800)) (.ret oNo) (.ret (oNw n))))
  | _, _ => .fail
attribute [local irreducible] t_newC in
set_option maxRecDepth 100000 in
theorem kNewM : Known Tryz.prog GL 14 tNewM := by
  refine k_newC.less fun args regs R h => ?_
  unfold tNewM at h
  split at h
  case h_2 => exact h.elim
  rename_i n
  rw [h.1]
  exact (Box.of_eq (nw_tree n R) h.2).out
theorem mcN_good {n : Int} (h1 : 1 ≤ n) (h8 : n ≤ 800) : (mcN n).good := by
  refine ⟨fun k hk => rfl, List.nodup_nil, h1, h8, ?_, ?_, fun k => fits_z, fun k => Nat.zero_le _⟩
  · show ((0 : Nat) : Int) ≤ n
    omega
  · intro p hp
    cases hp
noncomputable def c_pgs0 : FuncId → Option Con := conOf [(72, tKe)]
theorem kc_pgs0 : ∀ f T, c_pgs0 f = some T → Known Tryz.prog GL f T := (Knowns.cons kKe.known .nil).get
noncomputable def t_pgs0 : Con := fun args regs => nfun Tryz.prog GL c_pgs0 [] Tryz.f20 args regs
theorem k_pgs0 : Known Tryz.prog GL 20 t_pgs0 := known_inl Tryz.func20 rfl (by kernel_rfl) mixed kc_pgs0 (by kernel_rfl)
noncomputable def oPgs (M : Mc) : Out := ⟨.v (.c (.lr K3 (kyRows (M.st.L.map kyP)))), (inM M).map some⟩
noncomputable def t_pgsC : Con := softT [] [4] [] [] 4 t_pgs0
theorem k_pgsC : Known Tryz.prog GL 20 t_pgsC := k_pgs0.soft [] [4] [] [] 4
theorem pgs_tree (M : Mc) (R : Out → Prop) : (t_pgsC [.c (.p 0 0 0)] (inM M)).run R = ((inP M.st = inP (mpP M.st) ∧ (mpP M.st).ok) ∧ ((mpP M.st).L.length = (kyRows ((mpP M.st).L.map kyP)).length ∧ R (oPgs { M with st := mpP M.st }))) := by kernel_rfl
noncomputable def tPgs : Con := fun args regs => match args with
  | [.c (.p 0 0 0)] => onM regs fun M => .ret (oPgs M)
  | _ => .fail
attribute [local irreducible] t_pgsC in
set_option maxRecDepth 100000 in
theorem kPgs : Known Tryz.prog GL 20 tPgs := by
  refine k_pgsC.less fun args regs R h => ?_
  unfold tPgs at h
  split at h
  case h_2 => exact h.elim
  obtain ⟨M, rfl, hM, h⟩ := onM_elim h
  have e : ({ M with st := mpP M.st } : Mc) = M := by rw [mpP_eq]
  refine (Box.of_eq (pgs_tree M R) ⟨⟨by rw [mpP_eq], by rw [mpP_eq]; exact hM.2⟩, by rw [kyRows_length, List.length_map], ?_⟩).out
  rw [e]
  exact h
end Go.Proofs.YtlfmkacafppmlaaGreatDoor.mac
namespace Go.Proofs.YtlfmkacafppmlaaGreatDoor.bm
open Go.Proofs.YtlfmkacafppmlaaGreatDoor.sto (sT sF)
open Go Go.Nx Go.Proofs.YtlfmkacafppmlaaGreatDoor.pk Go.Proofs.YtlfmkacafppmlaaGreatDoor.ln Go.Proofs.YtlfmkacafppmlaaGreatDoor.hd Go.Proofs.YtlfmkacafppmlaaGreatDoor.lb Go.Proofs.YtlfmkacafppmlaaGreatDoor.sv
theorem byT {x : Int} (h : 0 ≤ x ∧ x < 256) : ∃ m, m < 256 ∧ x = Int.ofNat m := ⟨x.toNat, by omega, by show x = ((x.toNat : Nat) : Int); omega⟩
noncomputable def c_rodd : FuncId → Option Con := conOf [(194, ones.tOnes)]
theorem kc_rodd : ∀ f T, c_rodd f = some T → Known Tryz.prog GL f T := (Knowns.cons (known_gl ones.kOnes) .nil).get
noncomputable def t_rodd : Con := fun args regs => nfun Tryz.prog GL c_rodd [] Tryz.f195 args regs
theorem k_rodd : Known Tryz.prog GL 195 t_rodd := known_inl Tryz.func195 rfl (by kernel_rfl) mixed kc_rodd (by kernel_rfl)
theorem rodd_tree (b : Int) (R : Out → Prop) : (t_rodd [.c (.i .u8 b)] []).run R = ((0 ≤ IntKind.i64.wrap b ∧ IntKind.i64.wrap b < 9223372036854775808) ∧ R (oB ((ones.bl (IntKind.i64.wrap b).toNat : Int).tmod 2 == 1))) := by kernel_rfl
theorem rodd_all : ∀ m < 256, ones.par m 8 = odd (Int.ofNat m) := by decide +kernel
noncomputable def tROdd : Con := fun args regs => match args, regs with
  | [.c (.i .u8 b)], [] => .must (0 ≤ b ∧ b < 256) (.ret (oB (odd b)))
  | _, _ => .fail
theorem rodd_in {b : Int} (h : 0 ≤ b ∧ b < 256) : ((ones.bl (IntKind.i64.wrap b).toNat : Int).tmod 2 == 1) = odd b := by
  obtain ⟨m, hm, rfl⟩ := byT h
  have hw : IntKind.i64.wrap (Int.ofNat m) = Int.ofNat m := by rw [IntKind.wrap_i64]; show ((m : Int) + _) % _ - _ = (m : Int); omega
  rw [hw, show (Int.ofNat m).toNat = m from rfl, ← rodd_all m hm]
  have hp := ones.bl_par 8 m (by omega)
  rw [Int.tmod_eq_emod_of_nonneg (by omega)]
  cases h2 : ones.par m 8 with
  | true =>
    rw [h2] at hp
    have hp : ones.bl m % 2 = 1 := hp
    rw [beq_iff_eq]
    omega
  | false =>
    rw [h2] at hp
    have hp : ones.bl m % 2 = 0 := hp
    rw [beq_eq_false_iff_ne]
    omega
set_option maxRecDepth 100000 in
theorem kROdd : Known Tryz.prog GL 195 tROdd := by
  refine k_rodd.less fun args regs R h => Box.out ?_
  unfold tROdd at h
  split at h
  case h_2 => exact h.elim
  rename_i b
  have h1 := h.1
  have h2 : R (oB (odd b)) := h.2
  clear h
  refine Box.of_eq (rodd_tree b R) ⟨?_, by rw [rodd_in h1]; exact h2⟩
  rw [IntKind.wrap_i64]
  omega
noncomputable def c_rmk : FuncId → Option Con := conOf [(195, tROdd)]
theorem kc_rmk : ∀ f T, c_rmk f = some T → Known Tryz.prog GL f T := (Knowns.cons kROdd .nil).get
noncomputable def t_rmk : Con := fun args regs => nfun Tryz.prog GL c_rmk [] Tryz.f134 args regs
theorem k_rmk : Known Tryz.prog GL 134 t_rmk := known_inl Tryz.func134 rfl (by kernel_rfl) mixed kc_rmk (by kernel_rfl)
theorem rmk_tree (c : Int) (R : Out → Prop) : (t_rmk [.c (.i .u8 c)] []).run R = ((0 ≤ aU c 127 ∧ aU c 127 < 256) ∧ sel (odd (aU c 127)) (R ⟨.v (.c (.i .u8 (aU c 127))), []⟩) (R ⟨.v (.c (.i .u8 (oU (aU c 127) 128))), []⟩)) := by kernel_rfl
set_option maxRecDepth 100000 in
theorem kRMkO : Known Tryz.prog GL 134 tMkO := by
  refine k_rmk.less fun args regs R h => Box.out ?_
  unfold tMkO at h
  split at h
  case h_2 => exact h.elim
  rename_i c
  have h2 : R ⟨.v (.c (.i .u8 (mkO c))), []⟩ := h
  clear h
  refine Box.of_eq (rmk_tree c R) ⟨aU_in _ _, ?_⟩
  unfold mkO at h2
  cases hc : odd (aU c 127) with
  | true => rw [hc] at h2; exact selT rfl h2
  | false => rw [hc] at h2; exact selF rfl h2
noncomputable abbrev f_odd := Tryz.f60
noncomputable def c_odd : FuncId → Option Con := conOf [(134, tMkO)]
theorem kc_odd : ∀ f T, c_odd f = some T → Known Tryz.prog GL f T := (Knowns.cons kRMkO .nil).get
noncomputable def X_odd : Cx := { P := Tryz.prog, con := c_odd, glob := GL, m := 0, loops := [] }
def arU (xs : List Int) : Reg := ⟨1, 5, .ints .u8 xs⟩
noncomputable def ouC : Option (List Int × Nat) → NC
  | none => .sn
  | some x => .h 0 0 x.2
noncomputable def ouR : Option (List Int × Nat) → List (Option Reg)
  | none => []
  | some x => [some (arU x.1)]
noncomputable def sOd (bs : List Int) (n i : Int) (o : Option (List Int × Nat)) : St := { fr := frame 27 [(0, .v (.c (.l .u8 bs))), (1, .v (.c (.i .i64 n))), (4, .v (.c .sn)), (5, .v (.c (ouC o))), (6, .v (.c (.i .i64 i)))], rg := ouR o }
noncomputable def dOd (o : Option (List Int × Nat)) : St := { fr := frame 27 [(5, .v (.c (ouC o)))], rg := ouR o }
noncomputable def rOd (s : St) : Tr RO := roundT X_odd 0 [0, 1, 4, 5, 6] [5] (bodyLoop f_odd 0) s
def ixU (i : Int) (l : Nat) (A : Prop) : Prop := sel (decide (0 ≤ i)) (sel (decide (i < (l : Int))) (sel (decide (i.toNat < l)) A False) False) False
def apU (m : Nat) (A : Prop) : Prop := sel (decide (0 + m ≤ m)) (sel (decide ((m + 1) * bytesT Tryz.prog 5 ≤ 140737488355328)) (sel (decide (m + 1 ≤ 9223372036854775807)) A False) False) False
noncomputable def nxOd (bs : List Int) (n i : Int) (R : RO → Prop) (xs : List Int) (m : Nat) : Prop := R (.next (sOd bs n (IntKind.i64.wrap (i + 1)) (some (xs, m))))
theorem od_0 (bs : List Int) (n i : Int) (R : RO → Prop) : (rOd (sOd bs n i none)).run R =
    sel (decide (i < n)) (sel (decide (i < (bs.length : Int))) (ixU i bs.length (nxOd bs n i R [mkO (bs.getD i.toNat 0)] 1)) (nxOd bs n i R [mkO 32] 1)) (R (.done .normal (dOd none))) := by kernel_rfl
theorem od_1 (bs : List Int) (n i : Int) (xs : List Int) (R : RO → Prop) : (rOd (sOd bs n i (some (xs, xs.length)))).run R =
    sel (decide (i < n)) (sel (decide (i < (bs.length : Int))) (ixU i bs.length (apU xs.length (nxOd bs n i R (List.take xs.length xs ++ [mkO (bs.getD i.toNat 0)]) (xs.length + 1)))) (apU xs.length (nxOd bs n i R (List.take xs.length xs ++ [mkO 32]) (xs.length + 1)))) (R (.done .normal (dOd (some (xs, xs.length))))) := by kernel_rfl
noncomputable def odV (bs : List Int) (k : Nat) : List Int := (List.range k).map fun i => mkO (bs.getD i 32)
theorem odV_len (bs : List Int) (k : Nat) : (odV bs k).length = k := by unfold odV; rw [List.length_map, List.length_range]
theorem odV_succ (bs : List Int) (k : Nat) : odV bs (k + 1) = odV bs k ++ [mkO (bs.getD k 32)] := by unfold odV; rw [List.range_succ, List.map_append]; rfl
noncomputable def oOd (bs : List Int) : Nat → Option (List Int × Nat)
  | 0 => none
  | k + 1 => some (odV bs (k + 1), k + 1)
theorem bytesU : bytesT Tryz.prog 5 = 1 := by kernel_rfl
theorem apU_in {m : Nat} {A : Prop} (hm : m ≤ 1000) (h : A) : apU m A := by
  unfold apU
  rw [bytesU]
  exact sT (decide_eq_true (by omega)) (sT (decide_eq_true (by omega)) (sT (decide_eq_true (by omega)) h))
theorem ixU_in {i : Int} {l : Nat} {A : Prop} (h : 0 ≤ i ∧ i < (l : Int)) (hA : A) : ixU i l A := sT (decide_eq_true h.1) (sT (decide_eq_true h.2) (sT (decide_eq_true (by omega)) hA))
def rdOd (s : St) : Option (List Int × Int) := match s.fr[(0 : Nat)]?, s.fr[(1 : Nat)]? with
  | some (.v (.c (.l _ bs))), some (.v (.c (.i _ n))) => some (bs, n)
  | _, _ => none
noncomputable def lOd (s : St) : Tr (NExit × St) := match rdOd s with
  | some x => .must (s = sOd x.1 x.2 0 none ∧ 0 < x.2 ∧ x.2 ≤ 100) (.ret (.normal, dOd (some (odV x.1 x.2.toNat, x.2.toNat))))
  | none => .fail
structure AOd where
  bs : List Int
  n : Int
  k : Nat
noncomputable def hOd (a : AOd) : St := sOd a.bs a.n (a.k : Int) (oOd a.bs a.k)
def preOd (a : AOd) (R : NExit × St → Prop) : Prop := ((a.k : Int) ≤ a.n ∧ 0 < a.n ∧ a.n ≤ 100) ∧ R (.normal, dOd (some (odV a.bs a.n.toNat, a.n.toNat)))
def nxtOd (a : AOd) (R : NExit × St → Prop) (o : RO) : Prop := match o with
  | .next s => ∃ y, s = hOd y ∧ (y.n - y.k).toNat < (a.n - a.k).toNat ∧ preOd y R
  | .done e s => R (e, s)
theorem getD_in {bs : List Int} {k : Nat} (h : k < bs.length) : bs.getD k 32 = bs.getD k 0 := by
  rw [List.getD_eq_getElem?_getD, List.getD_eq_getElem?_getD, List.getElem?_eq_getElem h]; rfl
theorem getD_out {bs : List Int} {k : Nat} (h : ¬ k < bs.length) : bs.getD k 32 = 32 := by
  rw [List.getD_eq_getElem?_getD, List.getElem?_eq_none (by omega)]; rfl
theorem od_in (a : AOd) (R : NExit × St → Prop) (h : preOd a R) : Box ((rOd (hOd a)).run (nxtOd a R)) := by
  obtain ⟨bs, n, k⟩ := a
  obtain ⟨⟨h1, h2, h3⟩, hR⟩ := h
  simp only at h1 h2 h3 hR
  have hw : IntKind.i64.wrap ((k : Int) + 1) = ((k + 1 : Nat) : Int) := by rw [IntKind.wrap_i64]; omega
  have nx : ∀ xs m, (k : Int) < n → xs = odV bs (k + 1) → m = k + 1 → nxOd bs n (k : Int) (nxtOd ⟨bs, n, k⟩ R) xs m := by
    rintro xs m hk rfl rfl
    unfold nxOd
    rw [hw]
    exact ⟨⟨bs, n, k + 1⟩, rfl, by simp only; omega, ⟨by simp only; omega, h2, h3⟩, hR⟩
  match k, h1, hw, nx with
  | 0, h1, hw, nx =>
    have e : odV bs 1 = [mkO (bs.getD 0 32)] := rfl
    refine Box.of_eq (od_0 bs n 0 _) (sT (decide_eq_true h2) ?_)
    by_cases hb : 0 < bs.length
    · exact sT (decide_eq_true (by omega)) (ixU_in ⟨by omega, by omega⟩ (nx _ _ h2 (by rw [e, getD_in hb]; rfl) rfl))
    · exact sF (decide_eq_false (by omega)) (nx _ _ h2 (by rw [e, getD_out hb]) rfl)
  | k + 1, h1, hw, nx =>
    have hl := odV_len bs (k + 1)
    have e := odV_succ bs (k + 1)
    have ha : hOd ⟨bs, n, k + 1⟩ = sOd bs n ((k + 1 : Nat) : Int) (some (odV bs (k + 1), (odV bs (k + 1)).length)) := by
      show sOd bs n _ (some (odV bs (k + 1), k + 1)) = _
      rw [hl]
    rw [ha]
    refine Box.of_eq (od_1 bs n _ _ _) ?_
    by_cases hk : ((k + 1 : Nat) : Int) < n
    · refine sT (decide_eq_true hk) ?_
      rw [List.take_length, hl]
      by_cases hb : k + 1 < bs.length
      · exact sT (decide_eq_true (by omega)) (ixU_in ⟨by omega, by omega⟩ (apU_in (by omega) (nx _ _ hk (by rw [e, getD_in hb]; rfl) rfl)))
      · exact sF (decide_eq_false (by omega)) (apU_in (by omega) (nx _ _ hk (by rw [e, getD_out hb]) rfl))
    · refine sF (decide_eq_false hk) ?_
      have hn : n.toNat = k + 1 := by omega
      rw [hn] at hR
      rw [hl]
      exact hR
set_option maxRecDepth 100000 in
theorem loop_od : LOk Tryz.prog GL 0 0 (bodyLoop f_odd 0) lOd := by
  refine loop_ok (X := X_odd) kc_odd mixed (LAll.none (by kernel_rfl)) [0, 1, 4, 5, 6] [5] hOd (fun a => (a.n - a.k).toNat) preOd ?_ ?_
  · intro s R h
    unfold lOd at h
    split at h
    case h_2 => exact h.elim
    rename_i x hx
    obtain ⟨⟨hs, h1, h2⟩, hR⟩ := h
    exact ⟨⟨x.1, x.2, 0⟩, hs, ⟨by simp only; omega, h1, h2⟩, hR⟩
  · intro a R h
    exact Tr.run_mono _ (fun o ho => ho) (od_in a R h).out
noncomputable def t_odd0 : Con := fun args regs => if regs.length = 0 then nfun Tryz.prog GL c_odd [(0, [0, 1, 4, 5, 6], lOd)] f_odd args regs else .fail
theorem k_odd0 : Known Tryz.prog GL 60 t_odd0 := known_loops 0 Tryz.func60 rfl (by kernel_rfl) mixed kc_odd (LAll.one (id := 0) (body := bodyLoop f_odd 0) (by kernel_rfl) rfl loop_od)
noncomputable def t_oddC : Con := softT [] [0] [] [] 0 t_odd0
theorem k_oddC : Known Tryz.prog GL 60 t_oddC := k_odd0.soft [] [0] [] [] 0
noncomputable def oLu (xs : List Int) : Out := ⟨.v (.c (.l .u8 xs)), []⟩
theorem odd_tree (bs : List Int) (n : Int) (R : Out → Prop) : (t_oddC [.c (.l .u8 bs), .c (.i .i64 n)] []).run R = ((sOd bs n 0 none = sOd bs n 0 none ∧ 0 < n ∧ n ≤ 100) ∧ (n.toNat = (odV bs n.toNat).length ∧ R (oLu (odV bs n.toNat)))) := by kernel_rfl
noncomputable def tOddB : Con := fun args regs => match args, regs with
  | [.c (.l _ bs), .c (.i _ n)], [] => .must (args = [.c (.l .u8 bs), .c (.i .i64 n)] ∧ 0 < n ∧ n ≤ 100) (.ret (oLu (odV bs n.toNat)))
  | _, _ => .fail
attribute [local irreducible] t_oddC in
set_option maxRecDepth 100000 in
theorem kOddB : Known Tryz.prog GL 60 tOddB := by
  refine k_oddC.less fun args regs R h => ?_
  unfold tOddB at h
  split at h
  case h_2 => exact h.elim
  rename_i _ bs _ n
  obtain ⟨⟨h1, h2, h3⟩, h⟩ := h
  rw [h1]
  exact (Box.of_eq (odd_tree bs n R) ⟨⟨rfl, h2, h3⟩, (odV_len _ _).symm, h⟩).out
open Go.Proofs.YtlfmkacafppmlaaGreatDoor.pge (Hx)
noncomputable def c_pl0 : FuncId → Option Con := conOf [(12, num.tNumV)]
theorem kc_pl0 : ∀ f T, c_pl0 f = some T → Known Tryz.prog GL f T := (Knowns.cons (known_gl num.kNumV) .nil).get
noncomputable def t_pl0 : Con := fun args regs => nfun Tryz.prog GL c_pl0 [] Tryz.f30 args regs
theorem k_pl0 : Known Tryz.prog GL 30 t_pl0 := known_inl Tryz.func30 rfl (by kernel_rfl) mixed kc_pl0 (by kernel_rfl)
noncomputable def t_rright : Con := fun args regs => nfun Tryz.prog GL (fun _ => Option.none) [] Tryz.f131 args regs
theorem k_rright : Known Tryz.prog GL 131 t_rright := known_inl Tryz.func131 rfl (by kernel_rfl) mixed con_none (by kernel_rfl)
noncomputable def c_rplaced : FuncId → Option Con := conOf [(133, tRPut)]
theorem kc_rplaced : ∀ f T, c_rplaced f = some T → Known Tryz.prog GL f T := (Knowns.cons kg_rput .nil).get
noncomputable def t_rplaced : Con := fun args regs => nfun Tryz.prog GL c_rplaced [] Tryz.f132 args regs
theorem k_rplaced : Known Tryz.prog GL 132 t_rplaced := known_inl Tryz.func132 rfl (by kernel_rfl) mixed kc_rplaced (by kernel_rfl)
noncomputable def c_rpkd : FuncId → Option Con := conOf [(133, tRPut)]
theorem kc_rpkd : ∀ f T, c_rpkd f = some T → Known Tryz.prog GL f T := (Knowns.cons kg_rput .nil).get
noncomputable def t_rpkd : Con := fun args regs => nfun Tryz.prog GL c_rpkd [] Tryz.f61 args regs
theorem k_rpkd : Known Tryz.prog GL 61 t_rpkd := known_inl Tryz.func61 rfl (by kernel_rfl) mixed kc_rpkd (by kernel_rfl)
noncomputable abbrev f_hb := Tryz.f59
noncomputable def c_hb : FuncId → Option Con := conOf [(131, t_rright), (132, t_rplaced), (133, tRPut), (61, t_rpkd)]
theorem kc_hb : ∀ f T, c_hb f = some T → Known Tryz.prog GL f T := (Knowns.cons k_rright (.cons k_rplaced (.cons kg_rput (.cons k_rpkd .nil)))).get
noncomputable def X_hb : Cx := { P := Tryz.prog, con := c_hb, glob := GL, m := 0, loops := [] }
def alB (h : Hx) : Nat → Bool
  | 0 => h.c0
  | 1 => h.c1
  | 2 => h.c2
  | 3 => h.c3
  | 4 => h.c4
  | 5 => h.c5
  | 6 => h.c6
  | 7 => h.c7
  | 8 => h.c8
  | 9 => h.c9
  | 10 => h.c10
  | _ => false
def pw (k : Nat) : Int := Int.ofNat (2 ^ k)
noncomputable def alV (h : Hx) : Nat → Int
  | 0 => 0
  | k + 1 => bif alB h k then bits .or .i64 (alV h k) (pw k) else alV h k
noncomputable def hxR (h : Hx) : Reg := ⟨15, 48, .cells h.nc⟩
noncomputable def sHB (xs : List Int) (h : Hx) (all : Int) (i : Int) : St := { fr := frame 55 [(1, .v (.c (.l .u8 xs))), (2, .v (.c (.p 0 0 0))), (4, .v (.c .sn)), (5, .v (.c (.i .i64 0))), (6, .v (.c (.i .i64 all))), (7, .v (.c (.i .i64 i)))], rg := [some (hxR h)] }
noncomputable def dHB (xs : List Int) (h : Hx) (all : Int) : St := { fr := frame 55 [(1, .v (.c (.l .u8 xs))), (2, .v (.c (.p 0 0 0))), (4, .v (.c .sn)), (5, .v (.c (.i .i64 0))), (6, .v (.c (.i .i64 all)))], rg := [some (hxR h)] }
noncomputable def rHB (s : St) : Tr RO := roundT X_hb 0 [1, 2, 4, 5, 6, 7] [1, 2, 4, 5, 6] (bodyLoop f_hb 0) s
noncomputable def nHB (xs : List Int) (h : Hx) (all : Int) (k : Nat) (R : RO → Prop) : Prop := sel (alB h k) (R (.next (sHB xs h (bits .or .i64 all (pw k)) (Int.ofNat (k + 1))))) (R (.next (sHB xs h all (Int.ofNat (k + 1)))))
theorem hb_0 (xs : List Int) (h : Hx) (all : Int) (R : RO → Prop) : (rHB (sHB xs h all 0)).run R = nHB xs h all 0 R := by kernel_rfl
theorem hb_1 (xs : List Int) (h : Hx) (all : Int) (R : RO → Prop) : (rHB (sHB xs h all 1)).run R = nHB xs h all 1 R := by kernel_rfl
theorem hb_2 (xs : List Int) (h : Hx) (all : Int) (R : RO → Prop) : (rHB (sHB xs h all 2)).run R = nHB xs h all 2 R := by kernel_rfl
theorem hb_3 (xs : List Int) (h : Hx) (all : Int) (R : RO → Prop) : (rHB (sHB xs h all 3)).run R = nHB xs h all 3 R := by kernel_rfl
theorem hb_4 (xs : List Int) (h : Hx) (all : Int) (R : RO → Prop) : (rHB (sHB xs h all 4)).run R = nHB xs h all 4 R := by kernel_rfl
theorem hb_5 (xs : List Int) (h : Hx) (all : Int) (R : RO → Prop) : (rHB (sHB xs h all 5)).run R = nHB xs h all 5 R := by kernel_rfl
theorem hb_6 (xs : List Int) (h : Hx) (all : Int) (R : RO → Prop) : (rHB (sHB xs h all 6)).run R = nHB xs h all 6 R := by kernel_rfl
theorem hb_7 (xs : List Int) (h : Hx) (all : Int) (R : RO → Prop) : (rHB (sHB xs h all 7)).run R = nHB xs h all 7 R := by kernel_rfl
theorem hb_8 (xs : List Int) (h : Hx) (all : Int) (R : RO → Prop) : (rHB (sHB xs h all 8)).run R = nHB xs h all 8 R := by kernel_rfl
theorem hb_9 (xs : List Int) (h : Hx) (all : Int) (R : RO → Prop) : (rHB (sHB xs h all 9)).run R = nHB xs h all 9 R := by kernel_rfl
theorem hb_10 (xs : List Int) (h : Hx) (all : Int) (R : RO → Prop) : (rHB (sHB xs h all 10)).run R = nHB xs h all 10 R := by kernel_rfl
theorem hb_11 (xs : List Int) (h : Hx) (all : Int) (R : RO → Prop) : (rHB (sHB xs h all 11)).run R = R (.done .normal (dHB xs h all)) := by kernel_rfl
theorem hb_k (xs : List Int) (h : Hx) (all : Int) (R : RO → Prop) : ∀ k < 11, (rHB (sHB xs h all (Int.ofNat k))).run R = nHB xs h all k R
  | 0, _ => hb_0 xs h all R
  | 1, _ => hb_1 xs h all R
  | 2, _ => hb_2 xs h all R
  | 3, _ => hb_3 xs h all R
  | 4, _ => hb_4 xs h all R
  | 5, _ => hb_5 xs h all R
  | 6, _ => hb_6 xs h all R
  | 7, _ => hb_7 xs h all R
  | 8, _ => hb_8 xs h all R
  | 9, _ => hb_9 xs h all R
  | 10, _ => hb_10 xs h all R
  | k + 11, hk => absurd hk (by omega)
def rdHB (s : St) : Option (List Int × Hx) := match s.fr[(1 : Nat)]?, s.rg[(0 : Nat)]? with
  | some (.v (.c (.l _ xs))), some (some { body := .cells [.i _ mg, .i _ pn, .i _ sb, .b c0, .b c1, .b c2, .b c3, .b c4, .b c5, .b c6, .b c7, .b c8, .b c9, .b c10, .i _ op], .. }) => some (xs, ⟨mg, pn, sb, c0, c1, c2, c3, c4, c5, c6, c7, c8, c9, c10, op⟩)
  | _, _ => none
noncomputable def lHB (s : St) : Tr (NExit × St) := match rdHB s with
  | some x => .must (s = sHB x.1 x.2 0 0) (.ret (.normal, dHB x.1 x.2 (alV x.2 11)))
  | none => .fail
structure AHB where
  xs : List Int
  h : Hx
  k : Nat
noncomputable def hHB (a : AHB) : St := sHB a.xs a.h (alV a.h a.k) (Int.ofNat a.k)
def preHB (a : AHB) (R : NExit × St → Prop) : Prop := a.k ≤ 11 ∧ R (.normal, dHB a.xs a.h (alV a.h 11))
def nxtHB (a : AHB) (R : NExit × St → Prop) (o : RO) : Prop := match o with
  | .next s => ∃ y, s = hHB y ∧ 11 - y.k < 11 - a.k ∧ preHB y R
  | .done e s => R (e, s)
theorem hb_in (a : AHB) (R : NExit × St → Prop) (h : preHB a R) : Box ((rHB (hHB a)).run (nxtHB a R)) := by
  obtain ⟨xs, h', k⟩ := a
  obtain ⟨h1, hR⟩ := h
  simp only at h1 hR
  by_cases hk : k < 11
  · refine Box.of_eq (hb_k xs h' _ _ k hk) ?_
    unfold nHB
    have e : alV h' (k + 1) = bif alB h' k then bits .or .i64 (alV h' k) (pw k) else alV h' k := rfl
    have nx : ∀ all, all = alV h' (k + 1) → nxtHB ⟨xs, h', k⟩ R (.next (sHB xs h' all (Int.ofNat (k + 1)))) := by
      rintro _ rfl
      exact ⟨⟨xs, h', k + 1⟩, rfl, by simp only; omega, by simp only [preHB]; exact ⟨by omega, hR⟩⟩
    cases hb : alB h' k with
    | true => exact sT rfl (nx _ (by rw [e, hb]; rfl))
    | false => exact sF rfl (nx _ (by rw [e, hb]; rfl))
  · have hk : k = 11 := by omega
    subst hk
    exact Box.of_eq (hb_11 xs h' _ _) hR
set_option maxRecDepth 100000 in
theorem loop_hb : LOk Tryz.prog GL 0 0 (bodyLoop f_hb 0) lHB := by
  refine loop_ok (X := X_hb) kc_hb mixed (LAll.none (by kernel_rfl)) [1, 2, 4, 5, 6, 7] [1, 2, 4, 5, 6] hHB (fun a => 11 - a.k) preHB ?_ ?_
  · intro s R h
    unfold lHB at h
    split at h
    case h_2 => exact h.elim
    rename_i x hx
    obtain ⟨hs, hR⟩ := h
    exact ⟨⟨x.1, x.2, 0⟩, hs, by simp only; omega, hR⟩
  · intro a R h
    exact Tr.run_mono _ (fun o ho => ho) (hb_in a R h).out
noncomputable def t_hb0 : Con := fun args regs => if regs.length = 0 then nfun Tryz.prog GL c_hb [(0, [1, 2, 4, 5, 6, 7], lHB)] f_hb args regs else .fail
theorem k_hb0 : Known Tryz.prog GL 59 t_hb0 := known_loops 0 Tryz.func59 rfl (by kernel_rfl) mixed kc_hb (LAll.one (id := 0) (body := bodyLoop f_hb 0) (by kernel_rfl) rfl loop_hb)
def e16 (x : Int) : Prop := 0 ≤ x ∧ x < 16
noncomputable def pl6 (pn sb b : Int) : List Int := [put (bits .and .i64 pn 15), put (shrv .i64 pn 4), put (bits .and .i64 sb 15), put (bits .or .i64 (bits .and .i64 (shrv .i64 sb 4) 7) (shlv .i64 (bits .and .i64 b 1) 3)), put (bits .and .i64 (shrv .i64 sb 8) 15), put (bits .or .i64 (bits .and .i64 (shrv .i64 sb 12) 3) (shlv .i64 (shrv .i64 b 1) 2))]
noncomputable def m6 (pn sb b : Int) (A : Prop) : Prop := e16 (bits .and .i64 pn 15) ∧ e16 (shrv .i64 pn 4) ∧ e16 (bits .and .i64 sb 15) ∧ e16 (bits .or .i64 (bits .and .i64 (shrv .i64 sb 4) 7) (shlv .i64 (bits .and .i64 b 1) 3)) ∧ e16 (bits .and .i64 (shrv .i64 sb 8) 15) ∧ e16 (bits .or .i64 (bits .and .i64 (shrv .i64 sb 12) 3) (shlv .i64 (shrv .i64 b 1) 2)) ∧ A
noncomputable def t8 (all : Int) : List Int := [put (bits .and .i64 (shrv .i64 all 3) 15), put (bits .and .i64 (shrv .i64 all 7) 15)]
noncomputable def hdD (h : Hx) (all : Int) (xs : List Int) : List Int := pl6 h.pn h.sb (bits .and .i64 all 7) ++ t8 all ++ xs
noncomputable def hdT (h : Hx) (all : Int) (xs : List Int) : List Int := List.take (8 + xs.length) (hdD h all xs)
noncomputable def adr (mg row : Int) : Int := bits .or .i64 (mg.tmod 8) (shlv .i64 (bits .and .i64 row 1) 3)
noncomputable def pkB (mg row : Int) (ds : List Int) : List Int := [put (adr mg row), put (shrv .i64 row 1)] ++ ds
noncomputable def oPr (x : NC) (e : Int) : Out := ⟨.tu [.c x, .c (.i .i64 e)], []⟩
def zz2 (n m : Nat) (A : Prop) : Prop := sel (decide ((n + m) * bytesT Tryz.prog 5 ≤ 140737488355328)) (sel (decide (n + m ≤ 9223372036854775807)) A False) False
noncomputable def hbI (h : Hx) (all : Int) (xs : List Int) (R : Out → Prop) : Prop :=
  m6 h.pn h.sb (bits .and .i64 all 7) (e16 (bits .and .i64 (shrv .i64 all 3) 15) ∧ (e16 (bits .and .i64 (shrv .i64 all 7) 15) ∧ zz2 8 xs.length (sel (decide (0 + (8 + xs.length) ≤ (hdD h all xs).length)) (
    e16 (adr h.mg 0) ∧ (e16 0 ∧ zz2 2 (hdT h all xs).length (2 + (hdT h all xs).length = (pkB h.mg 0 (hdT h all xs)).length ∧ R (oPr (.l .u8 (pkB h.mg 0 (hdT h all xs))) 0)))) False)))
noncomputable def hbT (h : Hx) (xs : List Int) (R : Out → Prop) : Prop :=
  sel (decide (h.mg ≥ 1)) (sel (decide (h.mg ≤ 8)) (sel (decide (h.pn ≥ 0)) (sel (decide (h.pn ≤ 255)) (sel (decide (h.sb ≥ 0)) (sel (!(bits .andNot .i64 h.sb 16255 == 0)) (R (oPr .sn 101)) (sel ((xs.length : Int) != 32) (R (oPr .sn 102))
    (sHB xs h 0 0 = sHB xs h 0 0 ∧ hbI h (alV h 11) xs R))) (R (oPr .sn 101))) (R (oPr .sn 101))) (R (oPr .sn 101))) (R (oPr .sn 101))) (R (oPr .sn 101))
noncomputable def t_hbC : Con := softT [] [0] [] [] 0 t_hb0
theorem k_hbC : Known Tryz.prog GL 59 t_hbC := k_hb0.soft [] [0] [] [] 0
theorem hbc_tree (h : Hx) (xs : List Int) (R : Out → Prop) : (t_hbC [.ag h.nc, .c (.l .u8 xs)] []).run R = hbT h xs R := by kernel_rfl
def right (m p s : Int) : Prop := (1 ≤ m ∧ m ≤ 8) ∧ (0 ≤ p ∧ p ≤ 255) ∧ 0 ≤ s ∧ bits .andNot .i64 s 16255 = 0
theorem adr_all : ∀ g < 8, ∀ r < 32, 0 ≤ adr (Int.ofNat g + 1) (Int.ofNat r) ∧ adr (Int.ofNat g + 1) (Int.ofNat r) < 16 := by decide +kernel
theorem adr_in {m r : Int} (hm : 1 ≤ m ∧ m ≤ 8) (hr : 0 ≤ r ∧ r < 32) : e16 (adr m r) := by
  have := adr_all (m - 1).toNat (by omega) r.toNat (by omega)
  have e1 : Int.ofNat (m - 1).toNat + 1 = m := by show (((m - 1).toNat : Nat) : Int) + 1 = m; omega
  have e2 : Int.ofNat r.toNat = r := by show ((r.toNat : Nat) : Int) = r; omega
  rw [e1, e2] at this
  exact this
theorem m6_in {p s b : Int} {A : Prop} (hp : 0 ≤ p ∧ p ≤ 255) (hb : 0 ≤ b ∧ b < 8) (h : A) : m6 p s b A := by
  have c1 : e16 (aI p 15) := by rw [aI_15]; exact ⟨by omega, by omega⟩
  have c2 : e16 (shrv .i64 p 4) := by rw [sh_4]; exact ⟨by omega, by omega⟩
  have c3 : e16 (aI s 15) := by rw [aI_15]; exact ⟨by omega, by omega⟩
  have c4 : e16 (nb3 s (aI b 1)) := by rw [aI_1, nb3_eq _ _ (by omega)]; exact ⟨by omega, by omega⟩
  have c5 : e16 (nb4 s) := by rw [nb4_eq]; exact ⟨by omega, by omega⟩
  have c6 : e16 (nb5 s (shrv .i64 b 1)) := by rw [sh_1, nb5_eq _ _ (by omega)]; exact ⟨by omega, by omega⟩
  exact ⟨c1, c2, c3, c4, c5, c6, h⟩
theorem zz2_in {n m : Nat} {A : Prop} (h : n + m ≤ 10000) (hA : A) : zz2 n m A := by
  unfold zz2
  rw [bytesU]
  exact sT (decide_eq_true (by omega)) (sT (decide_eq_true (by omega)) hA)
theorem hdD_len (h : Hx) (all : Int) (xs : List Int) : (hdD h all xs).length = 8 + xs.length := by
  unfold hdD
  rw [List.length_append]
  rfl
theorem hdT_eq (h : Hx) (all : Int) (xs : List Int) : hdT h all xs = hdD h all xs := by
  unfold hdT
  rw [← hdD_len h all xs, List.take_length]
noncomputable def hbV (h : Hx) (xs : List Int) : List Int := pkB h.mg 0 (hdD h (alV h 11) xs)
attribute [local irreducible] zz2 in
theorem hbI_in {h : Hx} {all : Int} {xs : List Int} {R : Out → Prop} (hr : right h.mg h.pn h.sb) (hl : xs.length = 32) (hR : R (oPr (.l .u8 (pkB h.mg 0 (hdD h all xs))) 0)) : hbI h all xs R := by
  have ha : 0 ≤ bits .and .i64 all 7 ∧ bits .and .i64 all 7 < 8 := by
    have e : bits .and .i64 all 7 = all % 8 := and_mask64 all 3 (by decide)
    rw [e]
    omega
  have k3 : e16 (bits .and .i64 (shrv .i64 all 3) 15) := by
    have e : bits .and .i64 (shrv .i64 all 3) 15 = (shrv .i64 all 3) % 16 := and_mask64 _ 4 (by decide)
    rw [e]
    exact ⟨by omega, by omega⟩
  have k7 : e16 (bits .and .i64 (shrv .i64 all 7) 15) := by
    have e : bits .and .i64 (shrv .i64 all 7) 15 = (shrv .i64 all 7) % 16 := and_mask64 _ 4 (by decide)
    rw [e]
    exact ⟨by omega, by omega⟩
  have hd := hdD_len h all xs
  have hp : (pkB h.mg 0 (hdD h all xs)).length = 2 + (hdD h all xs).length := by unfold pkB; rw [List.length_append]; rfl
  have h40 : 8 + xs.length ≤ 10000 := by omega
  have h41 : 0 + (8 + xs.length) ≤ (hdD h all xs).length := by omega
  have h42 : 2 + (hdD h all xs).length ≤ 10000 := by omega
  have h43 : e16 (adr h.mg 0) := adr_in hr.1 ⟨by decide, by decide⟩
  have h44 : e16 0 := ⟨by decide, by decide⟩
  unfold hbI
  rw [hdT_eq]
  refine m6_in hr.2.1 ha (And.intro k3 (And.intro k7 ?_))
  refine zz2_in (n := 8) (m := xs.length) h40 ?_
  refine sT (decide_eq_true h41) (And.intro h43 (And.intro h44 ?_))
  exact zz2_in (n := 2) (m := (hdD h all xs).length) h42 (And.intro hp.symm hR)
noncomputable def tHB : Con := fun args regs => match args, regs with
  | [.ag [.i _ mg, .i _ pn, .i _ sb, .b c0, .b c1, .b c2, .b c3, .b c4, .b c5, .b c6, .b c7, .b c8, .b c9, .b c10, .i _ op], .c (.l _ xs)], [] =>
    .must (args = [.ag (Hx.nc ⟨mg, pn, sb, c0, c1, c2, c3, c4, c5, c6, c7, c8, c9, c10, op⟩), .c (.l .u8 xs)] ∧ right mg pn sb ∧ xs.length = 32) (.ret (oPr (.l .u8 (hbV ⟨mg, pn, sb, c0, c1, c2, c3, c4, c5, c6, c7, c8, c9, c10, op⟩ xs)) 0))
  | _, _ => .fail
attribute [local irreducible] t_hbC in
set_option maxRecDepth 100000 in
theorem kHB : Known Tryz.prog GL 59 tHB := by
  refine k_hbC.less fun args regs R h => ?_
  unfold tHB at h
  split at h
  case h_2 => exact h.elim
  rename_i _ mg _ pn _ sb c0 c1 c2 c3 c4 c5 c6 c7 c8 c9 c10 _ op _ xs
  obtain ⟨⟨h1, hr, hl⟩, h⟩ := h
  rw [h1]
  refine (Box.of_eq (hbc_tree ⟨mg, pn, sb, c0, c1, c2, c3, c4, c5, c6, c7, c8, c9, c10, op⟩ xs R) ?_).out
  unfold hbT
  exact sT (decide_eq_true hr.1.1) (sT (decide_eq_true hr.1.2) (sT (decide_eq_true hr.2.1.1) (sT (decide_eq_true hr.2.1.2) (sT (decide_eq_true hr.2.2.1) (sF (by rw [Bool.not_eq_false', beq_iff_eq]; exact hr.2.2.2) (sF (by rw [bne_eq_false_iff_eq]; omega) ⟨rfl, hbI_in hr hl h⟩))))))
def pgs8 : List Int := [0, 1, 2, 35, 153, 255, 26, 16]
def sub4 : List Int := [0, 1, 2, 16255]
def plP (b : Int) : Int := pgs8.getD (b % 8).toNat 0
def plS (c : Int) : Int := sub4.getD (c % 4).toNat 0
def i83 (n : Int) (l : Nat) (A : Prop) : Prop := sel (decide (0 ≤ n)) (sel (decide (n < (l : Int))) (sel (decide (0 + n.toNat < l)) A False) False) False
theorem pl_tree (a b c : Int) (R : Out → Prop) : (t_pl0 [.c (.i .i64 a), .c (.i .i64 b), .c (.i .i64 c)] []).run R =
    (((0 : Int) < 3 ∧ (3 : Int) < 4611686018427387904) ∧ (((0 : Int) < 8 ∧ (8 : Int) < 4611686018427387904) ∧ i83 (b % 8) 8 (((0 : Int) < 4 ∧ (4 : Int) < 4611686018427387904) ∧ i83 (c % 4) 4
      (R ⟨.v (.ag [.i .i64 (IntKind.i64.wrap (a % 3 + 1)), .i .i64 (pgs8.getD (0 + (b % 8).toNat) 0), .i .i64 (sub4.getD (0 + (c % 4).toNat) 0)]), []⟩)))) := by kernel_rfl
noncomputable def oPl (a b c : Int) : Out := ⟨.v (.ag [.i .i64 (a % 3 + 1), .i .i64 (plP b), .i .i64 (plS c)]), []⟩
noncomputable def tPl : Con := fun args regs => match args, regs with
  | [.c (.i _ a), .c (.i _ b), .c (.i _ c)], [] => .must (args = [.c (.i .i64 a), .c (.i .i64 b), .c (.i .i64 c)]) (.ret (oPl a b c))
  | _, _ => .fail
theorem i83_in {n : Int} {l : Nat} {A : Prop} (h : 0 ≤ n ∧ n < (l : Int)) (hA : A) : i83 n l A := sT (decide_eq_true h.1) (sT (decide_eq_true h.2) (sT (decide_eq_true (by omega)) hA))
attribute [local irreducible] t_pl0 in
set_option maxRecDepth 100000 in
theorem kPl : Known Tryz.prog GL 30 tPl := by
  refine k_pl0.less fun args regs R h => ?_
  unfold tPl at h
  split at h
  case h_2 => exact h.elim
  rename_i _ a _ b _ c
  obtain ⟨h1, h⟩ := h
  rw [h1]
  refine (Box.of_eq (pl_tree a b c R) ⟨⟨by decide, by decide⟩, ⟨by decide, by decide⟩, i83_in ⟨by omega, by show b % 8 < 8; omega⟩ ⟨⟨by decide, by decide⟩, i83_in ⟨by omega, by show c % 4 < 4; omega⟩ ?_⟩⟩).out
  have hw : IntKind.i64.wrap (a % 3 + 1) = a % 3 + 1 := by rw [IntKind.wrap_i64]; omega
  rw [hw, Nat.zero_add, Nat.zero_add]
  exact h
theorem plP_in (b : Int) : 0 ≤ plP b ∧ plP b ≤ 255 := by
  have key : ∀ n < 8, 0 ≤ pgs8.getD n 0 ∧ pgs8.getD n 0 ≤ 255 := by decide
  exact key _ (by omega)
theorem pl_right (a b c : Int) : right (a % 3 + 1) (plP b) (plS c) := by
  have key : ∀ n < 4, 0 ≤ sub4.getD n 0 ∧ bits .andNot .i64 (sub4.getD n 0) 16255 = 0 := by decide +kernel
  have h := key (c % 4).toNat (by omega)
  exact ⟨⟨by omega, by omega⟩, plP_in b, h.1, h.2⟩
noncomputable abbrev f_by := Tryz.f16
noncomputable def t_tof : Con := fun args regs => nfun Tryz.prog GL (fun _ => Option.none) [] Tryz.f62 args regs
theorem k_tof : Known Tryz.prog GL 62 t_tof := known_inl Tryz.func62 rfl (by kernel_rfl) mixed con_none (by kernel_rfl)
structure Dv where
  k : Int
  mag : Int
  pg : Int
  sb : Int
  n : Int
  L : List Int
  T : List Int
  W : List Int
  B : List Int
def Dv.nv (d : Dv) : NV := .ag [.i .i64 d.k, .i .i64 d.mag, .i .i64 d.pg, .i .i64 d.sb, .i .i64 d.n, .l .i64 d.L, .l .u8 d.T, .l .u8 d.W, .l .i64 d.B]
noncomputable def cbit (n : Int) (k : Nat) : Bool := bits .and .i64 (shrv .i64 n (Int.ofNat k)) 1 == 1
noncomputable def hxOf (d : Dv) : Hx := ⟨d.mag % 3 + 1, plP d.pg, plS d.sb, cbit d.n 0, cbit d.n 1, cbit d.n 2, cbit d.n 3, cbit d.n 4, cbit d.n 5, cbit d.n 6, cbit d.n 7, cbit d.n 8, cbit d.n 9, cbit d.n 10, 0⟩
def plA (d : Dv) : Prop := [NV.c (.i .i64 d.mag), .c (.i .i64 d.pg), .c (.i .i64 d.sb)] = [NV.c (.i .i64 d.mag), .c (.i .i64 d.pg), .c (.i .i64 d.sb)]
def nmA (m : Int) : Prop := 0 < m ∧ m < 4611686018427387904
def odA (T : List Int) (n : Int) : Prop := [NV.c (.l .u8 T), .c (.i .i64 n)] = [NV.c (.l .u8 T), .c (.i .i64 n)] ∧ 0 < n ∧ n ≤ 100
noncomputable def opt (n sb : Int) : Int := bits .or .i64 (shlv .i64 (n % 16) 10) (IntKind.i64.wrap ((sb % 5).tdiv 4))
noncomputable def trR (v : Int) : List Sc := [.i (bits .and .i64 v 63), .i (bits .and .i64 (shrv .i64 v 6) 31), .i (bits .and .i64 (shrv .i64 v 11) 127)]
noncomputable def trO (n sb : Int) : List (List Sc) := trR (opt n sb) :: List.replicate 12 [.i 0, .i 0, .i 0]
noncomputable def cdO (pg : Int) : Int := IntKind.i64.wrap (IntKind.i64.wrap ((pg % 3).tdiv 2) * 3)
noncomputable def trB (mg row cd : Int) (rows : List (List Sc)) : List Int := adr0 mg row :: adr1 row :: ts.LTg cd rows
theorem cdO_in (pg : Int) : 0 ≤ cdO pg ∧ cdO pg ≤ 3 := by
  have key : ∀ n < 3, 0 ≤ IntKind.i64.wrap (IntKind.i64.wrap ((Int.ofNat n).tdiv 2) * 3) ∧ IntKind.i64.wrap (IntKind.i64.wrap ((Int.ofNat n).tdiv 2) * 3) ≤ 3 := by decide +kernel
  have h := key (pg % 3).toNat (by omega)
  have e : Int.ofNat (pg % 3).toNat = pg % 3 := by show (((pg % 3).toNat : Nat) : Int) = pg % 3; omega
  rw [e] at h
  exact h
theorem okTB_of {mg row cd : Int} (hm : 1 ≤ mg ∧ mg ≤ 8) (hc : 0 ≤ cd ∧ cd ≤ 3) (hr : row = 28 ∨ row = 29 ∨ row = 26) : ts.okTB mg row cd = true := by
  unfold ts.okTB
  rw [decide_eq_true (show 1 ≤ mg ∧ mg ≤ 8 ∧ 0 ≤ cd ∧ cd ≤ 15 from ⟨hm.1, hm.2, hc.1, by omega⟩)]
  rcases hr with rfl | rfl | rfl <;> rfl
def Dv.fc (d : Dv) : List FC := [.i d.k, .i d.mag, .i d.pg, .i d.sb, .i d.n, .is d.L, .is d.T, .is d.W, .is d.B]
def dvSch : List Part := [.i .i64, .i .i64, .i .i64, .i .i64, .i .i64, .l .i64, .l .u8, .l .u8, .l .i64]
def ofFc (r : List FC) : Dv := ⟨(r.getD 0 (.i 0)).n, (r.getD 1 (.i 0)).n, (r.getD 2 (.i 0)).n, (r.getD 3 (.i 0)).n, (r.getD 4 (.i 0)).n, (r.getD 5 (.i 0)).li, (r.getD 6 (.i 0)).li, (r.getD 7 (.i 0)).li, (r.getD 8 (.i 0)).li⟩
theorem ofFc_fc (d : Dv) : ofFc d.fc = d := rfl
end Go.Proofs.YtlfmkacafppmlaaGreatDoor.bm
namespace Go.Proofs.YtlfmkacafppmlaaGreatDoor.ls
open Go Go.Nx Go.Proofs.YtlfmkacafppmlaaGreatDoor.pk Go.Proofs.YtlfmkacafppmlaaGreatDoor.ln Go.Proofs.YtlfmkacafppmlaaGreatDoor.hd Go.Proofs.YtlfmkacafppmlaaGreatDoor.lb
noncomputable def t_rright : Con := fun args regs => nfun Tryz.prog GL (fun _ => Option.none) [] Tryz.f131 args regs
theorem k_rright : Known Tryz.prog GL 131 t_rright := known_inl Tryz.func131 rfl (by kernel_rfl) mixed con_none (by kernel_rfl)
noncomputable def c_rplaced : FuncId → Option Con := conOf [(133, tRPut)]
theorem kc_rplaced : ∀ f T, c_rplaced f = some T → Known Tryz.prog GL f T := (Knowns.cons (known_gl kRPut) .nil).get
noncomputable def t_rplaced : Con := fun args regs => nfun Tryz.prog GL c_rplaced [] Tryz.f132 args regs
theorem k_rplaced : Known Tryz.prog GL 132 t_rplaced := known_inl Tryz.func132 rfl (by kernel_rfl) mixed kc_rplaced (by kernel_rfl)
noncomputable def c_rpacked : FuncId → Option Con := conOf [(133, tRPut)]
theorem kc_rpacked : ∀ f T, c_rpacked f = some T → Known Tryz.prog GL f T := (Knowns.cons (known_gl kRPut) .nil).get
noncomputable def t_rpacked : Con := fun args regs => nfun Tryz.prog GL c_rpacked [] Tryz.f61 args regs
theorem k_rpacked : Known Tryz.prog GL 61 t_rpacked := known_inl Tryz.func61 rfl (by kernel_rfl) mixed kc_rpacked (by kernel_rfl)
end Go.Proofs.YtlfmkacafppmlaaGreatDoor.ls
namespace Go.Proofs.YtlfmkacafppmlaaGreatDoor.ls
open Go Go.Nx Go.Proofs.YtlfmkacafppmlaaGreatDoor.pk Go.Proofs.YtlfmkacafppmlaaGreatDoor.ln Go.Proofs.YtlfmkacafppmlaaGreatDoor.hd Go.Proofs.YtlfmkacafppmlaaGreatDoor.lb
theorem step_and {a b : Bool} {A B : Prop} (h : sel (a && b) A B) {C : Prop} (hC : a = true → sel b A B → C) : sel (!a) B C := by
  cases a with
  | true => exact selF rfl (hC rfl h)
  | false => exact selT rfl h
theorem last_and {a : Bool} {A B C : Prop} (h : sel a A B) (hC : a = true → A → C) : sel (!a) B C := by
  cases a with
  | true => exact selF rfl (hC rfl h)
  | false => exact selT rfl h
noncomputable def rightB (m p s : Int) : Bool := decide (m ≥ 1) && (decide (m ≤ 8) && (decide (p ≥ 0) && (decide (p ≤ 255) && (decide (s ≥ 0) && (bits .andNot .i64 s 16255 == 0)))))
theorem right_tree (m p s : Int) (R : Out → Prop) : (t_rright [.ag [.i .i64 m, .i .i64 p, .i .i64 s]] []).run R =
    sel (decide (m ≥ 1)) (sel (decide (m ≤ 8)) (sel (decide (p ≥ 0)) (sel (decide (p ≤ 255)) (sel (decide (s ≥ 0)) (R (oB (bits .andNot .i64 s 16255 == 0))) (R (oB false))) (R (oB false))) (R (oB false))) (R (oB false))) (R (oB false)) := by kernel_rfl
noncomputable def tRright : Con := fun args regs => match args, regs with
  | [.ag [.i .i64 m, .i .i64 p, .i .i64 s]], [] => .ret (oB (rightB m p s))
  | _, _ => .fail
set_option maxRecDepth 100000 in
theorem kRright : Known Tryz.prog GL 131 tRright := by
  refine k_rright.less fun args regs R h => Box.out ?_
  unfold tRright at h
  split at h
  case h_2 => exact h.elim
  rename_i m p s
  have h2 : R (oB (rightB m p s)) := h
  clear h
  refine Box.of_eq (right_tree m p s R) ?_
  have a1 := sel_and (R := fun b => R (oB b)) h2
  exact sel_thn a1 fun a1 => sel_thn (sel_and (R := fun b => R (oB b)) a1) fun a1 => sel_thn (sel_and (R := fun b => R (oB b)) a1) fun a1 => sel_thn (sel_and (R := fun b => R (oB b)) a1) fun a1 => sel_and (R := fun b => R (oB b)) a1
noncomputable def plN (p s b : Int) : List Int := [put (aI p 15), put (shrv .i64 p 4), put (aI s 15), put (nb3 s (aI b 1)), put (nb4 s), put (nb5 s (shrv .i64 b 1))]
def in16 (n : Int) : Prop := 0 ≤ n ∧ n < 16
theorem placed_tree (p s b : Int) (R : Out → Prop) : (t_rplaced [.c (.i .i64 p), .c (.i .i64 s), .c (.i .i64 b)] []).run R =
    (in16 (aI p 15) ∧ (in16 (shrv .i64 p 4) ∧ (in16 (aI s 15) ∧ (in16 (nb3 s (aI b 1)) ∧ (in16 (nb4 s) ∧ (in16 (nb5 s (shrv .i64 b 1)) ∧ R ⟨.v (.c (.h 0 0 6)), [some ⟨1, 5, .ints .u8 (plN p s b)⟩]⟩)))))) := by kernel_rfl
noncomputable def tRplaced : Con := fun args regs => match args, regs with
  | [.c (.i .i64 p), .c (.i .i64 s), .c (.i .i64 b)], [] => .must (0 ≤ p ∧ p ≤ 255 ∧ 0 ≤ b ∧ b < 8) (.ret ⟨.v (.c (.h 0 0 6)), [some ⟨1, 5, .ints .u8 (plN p s b)⟩]⟩)
  | _, _ => .fail
set_option maxRecDepth 100000 in
theorem kRplaced : Known Tryz.prog GL 132 tRplaced := by
  refine k_rplaced.less fun args regs R h => Box.out ?_
  unfold tRplaced at h
  split at h
  case h_2 => exact h.elim
  rename_i p s b
  have h1 := h.1
  have h2 := h.2
  clear h
  refine Box.of_eq (placed_tree p s b R) ⟨?_, ?_, ?_, ?_, ?_, ?_, h2⟩
  · rw [aI_15]; exact ⟨by omega, by omega⟩
  · rw [sh_4]; exact ⟨by omega, by omega⟩
  · rw [aI_15]; exact ⟨by omega, by omega⟩
  · rw [aI_1, nb3_eq _ _ (by omega)]; exact ⟨by omega, by omega⟩
  · rw [nb4_eq]; exact ⟨by omega, by omega⟩
  · rw [sh_1, nb5_eq _ _ (by omega)]; exact ⟨by omega, by omega⟩
noncomputable def c_rlbytes : FuncId → Option Con := conOf [(133, tRPut), (131, tRright), (132, tRplaced), (61, t_rpacked)]
theorem kc_rlbytes : ∀ f T, c_rlbytes f = some T → Known Tryz.prog GL f T := (Knowns.cons (known_gl kRPut) (.cons kRright (.cons kRplaced (.cons k_rpacked .nil)))).get
noncomputable def X_rlbytes : Cx := { P := Tryz.prog, con := c_rlbytes, glob := GL, m := 0, loops := [] }
noncomputable def t_rlbytes : Con := fun args regs => if regs.length = 0 then nfun Tryz.prog GL c_rlbytes [(0, [0, 3, 6, 10, 11], unroll X_rlbytes 0 [0, 3, 6, 10, 11] [0, 3, 8, 9, 10] (bodyLoop Tryz.f64 0) 7)] Tryz.f64 args regs else .fail
theorem k_rlbytes : Known Tryz.prog GL 64 t_rlbytes := known_loops 0 Tryz.func64 rfl (by kernel_rfl) mixed kc_rlbytes (LAll.one (id := 0) (body := bodyLoop Tryz.f64 0) (by kernel_rfl) rfl (unroll_ok (X := X_rlbytes) kc_rlbytes mixed (LAll.none (by kernel_rfl)) [0, 3, 6, 10, 11] [0, 3, 8, 9, 10] 7))
def oRE : Out := ⟨.tu [.c .sn, .c (.i .i64 101)], []⟩
noncomputable def rbt (mag m : Int) : Int := bits .xor .i64 (mag.tmod 8) (m.tmod 8)
noncomputable def radr (mag : Int) : Int := bits .or .i64 (mag.tmod 8) 8
noncomputable def rlN (mag code ctl m0 p0 s0 m1 p1 s1 m2 p2 s2 m3 p3 s3 m4 p4 s4 m5 p5 s5 : Int) : List Int := put code :: (plN p0 s0 (rbt mag m0) ++ (plN p1 s1 (rbt mag m1) ++ (plN p2 s2 (rbt mag m2) ++ (plN p3 s3 (rbt mag m3) ++ (plN p4 s4 (rbt mag m4) ++ (plN p5 s5 (rbt mag m5) ++ [put ctl, 0, 0]))))))
theorem rlbytes_tree (mag code ctl m0 p0 s0 m1 p1 s1 m2 p2 s2 m3 p3 s3 m4 p4 s4 m5 p5 s5 : Int) (R : Out → Prop) : (t_rlbytes [.c (.i .i64 mag), .c (.i .i64 code), .ag [.i .i64 m0, .i .i64 p0, .i .i64 s0, .i .i64 m1, .i .i64 p1, .i .i64 s1, .i .i64 m2, .i .i64 p2, .i .i64 s2, .i .i64 m3, .i .i64 p3, .i .i64 s3, .i .i64 m4, .i .i64 p4, .i .i64 s4, .i .i64 m5, .i .i64 p5, .i .i64 s5], .c (.i .i64 ctl)] []).run R =
    sel (decide (mag < 1)) (R oRE) (sel (decide (mag > 8)) (R oRE) (sel (decide (code < 0)) (R oRE) (sel (decide (code > 3)) (R oRE) (sel (decide (ctl < 0)) (R oRE) (sel (decide (ctl > 15)) (R oRE) (in16 code ∧ (sel (!rightB m0 p0 s0) (R oRE) ((0 ≤ p0 ∧ p0 ≤ 255 ∧ 0 ≤ rbt mag m0 ∧ rbt mag m0 < 8) ∧ (sel (!rightB m1 p1 s1) (R oRE) ((0 ≤ p1 ∧ p1 ≤ 255 ∧ 0 ≤ rbt mag m1 ∧ rbt mag m1 < 8) ∧ (sel (!rightB m2 p2 s2) (R oRE) ((0 ≤ p2 ∧ p2 ≤ 255 ∧ 0 ≤ rbt mag m2 ∧ rbt mag m2 < 8) ∧ (sel (!rightB m3 p3 s3) (R oRE) ((0 ≤ p3 ∧ p3 ≤ 255 ∧ 0 ≤ rbt mag m3 ∧ rbt mag m3 < 8) ∧ (sel (!rightB m4 p4 s4) (R oRE) ((0 ≤ p4 ∧ p4 ≤ 255 ∧ 0 ≤ rbt mag m4 ∧ rbt mag m4 < 8) ∧ (sel (!rightB m5 p5 s5) (R oRE) ((0 ≤ p5 ∧ p5 ≤ 255 ∧ 0 ≤ rbt mag m5 ∧ rbt mag m5 < 8) ∧ (in16 ctl ∧ (in16 (radr mag) ∧ (in16 13 ∧ R ⟨.tu [.c (.h 0 0 42), .c (.i .i64 0)], [some ⟨1, 5, .ints .u8 (put (radr mag) :: put 13 :: rlN mag code ctl m0 p0 s0 m1 p1 s1 m2 p2 s2 m3 p3 s3 m4 p4 s4 m5 p5 s5)⟩]⟩))))))))))))))))))))) := by kernel_rfl
end Go.Proofs.YtlfmkacafppmlaaGreatDoor.ls
namespace Go.Proofs.YtlfmkacafppmlaaGreatDoor.ls
open Go Go.Nx Go.Proofs.YtlfmkacafppmlaaGreatDoor.pk Go.Proofs.YtlfmkacafppmlaaGreatDoor.ln Go.Proofs.YtlfmkacafppmlaaGreatDoor.hd Go.Proofs.YtlfmkacafppmlaaGreatDoor.lb
noncomputable def okR (mag code ctl m0 p0 s0 m1 p1 s1 m2 p2 s2 m3 p3 s3 m4 p4 s4 m5 p5 s5 : Int) : Bool := decide (1 ≤ mag ∧ mag ≤ 8 ∧ 0 ≤ code ∧ code ≤ 3 ∧ 0 ≤ ctl ∧ ctl ≤ 15) && (rightB m0 p0 s0 && (rightB m1 p1 s1 && (rightB m2 p2 s2 && (rightB m3 p3 s3 && (rightB m4 p4 s4 && (rightB m5 p5 s5))))))
noncomputable def oRB (mag code ctl m0 p0 s0 m1 p1 s1 m2 p2 s2 m3 p3 s3 m4 p4 s4 m5 p5 s5 : Int) : Out := ⟨.tu [.c (.h 0 0 42), .c (.i .i64 0)], [some ⟨1, 5, .ints .u8 (put (radr mag) :: put 13 :: rlN mag code ctl m0 p0 s0 m1 p1 s1 m2 p2 s2 m3 p3 s3 m4 p4 s4 m5 p5 s5)⟩]⟩
noncomputable def tRLB : Con := fun args regs => match args, regs with
  | [.c (.i .i64 mag), .c (.i .i64 code), .ag [.i .i64 m0, .i .i64 p0, .i .i64 s0, .i .i64 m1, .i .i64 p1, .i .i64 s1, .i .i64 m2, .i .i64 p2, .i .i64 s2, .i .i64 m3, .i .i64 p3, .i .i64 s3, .i .i64 m4, .i .i64 p4, .i .i64 s4, .i .i64 m5, .i .i64 p5, .i .i64 s5], .c (.i .i64 ctl)], [] => .br (okR mag code ctl m0 p0 s0 m1 p1 s1 m2 p2 s2 m3 p3 s3 m4 p4 s4 m5 p5 s5) (.ret (oRB mag code ctl m0 p0 s0 m1 p1 s1 m2 p2 s2 m3 p3 s3 m4 p4 s4 m5 p5 s5)) (.ret oRE)
  | _, _ => .fail
theorem xM_in (mg m : Int) : 0 ≤ xM mg m ∧ xM mg m < 8 := by
  have e : xM mg m = bits .xor .i64 mg m % 8 := and_mask64 _ 3 (by decide)
  rw [e]
  omega
theorem rbt_all : ∀ g < 8, ∀ m < 8, rbt (Int.ofNat g + 1) (Int.ofNat m + 1) = xM (Int.ofNat g + 1) (Int.ofNat m + 1) := by decide +kernel
theorem rbt_eq (mg m : Int) (hg : 1 ≤ mg ∧ mg ≤ 8) (hm : 1 ≤ m ∧ m ≤ 8) : rbt mg m = xM mg m := by
  have := rbt_all (mg - 1).toNat (by omega) (m - 1).toNat (by omega)
  have e1 : Int.ofNat (mg - 1).toNat + 1 = mg := by show (((mg - 1).toNat : Nat) : Int) + 1 = mg; omega
  have e2 : Int.ofNat (m - 1).toNat + 1 = m := by show (((m - 1).toNat : Nat) : Int) + 1 = m; omega
  rwa [e1, e2] at this
theorem radr_all : ∀ g < 8, 0 ≤ radr (Int.ofNat g + 1) ∧ radr (Int.ofNat g + 1) < 16 ∧ put (radr (Int.ofNat g + 1)) = adr0 (Int.ofNat g + 1) 27 := by decide +kernel
theorem radr_in (mg : Int) (hg : 1 ≤ mg ∧ mg ≤ 8) : in16 (radr mg) ∧ put (radr mg) = adr0 mg 27 := by
  have := radr_all (mg - 1).toNat (by omega)
  have e1 : Int.ofNat (mg - 1).toNat + 1 = mg := by show (((mg - 1).toNat : Nat) : Int) + 1 = mg; omega
  rw [e1] at this
  exact ⟨⟨this.1, this.2.1⟩, this.2.2⟩
theorem right_in {m p s : Int} (h : rightB m p s = true) : (1 ≤ m ∧ m ≤ 8) ∧ (0 ≤ p ∧ p ≤ 255) := by
  unfold rightB at h
  simp only [Bool.and_eq_true, decide_eq_true_eq] at h
  omega
theorem rb_in {mag m p s : Int} (hm : 1 ≤ mag ∧ mag ≤ 8) (h : rightB m p s = true) : 0 ≤ p ∧ p ≤ 255 ∧ 0 ≤ rbt mag m ∧ rbt mag m < 8 := by
  have hr := right_in h
  rw [rbt_eq mag m hm hr.1]
  have hx := xM_in mag m
  omega
theorem rlb_in {mag code ctl m0 p0 s0 m1 p1 s1 m2 p2 s2 m3 p3 s3 m4 p4 s4 m5 p5 s5 : Int} {R : Out → Prop} (h : sel (okR mag code ctl m0 p0 s0 m1 p1 s1 m2 p2 s2 m3 p3 s3 m4 p4 s4 m5 p5 s5) (R (oRB mag code ctl m0 p0 s0 m1 p1 s1 m2 p2 s2 m3 p3 s3 m4 p4 s4 m5 p5 s5)) (R oRE)) : Box ((t_rlbytes [.c (.i .i64 mag), .c (.i .i64 code), .ag [.i .i64 m0, .i .i64 p0, .i .i64 s0, .i .i64 m1, .i .i64 p1, .i .i64 s1, .i .i64 m2, .i .i64 p2, .i .i64 s2, .i .i64 m3, .i .i64 p3, .i .i64 s3, .i .i64 m4, .i .i64 p4, .i .i64 s4, .i .i64 m5, .i .i64 p5, .i .i64 s5], .c (.i .i64 ctl)] []).run R) := by
  refine Box.of_eq (rlbytes_tree mag code ctl m0 p0 s0 m1 p1 s1 m2 p2 s2 m3 p3 s3 m4 p4 s4 m5 p5 s5 R) ?_
  unfold okR at h
  by_cases hc : 1 ≤ mag ∧ mag ≤ 8 ∧ 0 ≤ code ∧ code ≤ 3 ∧ 0 ≤ ctl ∧ ctl ≤ 15
  · rw [dT hc, Bool.true_and] at h
    have hm : 1 ≤ mag ∧ mag ≤ 8 := ⟨hc.1, hc.2.1⟩
    refine selF (dF (by omega)) (selF (dF (by omega)) (selF (dF (by omega)) (selF (dF (by omega)) (selF (dF (by omega)) (selF (dF (by omega)) ⟨⟨by omega, by omega⟩, ?_⟩)))))
    exact step_and h fun hr h => ⟨rb_in hm hr, step_and h fun hr h => ⟨rb_in hm hr, step_and h fun hr h => ⟨rb_in hm hr, step_and h fun hr h => ⟨rb_in hm hr, step_and h fun hr h => ⟨rb_in hm hr, last_and h fun hr h => ⟨rb_in hm hr, ⟨by omega, by omega⟩, (radr_in mag hm).1, ⟨by decide, by decide⟩, h⟩⟩⟩⟩⟩⟩
  · rw [dF hc, Bool.false_and] at h
    have h : R oRE := h
    refine sel_by (fun _ => h) fun h1 => sel_by (fun _ => h) fun h2 => sel_by (fun _ => h) fun h3 => sel_by (fun _ => h) fun h4 => sel_by (fun _ => h) fun h5 => sel_by (fun _ => h) fun h6 => ?_
    exact (hc ⟨by omega, by omega, by omega, by omega, by omega, by omega⟩).elim
set_option maxRecDepth 100000 in
theorem kRLB : Known Tryz.prog GL 64 tRLB := by
  refine k_rlbytes.less fun args regs R h => Box.out ?_
  unfold tRLB at h
  split at h
  case h_2 => exact h.elim
  exact rlb_in h
end Go.Proofs.YtlfmkacafppmlaaGreatDoor.ls
namespace Go.Proofs.YtlfmkacafppmlaaGreatDoor.sv
open Go Go.Nx Go.Proofs.YtlfmkacafppmlaaGreatDoor.pk Go.Proofs.YtlfmkacafppmlaaGreatDoor.ln Go.Proofs.YtlfmkacafppmlaaGreatDoor.hd Go.Proofs.YtlfmkacafppmlaaGreatDoor.lb
theorem byT {x : Int} (h : 0 ≤ x ∧ x < 256) : ∃ m, m < 256 ∧ x = Int.ofNat m := ⟨x.toNat, by omega, by show x = ((x.toNat : Nat) : Int); omega⟩
noncomputable def c_rodd : FuncId → Option Con := conOf [(194, ones.tOnes)]
theorem kc_rodd : ∀ f T, c_rodd f = some T → Known Tryz.prog GL f T := (Knowns.cons (known_gl ones.kOnes) .nil).get
noncomputable def t_rodd : Con := fun args regs => nfun Tryz.prog GL c_rodd [] Tryz.f195 args regs
theorem k_rodd : Known Tryz.prog GL 195 t_rodd := known_inl Tryz.func195 rfl (by kernel_rfl) mixed kc_rodd (by kernel_rfl)
theorem rodd_tree (b : Int) (R : Out → Prop) : (t_rodd [.c (.i .u8 b)] []).run R = ((0 ≤ IntKind.i64.wrap b ∧ IntKind.i64.wrap b < 9223372036854775808) ∧ R (oB ((ones.bl (IntKind.i64.wrap b).toNat : Int).tmod 2 == 1))) := by kernel_rfl
theorem rodd_all : ∀ m < 256, ones.par m 8 = odd (Int.ofNat m) := by decide +kernel
noncomputable def tROdd : Con := fun args regs => match args, regs with
  | [.c (.i .u8 b)], [] => .must (0 ≤ b ∧ b < 256) (.ret (oB (odd b)))
  | _, _ => .fail
theorem rodd_in {b : Int} (h : 0 ≤ b ∧ b < 256) : ((ones.bl (IntKind.i64.wrap b).toNat : Int).tmod 2 == 1) = odd b := by
  obtain ⟨m, hm, rfl⟩ := byT h
  have hw : IntKind.i64.wrap (Int.ofNat m) = Int.ofNat m := by rw [IntKind.wrap_i64]; show ((m : Int) + _) % _ - _ = (m : Int); omega
  rw [hw, show (Int.ofNat m).toNat = m from rfl, ← rodd_all m hm]
  have hp := ones.bl_par 8 m (by omega)
  rw [Int.tmod_eq_emod_of_nonneg (by omega)]
  cases h2 : ones.par m 8 with
  | true =>
    rw [h2] at hp
    have hp : ones.bl m % 2 = 1 := hp
    rw [beq_iff_eq]
    omega
  | false =>
    rw [h2] at hp
    have hp : ones.bl m % 2 = 0 := hp
    rw [beq_eq_false_iff_ne]
    omega
set_option maxRecDepth 100000 in
theorem kROdd : Known Tryz.prog GL 195 tROdd := by
  refine k_rodd.less fun args regs R h => Box.out ?_
  unfold tROdd at h
  split at h
  case h_2 => exact h.elim
  rename_i b
  have h1 := h.1
  have h2 : R (oB (odd b)) := h.2
  clear h
  refine Box.of_eq (rodd_tree b R) ⟨?_, by rw [rodd_in h1]; exact h2⟩
  rw [IntKind.wrap_i64]
  omega
noncomputable def c_rmk : FuncId → Option Con := conOf [(195, tROdd)]
theorem kc_rmk : ∀ f T, c_rmk f = some T → Known Tryz.prog GL f T := (Knowns.cons kROdd .nil).get
noncomputable def t_rmk : Con := fun args regs => nfun Tryz.prog GL c_rmk [] Tryz.f134 args regs
theorem k_rmk : Known Tryz.prog GL 134 t_rmk := known_inl Tryz.func134 rfl (by kernel_rfl) mixed kc_rmk (by kernel_rfl)
theorem rmk_tree (c : Int) (R : Out → Prop) : (t_rmk [.c (.i .u8 c)] []).run R = ((0 ≤ aU c 127 ∧ aU c 127 < 256) ∧ sel (odd (aU c 127)) (R ⟨.v (.c (.i .u8 (aU c 127))), []⟩) (R ⟨.v (.c (.i .u8 (oU (aU c 127) 128))), []⟩)) := by kernel_rfl
set_option maxRecDepth 100000 in
theorem kRMkO : Known Tryz.prog GL 134 tMkO := by
  refine k_rmk.less fun args regs R h => Box.out ?_
  unfold tMkO at h
  split at h
  case h_2 => exact h.elim
  rename_i c
  have h2 : R ⟨.v (.c (.i .u8 (mkO c))), []⟩ := h
  clear h
  refine Box.of_eq (rmk_tree c R) ⟨aU_in _ _, ?_⟩
  unfold mkO at h2
  cases hc : odd (aU c 127) with
  | true => rw [hc] at h2; exact selT rfl h2
  | false => rw [hc] at h2; exact selF rfl h2
noncomputable def X_rturn : Cx := { P := Tryz.prog, con := (fun _ => Option.none), glob := GL, m := 0, loops := [] }
noncomputable def t_rturn : Con := fun args regs => if regs.length = 0 then nfun Tryz.prog GL (fun _ => Option.none) [(0, [0, 3, 4], unroll X_rturn 0 [0, 3, 4] [3] (bodyLoop Tryz.f137 0) 9)] Tryz.f137 args regs else .fail
theorem k_rturn : Known Tryz.prog GL 137 t_rturn := known_loops 0 Tryz.func137 rfl (by kernel_rfl) mixed con_none (LAll.one (id := 0) (body := bodyLoop Tryz.f137 0) (by kernel_rfl) rfl (unroll_ok (X := X_rturn) con_none mixed (LAll.none (by kernel_rfl)) [0, 3, 4] [3] 9))
noncomputable def rvE (b : Int) : Int := oU (oU (oU (oU (oU (oU (oU (oU (0) (shlv .u8 (aU (shrv .u8 b 0) 1) 7)) (shlv .u8 (aU (shrv .u8 b 1) 1) 6)) (shlv .u8 (aU (shrv .u8 b 2) 1) 5)) (shlv .u8 (aU (shrv .u8 b 3) 1) 4)) (shlv .u8 (aU (shrv .u8 b 4) 1) 3)) (shlv .u8 (aU (shrv .u8 b 5) 1) 2)) (shlv .u8 (aU (shrv .u8 b 6) 1) 1)) (shlv .u8 (aU (shrv .u8 b 7) 1) 0)
theorem rturn_tree (b : Int) (R : Out → Prop) : (t_rturn [.c (.i .u8 b)] []).run R = R ⟨.v (.c (.i .u8 (rvE b))), []⟩ := by kernel_rfl
theorem rvE_all : ∀ m < 256, rvE (Int.ofNat m) = rv (Int.ofNat m) := by decide +kernel
set_option maxRecDepth 100000 in
theorem kRTurn : Known Tryz.prog GL 137 tTurn := by
  refine k_rturn.less fun args regs R h => Box.out ?_
  unfold tTurn at h
  split at h
  case h_2 => exact h.elim
  rename_i b
  have h1 := h.1
  have h2 : R ⟨.v (.c (.i .u8 (rv b))), []⟩ := h.2
  clear h
  refine Box.of_eq (rturn_tree b R) ?_
  obtain ⟨m, hm, rfl⟩ := byT h1
  rw [rvE_all m hm]
  exact h2
noncomputable def t_rtwo : Con := fun args regs => nfun Tryz.prog GL (fun _ => Option.none) [] Tryz.f138 args regs
theorem k_rtwo : Known Tryz.prog GL 138 t_rtwo := known_inl Tryz.func138 rfl (by kernel_rfl) mixed con_none (by kernel_rfl)
noncomputable def twoR (x : Int) : Int := u8i (IntKind.i64.wrap (bits .or .i64 (shlv .i64 (IntKind.i64.wrap ((IntKind.i64.wrap (x.tdiv 10)).tmod 10 + 1)) 4) (x.tmod 10) + 1))
noncomputable def rIf (a b e n o d h m s : Int) (z : ByteArray) : Option Reg := some ⟨10, 69, .cells (infC a b e n o d h m s z)⟩
noncomputable abbrev fIB := Tryz.f65
noncomputable def c_ib : FuncId → Option Con := conOf [(134, tMkO)]
theorem kc_ib : ∀ f T, c_ib f = some T → Known Tryz.prog GL f T := (Knowns.cons kRMkO .nil).get
noncomputable def X_ib : Cx := { P := Tryz.prog, con := c_ib, glob := GL, m := 0, loops := [] }
noncomputable def rIu (A : List Int) : Option Reg := some ⟨1, 5, .ints .u8 A⟩
noncomputable def sIb (a b e n o d h m s : Int) (z : ByteArray) (A : List Int) (q : Nat) (k : Int) : St := { fr := frame 167 [(1, .v (.c (.p 0 0 0))), (5, .v (.c (.h 1 0 q))), (6, .v (.c (.i .i64 k)))], rg := [rIf a b e n o d h m s z, rIu A] }
noncomputable def dIb (A : List Int) (q : Nat) : St := { fr := frame 167 [(5, .v (.c (.h 0 0 q)))], rg := [rIu A] }
noncomputable def xIb (A : List Int) (q : Nat) : St := { fr := frame 167 [(2, .v (.c .sn)), (3, .v (.c (.i .i64 101))), (5, .v (.c (.h 0 0 q)))], rg := [rIu A] }
noncomputable def signI (a b e n o d h m s : Int) (z : ByteArray) (A : List Int) (q : Nat) (k c : Int) (R : RO → Prop) : Prop := sel (decide (c < 32)) (R (.done .ret (xIb A q))) (sel (decide (c > 127)) (R (.done .ret (xIb A q))) (appS q A (R (.next (sIb a b e n o d h m s z (List.take q (List.drop 0 A) ++ [mkO c]) (q + 1) (IntKind.i64.wrap (k + 1)))))))
theorem round_ib (a b e n o d h m s : Int) (z : ByteArray) (A : List Int) (q : Nat) (k : Int) (R : RO → Prop) : (roundT X_ib 0 [1, 5, 6] [2, 3, 5] (bodyLoop fIB 0) (sIb a b e n o d h m s z A q k)).run R =
    sel (decide (k < 20)) (sel (decide (k < (z.size : Int))) (sel (decide (0 ≤ k)) (sel (decide (k < (z.size : Int))) (signI a b e n o d h m s z A q k (byteAt z k.toNat) R) False) False) (signI a b e n o d h m s z A q k 32 R)) (R (.done .normal (dIb A q))) := by kernel_rfl
noncomputable def sgs (z : ByteArray) (k r : Nat) : List Int := (List.range r).map fun j => mkO (txc z (k + j))
theorem sgs_cons (z : ByteArray) (k r : Nat) : sgs z k (r + 1) = mkO (txc z k) :: sgs z (k + 1) r := by
  unfold sgs
  rw [List.range_succ_eq_map, List.map_cons, List.map_map]
  congr 1
  refine List.map_congr_left fun j _ => ?_
  show mkO (txc z (k + (j + 1))) = mkO (txc z (k + 1 + j))
  rw [show k + (j + 1) = k + 1 + j by omega]
theorem fst_ge (z : ByteArray) : ∀ (r k : Nat), (fst z r k).isNone = false → k ≤ (fst z r k).getD 0
  | 0, _, h => by cases h
  | r + 1, k, h => by
    have e : fst z (r + 1) k = bif badz z k then some k else fst z r (k + 1) := rfl
    rw [e] at h ⊢
    cases hb : badz z k with
    | true => exact Nat.le_refl _
    | false =>
      rw [hb] at h
      have := fst_ge z r (k + 1) h
      show k ≤ (fst z r (k + 1)).getD 0
      omega
noncomputable def pIb : List Pat := pats 167 [(1, .p 0 0 0), (5, .h 1 0), (6, .i .i64)]
def rIbp : List RPat := [.cells 10 69 [.i .i64, .i .i64, .i .i64, .i .i64, .i .i64, .i .i64, .i .i64, .i .i64, .i .i64, .s], .ints 1 5 .u8]
noncomputable def lIb : List Leaf × List (List Leaf) → Tr (NExit × St) := fun x => match x with
  | ([.n q, .i k], [[.i _, .i _, .i _, .i _, .i _, .i _, .i _, .i _, .i _, .s z], [.l A]]) => .must (A.length = q ∧ (q : Int) < 1000 + k ∧ 0 ≤ k ∧ k ≤ 20) (.br (fst z (20 - k.toNat) k.toNat).isNone (.ret (.normal, dIb (A ++ sgs z k.toNat (20 - k.toNat)) (q + (20 - k.toNat)))) (.ret (.ret, xIb (A ++ sgs z k.toNat ((fst z (20 - k.toNat) k.toNat).getD 0 - k.toNat)) (q + ((fst z (20 - k.toNat) k.toNat).getD 0 - k.toNat)))))
  | _ => .fail
def muIb : List Leaf × List (List Leaf) → Nat := fun x => match x with
  | ([.n _, .i k], _) => (20 - k).toNat
  | _ => 0
theorem mk_ib (a b e n o d h m s : Int) (z : ByteArray) (A : List Int) (q : Nat) (k : Int) : mkSt pIb rIbp ([.n q, .i k], [[.i a, .i b, .i e, .i n, .i o, .i d, .i h, .i m, .i s, .s z], [.l A]]) = sIb a b e n o d h m s z A q k := by kernel_rfl
noncomputable def outI (z : ByteArray) (A : List Int) (q k : Nat) (R : NExit × St → Prop) : Prop := sel (fst z (20 - k) k).isNone (R (.normal, dIb (A ++ sgs z k (20 - k)) (q + (20 - k)))) (R (.ret, xIb (A ++ sgs z k ((fst z (20 - k) k).getD 0 - k)) (q + ((fst z (20 - k) k).getD 0 - k))))
def mIb (A : List Int) (q : Nat) (k : Int) : Prop := A.length = q ∧ (q : Int) < 1000 + k ∧ 0 ≤ k ∧ k ≤ 20
set_option maxRecDepth 100000 in
theorem lIb_inv {x : List Leaf × List (List Leaf)} {R : NExit × St → Prop} (hx : (lIb x).run R) : ∃ (a b e n o d h m s : Int) (z : ByteArray) (A : List Int) (q : Nat) (k : Int), x = ([.n q, .i k], [[.i a, .i b, .i e, .i n, .i o, .i d, .i h, .i m, .i s, .s z], [.l A]]) ∧ mIb A q k ∧ outI z A q k.toNat R := by
  unfold lIb at hx
  split at hx
  case h_2 => exact hx.elim
  exact ⟨_, _, _, _, _, _, _, _, _, _, _, _, _, rfl, hx.1, hx.2⟩
theorem step_ib {z : ByteArray} {A : List Int} {q k : Nat} {R : NExit × St → Prop} (hk : k < 20) (h : outI z A q k R) : (badz z k = true → R (.ret, xIb A q)) ∧ (badz z k = false → outI z (A ++ [mkO (txc z k)]) (q + 1) (k + 1) R) := by
  unfold outI at h
  obtain ⟨r, hr⟩ : ∃ r, 20 - k = r + 1 := ⟨20 - k - 1, by omega⟩
  have er : 20 - (k + 1) = r := by omega
  rw [hr] at h
  have eu : fst z (r + 1) k = bif badz z k then some k else fst z r (k + 1) := rfl
  rw [eu] at h
  refine ⟨fun hb => ?_, fun hb => ?_⟩
  · rw [hb] at h
    have h : R (.ret, xIb (A ++ sgs z k (k - k)) (q + (k - k))) := h
    rw [Nat.sub_self] at h
    have e : A ++ sgs z k 0 = A := List.append_nil A
    rw [e] at h
    exact h
  · rw [hb] at h
    have h : sel (fst z r (k + 1)).isNone (R (.normal, dIb (A ++ sgs z k (r + 1)) (q + (r + 1)))) (R (.ret, xIb (A ++ sgs z k ((fst z r (k + 1)).getD 0 - k)) (q + ((fst z r (k + 1)).getD 0 - k)))) := h
    unfold outI
    rw [er]
    cases hn : (fst z r (k + 1)).isNone with
    | true =>
      rw [hn] at h
      have h : R (.normal, dIb (A ++ sgs z k (r + 1)) (q + (r + 1))) := h
      rw [sgs_cons] at h
      refine selT rfl ?_
      rw [List.append_assoc, show q + 1 + r = q + (r + 1) by omega]
      exact h
    | false =>
      rw [hn] at h
      have hg := fst_ge z r (k + 1) hn
      have h : R (.ret, xIb (A ++ sgs z k ((fst z r (k + 1)).getD 0 - k)) (q + ((fst z r (k + 1)).getD 0 - k))) := h
      generalize (fst z r (k + 1)).getD 0 = j at h hg
      obtain ⟨t, ht⟩ : ∃ t, j - k = t + 1 := ⟨j - k - 1, by omega⟩
      rw [ht, sgs_cons] at h
      refine selF rfl ?_
      rw [show j - (k + 1) = t by omega, List.append_assoc, show q + 1 + t = q + (t + 1) by omega]
      exact h
set_option maxRecDepth 100000 in
theorem loop_ib : LOk Tryz.prog GL 0 0 (bodyLoop fIB 0) (sumP pIb rIbp lIb) := by
  refine sumP_ok (X := X_ib) kc_ib mixed (LAll.none (by kernel_rfl)) [1, 5, 6] [2, 3, 5] _ _ _ muIb ?_
  intro x R hx
  obtain ⟨a, b, e, n, o, d, h, m, s, z, A, q, k, rfl, h1, h2⟩ := lIb_inv hx
  clear hx
  have hA := h1.1
  have hq := h1.2.1
  have hk0 := h1.2.2.1
  have hk := h1.2.2.2
  clear h1
  rw [mk_ib, round_ib]
  refine sel_by (fun hlt => ?_) fun hge => ?_
  · have w2 : IntKind.i64.wrap (k + 1) = k + 1 := by rw [IntKind.wrap_i64]; omega
    have ekn : (k + 1).toNat = k.toNat + 1 := by omega
    obtain ⟨hb, hg⟩ := step_ib (k := k.toNat) (by omega) h2
    have ea : List.take q (List.drop 0 A) = A := by rw [List.drop_zero, List.take_of_length_le (by omega)]
    have go : badz z k.toNat = false → ∃ y, sIb a b e n o d h m s z (List.take q (List.drop 0 A) ++ [mkO (txc z k.toNat)]) (q + 1) (IntKind.i64.wrap (k + 1)) = mkSt pIb rIbp y ∧ muIb y < muIb ([.n q, .i k], [[.i a, .i b, .i e, .i n, .i o, .i d, .i h, .i m, .i s, .s z], [.l A]]) ∧ (lIb y).run R := fun hc => by
      rw [ea, w2]
      refine ⟨([.n (q + 1), .i (k + 1)], [[.i a, .i b, .i e, .i n, .i o, .i d, .i h, .i m, .i s, .s z], [.l (A ++ [mkO (txc z k.toNat)])]]), (mk_ib ..).symm, by show (20 - (k + 1)).toNat < (20 - k).toNat; omega, ⟨by rw [List.length_append]; show A.length + 1 = q + 1; omega, ?_, by omega, by omega⟩, ?_⟩
      · omega
      · have := hg hc
        rw [← ekn] at this
        exact this
    have app : ∀ X : Prop, X → appS q A X := fun X hX => selT (dT (by omega)) (selT (dT (by omega)) (selT (dT (by omega)) hX))
    refine sel_by (fun hz => selT (dT hk0) (selT (dT hz) ?_)) fun hz => ?_
    · have ez : txc z k.toNat = byteAt z k.toNat := by unfold txc; rw [dT (by omega)]; rfl
      unfold badz at hb go
      rw [ez] at hb go
      exact bad_in hb fun hc => app _ (go hc)
    · have ez : txc z k.toNat = 32 := by unfold txc; rw [dF (by omega)]; rfl
      unfold badz at hb go
      rw [ez] at hb go
      exact bad_in hb fun hc => app _ (go hc)
  · have hk2 : k.toNat = 20 := by omega
    rw [hk2] at h2
    have h2 : R (.normal, dIb (A ++ []) (q + 0)) := h2
    rw [List.append_nil] at h2
    exact h2
noncomputable def c_rib : FuncId → Option Con := conOf [(131, ls.tRright), (133, tRPut), (132, ls.tRplaced), (137, tTurn), (138, t_rtwo), (134, tMkO), (61, ls.t_rpacked)]
theorem kc_rib : ∀ f T, c_rib f = some T → Known Tryz.prog GL f T := (Knowns.cons ls.kRright (.cons (known_gl kRPut) (.cons ls.kRplaced (.cons kRTurn (.cons k_rtwo (.cons kRMkO (.cons ls.k_rpacked .nil))))))).get
noncomputable def t_rib : Con := fun args regs => if regs.length = 0 then nfun Tryz.prog GL c_rib [(0, [1, 5, 6], sumP pIb rIbp lIb)] Tryz.f65 args regs else .fail
theorem k_rib : Known Tryz.prog GL 65 t_rib := known_loops 0 Tryz.func65 rfl (by kernel_rfl) mixed kc_rib (LAll.one (id := 0) (body := bodyLoop Tryz.f65 0) (by kernel_rfl) rfl loop_ib)
noncomputable def oI1 : Out := ⟨.tu [.c .sn, .c (.i .i64 101)], []⟩
noncomputable def oIY (L : List Int) : Out := ⟨.tu [.c (.h 0 0 42), .c (.i .i64 0)], [some ⟨1, 5, .ints .u8 L⟩]⟩
noncomputable def md9R (neg : Bool) (n o d h mi s : Int) : List Int := [rv (u8i (shrv .i64 n 8)), rv (u8i n), ofB neg o, u8i (IntKind.i64.wrap (IntKind.i64.wrap (d.tdiv 10000) + 1)), twoR ((IntKind.i64.wrap (d.tdiv 100)).tmod 100), twoR (d.tmod 100), twoR h, twoR mi, twoR s, 0, 0, 0, 0]
noncomputable def hdR (neg : Bool) (a b e n o d h mi s : Int) : List Int := put 0 :: (ls.plN b e (a.tmod 8) ++ md9R neg n o d h mi s)
noncomputable def LR (neg : Bool) (a b e n o d h mi s : Int) (z : ByteArray) : List Int := 21 :: 234 :: (hdR neg a b e n o d h mi s ++ sgs z 0 20)
noncomputable def ibE (neg : Bool) (a b e n o d h mi s : Int) (z : ByteArray) (R : Out → Prop) : Prop := ls.in16 0 ∧ ((0 ≤ b ∧ b ≤ 255 ∧ 0 ≤ a.tmod 8 ∧ a.tmod 8 < 8) ∧ (mBy (u8i (shrv .i64 n 8)) ∧ (mBy (u8i n) ∧ (((hdR neg a b e n o d h mi s).length = 20 ∧ ((20 : Nat) : Int) < 1000 + 0 ∧ 0 ≤ (0 : Int) ∧ (0 : Int) ≤ 20) ∧ sel (fst z 20 0).isNone (ls.in16 0 ∧ (ls.in16 15 ∧ R (oIY (LR neg a b e n o d h mi s z)))) (R oI1)))))
theorem rib_tree (a b e n o d h mi s : Int) (z : ByteArray) (R : Out → Prop) : (t_rib [.ag (infC a b e n o d h mi s z)] []).run R =
    sel (!ls.rightB a b e) (R oI1) (sel (decide (n < 0)) (R oI1) (sel (decide (n > 65535)) (R oI1) (sel (decide (o < -31)) (R oI1) (sel (decide (o > 31)) (R oI1) (sel (decide (d < 0)) (R oI1) (sel (decide (d > 99999)) (R oI1) (sel (decide (h < 0)) (R oI1) (sel (decide (h > 23)) (R oI1) (sel (decide (mi < 0)) (R oI1) (sel (decide (mi > 59)) (R oI1) (sel (decide (s < 0)) (R oI1) (sel (decide (s > 59)) (R oI1) (sel (decide ((z.size : Int) > 20)) (R oI1) (sel (decide (o < 0)) (ibE true a b e n o d h mi s z R) (ibE false a b e n o d h mi s z R))))))))))))))) := by kernel_rfl
end Go.Proofs.YtlfmkacafppmlaaGreatDoor.sv
namespace Go.Proofs.YtlfmkacafppmlaaGreatDoor.sv
open Go Go.Nx Go.Proofs.YtlfmkacafppmlaaGreatDoor.pk Go.Proofs.YtlfmkacafppmlaaGreatDoor.ln Go.Proofs.YtlfmkacafppmlaaGreatDoor.hd Go.Proofs.YtlfmkacafppmlaaGreatDoor.lb
noncomputable def okIb (a b e n o d h mi s : Int) (z : ByteArray) : Bool := ls.rightB a b e && (!decide (n < 0) && (!decide (n > 65535) && (!decide (o < -31) && (!decide (o > 31) && (!decide (d < 0) && (!decide (d > 99999) && (!decide (h < 0) && (!decide (h > 23) && (!decide (mi < 0) && (!decide (mi > 59) && (!decide (s < 0) && (!decide (s > 59) && (!decide ((z.size : Int) > 20) && (fst z 20 0).isNone)))))))))))))
noncomputable def tRib : Con := fun args regs => match args, regs with
  | [.ag [.i .i64 a, .i .i64 b, .i .i64 e, .i .i64 n, .i .i64 o, .i .i64 d, .i .i64 h, .i .i64 mi, .i .i64 s, .s z]], [] => .br (okIb a b e n o d h mi s z) (.ret (oIY (LR (decide (o < 0)) a b e n o d h mi s z))) (.ret oI1)
  | _, _ => .fail
theorem ibE_in {neg : Bool} {a b e n o d h mi s : Int} {z : ByteArray} {R : Out → Prop} (hb : 0 ≤ b ∧ b ≤ 255 ∧ 0 ≤ a.tmod 8 ∧ a.tmod 8 < 8) (hR : sel (fst z 20 0).isNone (R (oIY (LR neg a b e n o d h mi s z))) (R oI1)) : ibE neg a b e n o d h mi s z R := by
  refine ⟨⟨by decide, by decide⟩, hb, u8i_in _, u8i_in _, ⟨rfl, by decide, by decide, by decide⟩, ?_⟩
  cases hn : (fst z 20 0).isNone with
  | true => rw [hn] at hR; exact selT rfl ⟨⟨by decide, by decide⟩, ⟨by decide, by decide⟩, hR⟩
  | false => rw [hn] at hR; exact selF rfl hR
theorem rib_in {a b e n o d h mi s : Int} {z : ByteArray} {R : Out → Prop} (hR : sel (okIb a b e n o d h mi s z) (R (oIY (LR (decide (o < 0)) a b e n o d h mi s z))) (R oI1)) :
    sel (!ls.rightB a b e) (R oI1) (sel (decide (n < 0)) (R oI1) (sel (decide (n > 65535)) (R oI1) (sel (decide (o < -31)) (R oI1) (sel (decide (o > 31)) (R oI1) (sel (decide (d < 0)) (R oI1) (sel (decide (d > 99999)) (R oI1) (sel (decide (h < 0)) (R oI1) (sel (decide (h > 23)) (R oI1) (sel (decide (mi < 0)) (R oI1) (sel (decide (mi > 59)) (R oI1) (sel (decide (s < 0)) (R oI1) (sel (decide (s > 59)) (R oI1) (sel (decide ((z.size : Int) > 20)) (R oI1) (sel (decide (o < 0)) (ibE true a b e n o d h mi s z R) (ibE false a b e n o d h mi s z R))))))))))))))) := by
  unfold okIb at hR
  cases hr : ls.rightB a b e with
  | false => rw [hr] at hR; exact selT rfl hR
  | true =>
    rw [hr] at hR
    have hp := ls.right_in hr
    have ht : a.tmod 8 = a % 8 := Int.tmod_eq_emod_of_nonneg (by omega)
    have hb : 0 ≤ b ∧ b ≤ 255 ∧ 0 ≤ a.tmod 8 ∧ a.tmod 8 < 8 := by rw [ht]; omega
    refine selF rfl (nb_in hR fun hR => nb_in hR fun hR => nb_in hR fun hR => nb_in hR fun hR => nb_in hR fun hR => nb_in hR fun hR => nb_in hR fun hR => nb_in hR fun hR => nb_in hR fun hR => nb_in hR fun hR => nb_in hR fun hR => nb_in hR fun hR => nb_in hR fun hR => ?_)
    cases ho : decide (o < 0) with
    | true => rw [ho] at hR; exact selT rfl (ibE_in hb hR)
    | false => rw [ho] at hR; exact selF rfl (ibE_in hb hR)
set_option maxRecDepth 100000 in
theorem kRib : Known Tryz.prog GL 65 tRib := by
  refine k_rib.less fun args regs R h => Box.out ?_
  unfold tRib at h
  split at h
  case h_2 => exact h.elim
  exact Box.of_eq (rib_tree _ _ _ _ _ _ _ _ _ _ R) (rib_in h)
end Go.Proofs.YtlfmkacafppmlaaGreatDoor.sv
namespace Go.Proofs.YtlfmkacafppmlaaGreatDoor.bh
open Go.Proofs.YtlfmkacafppmlaaGreatDoor.sto (sT sF)
open Go.Proofs.YtlfmkacafppmlaaGreatDoor.pge (Hx)
open Go Go.Nx Go.Proofs.YtlfmkacafppmlaaGreatDoor.pk Go.Proofs.YtlfmkacafppmlaaGreatDoor.ln Go.Proofs.YtlfmkacafppmlaaGreatDoor.hd Go.Proofs.YtlfmkacafppmlaaGreatDoor.lb Go.Proofs.YtlfmkacafppmlaaGreatDoor.sv Go.Proofs.YtlfmkacafppmlaaGreatDoor.bm
noncomputable abbrev fCopy := Tryz.f66
noncomputable def XCopy : Cx := { P := Tryz.prog, con := fun _ => Option.none, glob := [], m := 0, loops := [] }
noncomputable def sCopy (xs ys : List Int) (n : Nat) (i : Int) : St := { fr := frame 22 [(0, .v (.c (.l .u8 xs))), (3, .v (.c (.h 0 0 n))), (4, .v (.c (.i .i64 i)))], rg := [some ⟨1, 5, .ints .u8 ys⟩] }
noncomputable def dCopy (ys : List Int) (n : Nat) : St := { fr := frame 22 [(3, .v (.c (.h 0 0 n)))], rg := [some ⟨1, 5, .ints .u8 ys⟩] }
theorem round_copy (xs ys : List Int) (n : Nat) (i : Int) (R : RO → Prop) : (roundT XCopy 0 [0, 3, 4] [3] (bodyLoop fCopy 0) (sCopy xs ys n i)).run R =
    sel (decide (i < (xs.length : Int))) (sel (decide (0 ≤ i)) (sel (decide (i < (xs.length : Int))) (sel (decide (i.toNat < xs.length)) (sel (decide (0 + n ≤ ys.length)) (sel (decide ((n + 1) * bytesT Tryz.prog 5 ≤ 140737488355328)) (sel (decide (n + 1 ≤ 9223372036854775807))
      (R (.next (sCopy xs (List.take n (List.drop 0 ys) ++ [xs.getD i.toNat 0]) (n + 1) (IntKind.i64.wrap (i + 1))))) False) False) False) False) False) False) (R (.done .normal (dCopy ys n))) := by kernel_rfl
noncomputable def pCopy : List Pat := pats 22 [(0, .l .u8), (3, .h 0 0), (4, .i .i64)]
def rCopy : List RPat := [.ints 1 5 .u8]
noncomputable def lCopy : List Leaf × List (List Leaf) → Tr (NExit × St) := fun a => match a with
  | ([.l xs, .n n, .i i], [[.l ys]]) => .must (n = ys.length ∧ i = (ys.length : Int) ∧ ys.length ≤ xs.length ∧ xs.length ≤ 1000000 ∧ ys = xs.take ys.length) (.ret (.normal, dCopy xs xs.length))
  | _ => .fail
def muCopy : List Leaf × List (List Leaf) → Nat := fun a => match a with
  | ([.l xs, .n _, .i i], _) => ((xs.length : Int) - i).toNat
  | _ => 0
set_option maxRecDepth 100000 in
theorem loop_copy : LOk Tryz.prog [] 0 0 (bodyLoop fCopy 0) (sumP pCopy rCopy lCopy) := by
  refine sumP_ok (X := XCopy) con_none mixed (LAll.none (by kernel_rfl)) [0, 3, 4] [3] _ _ _ muCopy ?_
  rintro ⟨a, b⟩ R hh
  unfold lCopy at hh
  split at hh
  case h_2 => exact hh.elim
  rename_i xs n i ys he
  cases he
  have h1 := hh.1
  have h2 : R (.normal, dCopy xs xs.length) := hh.2
  clear hh
  obtain ⟨rfl, rfl, hl, hm, hy⟩ := h1
  show (roundT XCopy 0 [0, 3, 4] [3] (bodyLoop fCopy 0) (sCopy xs ys ys.length ys.length)).run _
  rw [round_copy, bytes1]
  have et : ((ys.length : Nat) : Int).toNat = ys.length := by simp
  rw [et]
  refine sel_by (fun hlt => ?_) fun hge => ?_
  · have hx : ys.length < xs.length := by omega
    have hw : IntKind.i64.wrap ((ys.length : Int) + 1) = (((ys.length + 1 : Nat)) : Int) := by rw [IntKind.wrap_i64]; omega
    refine selT (dT (by omega)) (selT (dT hlt) (selT (dT hx) (selT (dT (by omega)) (selT (dT (by omega)) (selT (dT (by omega)) ?_)))))
    have ey : List.take ys.length (List.drop 0 ys) = ys := by rw [List.drop_zero, List.take_length]
    have eg : xs.getD ys.length 0 = xs[ys.length] := by rw [List.getD_eq_getElem?_getD, List.getElem?_eq_getElem hx]; rfl
    rw [ey, hw]
    have elen : (ys ++ [xs.getD ys.length 0]).length = ys.length + 1 := by simp
    refine ⟨([.l xs, .n (ys.length + 1), .i ((ys.length + 1 : Nat) : Int)], [[.l (ys ++ [xs.getD ys.length 0])]]), rfl, by show ((xs.length : Int) - ((ys.length + 1 : Nat) : Int)).toNat < ((xs.length : Int) - (ys.length : Int)).toNat; omega, ⟨elen.symm, by rw [elen], by rw [elen]; omega, hm, ?_⟩, h2⟩
    rw [elen, eg, List.take_add_one, ← hy, List.getElem?_eq_getElem hx]
    rfl
  · have e : ys.length = xs.length := by omega
    have e2 : ys = xs := by rw [hy, e, List.take_length]
    rw [e2]
    exact h2
noncomputable def tCopy0 : Con := fun args regs => if regs.length = 0 then nfun Tryz.prog [] (fun _ => Option.none) [(0, [0, 3, 4], sumP pCopy rCopy lCopy)] fCopy args regs else .fail
theorem kCopy0 : Known Tryz.prog [] 66 tCopy0 := known_loops 0 Tryz.func66 rfl (by kernel_rfl) mixed con_none (LAll.one (id := 0) (body := bodyLoop fCopy 0) (by kernel_rfl) rfl loop_copy)
theorem copy_tree (xs : List Int) (R : Out → Prop) : (tCopy0 [.c (.l .u8 xs)] []).run R =
    sel (decide ((xs.length : Int) * ((bytesT Tryz.prog 5 : Nat) : Int) ≤ 140737488355328)) (sel (decide ((xs.length : Int) ≤ 9223372036854775807))
      ((0 = ([] : List Int).length ∧ (0 : Int) = (([] : List Int).length : Int) ∧ ([] : List Int).length ≤ xs.length ∧ xs.length ≤ 1000000 ∧ [] = xs.take ([] : List Int).length) ∧ R (oL xs)) False) False := by kernel_rfl
noncomputable def tCopy : Con := fun args regs => match args, regs with
  | [.c (.l .u8 ds)], [] => .must (ds.length ≤ 1000000) (.ret (oL ds))
  | _, _ => .fail
theorem copy_in {xs : List Int} {R : Out → Prop} (h1 : xs.length ≤ 1000000) (h2 : R (oL xs)) : Box ((tCopy0 [.c (.l .u8 xs)] []).run R) := by
  refine Box.of_eq (copy_tree xs R) ?_
  rw [bytes1]
  exact selT (dT (by omega)) (selT (dT (by omega)) ⟨⟨rfl, rfl, Nat.zero_le _, h1, rfl⟩, h2⟩)
set_option maxRecDepth 100000 in
theorem kCopy : Known Tryz.prog [] 66 tCopy := by
  refine kCopy0.less fun args regs R h => Box.out ?_
  unfold tCopy at h
  split at h
  case h_2 => exact h.elim
  exact copy_in h.1 h.2
noncomputable def tCpC : Con := softT [] [0] [(0, 0, 0, .l .u8 [])] [] 0 tCopy
theorem kCpC : Known Tryz.prog GL 66 tCpC := (known_gl kCopy).soft [] [0] [(0, 0, 0, .l .u8 [])] [] 0
noncomputable def c_by : FuncId → Option Con := conOf [(12, num.tNumV), (30, tPl), (60, tOddB), (59, tHB), (61, t_rpkd), (62, t_tof), (63, ts.tRTBg), (64, ls.tRLB), (65, tRib), (66, tCpC)]
theorem kc_by : ∀ f T, c_by f = some T → Known Tryz.prog GL f T := (Knowns.cons (known_gl num.kNumV) (.cons kPl (.cons kOddB (.cons kHB (.cons k_rpkd (.cons k_tof (.cons ts.kRTBg (.cons ls.kRLB (.cons kRib (.cons kCpC .nil)))))))))).get
noncomputable def X_by : Cx := { P := Tryz.prog, con := c_by, glob := GL, m := 0, loops := [] }
noncomputable def dReg (d : Dv) : Reg := ⟨9, 36, .cells d.nv.cells⟩
noncomputable def pReg (x : Int × Int × Int) : Reg := ⟨3, 45, .cells [.i .i64 x.1, .i .i64 x.2.1, .i .i64 x.2.2]⟩
noncomputable def tReg (rs : List (List Sc)) : Reg := ⟨3, 139, .recs [.i .i64, .i .i64, .i .i64] rs⟩
noncomputable def ouT : Option (List (List Sc) × Nat) → NC
  | none => .sn
  | some x => .h 2 0 x.2
noncomputable def ouTR : Option (List (List Sc) × Nat) → List (Option Reg)
  | none => []
  | some x => [some (tReg x.1)]
noncomputable def s3 (d : Dv) (x : Int × Int × Int) (o : Option (List (List Sc) × Nat)) (i : Int) : St := { fr := frame 179 [(1, .v (.c (.p 0 0 0))), (3, .v (.c (.p 1 0 0))), (7, .v (.c (ouT o))), (8, .v (.c (.i .i64 i)))], rg := some (dReg d) :: some (pReg x) :: ouTR o }
noncomputable def d3 (d : Dv) (x : Int × Int × Int) (o : Option (List (List Sc) × Nat)) : St := { fr := frame 179 [(1, .v (.c (.p 0 0 0))), (3, .v (.c (.p 1 0 0))), (7, .v (.c (ouT o)))], rg := some (dReg d) :: some (pReg x) :: ouTR o }
noncomputable def r3 (s : St) : Tr RO := roundT X_by 3 [1, 3, 7, 8] [1, 3, 7] (bodyLoop f_by 3) s
def apT (m : Nat) (A : Prop) : Prop := sel (decide (0 + m ≤ m)) (sel (decide ((m + 1) * bytesT Tryz.prog 139 ≤ 140737488355328)) (sel (decide (m + 1 ≤ 9223372036854775807)) A False) False) False
noncomputable def nx3 (d : Dv) (x : Int × Int × Int) (i : Int) (R : RO → Prop) (xs : List (List Sc)) (m : Nat) : Prop := R (.next (s3 d x (some (xs, m)) (IntKind.i64.wrap (i + 1))))
theorem r3_0 (d : Dv) (x : Int × Int × Int) (i : Int) (R : RO → Prop) : (r3 (s3 d x none i)).run R =
    sel (decide (i < 13)) (sel (decide (i < (d.L.length : Int))) (ixU i d.L.length (nx3 d x i R [trR (d.L.getD i.toNat 0)] 1)) (nx3 d x i R [trR 0] 1)) (R (.done .normal (d3 d x none))) := by kernel_rfl
theorem r3_1 (d : Dv) (x : Int × Int × Int) (i : Int) (xs : List (List Sc)) (R : RO → Prop) : (r3 (s3 d x (some (xs, xs.length)) i)).run R =
    sel (decide (i < 13)) (sel (decide (i < (d.L.length : Int))) (ixU i d.L.length (apT xs.length (nx3 d x i R (List.take xs.length xs ++ [trR (d.L.getD i.toNat 0)]) (xs.length + 1)))) (apT xs.length (nx3 d x i R (List.take xs.length xs ++ [trR 0]) (xs.length + 1)))) (R (.done .normal (d3 d x (some (xs, xs.length))))) := by kernel_rfl
noncomputable def tr3 (L : List Int) (k : Nat) : List (List Sc) := (List.range k).map fun j => trR (L.getD j 0)
theorem tr3_len (L : List Int) (k : Nat) : (tr3 L k).length = k := by unfold tr3; rw [List.length_map, List.length_range]
theorem tr3_succ (L : List Int) (k : Nat) : tr3 L (k + 1) = tr3 L k ++ [trR (L.getD k 0)] := by unfold tr3; rw [List.range_succ, List.map_append]; rfl
theorem getD_z {L : List Int} {k : Nat} (h : ¬ k < L.length) : L.getD k 0 = 0 := by
  rw [List.getD_eq_getElem?_getD, List.getElem?_eq_none (by omega)]; rfl
noncomputable def oT (L : List Int) : Nat → Option (List (List Sc) × Nat)
  | 0 => none
  | k + 1 => some (tr3 L (k + 1), k + 1)
theorem bytesT3 : bytesT Tryz.prog 139 = 24 := by kernel_rfl
theorem apT_in {m : Nat} {A : Prop} (hm : m ≤ 1000) (h : A) : apT m A := by
  unfold apT
  rw [bytesT3]
  exact sT (decide_eq_true (by omega)) (sT (decide_eq_true (by omega)) (sT (decide_eq_true (by omega)) h))
def rdDP (s : St) : Option (Dv × (Int × Int × Int)) := match s.rg with
  | some ⟨_, _, .cells [.i _ k, .i _ mag, .i _ pg, .i _ sb, .i _ n, .l _ L, .l _ T, .l _ W, .l _ B]⟩ :: some ⟨_, _, .cells [.i _ m, .i _ p, .i _ t]⟩ :: _ => some (⟨k, mag, pg, sb, n, L, T, W, B⟩, (m, p, t))
  | _ => none
noncomputable def l3 (s : St) : Tr (NExit × St) := match rdDP s with
  | some x => .must (s = s3 x.1 x.2 none 0) (.ret (.normal, d3 x.1 x.2 (some (tr3 x.1.L 13, 13))))
  | none => .fail
structure A3 where
  d : Dv
  x : Int × Int × Int
  k : Nat
noncomputable def h3 (a : A3) : St := s3 a.d a.x (oT a.d.L a.k) (a.k : Int)
def pre3 (a : A3) (R : NExit × St → Prop) : Prop := a.k ≤ 13 ∧ R (.normal, d3 a.d a.x (some (tr3 a.d.L 13, 13)))
def nxt3 (a : A3) (R : NExit × St → Prop) (o : RO) : Prop := match o with
  | .next s => ∃ y, s = h3 y ∧ 13 - y.k < 13 - a.k ∧ pre3 y R
  | .done e s => R (e, s)
theorem r3_in (a : A3) (R : NExit × St → Prop) (h : pre3 a R) : Box ((r3 (h3 a)).run (nxt3 a R)) := by
  obtain ⟨d, x, k⟩ := a
  obtain ⟨h1, hR⟩ := h
  simp only at h1 hR
  have hw : IntKind.i64.wrap ((k : Int) + 1) = ((k + 1 : Nat) : Int) := by rw [IntKind.wrap_i64]; omega
  have nx : ∀ xs m, k < 13 → xs = tr3 d.L (k + 1) → m = k + 1 → nx3 d x (k : Int) (nxt3 ⟨d, x, k⟩ R) xs m := by
    rintro xs m hk rfl rfl
    unfold nx3
    rw [hw]
    exact ⟨⟨d, x, k + 1⟩, rfl, by simp only; omega, by simp only; omega, hR⟩
  match k, h1, hw, nx with
  | 0, h1, hw, nx =>
    have e : tr3 d.L 1 = [trR (d.L.getD 0 0)] := rfl
    refine Box.of_eq (r3_0 d x 0 _) (sT (decide_eq_true (by decide)) ?_)
    by_cases hb : 0 < d.L.length
    · exact sT (decide_eq_true (by omega)) (ixU_in ⟨by omega, by omega⟩ (nx _ _ (by decide) (by rw [e]; rfl) rfl))
    · exact sF (decide_eq_false (by omega)) (nx _ _ (by decide) (by rw [e, getD_z hb]) rfl)
  | k + 1, h1, hw, nx =>
    have hl := tr3_len d.L (k + 1)
    have e := tr3_succ d.L (k + 1)
    have ha : h3 ⟨d, x, k + 1⟩ = s3 d x (some (tr3 d.L (k + 1), (tr3 d.L (k + 1)).length)) ((k + 1 : Nat) : Int) := by
      show s3 d x (some (tr3 d.L (k + 1), k + 1)) _ = _
      rw [hl]
    rw [ha]
    refine Box.of_eq (r3_1 d x _ _ _) ?_
    by_cases hk : k + 1 < 13
    · refine sT (decide_eq_true (by omega)) ?_
      rw [List.take_length, hl]
      by_cases hb : k + 1 < d.L.length
      · exact sT (decide_eq_true (by omega)) (ixU_in ⟨by omega, by omega⟩ (apT_in (by omega) (nx _ _ hk (by rw [e]; rfl) rfl)))
      · exact sF (decide_eq_false (by omega)) (apT_in (by omega) (nx _ _ hk (by rw [e, getD_z hb]) rfl))
    · refine sF (decide_eq_false (by omega)) ?_
      have hn : k + 1 = 13 := by omega
      rw [hl, hn]
      exact hR
set_option maxRecDepth 100000 in
theorem loop_3 : LOk Tryz.prog GL 0 3 (bodyLoop f_by 3) l3 := by
  refine loop_ok (X := X_by) kc_by mixed (LAll.none (by kernel_rfl)) [1, 3, 7, 8] [1, 3, 7] h3 (fun a => 13 - a.k) pre3 ?_ ?_
  · intro s R h
    unfold l3 at h
    split at h
    case h_2 => exact h.elim
    rename_i x hx
    obtain ⟨hs, hR⟩ := h
    exact ⟨⟨x.1, x.2, 0⟩, hs, by show 0 ≤ 13; omega, hR⟩
  · intro a R h
    exact Tr.run_mono _ (fun o ho => ho) (r3_in a R h).out
noncomputable def lReg (rs : List (List Sc)) : Reg := ⟨3, 53, .recs [.i .i64, .i .i64, .i .i64] rs⟩
noncomputable def s5 (d : Dv) (x : Int × Int × Int) (rs : List (List Sc)) (i : Int) : St := { fr := frame 179 [(1, .v (.c (.p 0 0 0))), (3, .v (.c (.p 1 0 0))), (10, .v (.c (.p 2 0 0))), (11, .v (.c (.i .i64 i)))], rg := [some (dReg d), some (pReg x), some (lReg rs)] }
noncomputable def d5 (d : Dv) (x : Int × Int × Int) (rs : List (List Sc)) : St := { fr := frame 179 [(1, .v (.c (.p 0 0 0))), (3, .v (.c (.p 1 0 0))), (10, .v (.c (.p 2 0 0)))], rg := [some (dReg d), some (pReg x), some (lReg rs)] }
noncomputable def r5 (s : St) : Tr RO := roundT X_by 5 [1, 3, 10, 11] [1, 3, 10] (bodyLoop f_by 5) s
noncomputable def plR (v : Int) : List Sc := [.i (v % 3 + 1), .i (plP (IntKind.i64.wrap (v.tdiv 8))), .i (plS (IntKind.i64.wrap (v.tdiv 64)))]
def plE (v : Int) : Prop := [NV.c (.i .i64 v), .c (.i .i64 (IntKind.i64.wrap (v.tdiv 8))), .c (.i .i64 (IntKind.i64.wrap (v.tdiv 64)))] = [NV.c (.i .i64 v), .c (.i .i64 (IntKind.i64.wrap (v.tdiv 8))), .c (.i .i64 (IntKind.i64.wrap (v.tdiv 64)))]
noncomputable def nx5 (d : Dv) (x : Int × Int × Int) (rs : List (List Sc)) (i v : Int) (R : RO → Prop) : Prop := plE v ∧ sel (decide (0 ≤ i)) (sel (decide (i < ((6 : Nat) : Int))) (sel (decide (0 + i.toNat < rs.length)) (R (.next (s5 d x (rs.set (0 + i.toNat) (plR v)) (IntKind.i64.wrap (i + 1))))) False) False) False
theorem r5_tree (d : Dv) (x : Int × Int × Int) (rs : List (List Sc)) (i : Int) (R : RO → Prop) : (r5 (s5 d x rs i)).run R =
    sel (decide (i < 6)) (sel (decide (i < (d.L.length : Int))) (ixU i d.L.length (nmA 1048576 ∧ nx5 d x rs i (d.L.getD i.toNat 0 % 1048576) R)) (nx5 d x rs i 0 R)) (R (.done .normal (d5 d x rs))) := by kernel_rfl
noncomputable def lv (L : List Int) (j : Nat) : Int := L.getD j 0 % 1048576
def zS : List Sc := [.i 0, .i 0, .i 0]
noncomputable def lrK (f : Nat → List Sc) : Nat → List (List Sc)
  | 0 => [zS, zS, zS, zS, zS, zS]
  | 1 => [f 0, zS, zS, zS, zS, zS]
  | 2 => [f 0, f 1, zS, zS, zS, zS]
  | 3 => [f 0, f 1, f 2, zS, zS, zS]
  | 4 => [f 0, f 1, f 2, f 3, zS, zS]
  | 5 => [f 0, f 1, f 2, f 3, f 4, zS]
  | _ => [f 0, f 1, f 2, f 3, f 4, f 5]
theorem lrK_set (f : Nat → List Sc) {k : Nat} (h : k < 6) : (lrK f k).set (0 + k) (f k) = lrK f (k + 1) := by
  have : k = 0 ∨ k = 1 ∨ k = 2 ∨ k = 3 ∨ k = 4 ∨ k = 5 := by omega
  rcases this with rfl | rfl | rfl | rfl | rfl | rfl <;> rfl
theorem lrK_len (f : Nat → List Sc) {k : Nat} (h : k ≤ 6) : (lrK f k).length = 6 := by
  have : k = 0 ∨ k = 1 ∨ k = 2 ∨ k = 3 ∨ k = 4 ∨ k = 5 ∨ k = 6 := by omega
  rcases this with rfl | rfl | rfl | rfl | rfl | rfl | rfl <;> rfl
noncomputable def lrs (L : List Int) (k : Nat) : List (List Sc) := lrK (fun j => plR (lv L j)) k
noncomputable def l5 (s : St) : Tr (NExit × St) := match rdDP s with
  | some x => .must (s = s5 x.1 x.2 [zS, zS, zS, zS, zS, zS] 0) (.ret (.normal, d5 x.1 x.2 [plR (lv x.1.L 0), plR (lv x.1.L 1), plR (lv x.1.L 2), plR (lv x.1.L 3), plR (lv x.1.L 4), plR (lv x.1.L 5)]))
  | none => .fail
noncomputable def h5 (a : A3) : St := s5 a.d a.x (lrs a.d.L a.k) (a.k : Int)
def pre5 (a : A3) (R : NExit × St → Prop) : Prop := a.k ≤ 6 ∧ R (.normal, d5 a.d a.x (lrs a.d.L 6))
def nxt5 (a : A3) (R : NExit × St → Prop) (o : RO) : Prop := match o with
  | .next s => ∃ y, s = h5 y ∧ 6 - y.k < 6 - a.k ∧ pre5 y R
  | .done e s => R (e, s)
theorem r5_in (a : A3) (R : NExit × St → Prop) (h : pre5 a R) : Box ((r5 (h5 a)).run (nxt5 a R)) := by
  obtain ⟨d, x, k⟩ := a
  obtain ⟨h1, hR⟩ := h
  simp only at h1 hR
  have hw : IntKind.i64.wrap ((k : Int) + 1) = ((k + 1 : Nat) : Int) := by rw [IntKind.wrap_i64]; omega
  have et : ((k : Nat) : Int).toNat = k := by simp
  have nx : ∀ v, k < 6 → v = lv d.L k → nx5 d x (lrs d.L k) (k : Int) v (nxt5 ⟨d, x, k⟩ R) := by
    rintro v hk rfl
    unfold nx5
    rw [et, hw]
    refine ⟨rfl, sT (decide_eq_true (by omega)) (sT (decide_eq_true (by omega)) (sT (decide_eq_true (by unfold lrs; rw [lrK_len _ (by omega)]; omega)) ?_))⟩
    have e : (lrs d.L k).set (0 + k) (plR (lv d.L k)) = lrs d.L (k + 1) := lrK_set (fun j => plR (lv d.L j)) hk
    rw [e]
    exact ⟨⟨d, x, k + 1⟩, rfl, by simp only; omega, by simp only; omega, hR⟩
  refine Box.of_eq (r5_tree d x (lrs d.L k) (k : Int) _) ?_
  rw [et]
  by_cases hk : k < 6
  · refine sT (decide_eq_true (by omega)) ?_
    by_cases hb : k < d.L.length
    · exact sT (decide_eq_true (by omega)) (ixU_in ⟨by omega, by omega⟩ ⟨⟨by decide, by decide⟩, nx _ hk rfl⟩)
    · refine sF (decide_eq_false (by omega)) (nx _ hk ?_)
      unfold lv
      rw [getD_z hb]
      rfl
  · have hn : k = 6 := by omega
    subst hn
    exact sF (decide_eq_false (by decide)) hR
set_option maxRecDepth 100000 in
theorem loop_5 : LOk Tryz.prog GL 0 5 (bodyLoop f_by 5) l5 := by
  refine loop_ok (X := X_by) kc_by mixed (LAll.none (by kernel_rfl)) [1, 3, 10, 11] [1, 3, 10] h5 (fun a => 6 - a.k) pre5 ?_ ?_
  · intro s R h
    unfold l5 at h
    split at h
    case h_2 => exact h.elim
    rename_i x hx
    obtain ⟨hs, hR⟩ := h
    exact ⟨⟨x.1, x.2, 0⟩, hs, by show 0 ≤ 6; omega, hR⟩
  · intro a R h
    exact Tr.run_mono _ (fun o ho => ho) (r5_in a R h).out
noncomputable def t_by : Con := fun args regs => if regs.length = 0 then nfun Tryz.prog GL c_by [(1, [1, 2, 3, 4, 5, 6], unroll X_by 1 [1, 2, 3, 4, 5, 6] [1, 2, 3, 4, 5] (bodyLoop Tryz.f16 1) 12), (3, [1, 3, 7, 8], l3), (5, [1, 3, 10, 11], l5)] Tryz.f16 args regs else .fail
theorem k_by : Known Tryz.prog GL 16 t_by := known_loops 0 Tryz.func16 rfl (by kernel_rfl) mixed kc_by (LAll.three (i1 := 1) (i2 := 3) (i3 := 5) (b1 := bodyLoop Tryz.f16 1) (b2 := bodyLoop Tryz.f16 3) (b3 := bodyLoop Tryz.f16 5) (by kernel_rfl) rfl (by decide) (unroll_ok (X := X_by) kc_by mixed (LAll.none (by kernel_rfl)) [1, 2, 3, 4, 5, 6] [1, 2, 3, 4, 5] 12) loop_3 loop_5)
noncomputable def t_byC : Con := softT [] [0] [(0, 0, 0, .l .u8 [])] [] 0 t_by
theorem k_byC : Known Tryz.prog GL 16 t_byC := k_by.soft [] [0] [(0, 0, 0, .l .u8 [])] [] 0
noncomputable def xP (mag pg sb : Int) : Int × Int × Int := (mag % 3 + 1, plP pg, plS sb)
noncomputable def ly {α : Type} (f : Int → Int → Int → Int → Int → Int → Int → Int → Int → Int → Int → Int → Int → Int → Int → Int → Int → Int → α) (L : List Int) : α :=
  f (lv L 0 % 3 + 1) (plP (IntKind.i64.wrap ((lv L 0).tdiv 8))) (plS (IntKind.i64.wrap ((lv L 0).tdiv 64))) (lv L 1 % 3 + 1) (plP (IntKind.i64.wrap ((lv L 1).tdiv 8))) (plS (IntKind.i64.wrap ((lv L 1).tdiv 64))) (lv L 2 % 3 + 1) (plP (IntKind.i64.wrap ((lv L 2).tdiv 8))) (plS (IntKind.i64.wrap ((lv L 2).tdiv 64))) (lv L 3 % 3 + 1) (plP (IntKind.i64.wrap ((lv L 3).tdiv 8))) (plS (IntKind.i64.wrap ((lv L 3).tdiv 64))) (lv L 4 % 3 + 1) (plP (IntKind.i64.wrap ((lv L 4).tdiv 8))) (plS (IntKind.i64.wrap ((lv L 4).tdiv 64))) (lv L 5 % 3 + 1) (plP (IntKind.i64.wrap ((lv L 5).tdiv 8))) (plS (IntKind.i64.wrap ((lv L 5).tdiv 64)))
noncomputable def cd9 (n : Int) : Int := IntKind.i64.wrap ((n % 9).tdiv 8)
noncomputable def lkB (mag n : Int) (L : List Int) : List Int := put (ls.radr (mag % 3 + 1)) :: put 13 :: ly (ls.rlN (mag % 3 + 1) (cd9 n) 0) L
noncomputable def lkO (mag n : Int) (L : List Int) : Bool := ly (ls.okR (mag % 3 + 1) (cd9 n) 0) L
noncomputable def zE : ByteArray := ⟨#[]⟩
noncomputable def svO (mag pg sb n : Int) : Bool := okIb (mag % 3 + 1) (plP pg) (plS sb) (n % 65536) 0 (n % 90000) (sb % 24) 0 0 zE
noncomputable def svB (mag pg sb n : Int) : List Int := LR (decide ((0 : Int) < 0)) (mag % 3 + 1) (plP pg) (plS sb) (n % 65536) 0 (n % 90000) (sb % 24) 0 0 zE
noncomputable def rwB (m n : Int) (L : List Int) : List Int := trB m 26 (n % 16) (List.take 13 (List.drop 0 (tr3 L 13)))
noncomputable def bx1 (d : Dv) (R : Out → Prop) : Prop := odA d.T 32 ∧ (([NV.ag (hxOf d).nc, .c (.l .u8 (odV d.T 32))] = [NV.ag (hxOf d).nc, .c (.l .u8 (odV d.T 32))] ∧ right (d.mag % 3 + 1) (plP d.pg) (plS d.sb) ∧ (odV d.T 32).length = 32) ∧ R (oLu (hbV (hxOf d) (odV d.T 32))))
noncomputable def bx2 (d : Dv) (R : Out → Prop) : Prop := nmA 25 ∧ (odA d.T 40 ∧ (e16 (adr (d.mag % 3 + 1) (d.n % 25)) ∧ (e16 (shrv .i64 (d.n % 25) 1) ∧ (42 = 42 ∧ R (oLu (pkB (d.mag % 3 + 1) (d.n % 25) (odV d.T 40)))))))
noncomputable def bx3 (d : Dv) (R : Out → Prop) : Prop := s3 d (xP d.mag d.pg d.sb) none 0 = s3 d (xP d.mag d.pg d.sb) none 0 ∧ (nmA 16 ∧ sel (ts.okTB (d.mag % 3 + 1) 26 (d.n % 16)) (sel (decide ((List.take 13 (List.drop 0 (tr3 d.L 13))).length = 13)) (2 + (ts.LTg (d.n % 16) (List.take 13 (List.drop 0 (tr3 d.L 13)))).length = 2 + (ts.LTg (d.n % 16) (List.take 13 (List.drop 0 (tr3 d.L 13)))).length ∧ R (oLu (rwB (d.mag % 3 + 1) d.n d.L))) (R (oLu []))) (R (oLu [])))
noncomputable def bx4 (d : Dv) (R : Out → Prop) : Prop := s5 d (xP d.mag d.pg d.sb) [zS, zS, zS, zS, zS, zS] 0 = s5 d (xP d.mag d.pg d.sb) [zS, zS, zS, zS, zS, zS] 0 ∧ (nmA 9 ∧ sel (lkO d.mag d.n d.L) (42 = 42 ∧ R (oLu (lkB d.mag d.n d.L))) (R (oLu [])))
noncomputable def bx5 (d : Dv) (r : Int) (R : Out → Prop) : Prop := nmA 16 ∧ (nmA 5 ∧ (nmA 3 ∧ sel (ts.okTB (d.mag % 3 + 1) r (cdO d.pg)) (42 = 42 ∧ R (oLu (trB (d.mag % 3 + 1) r (cdO d.pg) (trO d.n d.sb)))) (R (oLu []))))
noncomputable def bx7 (d : Dv) (R : Out → Prop) : Prop := nmA 65536 ∧ (nmA 90000 ∧ (nmA 24 ∧ sel (svO d.mag d.pg d.sb d.n) (42 = 42 ∧ R (oLu (svB d.mag d.pg d.sb d.n))) (R (oLu []))))
noncomputable def bx8 (d : Dv) (R : Out → Prop) : Prop := d.W.length ≤ 1000000 ∧ (d.W.length = d.W.length ∧ R (oLu d.W))
theorem by_tree (k mag pg sb n : Int) (L T W B : List Int) (R : Out → Prop) : (t_byC [Dv.nv ⟨k, mag, pg, sb, n, L, T, W, B⟩] []).run R = (plA ⟨k, mag, pg, sb, n, L, T, W, B⟩ ∧ sel (k == 1) (bx1 ⟨k, mag, pg, sb, n, L, T, W, B⟩ R) (sel (k == 2) (bx2 ⟨k, mag, pg, sb, n, L, T, W, B⟩ R) (sel (k == 3) (bx3 ⟨k, mag, pg, sb, n, L, T, W, B⟩ R) (sel (k == 4) (bx4 ⟨k, mag, pg, sb, n, L, T, W, B⟩ R) (sel (k == 5) (bx5 ⟨k, mag, pg, sb, n, L, T, W, B⟩ (IntKind.i64.wrap (23 + k)) R) (sel (k == 6) (bx5 ⟨k, mag, pg, sb, n, L, T, W, B⟩ (IntKind.i64.wrap (23 + k)) R) (sel (k == 7) (bx7 ⟨k, mag, pg, sb, n, L, T, W, B⟩ R) (bx8 ⟨k, mag, pg, sb, n, L, T, W, B⟩ R)))))))) := by kernel_rfl
end Go.Proofs.YtlfmkacafppmlaaGreatDoor.bh
namespace Go.Proofs.YtlfmkacafppmlaaGreatDoor.df
open Go.Proofs.YtlfmkacafppmlaaGreatDoor.sto (sT sF)
open Go Go.Nx Go.Proofs.YtlfmkacafppmlaaGreatDoor.pk Go.Proofs.YtlfmkacafppmlaaGreatDoor.mac Go.Proofs.YtlfmkacafppmlaaGreatDoor.bm
def B8 (b : Int) : Prop := 0 ≤ b ∧ b < 256
theorem put_in (n : Int) : B8 (put n) := by
  have key : ∀ m < 16, 0 ≤ putL.getD m 0 ∧ putL.getD m 0 < 256 := by decide +kernel
  exact key (n % 16).toNat (by omega)
theorem u8_in (v : BitVec 8) : B8 (u8 v) := by
  have := v.isLt
  unfold B8 u8
  omega
theorem odV_in (T : List Int) (k : Nat) : ∀ b ∈ odV T k, B8 b := by
  intro b hb
  unfold odV at hb
  obtain ⟨i, -, rfl⟩ := List.mem_map.1 hb
  exact sv.mkO_in _
theorem app_in {l m : List Int} (h1 : ∀ b ∈ l, B8 b) (h2 : ∀ b ∈ m, B8 b) : ∀ b ∈ l ++ m, B8 b := fun b hb => (List.mem_append.1 hb).elim (h1 b) (h2 b)
theorem pkB_in {mg row : Int} {ds : List Int} (h : ∀ b ∈ ds, B8 b) : ∀ b ∈ pkB mg row ds, B8 b := List.forall_mem_cons.2 ⟨put_in _, List.forall_mem_cons.2 ⟨put_in _, h⟩⟩
theorem hbV_in (h : pge.Hx) {xs : List Int} (hx : ∀ b ∈ xs, B8 b) : ∀ b ∈ hbV h xs, B8 b := by
  refine pkB_in (app_in (app_in ?_ ?_) hx)
  · unfold pl6
    repeat (refine List.forall_mem_cons.2 ⟨put_in _, ?_⟩)
    intro b hb; cases hb
  · unfold t8
    repeat (refine List.forall_mem_cons.2 ⟨put_in _, ?_⟩)
    intro b hb; cases hb
theorem tw_in (r : List Sc) : ∀ b ∈ tr.tw r, B8 b := by
  unfold tr.tw
  repeat (refine List.forall_mem_cons.2 ⟨u8_in _, ?_⟩)
  intro b hb; cases hb
theorem trB_in (mg row cd : Int) (rows : List (List Sc)) : ∀ b ∈ trB mg row cd rows, B8 b := by
  refine List.forall_mem_cons.2 ⟨put_in _, List.forall_mem_cons.2 ⟨put_in _, ?_⟩⟩
  unfold ts.LTg tr.LT
  refine List.forall_mem_cons.2 ⟨put_in _, ?_⟩
  iterate 12 (refine app_in (tw_in _) ?_)
  exact tw_in _
end Go.Proofs.YtlfmkacafppmlaaGreatDoor.df
namespace Go.Proofs.YtlfmkacafppmlaaGreatDoor.bh
open Go.Proofs.YtlfmkacafppmlaaGreatDoor.sto (sT sF)
open Go.Proofs.YtlfmkacafppmlaaGreatDoor.pge (Hx)
open Go.Proofs.YtlfmkacafppmlaaGreatDoor.df (B8 put_in u8_in odV_in app_in pkB_in hbV_in trB_in)
open Go Go.Nx Go.Proofs.YtlfmkacafppmlaaGreatDoor.pk Go.Proofs.YtlfmkacafppmlaaGreatDoor.ln Go.Proofs.YtlfmkacafppmlaaGreatDoor.hd Go.Proofs.YtlfmkacafppmlaaGreatDoor.lb Go.Proofs.YtlfmkacafppmlaaGreatDoor.sv Go.Proofs.YtlfmkacafppmlaaGreatDoor.bm
noncomputable def byW (d : Dv) : List Int :=
  bif d.k == 1 then hbV (hxOf d) (odV d.T 32) else bif d.k == 2 then pkB (d.mag % 3 + 1) (d.n % 25) (odV d.T 40)
  else bif d.k == 3 then rwB (d.mag % 3 + 1) d.n d.L else bif d.k == 4 then lkB d.mag d.n d.L
  else bif d.k == 5 then trB (d.mag % 3 + 1) 28 (cdO d.pg) (trO d.n d.sb) else bif d.k == 6 then trB (d.mag % 3 + 1) 29 (cdO d.pg) (trO d.n d.sb)
  else bif d.k == 7 then svB d.mag d.pg d.sb d.n else d.W
theorem okTB_16 {mg row cd : Int} (hm : 1 ≤ mg ∧ mg ≤ 8) (hc : 0 ≤ cd ∧ cd ≤ 15) (hr : row = 28 ∨ row = 29 ∨ row = 26) : ts.okTB mg row cd = true := by
  unfold ts.okTB
  rw [decide_eq_true (show 1 ≤ mg ∧ mg ≤ 8 ∧ 0 ≤ cd ∧ cd ≤ 15 from ⟨hm.1, hm.2, hc.1, hc.2⟩)]
  rcases hr with rfl | rfl | rfl <;> rfl
theorem rB (a b c : Int) : ls.rightB (a % 3 + 1) (plP b) (plS c) = true := by
  have h := pl_right a b c
  unfold ls.rightB
  rw [decide_eq_true (show a % 3 + 1 ≥ 1 from h.1.1), decide_eq_true (show a % 3 + 1 ≤ 8 from h.1.2), decide_eq_true (show plP b ≥ 0 from h.2.1.1), decide_eq_true (show plP b ≤ 255 from h.2.1.2), decide_eq_true (show plS c ≥ 0 from h.2.2.1), h.2.2.2]
  rfl
theorem cd9_in (n : Int) : 0 ≤ cd9 n ∧ cd9 n ≤ 3 := by
  have key : ∀ m < 9, 0 ≤ IntKind.i64.wrap ((Int.ofNat m).tdiv 8) ∧ IntKind.i64.wrap ((Int.ofNat m).tdiv 8) ≤ 3 := by decide +kernel
  have h := key (n % 9).toNat (by omega)
  have e : Int.ofNat (n % 9).toNat = n % 9 := by show (((n % 9).toNat : Nat) : Int) = n % 9; omega
  rw [e] at h
  exact h
theorem lkO_t (mag n : Int) (L : List Int) : lkO mag n L = true := by
  have h := cd9_in n
  unfold lkO ly ls.okR
  rw [rB, rB, rB, rB, rB, rB, decide_eq_true (show 1 ≤ mag % 3 + 1 ∧ mag % 3 + 1 ≤ 8 ∧ 0 ≤ cd9 n ∧ cd9 n ≤ 3 ∧ (0 : Int) ≤ 0 ∧ (0 : Int) ≤ 15 from ⟨by omega, by omega, h.1, h.2, by decide, by decide⟩)]
  rfl
theorem fstE : fst zE 20 0 = none := by kernel_rfl
theorem nd {p : Prop} [Decidable p] (h : ¬ p) : (!decide p) = true := by rw [decide_eq_false h]; rfl
theorem svO_t (mag pg sb n : Int) : svO mag pg sb n = true := by
  unfold svO okIb
  rw [rB, fstE, nd (show ¬ n % 65536 < 0 by omega), nd (show ¬ n % 65536 > 65535 by omega), nd (show ¬ n % 90000 < 0 by omega), nd (show ¬ n % 90000 > 99999 by omega), nd (show ¬ sb % 24 < 0 by omega), nd (show ¬ sb % 24 > 23 by omega)]
  rfl
theorem wr28 : IntKind.i64.wrap (23 + 5) = 28 := by decide +kernel
theorem wr29 : IntKind.i64.wrap (23 + 6) = 29 := by decide +kernel
theorem selBq {k : Int} {j : Int} {A B : Prop} (hA : k = j → A) (hB : k ≠ j → B) : sel (k == j) A B := by
  by_cases h : k = j
  · exact sT (beq_iff_eq.2 h) (hA h)
  · exact sF (beq_eq_false_iff_ne.2 h) (hB h)
noncomputable def tBy : Con := fun args regs => match args, regs with
  | [.ag [.i _ k, .i _ mag, .i _ pg, .i _ sb, .i _ n, .l _ L, .l _ T, .l _ W, .l _ B]], [] => .must (args = [Dv.nv ⟨k, mag, pg, sb, n, L, T, W, B⟩] ∧ W.length ≤ 1000000) (.ret (oLu (byW ⟨k, mag, pg, sb, n, L, T, W, B⟩)))
  | _, _ => .fail
attribute [local irreducible] t_byC in
set_option maxRecDepth 100000 in
theorem kBy : Known Tryz.prog GL 16 tBy := by
  refine k_byC.less fun args regs R h => ?_
  unfold tBy at h
  split at h
  case h_2 => exact h.elim
  rename_i _ k _ mag _ pg _ sb _ n _ L _ T _ W _ B
  obtain ⟨⟨h1, hW⟩, h⟩ := h
  rw [h1]
  have h : R (oLu (byW ⟨k, mag, pg, sb, n, L, T, W, B⟩)) := h
  have hm : 1 ≤ mag % 3 + 1 ∧ mag % 3 + 1 ≤ 8 := ⟨by omega, by omega⟩
  refine (Box.of_eq (by_tree k mag pg sb n L T W B R) ⟨rfl, ?_⟩).out
  refine selBq (fun e => ?_) fun n1 => selBq (fun e => ?_) fun n2 => selBq (fun e => ?_) fun n3 => selBq (fun e => ?_) fun n4 => selBq (fun e => ?_) fun n5 => selBq (fun e => ?_) fun n6 => selBq (fun e => ?_) fun n7 => ?_
  · subst e
    exact ⟨⟨rfl, by decide, by decide⟩, ⟨rfl, pl_right mag pg sb, odV_len _ _⟩, h⟩
  · subst e
    have e1 : e16 (adr (mag % 3 + 1) (n % 25)) := adr_in hm ⟨by omega, by omega⟩
    have e2 : e16 (shrv .i64 (n % 25) 1) := by rw [sh_1]; exact ⟨by omega, by omega⟩
    exact ⟨⟨by decide, by decide⟩, ⟨rfl, by decide, by decide⟩, e1, e2, rfl, h⟩
  · subst e
    refine ⟨rfl, ⟨by decide, by decide⟩, sT (okTB_16 hm (by show 0 ≤ n % 16 ∧ n % 16 ≤ 15; omega) (.inr (.inr rfl))) (sT (decide_eq_true ?_) ⟨rfl, h⟩)⟩
    rw [List.drop_zero, List.length_take, tr3_len]
    rfl
  · subst e
    exact ⟨rfl, ⟨by decide, by decide⟩, sT (lkO_t _ _ _) ⟨rfl, h⟩⟩
  · subst e
    rw [wr28]
    exact ⟨⟨by decide, by decide⟩, ⟨by decide, by decide⟩, ⟨by decide, by decide⟩, sT (okTB_of hm (cdO_in pg) (.inl rfl)) ⟨rfl, h⟩⟩
  · subst e
    rw [wr29]
    exact ⟨⟨by decide, by decide⟩, ⟨by decide, by decide⟩, ⟨by decide, by decide⟩, sT (okTB_of hm (cdO_in pg) (.inr (.inl rfl))) ⟨rfl, h⟩⟩
  · subst e
    exact ⟨⟨by decide, by decide⟩, ⟨by decide, by decide⟩, ⟨by decide, by decide⟩, sT (svO_t _ _ _ _) ⟨rfl, h⟩⟩
  · refine ⟨hW, rfl, ?_⟩
    have e : byW ⟨k, mag, pg, sb, n, L, T, W, B⟩ = W := by
      unfold byW
      simp only
      rw [beq_eq_false_iff_ne.2 n1, beq_eq_false_iff_ne.2 n2, beq_eq_false_iff_ne.2 n3, beq_eq_false_iff_ne.2 n4, beq_eq_false_iff_ne.2 n5, beq_eq_false_iff_ne.2 n6, beq_eq_false_iff_ne.2 n7]
      rfl
    rw [e] at h
    exact h
theorem nil_in : ∀ b ∈ ([] : List Int), B8 b := fun b hb => by cases hb
theorem z_in : B8 0 := ⟨by decide, by decide⟩
theorem plN_in (a b c : Int) : ∀ x ∈ ls.plN a b c, B8 x := by
  unfold ls.plN
  iterate 6 (refine List.forall_mem_cons.2 ⟨put_in _, ?_⟩)
  exact nil_in
theorem lkB_in (mag n : Int) (L : List Int) : ∀ b ∈ lkB mag n L, B8 b := by
  unfold lkB ly ls.rlN
  iterate 3 (refine List.forall_mem_cons.2 ⟨put_in _, ?_⟩)
  iterate 6 (refine app_in (plN_in _ _ _) ?_)
  exact List.forall_mem_cons.2 ⟨put_in _, List.forall_mem_cons.2 ⟨z_in, List.forall_mem_cons.2 ⟨z_in, nil_in⟩⟩⟩
end Go.Proofs.YtlfmkacafppmlaaGreatDoor.bh
namespace Go.Proofs.YtlfmkacafppmlaaGreatDoor.mac
end Go.Proofs.YtlfmkacafppmlaaGreatDoor.mac
namespace Go.Proofs.YtlfmkacafppmlaaGreatDoor.rv
open Go Go.Nx Go.Proofs.YtlfmkacafppmlaaGreatDoor.pk Go.Proofs.YtlfmkacafppmlaaGreatDoor.ac Go.Proofs.YtlfmkacafppmlaaGreatDoor.sto Go.Proofs.YtlfmkacafppmlaaGreatDoor.pge Go.Proofs.YtlfmkacafppmlaaGreatDoor.dec Go.Proofs.YtlfmkacafppmlaaGreatDoor.mac
structure Rm where
  mg : Int
  pn : Int
  sb : Int
  ds : List Int
  su : List Int
  sub : Bool
  hd : Bool
  rv : Bool
  mx : Bool
def Rm.nc (s : Rm) : List NC := [.i .i64 s.mg, .i .i64 s.pn, .i .i64 s.sb, .l .i64 s.ds, .l .i64 s.su, .b s.sub, .b s.hd, .b s.rv, .b s.mx]
def Rm.ky (s : Rm) : Ky := (s.mg, s.pn, s.sb)
def rmZ : Rm := ⟨1, 0, 16255, [], [], false, false, false, false⟩
structure Rv where
  m : Mc
  s : Rm
  p : Pg
  fd : Bool
  tk : Int
noncomputable def rcReg (r : Nat) (rm : List NC) (p : Pg) (x : NC) (fd : Bool) (tk : Int) : Reg := ⟨1073, 179, .sg (pgSegs p x (.p r 0 0 :: rm) fun q => [.cells (q ++ [.b fd, .i .i64 tk])])⟩
noncomputable def rcG (V : Rv) : Reg := rcReg 1 V.s.nc V.p (.lr K3 V.p.ex) V.fd V.tk
noncomputable def stN (n : Nat) (s : Sto) : Reg := stReg s.most n (.hz (n + 1) s.l.length) s.pin.1 s.pin.2.1 s.pin.2.2 s.pd
noncomputable def inV (V : Rv) : List Reg := [rcG V, mcG 2 V.m.v V.m.inf, stN 3 V.m.st.sto, ac.mpReg V.m.st.sto.m, ordReg (kyRows V.m.st.sto.l)]
def rdRv : List Reg → Option Rv
  | ⟨_, _, .sg [.cells [.p _ _ _, .i _ a, .i _ b, .i _ c, .l _ ds, .l _ su, .b sub, .b hd, .b rv, .b mx, .i _ mg, .i _ pn, .i _ sb], .recs _ _ cc, .cells [.i _ op], .ints _ _ rows, .recs _ _ th, .cells [.lr _ ex], .recs _ _ lk, .cells [.b ld, .i _ df, .b fd, .i _ tk]]⟩ :: rest => (match rdMc rest with
    | some M => some ⟨M, ⟨a, b, c, ds, su, sub, hd, rv, mx⟩, ⟨mg, pn, sb, cc, op, rows, th, ex, lk, ld, df⟩, fd, tk⟩
    | none => none)
  | _ => none
def Rv.bk (V : Rv) : Rv := { V with m := mac.bk V.m }
theorem Rv.bk_eq (V : Rv) (h : V.m.far) : V.bk = V := by unfold Rv.bk; rw [mac.bk_eq _ h]
def onV (regs : List Reg) (f : Rv → Tr Out) : Tr Out :=
  match rdRv regs with
  | some V => .must (regs = inV V ∧ V.m.ok) (f V)
  | none => .fail
theorem onV_elim {regs : List Reg} {f : Rv → Tr Out} {R : Out → Prop} (h : (onV regs f).run R) : ∃ V, regs = inV V ∧ V.m.ok ∧ (f V).run R := by
  unfold onV at h
  split at h
  · exact ⟨_, h.1.1, h.1.2, h.2⟩
  · exact h.elim
noncomputable def c_mpin : FuncId → Option Con := conOf [(79, tPin)]
theorem kc_mpin : ∀ f T, c_mpin f = some T → Known Tryz.prog GL f T := (Knowns.cons kPin .nil).get
noncomputable def t_mpin : Con := fun args regs => nfun Tryz.prog GL c_mpin [] Tryz.f26 args regs
theorem k_mpin : Known Tryz.prog GL 26 t_mpin := known_inl Tryz.func26 rfl (by kernel_rfl) mixed kc_mpin (by kernel_rfl)
def Mc.pinned (M : Mc) (k : Ky) : Mc := { M with st := { M.st with pin := k, pd := true } }
def Mc.freed (M : Mc) : Mc := { M with st := { M.st with pd := false } }
noncomputable def oMc (M : Mc) : Out := ⟨.tu [], (inM M).map some⟩
theorem mpin_tree (M : Mc) (k : Ky) (R : Out → Prop) : (t_mpin [.c (.p 0 0 0), .ag (kyNC k)] (inM M)).run R = ((sto.inP M.st = sto.inP (mpP M.st) ∧ (mpP M.st).ok) ∧ R (oMc (Mc.pinned { M with st := mpP M.st } k))) := by kernel_rfl
noncomputable def tMpin : Con := fun args regs => match args with
  | [.c (.p 0 0 0), .ag [.i _ a, .i _ b, .i _ c]] => onM regs fun M => .must (args = [.c (.p 0 0 0), .ag (kyNC (a, b, c))]) (.ret (oMc (Mc.pinned M (a, b, c))))
  | _ => .fail
theorem mp_self (M : Mc) : ({ M with st := mpP M.st } : Mc) = M := by rw [mpP_eq]
attribute [local irreducible] t_mpin in
set_option maxRecDepth 100000 in
theorem kMpin : Known Tryz.prog GL 26 tMpin := by
  refine k_mpin.less fun args regs R h => ?_
  unfold tMpin at h
  split at h
  case h_2 => exact h.elim
  rename_i _ a _ b _ c
  obtain ⟨M, rfl, hM, h1, h⟩ := onM_elim h
  rw [h1]
  refine (Box.of_eq (mpin_tree M (a, b, c) R) ⟨⟨by rw [mpP_eq], by rw [mpP_eq]; exact hM.2⟩, ?_⟩).out
  rw [mp_self]
  exact h
noncomputable def c_show : FuncId → Option Con := conOf [(26, tMpin)]
theorem kc_show : ∀ f T, c_show f = some T → Known Tryz.prog GL f T := (Knowns.cons kMpin .nil).get
noncomputable def t_show : Con := fun args regs => nfun Tryz.prog GL c_show [] Tryz.f96 args regs
theorem k_show : Known Tryz.prog GL 96 t_show := known_inl Tryz.func96 rfl (by kernel_rfl) mixed kc_show (by kernel_rfl)
def Rv.shown (V : Rv) (x : Pg × Bool) : Rv := match x.2 with
  | true => { V with m := Mc.pinned V.m (kyP x.1), p := x.1, fd := true }
  | false => V
noncomputable def oRv (V : Rv) : Out := ⟨.tu [], (inV V).map some⟩
noncomputable def showT (V : Rv) (q : Pg) (is : Bool) (R : Out → Prop) : Prop := sel is ((inM V.m = inM (mac.bk V.m) ∧ (mac.bk V.m).ok) ∧ [NV.c (.p 0 0 0), .ag (kyNC (kyP q))] = [.c (.p 0 0 0), .ag (kyNC (kyP q))] ∧ R (oRv (V.bk.shown (q, true)))) (R (oRv V))
theorem show_tree (V : Rv) (q : Pg) (is : Bool) (R : Out → Prop) : (t_show [.c (.p 0 0 0), pgV q, .c (.b is)] (inV V)).run R = showT V q is R := by kernel_rfl
noncomputable def tShow : Con := fun args regs => match args with
  | [.c (.p 0 0 0), v, .c (.b is)] => (match sto.rdPg v with
    | some q => onV regs fun V => .must (args = [.c (.p 0 0 0), pgV q, .c (.b is)]) (.ret (oRv (V.shown (q, is))))
    | none => .fail)
  | _ => .fail
attribute [local irreducible] t_show in
set_option maxRecDepth 100000 in
theorem kShow : Known Tryz.prog GL 96 tShow := by
  refine k_show.less fun args regs R h => ?_
  unfold tShow at h
  split at h
  case h_2 => exact h.elim
  rename_i v is
  split at h
  case h_2 => exact h.elim
  rename_i q _
  obtain ⟨V, rfl, hV, h1, h⟩ := onV_elim h
  rw [h1]
  refine (Box.of_eq (show_tree V q is R) ?_).out
  unfold showT
  rw [V.bk_eq hV.1, mac.bk_eq _ hV.1]
  cases is with
  | true => exact sT rfl ⟨⟨rfl, hV⟩, rfl, h⟩
  | false => exact sF rfl h
noncomputable def t_rstart : Con := fun args regs => nfun Tryz.prog GL (fun _ => Option.none) [] Tryz.f95 args regs
theorem k_rstart : Known Tryz.prog GL 95 t_rstart := known_inl Tryz.func95 rfl (by kernel_rfl) mixed con_none (by kernel_rfl)
noncomputable def c_tnew0 : FuncId → Option Con := conOf [(14, tNewM), (95, t_rstart)]
theorem kc_tnew0 : ∀ f T, c_tnew0 f = some T → Known Tryz.prog GL f T := (Knowns.cons kNewM (.cons k_rstart .nil)).get
noncomputable def t_tnew0 : Con := fun args regs => nfun Tryz.prog GL c_tnew0 [] Tryz.f35 args regs
theorem k_tnew0 : Known Tryz.prog GL 35 t_tnew0 := known_inl Tryz.func35 rfl (by kernel_rfl) mixed kc_tnew0 (by kernel_rfl)
def nilsV : List (Nat × Nat × Nat × NC) := [(0, 0, 4, .l .i64 []), (0, 0, 5, .l .i64 []), (0, 5, 0, .lr K3 [])]
noncomputable def t_tnewC : Con := softT [] [] [] nilsV 5 t_tnew0
theorem k_tnewC : Known Tryz.prog GL 35 t_tnewC := k_tnew0.soft [] [] [] nilsV 5
def rvN (n : Int) : Rv := ⟨mcN n, rmZ, pgZ, false, 0⟩
noncomputable def oNv (n : Int) : Out := ⟨.tu [.c (.p 0 0 0), .c .en], (inV (rvN n)).map some⟩
theorem tnew_tree (n : Int) (R : Out → Prop) : (t_tnewC [.c (.i .i64 n)] []).run R = ([NV.c (.i .i64 n)] = [NV.c (.i .i64 n)] ∧ sel (decide (n < 1)) (R oNo) (sel (decide (n > 800)) (R oNo) (R (oNv n)))) := by kernel_rfl
noncomputable def tNewV : Con := fun args regs => match args, regs with
  | [.c (.i _ n)], [] => .must (args = [.c (.i .i64 n)]) (.br (decide (n < 1)) (.ret oNo) (.br (decide (n > 800)) (.ret oNo) (.ret (oNv n))))
  | _, _ => .fail
attribute [local irreducible] t_tnewC in
set_option maxRecDepth 100000 in
theorem kNewV : Known Tryz.prog GL 35 tNewV := by
  refine k_tnewC.less fun args regs R h => ?_
  unfold tNewV at h
  split at h
  case h_2 => exact h.elim
  rename_i n
  rw [h.1]
  exact (Box.of_eq (tnew_tree n R) ⟨rfl, h.2⟩).out
noncomputable def t_tmach : Con := fun args regs => nfun Tryz.prog GL (fun _ => Option.none) [] Tryz.f38 args regs
theorem k_tmach : Known Tryz.prog GL 38 t_tmach := known_inl Tryz.func38 rfl (by kernel_rfl) mixed con_none (by kernel_rfl)
noncomputable def c_rpk : FuncId → Option Con := conOf [(15, tPk), (22, tFd), (96, tShow)]
theorem kc_rpk : ∀ f T, c_rpk f = some T → Known Tryz.prog GL f T := (Knowns.cons kPk (.cons kFd (.cons kShow .nil))).get
noncomputable def t_rpk : Con := fun args regs => nfun Tryz.prog GL c_rpk [] Tryz.f36 args regs
theorem k_rpk : Known Tryz.prog GL 36 t_rpk := known_inl Tryz.func36 rfl (by kernel_rfl) mixed kc_rpk (by kernel_rfl)
noncomputable def stO (n k : Nat) (s : Sto) : Reg := stReg s.most n (.hz k s.l.length) s.pin.1 s.pin.2.1 s.pin.2.2 s.pd
noncomputable def outV (V : Rv) : List (Option Reg) := [some (rcG V), some (mcG 2 V.m.v V.m.inf), some (stO 3 5 V.m.st.sto), some (ac.mpReg V.m.st.sto.m), none, some (ordReg (kyRows V.m.st.sto.l))]
noncomputable def oRe (V : Rv) (e : NC) : Out := ⟨.v (.c e), outV V⟩
def Rv.look (V : Rv) : Rv := match V.s.hd with
  | true => V
  | false => V.shown (V.m.find V.s.ky)
noncomputable def Rv.packet (V : Rv) (bs : List Int) : Rv × Option Nat := match (V.m.step bs).2 with
  | none => (Rv.look { V with m := (V.m.step bs).1 }, none)
  | some k => ({ V with m := (V.m.step bs).1 }, some k)
def Rv.withM (V : Rv) (M : Mc) : Rv := { V with m := M }
noncomputable def findT (V : Rv) (R : Rv → Prop) : Prop := (inM V.m = inM (mac.bk V.m) ∧ (mac.bk V.m).ok) ∧ (([NV.c (.p 0 0 0), .ag (kyNC V.s.ky)] = [.c (.p 0 0 0), .ag (kyNC V.s.ky)] ∧ (mac.bk V.m).good) ∧
    ((inV V.bk = inV V.bk.bk ∧ V.bk.bk.m.ok) ∧ ([NV.c (.p 0 0 0), pgV ((mac.bk V.m).find V.s.ky).1, .c (.b ((mac.bk V.m).find V.s.ky).2)] = [.c (.p 0 0 0), pgV ((mac.bk V.m).find V.s.ky).1, .c (.b ((mac.bk V.m).find V.s.ky).2)] ∧ R (V.bk.bk.shown ((mac.bk V.m).find V.s.ky)))))
noncomputable def rpkT (V : Rv) (bs : List Int) (R : Out → Prop) : Prop :=
  (inM V.m = inM (mac.bk V.m) ∧ (mac.bk V.m).ok) ∧ (([NV.c (.p 0 0 0), .c (.l .u8 bs)] = [.c (.p 0 0 0), .c (.l .u8 bs)] ∧ (mac.bk V.m).good ∧ ∀ b ∈ bs, 0 ≤ b ∧ b < 256) ∧
    sel (((mac.bk V.m).step bs).2 == none) (sel (!V.s.hd) (findT (V.withM ((mac.bk V.m).step bs).1) fun V => R (oRe V .en)) (R (oRe (V.withM ((mac.bk V.m).step bs).1) .en)))
      (sel (((mac.bk V.m).step bs).2 == some eLen) (R (oRe (V.withM ((mac.bk V.m).step bs).1) (.e eLen))) (sel (((mac.bk V.m).step bs).2 == some eBit) (R (oRe (V.withM ((mac.bk V.m).step bs).1) (.e eBit))) (sel (((mac.bk V.m).step bs).2 == some eKnd) (R (oRe (V.withM ((mac.bk V.m).step bs).1) (.e eKnd))) (R (oRe (V.withM ((mac.bk V.m).step bs).1) (.e eRng)))))))
theorem rpk_tree (V : Rv) (bs : List Int) (R : Out → Prop) : (t_rpk [.c (.p 0 0 0), .c (.l .u8 bs)] (inV V)).run R = rpkT V bs R := by kernel_rfl
theorem find_in {V : Rv} {R : Rv → Prop} (hV : V.m.good) (h : R (V.shown (V.m.find V.s.ky))) : findT V R := by
  unfold findT
  rw [V.bk_eq hV.far, V.bk_eq hV.far, hV.bk]
  exact ⟨⟨rfl, hV.ok⟩, ⟨rfl, hV⟩, ⟨rfl, hV.ok⟩, rfl, h⟩
noncomputable def errV (e : Option Nat) (V : Rv) : Tr Out :=
  .br (e == none) (.ret (oRe V .en)) (.br (e == some eLen) (.ret (oRe V (.e eLen))) (.br (e == some eBit) (.ret (oRe V (.e eBit))) (.br (e == some eKnd) (.ret (oRe V (.e eKnd))) (.ret (oRe V (.e eRng))))))
theorem errV_run {e : Option Nat} {V : Rv} {R : Out → Prop} (he : e = none ∨ e = some eLen ∨ e = some eBit ∨ e = some eKnd ∨ e = some eRng) (h : (errV e V).run R) : R (oRe V (ncE e)) := by
  rcases he with rfl | rfl | rfl | rfl | rfl
  all_goals exact h
noncomputable def tRpk : Con := fun args regs => match args with
  | [.c (.p 0 0 0), .c (.l _ bs)] => onV regs fun V => .must (args = [.c (.p 0 0 0), .c (.l .u8 bs)] ∧ V.m.good ∧ ∀ b ∈ bs, 0 ≤ b ∧ b < 256) (errV (V.packet bs).2 (V.packet bs).1)
  | _ => .fail
theorem packet_err (V : Rv) (bs : List Int) : (V.packet bs).2 = (V.m.step bs).2 := by
  unfold Rv.packet
  split <;> simp [*]
theorem rpk_in {V : Rv} {bs : List Int} {R : Out → Prop} (hV : V.m.good) (hb : ∀ b ∈ bs, 0 ≤ b ∧ b < 256) (h : R (oRe (V.packet bs).1 (ncE (V.packet bs).2))) : rpkT V bs R := by
  have hg := step_good hV hb
  unfold rpkT
  rw [hV.bk]
  refine ⟨⟨rfl, hV.ok⟩, ⟨rfl, hV, hb⟩, ?_⟩
  unfold Rv.packet at h
  rcases step_err V.m bs with he | he | he | he | he
  · rw [he] at h ⊢
    refine sT rfl ?_
    unfold Rv.look at h
    cases hh : V.s.hd with
    | true => simp only [hh] at h; exact sF rfl h
    | false =>
      simp only [hh] at h
      exact sT rfl (find_in (V := V.withM (V.m.step bs).1) hg h)
  all_goals rw [he] at h ⊢; exact h
attribute [local irreducible] t_rpk in
set_option maxRecDepth 100000 in
theorem kRpk : Known Tryz.prog GL 36 tRpk := by
  refine k_rpk.less fun args regs R h => ?_
  unfold tRpk at h
  split at h
  case h_2 => exact h.elim
  rename_i _ bs
  obtain ⟨V, rfl, hV, ⟨h1, hg, hb⟩, h⟩ := onV_elim h
  rw [h1]
  refine (Box.of_eq (rpk_tree V bs R) (rpk_in hg hb (errV_run ?_ h))).out
  rw [packet_err]
  exact step_err V.m bs
def rdRm : List NC → Option Rm
  | [.i _ a, .i _ b, .i _ c, .l _ ds, .l _ su, .b sub, .b hd, .b rv, .b mx] => some ⟨a, b, c, ds, su, sub, hd, rv, mx⟩
  | _ => none
end Go.Proofs.YtlfmkacafppmlaaGreatDoor.rv
namespace Go.Proofs.YtlfmkacafppmlaaGreatDoor.rv
open Go Go.Nx Go.Proofs.YtlfmkacafppmlaaGreatDoor.pk Go.Proofs.YtlfmkacafppmlaaGreatDoor.ac Go.Proofs.YtlfmkacafppmlaaGreatDoor.sto Go.Proofs.YtlfmkacafppmlaaGreatDoor.pge Go.Proofs.YtlfmkacafppmlaaGreatDoor.dec Go.Proofs.YtlfmkacafppmlaaGreatDoor.mac
def Rv.with (V : Rv) (s : Rm) : Rv := { V with s := s }
def Rv.fresh (V : Rv) (s : Rm) : Rv := { V with s := s, p := pgZ, fd := false, m := Mc.freed V.m }
theorem pinned_good {M : Mc} (h : M.good) (k : Ky) : (Mc.pinned M k).good := ⟨h.far, h.nd, h.m1, h.m8, h.len, h.fit, h.vfit, h.txt⟩
noncomputable def t_rline0 : Con := fun args regs => nfun Tryz.prog GL (fun _ => Option.none) [] Tryz.f97 args regs
theorem k_rline0 : Known Tryz.prog GL 97 t_rline0 := known_inl Tryz.func97 rfl (by kernel_rfl) mixed con_none (by kernel_rfl)
def hexD : ByteArray := ⟨#[48, 49, 50, 51, 52, 53, 54, 55, 56, 57, 97, 98, 99, 100, 101, 102]⟩
def qd (a : Int) : Int := (IntKind.i64.wrap (a.tmod 10 + 10)).tmod 10
noncomputable def nib4 (p : Int) : Int := bits .and .i64 (shrv .i64 p 4) 15
noncomputable def nib0 (p : Int) : Int := bits .and .i64 p 15
noncomputable def line0 (m p : Int) : ByteArray := ⟨#[80]⟩ ++ strOfNums [byteAt hexD (qd m).toNat, byteAt hexD (nib4 p).toNat, byteAt hexD (nib0 p).toNat] ++ ⟨#[32, 32, 32, 32]⟩
noncomputable def oS (s : ByteArray) : Out := ⟨.v (.c (.s s)), []⟩
noncomputable def rlT (m p : Int) (R : Out → Prop) : Prop := sel (decide (0 ≤ qd m)) (sel (decide (qd m < 16)) (sel (decide (0 ≤ nib4 p)) (sel (decide (nib4 p < 16)) (sel (decide (0 ≤ nib0 p)) (sel (decide (nib0 p < 16)) (R (oS (line0 m p))) False) False) False) False) False) False
theorem rline_tree (m p u : Int) (su : List Int) (h r x : Bool) (R : Out → Prop) : (t_rline0 [.ag (Rm.nc ⟨m, p, u, [], su, false, h, r, x⟩)] []).run R = rlT m p R := by kernel_rfl
noncomputable def tLine0 : Con := fun args regs => match args, regs with
  | [.ag xs], [] => (match rdRm xs with
    | some s => .must (args = [.ag s.nc] ∧ s.sub = false ∧ s.ds = []) (.ret (oS (line0 s.mg s.pn)))
    | none => .fail)
  | _, _ => .fail
theorem qd_in (m : Int) : 0 ≤ qd m ∧ qd m < 16 := by
  have hk : ∀ k < 19, 0 ≤ ((Int.ofNat k + 1).tmod 10) ∧ ((Int.ofNat k + 1).tmod 10) < 16 := by decide
  have h1 := Int.tmod_lt_of_pos m (show (0 : Int) < 10 by decide)
  have h2 : -10 < m.tmod 10 := by
    have := Int.lt_tmod_of_pos m (show (0 : Int) < 10 by decide)
    omega
  unfold qd
  have hw : IntKind.i64.wrap (m.tmod 10 + 10) = m.tmod 10 + 10 := by rw [IntKind.wrap_i64]; omega
  rw [hw]
  have := hk (m.tmod 10 + 9).toNat (by omega)
  have e : Int.ofNat (m.tmod 10 + 9).toNat + 1 = m.tmod 10 + 10 := by show (((m.tmod 10 + 9).toNat : Nat) : Int) + 1 = _; omega
  rw [e] at this
  exact this
theorem nib_in (n : Int) : 0 ≤ bits .and .i64 n 15 ∧ bits .and .i64 n 15 < 16 := by
  have e : bits .and .i64 n 15 = n % 16 := and_mask64 _ 4 (by decide)
  rw [e]
  omega
attribute [local irreducible] t_rline0 in
set_option maxRecDepth 100000 in
theorem kLine0 : Known Tryz.prog GL 97 tLine0 := by
  refine k_rline0.less fun args regs R h => ?_
  unfold tLine0 at h
  split at h
  case h_2 => exact h.elim
  split at h
  case h_2 => exact h.elim
  rename_i s _
  obtain ⟨⟨h1, h2, h3⟩, h⟩ := h
  rw [h1]
  obtain ⟨m, p, u, ds, su, sub, hd, rv, mx⟩ := s
  simp only at h2 h3
  subst h2 h3
  refine (Box.of_eq (rline_tree m p u su hd rv mx R) ?_).out
  have q1 := qd_in m
  have q2 := nib_in (shrv .i64 p 4)
  have q3 := nib_in p
  exact sT (decide_eq_true q1.1) (sT (decide_eq_true q1.2) (sT (decide_eq_true q2.1) (sT (decide_eq_true q2.2) (sT (decide_eq_true q3.1) (sT (decide_eq_true q3.2) h)))))
noncomputable def c_stat0 : FuncId → Option Con := conOf [(97, tLine0), (20, tPgs)]
theorem kc_stat0 : ∀ f T, c_stat0 f = some T → Known Tryz.prog GL f T := (Knowns.cons kLine0 (.cons kPgs .nil)).get
noncomputable def t_stat0 : Con := fun args regs => nfun Tryz.prog GL c_stat0 [] Tryz.f37 args regs
theorem k_stat0 : Known Tryz.prog GL 37 t_stat0 := known_inl Tryz.func37 rfl (by kernel_rfl) mixed kc_stat0 (by kernel_rfl)
noncomputable def stNC (V : Rv) (l : ByteArray) : List NC := [.i .i64 V.s.mg, .i .i64 V.s.pn, .i .i64 V.s.sb, .b V.fd, .i .i64 V.p.mg, .i .i64 V.p.pn, .i .i64 V.p.sb, .s l, .i .i64 (kyRows (V.m.st.L.map kyP)).length, .i .i64 V.tk]
noncomputable def stat0T (V : Rv) (R : Out → Prop) : Prop := ([NV.ag V.s.nc] = [.ag V.s.nc] ∧ V.s.sub = false ∧ V.s.ds = []) ∧ ((inM V.m = inM (mac.bk V.m) ∧ (mac.bk V.m).ok) ∧ (some (mcG 2 V.m.v V.m.inf) = some (mcG 2 V.bk.m.v V.bk.m.inf) ∧ (some (stN 3 V.m.st.sto) = some (stN 3 V.bk.m.st.sto) ∧ (some (ac.mpReg V.m.st.sto.m) = some (ac.mpReg V.bk.m.st.sto.m) ∧ (some (ordReg (kyRows V.m.st.sto.l)) = some (ordReg (kyRows V.bk.m.st.sto.l)) ∧ R ⟨.v (.ag (stNC V.bk (line0 V.s.mg V.s.pn))), (inV V).map some⟩)))))
theorem stat0_tree (V : Rv) (R : Out → Prop) : (t_stat0 [.c (.p 0 0 0)] (inV V)).run R = stat0T V R := by kernel_rfl
noncomputable def oSv (V : Rv) (l : ByteArray) : Out := ⟨.v (.ag [.i .i64 V.s.mg, .i .i64 V.s.pn, .i .i64 V.s.sb, .b V.fd, .i .i64 V.p.mg, .i .i64 V.p.pn, .i .i64 V.p.sb, .s l, .i .i64 V.m.st.L.length, .i .i64 V.tk]), (inV V).map some⟩
noncomputable def tStat0 : Con := fun args regs => match args with
  | [.c (.p 0 0 0)] => onV regs fun V => .must (V.s.sub = false ∧ V.s.ds = []) (.ret (oSv V (line0 V.s.mg V.s.pn)))
  | _ => .fail
attribute [local irreducible] t_stat0 in
set_option maxRecDepth 100000 in
theorem kStat0 : Known Tryz.prog GL 37 tStat0 := by
  refine k_stat0.less fun args regs R h => ?_
  unfold tStat0 at h
  split at h
  case h_2 => exact h.elim
  obtain ⟨V, rfl, hV, hs, h⟩ := onV_elim h
  refine (Box.of_eq (stat0_tree V R) ?_).out
  unfold stat0T
  rw [V.bk_eq hV.1, mac.bk_eq _ hV.1]
  refine ⟨⟨rfl, hs⟩, ⟨rfl, hV⟩, rfl, rfl, rfl, rfl, ?_⟩
  have e : (kyRows (V.m.st.L.map kyP)).length = V.m.st.L.length := by rw [kyRows_length, List.length_map]
  have h : R (oSv V (line0 V.s.mg V.s.pn)) := h
  unfold oSv at h
  unfold stNC
  rw [e]
  exact h
noncomputable def c_f19 : FuncId → Option Con := conOf [(35, tNewV), (37, tStat0), (38, t_tmach)]
theorem kc_f19 : ∀ f T, c_f19 f = some T → Known Tryz.prog GL f T := (Knowns.cons kNewV (.cons kStat0 (.cons k_tmach .nil))).get
noncomputable def t_f19 : Con := fun args regs => nfun Tryz.prog GL c_f19 [] Tryz.f34 args regs
theorem k_f19 : Known Tryz.prog GL 34 t_f19 := known_inl Tryz.func34 rfl (by kernel_rfl) mixed kc_f19 (by kernel_rfl)
noncomputable def f19T (R : Out → Prop) : Prop := [NV.c (.i .i64 1)] = [NV.c (.i .i64 1)] ∧ ((inV (rvN 1) = inV (rvN 1).bk ∧ (rvN 1).bk.m.ok) ∧ (((rvN 1).bk.s.sub = false ∧ (rvN 1).bk.s.ds = []) ∧ R ⟨.v (.c (.b true)), []⟩))
theorem f19_tree (R : Out → Prop) : (t_f19 [] []).run R = f19T R := by kernel_rfl
noncomputable def tF19 : Con := fun args regs => match args, regs with
  | [], [] => .ret ⟨.v (.c (.b true)), []⟩
  | _, _ => .fail
attribute [local irreducible] t_f19 in
set_option maxRecDepth 100000 in
theorem kF19 : Known Tryz.prog GL 34 tF19 := by
  refine k_f19.less fun args regs R h => ?_
  unfold tF19 at h
  split at h
  case h_2 => exact h.elim
  have hg := mcN_good (n := 1) (by omega) (by omega)
  refine (Box.of_eq (f19_tree R) ?_).out
  unfold f19T
  rw [Rv.bk_eq _ hg.far]
  exact ⟨rfl, ⟨rfl, hg.ok⟩, ⟨rfl, rfl⟩, h⟩
end Go.Proofs.YtlfmkacafppmlaaGreatDoor.rv
namespace Go.Proofs.YtlfmkacafppmlaaGreatDoor.rv
open Go.Proofs.YtlfmkacafppmlaaGreatDoor.sto (sT sF Ky Sp kyP kyNC)
open Go.Proofs.YtlfmkacafppmlaaGreatDoor.ac (Pg pgZ)
open Go Go.Nx Go.Proofs.YtlfmkacafppmlaaGreatDoor.pk Go.Proofs.YtlfmkacafppmlaaGreatDoor.mac Go.Proofs.YtlfmkacafppmlaaGreatDoor.bm Go.Proofs.YtlfmkacafppmlaaGreatDoor.rv
theorem shown_good {V : Rv} (h : V.m.good) (x : Pg × Bool) : (V.shown x).m.good := by
  unfold Rv.shown
  split
  · exact pinned_good h _
  · exact h
theorem look_good {V : Rv} (h : V.m.good) : V.look.m.good := by
  unfold Rv.look
  split
  · exact h
  · exact shown_good h _
theorem packet_good {V : Rv} (h : V.m.good) {bs : List Int} (hb : ∀ b ∈ bs, 0 ≤ b ∧ b < 256) : (V.packet bs).1.m.good := by
  have hg := step_good h hb
  unfold Rv.packet
  split
  · exact look_good (V := { V with m := (V.m.step bs).1 }) hg
  · exact hg
end Go.Proofs.YtlfmkacafppmlaaGreatDoor.rv
namespace Go.Proofs.YtlfmkacafppmlaaGreatDoor.ke
open Go.Proofs.YtlfmkacafppmlaaGreatDoor.sto (sT sF Ky Sp kyP kyNC)
open Go.Proofs.YtlfmkacafppmlaaGreatDoor.ac (Pg pgZ)
open Go Go.Nx Go.Proofs.YtlfmkacafppmlaaGreatDoor.pk Go.Proofs.YtlfmkacafppmlaaGreatDoor.mac Go.Proofs.YtlfmkacafppmlaaGreatDoor.bm Go.Proofs.YtlfmkacafppmlaaGreatDoor.rv
noncomputable abbrev f_li := Tryz.f13
noncomputable def X_li : Cx := { P := Tryz.prog, con := fun _ => Option.none, glob := GL, m := 0, loops := [] }
noncomputable def sLi (l : List Dv) (i : Int) : St := { fr := frame 50 [(0, .v (.c (.lt dvSch (l.map Dv.fc)))), (5, .v (.c (.i .i64 i)))], rg := [] }
noncomputable def eLi : St := { fr := frame 50 [(4, .v (.c (.b false)))], rg := [] }
noncomputable def dLi : St := { fr := frame 50 [], rg := [] }
noncomputable def rLi (s : St) : Tr RO := roundT X_li 0 [0, 5] [4] (bodyLoop f_li 0) s
def rwK (l : List Dv) (i : Int) : Dv := ofFc ((l.map Dv.fc).getD i.toNat [])
noncomputable def li1 (l : List Dv) (i : Int) (xs : List Int) (R : RO → Prop) (A : Prop) : Prop := ixU i (l.map Dv.fc).length (sel (decide ((xs.length : Int) > 60)) (R (.done .ret eLi)) A)
theorem li_tree (l : List Dv) (i : Int) (R : RO → Prop) : (rLi (sLi l i)).run R =
    sel (decide (i < ((l.map Dv.fc).length : Int))) (li1 l i (rwK l i).L R (li1 l i (rwK l i).T R (li1 l i (rwK l i).W R (li1 l i (rwK l i).B R (R (.next (sLi l (IntKind.i64.wrap (i + 1))))))))) (R (.done .normal dLi)) := by kernel_rfl
def smallD (d : Dv) : Bool := !decide ((d.L.length : Int) > 60) && (!decide ((d.T.length : Int) > 60) && (!decide ((d.W.length : Int) > 60) && !decide ((d.B.length : Int) > 60)))
theorem rwK_eq {l : List Dv} {i : Nat} (h : i < l.length) : rwK l (i : Int) = l[i] := by
  unfold rwK
  have e : ((i : Nat) : Int).toNat = i := by simp
  rw [e, List.getD_eq_getElem?_getD, List.getElem?_map, List.getElem?_eq_getElem h]
  exact ofFc_fc _
structure ALi where
  l : List Dv
  i : Nat
noncomputable def hLi (x : ALi) : St := sLi x.l (x.i : Int)
def preLi (x : ALi) (R : NExit × St → Prop) : Prop := (x.i ≤ x.l.length ∧ x.l.length ≤ 1000000) ∧ sel ((x.l.drop x.i).all smallD) (R (.normal, dLi)) (R (.ret, eLi))
def nxtLi (x : ALi) (R : NExit × St → Prop) (q : RO) : Prop := match q with
  | .next s => ∃ y, s = hLi y ∧ y.l.length - y.i < x.l.length - x.i ∧ preLi y R
  | .done e s => R (e, s)
theorem li_step {l : List Dv} {i : Nat} {xs : List Int} {R : RO → Prop} {A E : Prop} {b : Bool} (hi : i < l.length) (h : sel (!decide ((xs.length : Int) > 60) && b) A (R (.done .ret eLi))) (hA : sel b A (R (.done .ret eLi)) → E) : li1 l (i : Int) xs R E := by
  unfold li1
  refine ixU_in ⟨by omega, by rw [List.length_map]; omega⟩ ?_
  cases hd : decide ((xs.length : Int) > 60) with
  | true => rw [hd] at h; exact sT rfl h
  | false => rw [hd] at h; exact sF rfl (hA h)
theorem li_in (x : ALi) (R : NExit × St → Prop) (h : preLi x R) : Box ((rLi (hLi x)).run (nxtLi x R)) := by
  obtain ⟨l, i⟩ := x
  obtain ⟨⟨h1, h2⟩, hR⟩ := h
  simp only at h1 h2 hR
  have hw : IntKind.i64.wrap ((i : Int) + 1) = ((i + 1 : Nat) : Int) := by rw [IntKind.wrap_i64]; omega
  refine Box.of_eq (li_tree l (i : Int) _) ?_
  by_cases hk : i < l.length
  · refine sT (decide_eq_true (by rw [List.length_map]; omega)) ?_
    rw [rwK_eq hk, hw]
    rw [List.drop_eq_getElem_cons hk, List.all_cons] at hR
    have h0 : sel (smallD l[i] && true) (nxtLi ⟨l, i⟩ R (.next (hLi ⟨l, i + 1⟩))) (nxtLi ⟨l, i⟩ R (.done .ret eLi)) := by
      rw [Bool.and_true]
      cases hs : smallD l[i] with
      | true =>
        rw [hs, Bool.true_and] at hR
        exact ⟨⟨l, i + 1⟩, rfl, by simp only; omega, ⟨by simp only; omega, h2⟩, hR⟩
      | false =>
        rw [hs, Bool.false_and] at hR
        exact hR
    rw [Bool.and_true] at h0
    unfold smallD at h0
    refine li_step hk h0 fun h0 => li_step hk h0 fun h0 => li_step hk h0 fun h0 => li_step (b := true) hk (by rw [Bool.and_true]; exact h0) fun h0 => ?_
    exact h0
  · refine sF (decide_eq_false (by rw [List.length_map]; omega)) ?_
    rw [List.drop_eq_nil_iff.2 (by omega)] at hR
    exact hR
def rdLi (s : St) : Option (List Dv) := match s.fr[(0 : Nat)]? with
  | some (.v (.c (.lt _ xs))) => some (xs.map ofFc)
  | _ => none
noncomputable def lLi (s : St) : Tr (NExit × St) := match rdLi s with
  | some l => .must (s = sLi l 0 ∧ l.length ≤ 1000000) (.br (l.all smallD) (.ret (.normal, dLi)) (.ret (.ret, eLi)))
  | none => .fail
set_option maxRecDepth 100000 in
theorem loop_li : LOk Tryz.prog GL 0 0 (bodyLoop f_li 0) lLi := by
  refine loop_ok (X := X_li) con_none mixed (LAll.none (by kernel_rfl)) [0, 5] [4] hLi (fun x => x.l.length - x.i) preLi ?_ ?_
  · intro s R h
    unfold lLi at h
    split at h
    case h_2 => exact h.elim
    rename_i l hx
    obtain ⟨⟨hs, hl⟩, hR⟩ := h
    exact ⟨⟨l, 0⟩, hs, ⟨Nat.zero_le _, hl⟩, hR⟩
  · intro x R h
    exact Tr.run_mono _ (fun q hq => hq) (li_in x R h).out
noncomputable def t_li : Con := fun args regs => if regs.length = 0 then nfun Tryz.prog GL (fun _ => Option.none) [(0, [0, 5], lLi)] f_li args regs else .fail
theorem k_li : Known Tryz.prog GL 13 t_li := known_loops 0 Tryz.func13 rfl (by kernel_rfl) mixed con_none (LAll.one (id := 0) (body := bodyLoop f_li 0) (by kernel_rfl) rfl loop_li)
noncomputable def oBl (b : Bool) : Out := ⟨.v (.c (.b b)), []⟩
theorem lt_tree (l : List Dv) (n : Int) (R : Out → Prop) : (t_li [.c (.lt dvSch (l.map Dv.fc)), .c (.i .i64 n)] []).run R =
    sel (decide (((l.map Dv.fc).length : Int) > n)) (R (oBl false)) ((sLi l 0 = sLi ((l.map Dv.fc).map ofFc) 0 ∧ ((l.map Dv.fc).map ofFc).length ≤ 1000000) ∧ sel (((l.map Dv.fc).map ofFc).all smallD) (R (oBl true)) (R (oBl false))) := by kernel_rfl
theorem ofFc_map (l : List Dv) : (l.map Dv.fc).map ofFc = l := by
  rw [List.map_map]
  exact List.map_id l
def lightV (l : List Dv) (n : Int) : Bool := !decide ((l.length : Int) > n) && l.all smallD
noncomputable def tLight : Con := fun args regs => match args, regs with
  | [.c (.lt _ xs), .c (.i _ n)], [] => .must (args = [.c (.lt dvSch ((xs.map ofFc).map Dv.fc)), .c (.i .i64 n)] ∧ n ≤ 1000) (.br (lightV (xs.map ofFc) n) (.ret (oBl true)) (.ret (oBl false)))
  | _, _ => .fail
attribute [local irreducible] t_li in
set_option maxRecDepth 100000 in
theorem kLight : Known Tryz.prog GL 13 tLight := by
  refine k_li.less fun args regs R h => ?_
  unfold tLight at h
  split at h
  case h_2 => exact h.elim
  rename_i _ xs _ n
  obtain ⟨⟨h1, hn⟩, h⟩ := h
  rw [h1]
  generalize xs.map ofFc = l at h
  have h : sel (lightV l n) (R (oBl true)) (R (oBl false)) := h
  refine (Box.of_eq (lt_tree l n R) ?_).out
  rw [ofFc_map, List.length_map]
  unfold lightV at h
  cases hd : decide ((l.length : Int) > n) with
  | true => rw [hd] at h; exact sT rfl h
  | false =>
    have hd' := of_decide_eq_false hd
    rw [hd] at h
    exact sF rfl ⟨⟨rfl, by omega⟩, h⟩
end Go.Proofs.YtlfmkacafppmlaaGreatDoor.ke
namespace Go.Proofs.YtlfmkacafppmlaaGreatDoor.ke
open Go.Proofs.YtlfmkacafppmlaaGreatDoor.sto (sT sF Ky Sp kyP kyNC kyRows ordReg)
open Go.Proofs.YtlfmkacafppmlaaGreatDoor.ac (Pg pgZ)
open Go Go.Nx Go.Proofs.YtlfmkacafppmlaaGreatDoor.pk Go.Proofs.YtlfmkacafppmlaaGreatDoor.mac Go.Proofs.YtlfmkacafppmlaaGreatDoor.bm Go.Proofs.YtlfmkacafppmlaaGreatDoor.rv
noncomputable abbrev f_ke := Tryz.f5
noncomputable def c_ke : FuncId → Option Con := conOf [(34, tF19), (12, num.tNumV), (13, tLight), (35, tNewV), (16, bh.tBy), (36, tRpk), (37, tStat0), (38, t_tmach), (20, tPgs), (22, tFd), (33, hd.tSamePT)]
theorem kc_ke : ∀ f T, c_ke f = some T → Known Tryz.prog GL f T := (Knowns.cons kF19 (.cons (known_gl num.kNumV) (.cons kLight (.cons kNewV (.cons bh.kBy (.cons kRpk (.cons kStat0 (.cons k_tmach (.cons kPgs (.cons kFd (.cons hd.kSamePT .nil))))))))))).get
noncomputable def X_ke : Cx := { P := Tryz.prog, con := c_ke, glob := GL, m := 0, loops := [] }
noncomputable def sKe (n : Int) (l : List Dv) (V : Rv) (i : Int) : St := { fr := frame 97 [(0, .v (.c (.i .i64 n))), (1, .v (.c (.lt dvSch (l.map Dv.fc)))), (5, .v (.c (.b true))), (6, .v (.c (.p 0 0 0))), (8, .v (.c (.i .i64 i)))], rg := (inV V).map some }
noncomputable def dKe : St := { fr := frame 97 [(5, .v (.c (.b true)))], rg := [] }
noncomputable def eKe : St := { fr := frame 97 [(4, .v (.c (.b false))), (5, .v (.c (.b true)))], rg := [] }
noncomputable def rKe (s : St) : Tr RO := roundT X_ke 0 [0, 1, 5, 6, 8] [4, 5] (bodyLoop f_ke 0) s
def five (e : Option Nat) (X : Prop) : Prop := sel (e == none) X (sel (e == some eLen) X (sel (e == some eBit) X (sel (e == some eKnd) X X)))
theorem five_in {e : Option Nat} {X : Prop} (h : X) : five e X := by
  have two : ∀ {b : Bool} {A B : Prop}, A → B → sel b A B := fun {b A B} ha hb => by
    cases b with
    | true => exact sT rfl ha
    | false => exact sF rfl hb
  exact two h (two h (two h (two h h)))
def rdyV (V : Rv) : Prop := inV V = inV V.bk ∧ V.bk.m.ok
def rdyM (M : Mc) : Prop := inM M = inM (mac.bk M) ∧ (mac.bk M).ok
noncomputable def fndT (U W : Rv) (q : Pg × Bool) (no yes : Prop) : Prop := sel (!q.2) no ((q.1.mg = U.p.mg ∧ q.1.pn = U.p.pn ∧ q.1.sb = U.p.sb) ∧ sel (U.p.mg != 1) no (sel (U.p.pn != 0) no yes))
def eq1 (a b : Reg) : Prop := some a = some b
noncomputable def eq4 (V W : Rv) (A : Prop) : Prop := eq1 (mcG 2 V.m.v V.m.inf) (mcG 2 W.m.v W.m.inf) ∧ (eq1 (stO 3 5 V.m.st.sto) (stO 3 5 W.m.st.sto) ∧ (eq1 (ac.mpReg V.m.st.sto.m) (ac.mpReg W.m.st.sto.m) ∧ (eq1 (ordReg (kyRows V.m.st.sto.l)) (ordReg (kyRows W.m.st.sto.l)) ∧ A)))
noncomputable def endK (n : Int) (U : Rv) (no : Prop) (yes : Rv → Prop) : Prop :=
  rdyM U.m ∧ (sel (decide (((kyRows ((mac.bk U.m).st.L.map kyP)).length : Int) > n)) no (sel ((U.m.st.L.length : Int) != ((kyRows ((mac.bk U.m).st.L.map kyP)).length : Int)) no
    (sel U.fd (eq1 (rcG U.bk) (rcG U.bk) ∧ eq4 U.bk U.bk (rdyM (mac.bk U.m) ∧ (([NV.c (.p 0 0 0), .ag (kyNC (kyP U.p))] = [.c (.p 0 0 0), .ag (kyNC (kyP U.p))] ∧ (mac.bk (mac.bk U.m)).good) ∧ eq4 U.bk U.bk.bk (fndT U U ((mac.bk (mac.bk U.m)).find (kyP U.p)) no (yes U.bk))))) (yes U.bk))))
noncomputable def staK (n : Int) (U : Rv) (no : Prop) (yes : Rv → Prop) : Prop := rdyV U ∧ ((U.bk.s.sub = false ∧ U.bk.s.ds = []) ∧ endK n U.bk no yes)
noncomputable def pakK (n : Int) (V : Rv) (d : Dv) (no : Prop) (yes : Rv → Prop) : Prop := ([d.nv] = [d.nv] ∧ d.W.length ≤ 1000000) ∧ (rdyV V ∧ (([NV.c (.p 0 0 0), .c (.l .u8 (bh.byW d))] = [NV.c (.p 0 0 0), .c (.l .u8 (bh.byW d))] ∧ V.bk.m.good ∧ (∀ b ∈ bh.byW d, 0 ≤ b ∧ b < 256)) ∧ five (V.bk.packet (bh.byW d)).2 (staK n (V.bk.packet (bh.byW d)).1 no yes)))
theorem ke_tree (n : Int) (l : List Dv) (V : Rv) (i : Int) (R : RO → Prop) : (rKe (sKe n l V i)).run R =
    sel (decide (i < ((l.map Dv.fc).length : Int))) (ixU i (l.map Dv.fc).length (pakK n V (rwK l i) (R (.done .ret eKe)) fun W => R (.next (sKe n l W (IntKind.i64.wrap (i + 1)))))) (R (.done .normal dKe)) := by kernel_rfl
end Go.Proofs.YtlfmkacafppmlaaGreatDoor.ke
namespace Go.Proofs.YtlfmkacafppmlaaGreatDoor.ke
open Go.Proofs.YtlfmkacafppmlaaGreatDoor.sto (sT sF Ky Sp kyP kyNC kyRows ordReg)
open Go.Proofs.YtlfmkacafppmlaaGreatDoor.ac (Pg pgZ)
open Go Go.Nx Go.Proofs.YtlfmkacafppmlaaGreatDoor.pk Go.Proofs.YtlfmkacafppmlaaGreatDoor.mac Go.Proofs.YtlfmkacafppmlaaGreatDoor.bm Go.Proofs.YtlfmkacafppmlaaGreatDoor.rv
section
variable {S : Sp → Prop} (hS : ∀ x p, S x → S (x.put p))
include hS
theorem endM_st {M : Mc} (h : S M.st) (g : Nat) : S (M.endM g).st := by
  unfold Mc.endM
  split
  · exact hS _ _ h
  · exact h
theorem ends_st {c : Bool} {g : Int} : ∀ (n i : Nat) (M : Mc), S M.st → S (Mc.ends c g n i M).st
  | 0, _, _, h => h
  | n + 1, i, M, h => by
    unfold Mc.ends
    refine ends_st n (i + 1) _ ?_
    split
    · exact endM_st hS h i
    · exact h
theorem hdM_st {M : Mc} (h : S M.st) (g : Nat) (ds : List Int) : S (M.hdM g ds).st := by
  have h1 := ends_st hS (c := (dec.hdV g ds).c7) (g := g) 8 1 (M.headed g (dec.hdV g ds) (dec.txV ds)) h
  unfold Mc.hdM Mc.open'
  split
  · exact h1
  · exact h1
theorem step_st {M : Mc} (h : S M.st) (bs : List Int) : S (M.step bs).1.st := by
  unfold Mc.step
  split
  · exact h
  · unfold Mc.pkM
    split
    · split
      · exact hdM_st hS h _ _
      · exact h
    · split
      · split
        · exact h
        · exact h
      · split
        · split
          · split
            · split
              · exact h
              · exact h
            · exact h
          · exact h
        · unfold Mc.insM
          split
          · exact h
          · exact h
end
theorem step_bad {M : Mc} {bs : List Int} {k : Nat} (h : (M.step bs).2 = some k) : (M.step bs).1 = M := by
  unfold Mc.step at h ⊢
  split
  · rfl
  · rename_i p hp
    rw [hp] at h
    simp only at h
    unfold Mc.pkM at h ⊢
    split
    · rename_i h1
      rw [h1] at h
      simp only at h
      split
      · rename_i h2
        rw [h2] at h
        cases h
      · rfl
    · rename_i h1
      rw [h1] at h
      simp only at h
      split
      · rename_i h2
        rw [h2] at h
        simp only at h
        split
        · rename_i h3
          rw [h3] at h
          cases h
        · rfl
      · rename_i h2
        rw [h2] at h
        simp only at h
        split
        · rename_i h3
          rw [h3] at h
          simp only at h
          split
          · rename_i h4
            rw [h4] at h
            simp only at h
            split
            · rename_i h5
              rw [h5] at h
              simp only at h
              split
              · rename_i h6
                rw [h6] at h
                cases h
              · rfl
            · rfl
          · rfl
        · rename_i h3
          simp [h3] at h
theorem mem_drop {x : Sp} {k : Ky} {q : Pg} (h : q ∈ x.L) (hk : kyP q ≠ k) : q ∈ (x.drop k).L := by
  refine List.mem_filter.2 ⟨h, ?_⟩
  unfold sto.nk
  rw [Bool.not_eq_true', ← Bool.not_eq_true]
  exact fun hc => hk (sto.kyEq_iff.1 hc)
theorem put_pin (x : Sp) (p : Pg) : (x.put p).pin = x.pin := by
  unfold Sp.put
  split <;> rfl
theorem put_pd (x : Sp) (p : Pg) : (x.put p).pd = x.pd := by
  unfold Sp.put
  split <;> rfl
theorem put_has {x : Sp} {p : Pg} (hl : (x.L.length : Int) ≤ x.most) (hpd : x.pd = true) (h : x.pin ∈ x.L.map kyP) : x.pin ∈ (x.put p).L.map kyP := by
  have h1 : ∃ q ∈ ((x.drop (kyP p)).push p).L, kyP q = x.pin := by
    by_cases e : kyP p = x.pin
    · exact ⟨p, List.mem_append.2 (.inr (List.mem_singleton.2 rfl)), e⟩
    · obtain ⟨q, hq, he⟩ := List.mem_map.1 h
      exact ⟨q, List.mem_append.2 (.inl (mem_drop hq fun hc => e (hc ▸ he))), he⟩
  obtain ⟨q, hq, he⟩ := h1
  unfold Sp.put
  cases hc : decide ((((x.drop (kyP p)).push p).L.length : Int) ≤ x.most) with
  | true => exact List.mem_map.2 ⟨q, hq, he⟩
  | false =>
    refine List.mem_map.2 ⟨q, mem_drop hq ?_, he⟩
    rw [he]
    intro hv
    unfold Sp.vic sto.vicK at hv
    cases hf : (((x.drop (kyP p)).push p).L.map kyP).find? (sto.goesK ((x.drop (kyP p)).push p).sto (kyP p)) with
    | some z =>
      rw [hf] at hv
      have hz := List.find?_some hf
      unfold sto.goesK at hz
      rw [Bool.and_eq_true] at hz
      have hz2 := hz.2
      have e1 : ((x.drop (kyP p)).push p).sto.pd = true := hpd
      have e2 : ((x.drop (kyP p)).push p).sto.pin = x.pin := rfl
      rw [e1, e2, Bool.true_and, Bool.not_eq_true', ← Bool.not_eq_true] at hz2
      exact hz2 (sto.kyEq_iff.2 hv.symm)
    | none =>
      rw [hf] at hv
      have hv : x.pin = kyP p := hv
      have h3 := sto.drop_lt (x := x) (k := kyP p) (hv ▸ h)
      have h4 : ((x.drop (kyP p)).push p).L.length = (x.drop (kyP p)).L.length + 1 := by show ((x.drop (kyP p)).L ++ [p]).length = _; rw [List.length_append]; rfl
      have h5 := of_decide_eq_false hc
      omega
def Stay (n : Int) (k : Ky) (b : Bool) (x : Sp) : Prop := x.most = n ∧ (x.L.length : Int) ≤ x.most ∧ x.pin = k ∧ x.pd = b ∧ (b = true → k ∈ x.L.map kyP)
theorem stay_put (n : Int) (k : Ky) (b : Bool) (x : Sp) (p : Pg) (h : Stay n k b x) : Stay n k b (x.put p) := by
  obtain ⟨h1, h2, h3, h4, h5⟩ := h
  refine ⟨(sto.put_most x p).trans h1, ?_, (put_pin x p).trans h3, (put_pd x p).trans h4, fun hb => ?_⟩
  · rw [sto.put_most]
    exact sto.put_len h2
  · have := put_has (p := p) h2 (h4.trans hb) (h3 ▸ h5 hb)
    rwa [h3] at this
theorem fold_some (k : Ky) : ∀ (L : List Pg) (o : Option Pg) {p : Pg}, L.foldl (stepF k) o = some p → o = some p ∨ (p ∈ L ∧ hitF k p = true)
  | [], o, p, h => .inl h
  | q :: L, o, p, h => by
    rcases fold_some k L _ h with h | h
    · unfold stepF at h
      split at h
      · rename_i hq
        cases h
        exact .inr ⟨List.mem_cons_self .., hq⟩
      · exact .inl h
    · exact .inr ⟨List.mem_cons_of_mem _ h.1, h.2⟩
theorem fold_none (k : Ky) : ∀ (L : List Pg) (o : Option Pg), L.foldl (stepF k) o = none → o = none ∧ ∀ q ∈ L, hitF k q = false
  | [], o, h => ⟨h, fun q hq => by cases hq⟩
  | p :: L, o, h => by
    obtain ⟨h1, h2⟩ := fold_none k L _ h
    unfold stepF at h1
    cases hp : hitF k p with
    | true => rw [hp] at h1; cases h1
    | false =>
      rw [hp] at h1
      refine ⟨h1, fun q hq => ?_⟩
      rcases List.mem_cons.1 hq with rfl | hq
      · exact hp
      · exact h2 q hq
theorem last_some {k : Ky} {L : List Pg} {p : Pg} (h : lastF k L = some p) : p ∈ L ∧ hitF k p = true := (fold_some k L none h).resolve_left (fun h => by cases h)
theorem last_none {k : Ky} {L : List Pg} (h : lastF k L = none) : ∀ q ∈ L, hitF k q = false := (fold_none k L none h).2
theorem hit_of {k : Ky} {p : Pg} (h : hitF k p = true) : p.mg = k.1 ∧ p.pn = k.2.1 := by
  unfold hitF at h
  rw [Bool.and_eq_true, beq_iff_eq, beq_iff_eq] at h
  exact h
def wK : Ky := (1, 0, 16255)
structure KInv (n : Int) (V : Rv) : Prop where
  good : V.m.good
  most : V.m.st.most = n
  s : V.s = rmZ
  fd : V.fd = true → lastF wK V.m.st.L = some V.p ∧ V.m.st.pd = true ∧ V.m.st.pin = kyP V.p
theorem kinv_packet {n : Int} {V : Rv} (h : KInv n V) {bs : List Int} (hb : ∀ b ∈ bs, 0 ≤ b ∧ b < 256) : KInv n (V.packet bs).1 := by
  have hg := packet_good h.good hb
  have hst : Stay n V.m.st.pin (V.fd && V.m.st.pd) V.m.st → Stay n V.m.st.pin (V.fd && V.m.st.pd) (V.m.step bs).1.st := fun hh => step_st (stay_put _ _ _) hh bs
  have hm : (V.m.step bs).1.st.most = n := step_st (S := fun x => x.most = n) (fun x p hx => (sto.put_most x p).trans hx) h.most bs
  unfold Rv.packet at hg ⊢
  cases he : (V.m.step bs).2 with
  | some k =>
    have e := step_bad he
    rw [he] at hg
    simp only at hg ⊢
    rw [e]
    exact ⟨h.good, h.most, h.s, h.fd⟩
  | none =>
    rw [he] at hg
    simp only at hg ⊢
    have hhd : V.s.hd = false := by rw [h.s]; rfl
    have hky : V.s.ky = wK := by rw [h.s]; rfl
    unfold Rv.look at hg ⊢
    simp only [hhd] at hg ⊢
    rw [hky] at hg ⊢
    have hf : (V.m.step bs).1.find wK = ((lastF wK (V.m.step bs).1.st.L).getD pgZ, (lastF wK (V.m.step bs).1.st.L).isSome) := rfl
    rw [hf] at hg ⊢
    cases hl : lastF wK (V.m.step bs).1.st.L with
    | some q =>
      rw [hl] at hg
      exact ⟨hg, hm, h.s, fun _ => ⟨hl, rfl, rfl⟩⟩
    | none =>
      rw [hl] at hg
      refine ⟨hg, hm, h.s, fun hfd => ?_⟩
      obtain ⟨h1, h2, h3⟩ := h.fd hfd
      obtain ⟨hp, hh⟩ := last_some h1
      have hs : Stay n V.m.st.pin (V.fd && V.m.st.pd) V.m.st := ⟨h.most, h.good.len, rfl, by rw [show V.fd = true from hfd, Bool.true_and], fun _ => by rw [h3]; exact List.mem_map.2 ⟨V.p, hp, rfl⟩⟩
      have hk := (hst hs).2.2.2.2 (by rw [show V.fd = true from hfd, h2]; rfl)
      rw [h3] at hk
      obtain ⟨q, hq, hqe⟩ := List.mem_map.1 hk
      have hq0 := last_none hl q hq
      have hqh : hitF wK q = hitF wK V.p := by
        have e1 : q.mg = V.p.mg := congrArg (fun k : Ky => k.1) hqe
        have e2 : q.pn = V.p.pn := congrArg (fun k : Ky => k.2.1) hqe
        unfold hitF
        rw [e1, e2]
      rw [hqh, hh] at hq0
      cases hq0
theorem kinv_new {n : Int} (h1 : 1 ≤ n) (h2 : n ≤ 800) : KInv n (rvN n) := ⟨mcN_good h1 h2, rfl, rfl, fun h => by cases h⟩
theorem kinv_find {n : Int} {V : Rv} (h : KInv n V) (hfd : V.fd = true) : (V.m.find (kyP V.p)).2 = true ∧ kyP (V.m.find (kyP V.p)).1 = kyP V.p ∧ V.p.mg = 1 ∧ V.p.pn = 0 := by
  obtain ⟨h1, -, -⟩ := h.fd hfd
  obtain ⟨hp, hh⟩ := last_some h1
  obtain ⟨e1, e2⟩ := hit_of hh
  have e1 : V.p.mg = 1 := e1
  have e2 : V.p.pn = 0 := e2
  refine ⟨?_, ?_, e1, e2⟩
  all_goals
    unfold Mc.find
    cases hs : (kyP V.p).2.2 != 16255 with
    | true =>
      simp only
      unfold Sp.get
      cases hf : V.m.st.L.find? (fun p => sto.kyEq (kyP V.p) (kyP p)) with
      | none =>
        have := List.find?_eq_none.1 hf V.p hp
        exact (this (sto.kyEq_iff.2 rfl)).elim
      | some q =>
        first
        | rfl
        | exact (sto.kyEq_iff.1 (List.find?_some (p := fun p => sto.kyEq (kyP V.p) (kyP p)) hf)).symm
    | false =>
      simp only
      have e3 : (kyP V.p).2.2 = 16255 := by
        rw [← Bool.not_eq_true, bne_iff_ne, ne_eq, Classical.not_not] at hs
        exact hs
      have ek : kyP V.p = wK := by
        show (V.p.mg, V.p.pn, V.p.sb) = (1, 0, 16255)
        have e3 : V.p.sb = 16255 := e3
        rw [e1, e2, e3]
      rw [ek, h1]
      first
      | rfl
      | exact ek
end Go.Proofs.YtlfmkacafppmlaaGreatDoor.ke
namespace Go.Proofs.YtlfmkacafppmlaaGreatDoor.ke
open Go.Proofs.YtlfmkacafppmlaaGreatDoor.sto (sT sF Ky Sp kyP kyNC kyRows ordReg)
open Go.Proofs.YtlfmkacafppmlaaGreatDoor.ac (Pg pgZ)
open Go Go.Nx Go.Proofs.YtlfmkacafppmlaaGreatDoor.pk Go.Proofs.YtlfmkacafppmlaaGreatDoor.mac Go.Proofs.YtlfmkacafppmlaaGreatDoor.bm Go.Proofs.YtlfmkacafppmlaaGreatDoor.rv
open Go.Proofs.YtlfmkacafppmlaaGreatDoor.df (B8 put_in u8_in odV_in app_in pkB_in hbV_in trB_in)
theorem rv_in (x : Int) : B8 (sv.rv (sv.u8i x)) := by
  have key : ∀ n < 256, 0 ≤ sv.rv (Int.ofNat n) ∧ sv.rv (Int.ofNat n) < 256 := by decide +kernel
  have h := sv.u8i_in x
  unfold sv.mBy at h
  have hk := key (sv.u8i x).toNat (by omega)
  have e : Int.ofNat (sv.u8i x).toNat = sv.u8i x := by show (((sv.u8i x).toNat : Nat) : Int) = sv.u8i x; omega
  rw [e] at hk
  exact hk
theorem of_in (b : Bool) (o : Int) : B8 (sv.ofB b o) := by
  unfold sv.ofB
  cases b with
  | true => exact sv.oU_in _ _
  | false => exact sv.u8i_in _
theorem svB_in (mag pg sb n : Int) : ∀ b ∈ bh.svB mag pg sb n, B8 b := by
  unfold bh.svB sv.LR sv.hdR sv.md9R sv.sgs
  refine List.forall_mem_cons.2 ⟨⟨by decide, by decide⟩, List.forall_mem_cons.2 ⟨⟨by decide, by decide⟩, app_in (List.forall_mem_cons.2 ⟨put_in _, app_in (bh.plN_in _ _ _) ?_⟩) ?_⟩⟩
  · refine List.forall_mem_cons.2 ⟨rv_in _, List.forall_mem_cons.2 ⟨rv_in _, List.forall_mem_cons.2 ⟨of_in _ _, ?_⟩⟩⟩
    iterate 6 (refine List.forall_mem_cons.2 ⟨sv.u8i_in _, ?_⟩)
    iterate 4 (refine List.forall_mem_cons.2 ⟨bh.z_in, ?_⟩)
    exact bh.nil_in
  · intro b hb
    obtain ⟨i, -, rfl⟩ := List.mem_map.1 hb
    exact sv.mkO_in _
theorem byW_in (d : Dv) (hW : ∀ b ∈ d.W, B8 b) : ∀ b ∈ bh.byW d, B8 b := by
  unfold bh.byW
  cases d.k == 1 with
  | true => exact hbV_in _ (odV_in _ _)
  | false =>
  cases d.k == 2 with
  | true => exact pkB_in (odV_in _ _)
  | false =>
  cases d.k == 3 with
  | true => exact trB_in _ _ _ _
  | false =>
  cases d.k == 4 with
  | true => exact bh.lkB_in _ _ _
  | false =>
  cases d.k == 5 with
  | true => exact trB_in _ _ _ _
  | false =>
  cases d.k == 6 with
  | true => exact trB_in _ _ _ _
  | false =>
  cases d.k == 7 with
  | true => exact svB_in _ _ _ _
  | false => exact hW
theorem pak_in {n : Int} {V : Rv} {d : Dv} {no : Prop} {yes : Rv → Prop} (h : KInv n V) (hl : d.W.length ≤ 1000000) (hb : ∀ b ∈ bh.byW d, 0 ≤ b ∧ b < 256) (hy : yes (V.packet (bh.byW d)).1) : pakK n V d no yes := by
  have h2 := kinv_packet h hb
  unfold pakK
  rw [V.bk_eq h.good.far]
  generalize hU : (V.packet (bh.byW d)).1 = U at h2 hy ⊢
  have hg := h2.good
  have eU := U.bk_eq hg.far
  have eM := mac.bk_eq _ hg.far
  have ek : (kyRows (U.m.st.L.map kyP)).length = U.m.st.L.length := by rw [sto.kyRows_length, List.length_map]
  have hlen := hg.len
  rw [h2.most] at hlen
  refine ⟨⟨rfl, hl⟩, ⟨by rw [V.bk_eq h.good.far], by rw [V.bk_eq h.good.far]; exact h.good.ok⟩, ⟨rfl, h.good, hb⟩, five_in ?_⟩
  unfold staK
  rw [eU]
  refine ⟨⟨by rw [eU], by rw [eU]; exact hg.ok⟩, by rw [h2.s]; exact ⟨rfl, rfl⟩, ?_⟩
  have rM : rdyM U.m := ⟨by rw [eM], by rw [eM]; exact hg.ok⟩
  unfold endK
  rw [eU, eM, eM, ek]
  refine ⟨rM, sF (decide_eq_false (by omega)) (sF (by rw [bne_self_eq_false]) ?_)⟩
  cases hf : U.fd with
  | false => exact sF rfl hy
  | true =>
    obtain ⟨f1, f2, f3, f4⟩ := kinv_find h2 hf
    refine sT rfl ⟨rfl, ⟨rfl, rfl, rfl, rfl, rM, ⟨rfl, hg⟩, ?_⟩⟩
    rw [eU]
    refine ⟨rfl, rfl, rfl, rfl, sF (by rw [f1]; rfl) ⟨⟨?_, ?_, ?_⟩, sF (by rw [f3]; rfl) (sF (by rw [f4]; rfl) hy)⟩⟩
    · exact congrArg (fun k : Ky => k.1) f2
    · exact congrArg (fun k : Ky => k.2.1) f2
    · exact congrArg (fun k : Ky => k.2.2) f2
def fineD (d : Dv) : Prop := d.W.length ≤ 1000000 ∧ ∀ b ∈ d.W, B8 b
def fineL (l : List Dv) : Prop := l.length ≤ 1000 ∧ ∀ d ∈ l, fineD d
structure AKe where
  n : Int
  l : List Dv
  V : Rv
  i : Nat
noncomputable def hKe (x : AKe) : St := sKe x.n x.l x.V (x.i : Int)
def preKe (x : AKe) (R : NExit × St → Prop) : Prop := x.i ≤ x.l.length ∧ fineL x.l ∧ KInv x.n x.V ∧ R (.normal, dKe)
noncomputable def nxtKe (x : AKe) (R : NExit × St → Prop) (q : RO) : Prop := match q with
  | .next s => ∃ y, s = hKe y ∧ y.l.length - y.i < x.l.length - x.i ∧ preKe y R
  | .done e s => R (e, s)
theorem ke_in (x : AKe) (R : NExit × St → Prop) (h : preKe x R) : Box ((rKe (hKe x)).run (nxtKe x R)) := by
  obtain ⟨n, l, V, i⟩ := x
  obtain ⟨h1, hf, hV, hR⟩ := h
  simp only at h1 hf hV hR
  have hl := hf.1
  have hw : IntKind.i64.wrap ((i : Int) + 1) = ((i + 1 : Nat) : Int) := by rw [IntKind.wrap_i64]; omega
  refine Box.of_eq (ke_tree n l V (i : Int) _) ?_
  by_cases hk : i < l.length
  · have hd := hf.2 l[i] (List.getElem_mem hk)
    have hb := byW_in l[i] hd.2
    refine sT (decide_eq_true (by rw [List.length_map]; omega)) (ixU_in ⟨by omega, by rw [List.length_map]; omega⟩ ?_)
    rw [rwK_eq hk, hw]
    refine pak_in hV hd.1 hb ?_
    exact ⟨⟨n, l, (V.packet (bh.byW l[i])).1, i + 1⟩, rfl, by simp only; omega, by simp only; omega, hf, kinv_packet hV hb, hR⟩
  · exact sF (decide_eq_false (by rw [List.length_map]; omega)) hR
def rdKe (s : St) : Option (Int × List Dv × Rv) := match s.fr[(0 : Nat)]?, s.fr[(1 : Nat)]?, s.rg with
  | some (.v (.c (.i _ n))), some (.v (.c (.lt _ xs))), some a :: some b :: some c :: some d :: some e :: _ => (match rdRv [a, b, c, d, e] with
    | some V => some (n, xs.map ofFc, V)
    | none => none)
  | _, _, _ => none
noncomputable def lKe (s : St) : Tr (NExit × St) := match rdKe s with
  | some (n, l, V) => .must (s = sKe n l V 0 ∧ KInv n V ∧ fineL l) (.ret (.normal, dKe))
  | none => .fail
set_option maxRecDepth 100000 in
theorem loop_ke : LOk Tryz.prog GL 0 0 (bodyLoop f_ke 0) lKe := by
  refine loop_ok (X := X_ke) kc_ke mixed (LAll.none (by kernel_rfl)) [0, 1, 5, 6, 8] [4, 5] hKe (fun x => x.l.length - x.i) preKe ?_ ?_
  · intro s R h
    unfold lKe at h
    split at h
    case h_2 => exact h.elim
    rename_i n l V hx
    obtain ⟨⟨hs, hV, hf⟩, hR⟩ := h
    exact ⟨⟨n, l, V, 0⟩, hs, Nat.zero_le _, hf, hV, hR⟩
  · intro x R h
    exact Tr.run_mono _ (fun q hq => hq) (ke_in x R h).out
noncomputable def t_ke : Con := fun args regs => if regs.length = 0 then nfun Tryz.prog GL c_ke [(0, [0, 1, 5, 6, 8], lKe)] f_ke args regs else .fail
theorem k_ke : Known Tryz.prog GL 5 t_ke := known_loops 0 Tryz.func5 rfl (by kernel_rfl) mixed kc_ke (LAll.one (id := 0) (body := bodyLoop f_ke 0) (by kernel_rfl) rfl loop_ke)
end Go.Proofs.YtlfmkacafppmlaaGreatDoor.ke
namespace Go.Proofs.YtlfmkacafppmlaaGreatDoor.ke
open Go.Proofs.YtlfmkacafppmlaaGreatDoor.sto (sT sF Ky Sp kyP kyNC kyRows ordReg)
open Go.Proofs.YtlfmkacafppmlaaGreatDoor.ac (Pg pgZ)
open Go Go.Nx Go.Proofs.YtlfmkacafppmlaaGreatDoor.pk Go.Proofs.YtlfmkacafppmlaaGreatDoor.mac Go.Proofs.YtlfmkacafppmlaaGreatDoor.bm Go.Proofs.YtlfmkacafppmlaaGreatDoor.rv
open Go.Proofs.YtlfmkacafppmlaaGreatDoor.df (B8)
noncomputable def mst (n : Int) : Int := IntKind.i64.wrap (n % 9 + 1)
noncomputable def newK (m : Int) (l : List Dv) (R : Out → Prop) : Prop := [NV.c (.i .i64 m)] = [NV.c (.i .i64 m)] ∧ sel (decide (m < 1)) (R (oBl false)) (sel (decide (m > 800)) (R (oBl false))
  ((sKe m l (rvN m) 0 = sKe m ((l.map Dv.fc).map ofFc) (rvN m).bk 0 ∧ KInv m (rvN m).bk ∧ fineL ((l.map Dv.fc).map ofFc)) ∧ R (oBl true)))
theorem law_tree (n : Int) (l : List Dv) (R : Out → Prop) : (t_ke [.c (.i .i64 n), .c (.lt dvSch (l.map Dv.fc))] []).run R =
    (nmA 9 ∧ (([NV.c (.lt dvSch (l.map Dv.fc)), .c (.i .i64 60)] = [NV.c (.lt dvSch (((l.map Dv.fc).map ofFc).map Dv.fc)), .c (.i .i64 60)] ∧ (60 : Int) ≤ 1000) ∧ sel (lightV ((l.map Dv.fc).map ofFc) 60) (newK (mst n) l R) (R (oBl true)))) := by kernel_rfl
theorem light_of {l : List Dv} (h : lightV l 60 = true) : l.length ≤ 60 ∧ ∀ d ∈ l, d.W.length ≤ 60 := by
  unfold lightV at h
  rw [Bool.and_eq_true, Bool.not_eq_true', decide_eq_false_iff_not, List.all_eq_true] at h
  refine ⟨by omega, fun d hd => ?_⟩
  have := h.2 d hd
  unfold smallD at this
  rw [Bool.and_eq_true, Bool.and_eq_true, Bool.and_eq_true, Bool.not_eq_true', decide_eq_false_iff_not, Bool.not_eq_true', decide_eq_false_iff_not, Bool.not_eq_true', decide_eq_false_iff_not] at this
  omega
noncomputable def lawK (n : Int) (l : List Dv) (R : Out → Prop) : Prop := nmA 9 ∧ (([NV.c (.lt dvSch (l.map Dv.fc)), .c (.i .i64 60)] = [NV.c (.lt dvSch (((l.map Dv.fc).map ofFc).map Dv.fc)), .c (.i .i64 60)] ∧ (60 : Int) ≤ 1000) ∧ sel (lightV ((l.map Dv.fc).map ofFc) 60) (newK (mst n) l R) (R (oBl true)))
theorem lawK_in (n : Int) (l : List Dv) (R : Out → Prop) (hW : ∀ d ∈ l, ∀ b ∈ d.W, B8 b) (hR : R (oBl true)) : lawK n l R := by
  unfold lawK
  rw [ofFc_map]
  refine ⟨⟨by decide, by decide⟩, ⟨rfl, by decide⟩, ?_⟩
  cases hL : lightV l 60 with
  | false => exact sF rfl hR
  | true =>
    obtain ⟨h1, h2⟩ := light_of hL
    have hm : mst n = n % 9 + 1 := by
      unfold mst
      rw [IntKind.wrap_i64]
      omega
    have m1 : 1 ≤ mst n := by omega
    have m8 : mst n ≤ 800 := by omega
    have hK := kinv_new m1 m8
    have eb := (rvN (mst n)).bk_eq hK.good.far
    unfold newK
    rw [ofFc_map, eb]
    exact sT rfl ⟨rfl, sF (decide_eq_false (by omega)) (sF (decide_eq_false (by omega)) ⟨⟨rfl, hK, by omega, fun d hd => ⟨by have := h2 d hd; omega, hW d hd⟩⟩, hR⟩)⟩
attribute [local irreducible] t_ke in
theorem ke_yes (n : Int) (l : List Dv) (hW : ∀ d ∈ l, ∀ b ∈ d.W, B8 b) : Holds (t_ke [.c (.i .i64 n), .c (.lt dvSch (l.map Dv.fc))] []) fun q => q.res = .v (.c (.b true)) := ⟨Box.out (Box.of_eq (law_tree n l _) (lawK_in n l _ hW rfl))⟩
theorem u8_wf {n : Int} (h : (Lit.int .u8 n).wf = true) : 0 ≤ n ∧ n < 256 := by
  simp only [Lit.wf, Bool.and_eq_true, decide_eq_true_eq] at h
  have h1 : IntKind.u8.min = 0 := rfl
  have h2 : IntKind.u8.max = 255 := rfl
  rw [h1, h2] at h
  omega
def shsKe : List Sh := [.i .i64, .tab dvSch]
theorem row_ok {r : List FC} (h : R2 PkOk dvSch r) : r = (ofFc r).fc ∧ ∀ b ∈ (ofFc r).W, B8 b := by
  unfold dvSch at h
  rcases h with _ | ⟨h1, h⟩
  rcases h with _ | ⟨h2, h⟩
  rcases h with _ | ⟨h3, h⟩
  rcases h with _ | ⟨h4, h⟩
  rcases h with _ | ⟨h5, h⟩
  rcases h with _ | ⟨h6, h⟩
  rcases h with _ | ⟨h7, h⟩
  rcases h with _ | ⟨h8, h⟩
  rcases h with _ | ⟨h9, h⟩
  cases h
  cases h1; cases h2; cases h3; cases h4; cases h5; cases h6; cases h7; cases h9
  cases h8 with
  | l hx _ =>
    refine ⟨rfl, fun b hb => ?_⟩
    have := hx b hb
    exact u8_wf this
theorem ke_law (xs : List NV) (h : R2 ShOk shsKe xs) : Holds (t_ke xs []) fun o => o.res = .v (.c (.b true)) := by
  cases h with
  | cons h1 h =>
    cases h with
    | cons h2 h =>
      cases h
      cases h1 with
      | @i _ n _ =>
        cases h2 with
        | @tab _ xs hr hl =>
          have e : xs = (xs.map ofFc).map Dv.fc := by
            rw [List.map_map]
            have : ∀ r ∈ xs, (Dv.fc ∘ ofFc) r = r := fun r hr' => (row_ok (hr r hr')).1.symm
            exact ((List.map_congr_left this).trans (List.map_id xs)).symm
          rw [e]
          refine ke_yes n (xs.map ofFc) fun d hd => ?_
          obtain ⟨r, hr', rfl⟩ := List.mem_map.1 hd
          exact (row_ok (hr r hr')).2
end Go.Proofs.YtlfmkacafppmlaaGreatDoor.ke
