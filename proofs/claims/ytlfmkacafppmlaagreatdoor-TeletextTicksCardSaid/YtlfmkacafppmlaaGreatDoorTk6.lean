/-
  Joined: AqU, AqV, AqVa, AqVb, AqX, AqY, AqZ, AqZa, AqN1, AqN2, AqN3, AqN4, AqN5, NxA, NxB, NxC, RvB, RvC, RvD, RvE, RvF, RvG, BmA, BmB, BmC, BmD, BmE, BmG, BmF, TkA, TkB, TkC, TkD, TkE.
-/
import Derived.Test.YtlfmkacafppmlaaGreatDoorTk5
set_option linter.unusedVariables false
namespace Go.Proofs.YtlfmkacafppmlaaGreatDoor.mac
open Go Go.Nx Go.Proofs.YtlfmkacafppmlaaGreatDoor.pk Go.Proofs.YtlfmkacafppmlaaGreatDoor.ac Go.Proofs.YtlfmkacafppmlaaGreatDoor.sto Go.Proofs.YtlfmkacafppmlaaGreatDoor.pge Go.Proofs.YtlfmkacafppmlaaGreatDoor.dec
noncomputable def Mv.part (m : Mv) (p : Px) : Mv :=
  match p.kd == 2 with
  | true => m.with (rowP m.p p.row p.ds)
  | false => match p.kd == 3 with
    | true => m.extra p
    | false => match p.kd == 4 with
      | true => m.linked p
      | false => match p.kd == 5 && tr.regB p.kd p.cd p.ds with
        | true => m.with { m.p with df := IntKind.i64.wrap (1 + rgN p.kd p.cd p.ds) }
        | false => m
noncomputable def Mc.insM (M : Mc) (g : Nat) (p : Px) : Mc := match (M.v g).opn with
  | true => M.withV g ((M.v g).part p)
  | false => M
theorem rowP_fits {p : Pg} {row : Int} {ds : List Int} (h : fits p) : fits (rowP p row ds) := by
  unfold rowP
  split <;> exact h
theorem exV_len {n : Nat} {E l : List (List Sc)} (hn : n < 16) (hE : E.length ≤ 208) : (exV n E l).length ≤ 208 := by
  have lP := padE_length (13 * (n + 1)) E
  unfold exV
  rw [splice_len13, splice_len13]
  · omega
  · rw [List.length_replicate]; omega
  · rw [splice_len13 (by rw [List.length_replicate]; omega), List.length_take]; omega
theorem extraP_fits {p : Pg} {c : Int} {l : List (List Sc)} (h : fits p) : fits (extraP p c l) := by
  unfold extraP
  split
  · rename_i hc
    have hc := of_decide_eq_true hc
    exact exV_len (by omega) h
  · exact h
theorem part_fits {m : Mv} {p : Px} (h : fits m.p) : fits (m.part p).p := by
  unfold Mv.part
  split
  · exact rowP_fits h
  · split
    · unfold Mv.extra
      split
      · exact extraP_fits h
      · exact h
    · split
      · unfold Mv.linked
        split <;> exact h
      · split <;> exact h
theorem part_txt (m : Mv) (p : Px) : (m.part p).t = m.t := by
  unfold Mv.part
  split
  · rfl
  · split
    · unfold Mv.extra
      split <;> rfl
    · split
      · unfold Mv.linked
        split <;> rfl
      · split <;> rfl
theorem insM_good {M : Mc} (h : M.good) {g : Nat} (hg : g < 9) (p : Px) : (M.insM g p).good := by
  unfold Mc.insM
  split
  · exact h.upd hg (part_fits (h.vfit g)) (by rw [part_txt]; exact h.txt g)
  · exact h
theorem inT_of {M : Mc} {g : Nat} {row kd cd : Int} {ds : List Int} {R : Out → Prop} (hM : M.good) (hl : kd = 3 ∨ kd = 4 ∨ kd = 5 → ds.length = 39) (hb : ∀ b ∈ ds, 0 ≤ b ∧ b < 256) (h : R (oMe (M.insM g ⟨g, row, kd, cd, ds⟩) .en)) : inT M g row kd cd ds R := by
  have hf := hM.vfit g
  have hf' : (M.v g).p.ex.length ≤ 208 := hf
  unfold inT
  unfold Mc.insM at h
  cases ho : (M.v g).opn with
  | false => rw [ho] at h; exact sT rfl h
  | true =>
    rw [ho] at h
    refine sF rfl ?_
    have h : R (oMe (M.withV g ((M.v g).part ⟨g, row, kd, cd, ds⟩)) .en) := h
    unfold Mv.part at h
    simp only at h
    cases h2 : (kd == 2) with
    | true => rw [h2] at h; exact sT rfl ⟨⟨rfl, by omega, hb⟩, h⟩
    | false =>
      rw [h2] at h
      refine sF rfl ?_
      cases h3 : (kd == 3) with
      | true =>
        rw [h3] at h
        have e3 := eq_of_beq h3
        exact sT rfl ⟨⟨⟨rfl, rfl⟩, ⟨e3, hl (.inl e3), hb⟩, hf⟩, h⟩
      | false =>
        rw [h3] at h
        refine sF rfl ?_
        cases h4 : (kd == 4) with
        | true =>
          rw [h4] at h
          have e4 := eq_of_beq h4
          exact sT rfl ⟨⟨⟨rfl, rfl⟩, e4, hl (.inr (.inl e4))⟩, h⟩
        | false =>
          rw [h4] at h
          refine sF rfl ?_
          cases h5 : (kd == 5) with
          | true =>
            rw [h5, Bool.true_and] at h
            have hl5 := hl (.inr (.inr (eq_of_beq h5)))
            refine sT rfl ⟨⟨by omega, by omega, hb⟩, ?_⟩
            cases hr : tr.regB kd cd ds with
            | true => rw [hr] at h; exact sT rfl h
            | false =>
              rw [hr] at h
              have h : R (oMe (M.withV g (M.v g)) .en) := h
              rw [withV_self] at h
              exact sF rfl h
          | false =>
            rw [h5, Bool.false_and] at h
            have h : R (oMe (M.withV g (M.v g)) .en) := h
            rw [withV_self] at h
            exact sF rfl h
noncomputable def tIn : Con := fun args regs => match args with
  | [.c (.p 0 0 0), v] => (match rdPv v with
    | some p => onM regs fun M => .must (args = [.c (.p 0 0 0), p.nv] ∧ (1 ≤ p.mg ∧ p.mg ≤ 8) ∧ M.good ∧ (p.kd = 3 ∨ p.kd = 4 ∨ p.kd = 5 → p.ds.length = 39) ∧ ∀ b ∈ p.ds, 0 ≤ b ∧ b < 256) (.ret (oMe (M.insM p.mg.toNat p) .en))
    | none => .fail)
  | _ => .fail
attribute [local irreducible] t_inC in
set_option maxRecDepth 100000 in
theorem kIn : Known Tryz.prog GL 58 tIn := by
  refine k_inC.less fun args regs R h => ?_
  unfold tIn at h
  split at h
  case h_2 => exact h.elim
  split at h
  case h_2 => exact h.elim
  rename_i p _
  obtain ⟨M, rfl, hM, ⟨h1, hg, hgd, hl, hb⟩, h⟩ := onM_elim h
  rw [h1]
  obtain ⟨g, row, kd, cd, ds⟩ := p
  have hg : g = 1 ∨ g = 2 ∨ g = 3 ∨ g = 4 ∨ g = 5 ∨ g = 6 ∨ g = 7 ∨ g = 8 := by have := hg.1; have := hg.2; simp only at *; omega
  rcases hg with rfl | rfl | rfl | rfl | rfl | rfl | rfl | rfl
  · exact (in_tree1 M row kd cd ds R).mpr (inT_of hgd hl hb h)
  · exact (in_tree2 M row kd cd ds R).mpr (inT_of hgd hl hb h)
  · exact (in_tree3 M row kd cd ds R).mpr (inT_of hgd hl hb h)
  · exact (in_tree4 M row kd cd ds R).mpr (inT_of hgd hl hb h)
  · exact (in_tree5 M row kd cd ds R).mpr (inT_of hgd hl hb h)
  · exact (in_tree6 M row kd cd ds R).mpr (inT_of hgd hl hb h)
  · exact (in_tree7 M row kd cd ds R).mpr (inT_of hgd hl hb h)
  · exact (in_tree8 M row kd cd ds R).mpr (inT_of hgd hl hb h)
noncomputable def tRdQ (q : PkR) : Con := fun args regs => match args, regs with
  | [.c (.l _ bs)], [] => .must (args = [.c (.l .u8 bs)] ∧ pkV bs = q) (.ret q.out)
  | [.c .sn], [] => .must (q = .bad eLen) (.ret q.out)
  | _, _ => .fail
theorem kRdQ (q : PkR) : Known Tryz.prog GL 54 (tRdQ q) := by
  refine kRdS.less fun args regs R h => ?_
  unfold tRdQ at h
  split at h
  case h_3 => exact h.elim
  case h_1 =>
    obtain ⟨⟨h1, h2⟩, h⟩ := h
    rw [h1]
    subst h2
    exact h
  case h_2 =>
    obtain ⟨h1, h⟩ := h
    subst h1
    exact h
noncomputable def c_pk (q : PkR) : FuncId → Option Con := conOf [(54, tRdQ q), (55, tHd), (56, tr.tRegion), (57, sv.tSrd), (58, tIn)]
theorem kc_pk (q : PkR) : ∀ f T, c_pk q f = some T → Known Tryz.prog GL f T := (Knowns.cons (kRdQ q) (.cons kHd (.cons tr.kRegion (.cons sv.kSrd (.cons kIn .nil))))).get
noncomputable def t_pk0 (q : PkR) : Con := fun args regs => nfun Tryz.prog GL (c_pk q) [] Tryz.f15 args regs
theorem k_pk0 (q : PkR) : KnownF Tryz.prog GL 15 (t_pk0 q) := known_inlF Tryz.func15 rfl (by kernel_rfl) mixed (kc_pk q) (by kernel_rfl)
noncomputable def t_pkC (q : PkR) : Con := softT [] [] [] [] 9 (canonT 8 [(1, 2, ordReg [])] none (t_pk0 q))
theorem k_pkC (q : PkR) : Known Tryz.prog GL 15 (t_pkC q) := ((k_pk0 q).canon 8 [(1, 2, ordReg [])] none).soft [] [] [] [] 9
noncomputable def ixV (ds : List Int) : Ix := ⟨sv.mgV ds, sv.pgV ds, sv.sbV ds, sv.nwV ds, sv.ofS ds, sv.dyV ds, sv.hrV ds, sv.miV ds, sv.seV ds, sv.txV ds, true⟩
noncomputable def pkT (M : Mc) (g : Nat) (row kd cd : Int) (ds : List Int) (R : Out → Prop) : Prop :=
  sel (kd == 1) ((inM M = inM (bk M) ∧ (bk M).ok) ∧ ([NV.c (.p 0 0 0), (⟨(g : Int), row, kd, cd, ds⟩ : Px).nv] = [.c (.p 0 0 0), (⟨(g : Int), row, 1, cd, ds⟩ : Px).nv] ∧ (1 ≤ (g : Int) ∧ (g : Int) ≤ 8) ∧ (bk M).good ∧ ds.length = 40 ∧ ∀ b ∈ ds, 0 ≤ b ∧ b < 256) ∧
      sel (hdOk ds) (R (oMe ((bk M).hdM g ds) .en)) (R (oMe (bk M) (.e eBit))))
    (sel (kd == 6) (rgT kd cd ds (R (oMe (M.withV g { M.v g with rg := rgN kd cd ds, td := true }) .en)) (R (oMe M .en)))
    (sel (kd == 7) ((sv.okK g kd cd = true → ds.length = 39 ∧ ∀ x ∈ ds, 0 ≤ x ∧ x < 256) ∧ sel (sv.okK g kd cd) (sel (sv.all6 ds) (sel (sv.clkG (sv.gD ds)) (R (oMe { M with inf := ixV ds } .en)) (R (oMe M (.e eRng)))) (R (oMe M (.e eBit)))) (R (oMe M (.e eKnd))))
      ((inM M = inM (bk M) ∧ (bk M).ok) ∧ ([NV.c (.p 0 0 0), (⟨(g : Int), row, kd, cd, ds⟩ : Px).nv] = [.c (.p 0 0 0), (⟨(g : Int), row, kd, cd, ds⟩ : Px).nv] ∧ (1 ≤ (g : Int) ∧ (g : Int) ≤ 8) ∧ (bk M).good ∧ (kd = 3 ∨ kd = 4 ∨ kd = 5 → ds.length = 39) ∧ ∀ b ∈ ds, 0 ≤ b ∧ b < 256) ∧
        R (oMe ((bk M).insM g ⟨g, row, kd, cd, ds⟩) .en))))
theorem pk_treeBL (M : Mc) (bs : List Int) (R : Out → Prop) : (t_pkC (.bad eLen) [.c (.p 0 0 0), .c (.l .u8 bs)] (inM M)).run R = (([NV.c (.l .u8 bs)] = [NV.c (.l .u8 bs)] ∧ pkV bs = .bad eLen) ∧ R (oMe M (.e eLen))) := by kernel_rfl
theorem pk_treeBB (M : Mc) (bs : List Int) (R : Out → Prop) : (t_pkC (.bad eBit) [.c (.p 0 0 0), .c (.l .u8 bs)] (inM M)).run R = (([NV.c (.l .u8 bs)] = [NV.c (.l .u8 bs)] ∧ pkV bs = .bad eBit) ∧ R (oMe M (.e eBit))) := by kernel_rfl
theorem pk_treeBK (M : Mc) (bs : List Int) (R : Out → Prop) : (t_pkC (.bad eKnd) [.c (.p 0 0 0), .c (.l .u8 bs)] (inM M)).run R = (([NV.c (.l .u8 bs)] = [NV.c (.l .u8 bs)] ∧ pkV bs = .bad eKnd) ∧ R (oMe M (.e eKnd))) := by kernel_rfl
theorem pk_treeN (M : Mc) (R : Out → Prop) : (t_pkC (.bad eLen) [.c (.p 0 0 0), .c .sn] (inM M)).run R = (PkR.bad eLen = .bad eLen ∧ R (oMe M (.e eLen))) := by kernel_rfl
theorem pk_tree1 (M : Mc) (row kd cd : Int) (ds bs : List Int) (R : Out → Prop) : (t_pkC (.ok ⟨1, row, kd, cd, ds⟩) [.c (.p 0 0 0), .c (.l .u8 bs)] (inM M)).run R = (([NV.c (.l .u8 bs)] = [NV.c (.l .u8 bs)] ∧ pkV bs = .ok ⟨1, row, kd, cd, ds⟩) ∧ pkT M 1 row kd cd ds R) := by kernel_rfl
theorem pk_tree2 (M : Mc) (row kd cd : Int) (ds bs : List Int) (R : Out → Prop) : (t_pkC (.ok ⟨2, row, kd, cd, ds⟩) [.c (.p 0 0 0), .c (.l .u8 bs)] (inM M)).run R = (([NV.c (.l .u8 bs)] = [NV.c (.l .u8 bs)] ∧ pkV bs = .ok ⟨2, row, kd, cd, ds⟩) ∧ pkT M 2 row kd cd ds R) := by kernel_rfl
theorem pk_tree3 (M : Mc) (row kd cd : Int) (ds bs : List Int) (R : Out → Prop) : (t_pkC (.ok ⟨3, row, kd, cd, ds⟩) [.c (.p 0 0 0), .c (.l .u8 bs)] (inM M)).run R = (([NV.c (.l .u8 bs)] = [NV.c (.l .u8 bs)] ∧ pkV bs = .ok ⟨3, row, kd, cd, ds⟩) ∧ pkT M 3 row kd cd ds R) := by kernel_rfl
theorem pk_tree4 (M : Mc) (row kd cd : Int) (ds bs : List Int) (R : Out → Prop) : (t_pkC (.ok ⟨4, row, kd, cd, ds⟩) [.c (.p 0 0 0), .c (.l .u8 bs)] (inM M)).run R = (([NV.c (.l .u8 bs)] = [NV.c (.l .u8 bs)] ∧ pkV bs = .ok ⟨4, row, kd, cd, ds⟩) ∧ pkT M 4 row kd cd ds R) := by kernel_rfl
theorem pk_tree5 (M : Mc) (row kd cd : Int) (ds bs : List Int) (R : Out → Prop) : (t_pkC (.ok ⟨5, row, kd, cd, ds⟩) [.c (.p 0 0 0), .c (.l .u8 bs)] (inM M)).run R = (([NV.c (.l .u8 bs)] = [NV.c (.l .u8 bs)] ∧ pkV bs = .ok ⟨5, row, kd, cd, ds⟩) ∧ pkT M 5 row kd cd ds R) := by kernel_rfl
theorem pk_tree6 (M : Mc) (row kd cd : Int) (ds bs : List Int) (R : Out → Prop) : (t_pkC (.ok ⟨6, row, kd, cd, ds⟩) [.c (.p 0 0 0), .c (.l .u8 bs)] (inM M)).run R = (([NV.c (.l .u8 bs)] = [NV.c (.l .u8 bs)] ∧ pkV bs = .ok ⟨6, row, kd, cd, ds⟩) ∧ pkT M 6 row kd cd ds R) := by kernel_rfl
theorem pk_tree7 (M : Mc) (row kd cd : Int) (ds bs : List Int) (R : Out → Prop) : (t_pkC (.ok ⟨7, row, kd, cd, ds⟩) [.c (.p 0 0 0), .c (.l .u8 bs)] (inM M)).run R = (([NV.c (.l .u8 bs)] = [NV.c (.l .u8 bs)] ∧ pkV bs = .ok ⟨7, row, kd, cd, ds⟩) ∧ pkT M 7 row kd cd ds R) := by kernel_rfl
theorem pk_tree8 (M : Mc) (row kd cd : Int) (ds bs : List Int) (R : Out → Prop) : (t_pkC (.ok ⟨8, row, kd, cd, ds⟩) [.c (.p 0 0 0), .c (.l .u8 bs)] (inM M)).run R = (([NV.c (.l .u8 bs)] = [NV.c (.l .u8 bs)] ∧ pkV bs = .ok ⟨8, row, kd, cd, ds⟩) ∧ pkT M 8 row kd cd ds R) := by kernel_rfl
noncomputable def Mc.pkM (M : Mc) (p : Px) : Mc × Option Nat :=
  match p.kd == 1 with
  | true => (match hdOk p.ds with
    | true => (M.hdM p.mg.toNat p.ds, none)
    | false => (M, some eBit))
  | false => match p.kd == 6 with
    | true => (match tr.regB p.kd p.cd p.ds with
      | true => (M.withV p.mg.toNat { M.v p.mg.toNat with rg := rgN p.kd p.cd p.ds, td := true }, none)
      | false => (M, none))
    | false => match p.kd == 7 with
      | true => (match sv.okK p.mg p.kd p.cd with
        | true => (match sv.all6 p.ds with
          | true => (match sv.clkG (sv.gD p.ds) with
            | true => ({ M with inf := ixV p.ds }, none)
            | false => (M, some eRng))
          | false => (M, some eBit))
        | false => (M, some eKnd))
      | false => (M.insM p.mg.toNat p, none)
noncomputable def Mc.step (M : Mc) (bs : List Int) : Mc × Option Nat := match pkV bs with
  | .bad k => (M, some k)
  | .ok p => M.pkM p
theorem pkM_good {M : Mc} (h : M.good) {p : Px} (hg : 1 ≤ p.mg ∧ p.mg ≤ 8) : (M.pkM p).1.good := by
  have hn : p.mg.toNat < 9 := by omega
  unfold Mc.pkM
  split
  · split
    · exact hdM_good h (by omega) _
    · exact h
  · split
    · split
      · exact h.upd hn (h.vfit _) (h.txt _)
      · exact h
    · split
      · split
        · split
          · split
            · exact ⟨h.far, h.nd, h.m1, h.m8, h.len, h.fit, h.vfit, h.txt⟩
            · exact h
          · exact h
        · exact h
      · exact insM_good h hn p
theorem kindF_cases (r : Int) : kindF r = 0 ∨ (kindF r = 1 ∧ r = 0) ∨ (kindF r = 2 ∧ 1 ≤ r ∧ r ≤ 24) ∨ (3 ≤ kindF r ∧ kindF r ≤ 7 ∧ 26 ≤ r ∧ r ≤ 30) := by
  unfold kindF
  by_cases h0 : r = 0
  · subst h0; exact .inr (.inl ⟨rfl, rfl⟩)
  · rw [decide_eq_false h0]
    by_cases h1 : 1 ≤ r ∧ r ≤ 24
    · refine .inr (.inr (.inl ⟨?_, h1⟩))
      simp [h1]
    · by_cases h2 : 26 ≤ r ∧ r ≤ 30
      · refine .inr (.inr (.inr ?_))
        have : r = 26 ∨ r = 27 ∨ r = 28 ∨ r = 29 ∨ r = 30 := by omega
        rcases this with rfl | rfl | rfl | rfl | rfl <;> decide
      · left
        have e1 : (decide (r ≥ 1) && decide (r ≤ 24)) = false := by
          rw [Bool.and_eq_false_iff]
          by_cases c : r ≥ 1
          · exact .inr (decide_eq_false fun h => h1 ⟨c, h⟩)
          · exact .inl (decide_eq_false c)
        have e2 : (decide (r ≥ 26) && decide (r ≤ 30)) = false := by
          rw [Bool.and_eq_false_iff]
          by_cases c : r ≥ 26
          · exact .inr (decide_eq_false fun h => h2 ⟨c, h⟩)
          · exact .inl (decide_eq_false c)
        simp [e1, e2]
theorem getN_rng (b : Int) : 0 ≤ getN b ∧ getN b < 16 := by
  unfold getN pk.get
  cases h : (List.range 16).find? (hit b) with
  | none => exact ⟨by decide, by decide⟩
  | some n =>
    have := List.mem_of_find?_eq_some h
    rw [List.mem_range] at this
    show 0 ≤ ((n : Nat) : Int) ∧ ((n : Nat) : Int) < 16
    omega
theorem magOf_rng (x : Int) (h : 0 ≤ x ∧ x < 16) : 1 ≤ magOf x ∧ magOf x ≤ 8 := by
  have : x = 0 ∨ x = 1 ∨ x = 2 ∨ x = 3 ∨ x = 4 ∨ x = 5 ∨ x = 6 ∨ x = 7 ∨ x = 8 ∨ x = 9 ∨ x = 10 ∨ x = 11 ∨ x = 12 ∨ x = 13 ∨ x = 14 ∨ x = 15 := by omega
  rcases this with rfl | rfl | rfl | rfl | rfl | rfl | rfl | rfl | rfl | rfl | rfl | rfl | rfl | rfl | rfl | rfl <;> decide
structure Fine (p : Px) : Prop where
  mg : 1 ≤ p.mg ∧ p.mg ≤ 8
  kd : 1 ≤ p.kd ∧ p.kd ≤ 7
  l40 : p.kd ≤ 2 → p.ds.length = 40
  l39 : 3 ≤ p.kd → p.ds.length = 39
  by' : ∀ b ∈ p.ds, 0 ≤ b ∧ b < 256
theorem pkV_fine {bs : List Int} {p : Px} (hb : ∀ b ∈ bs, 0 ≤ b ∧ b < 256) (h : pkV bs = .ok p) : Fine p := by
  unfold pkV at h
  split at h
  · cases h
  rename_i hl
  have hl := of_decide_eq_true hl
  split at h
  · cases h
  split at h
  · cases h
  rename_i hk
  have hk := of_decide_eq_false hk
  have hm := magOf_rng _ (getN_rng (bs.getD 0 0))
  have hc := kindF_cases (rwB bs)
  split at h
  · rename_i hr
    have hr := of_decide_eq_false hr
    cases h
    refine ⟨hm, ⟨?_, ?_⟩, fun _ => ?_, fun h3 => ?_, fun b hb' => hb b (List.mem_of_mem_drop hb')⟩
    · simp only; omega
    · simp only; omega
    · simp only [List.length_drop]; omega
    · simp only at h3; omega
  · rename_i hr
    have hr := of_decide_eq_true hr
    split at h
    · cases h
      refine ⟨hm, ⟨?_, ?_⟩, fun h3 => ?_, fun _ => ?_, fun b hb' => hb b (List.mem_of_mem_drop (List.mem_of_mem_drop hb'))⟩
      · simp only; omega
      · simp only; omega
      · simp only at h3; omega
      · simp only [List.length_drop]; omega
    · cases h
theorem pkV_bad {bs : List Int} {k : Nat} (h : pkV bs = .bad k) : k = eLen ∨ k = eBit ∨ k = eKnd := by
  unfold pkV at h
  split at h
  · cases h; exact .inl rfl
  split at h
  · cases h; exact .inr (.inl rfl)
  split at h
  · cases h; exact .inr (.inr rfl)
  split at h
  · cases h
  split at h
  · cases h
  · cases h; exact .inr (.inl rfl)
theorem step_good {M : Mc} (h : M.good) {bs : List Int} (hb : ∀ b ∈ bs, 0 ≤ b ∧ b < 256) : (M.step bs).1.good := by
  unfold Mc.step
  split
  · exact h
  · rename_i p hp
    exact pkM_good h (pkV_fine hb hp).mg
def ncE : Option Nat → NC
  | none => .en
  | some k => .e k
noncomputable def errT (e : Option Nat) (M : Mc) : Tr Out :=
  .br (e == none) (.ret (oMe M .en)) (.br (e == some eLen) (.ret (oMe M (.e eLen))) (.br (e == some eBit) (.ret (oMe M (.e eBit))) (.br (e == some eKnd) (.ret (oMe M (.e eKnd))) (.ret (oMe M (.e eRng))))))
theorem errT_run {e : Option Nat} {M : Mc} {R : Out → Prop} (he : e = none ∨ e = some eLen ∨ e = some eBit ∨ e = some eKnd ∨ e = some eRng) (h : (errT e M).run R) : R (oMe M (ncE e)) := by
  rcases he with rfl | rfl | rfl | rfl | rfl
  all_goals exact h
theorem pkT_of {M : Mc} {p : Px} {g : Nat} {R : Out → Prop} (hg : (g : Int) = p.mg) (hM : M.good) (hp : Fine p) (h : R (oMe (M.pkM p).1 (ncE (M.pkM p).2))) : pkT M g p.row p.kd p.cd p.ds R := by
  have hgn : p.mg.toNat = g := by omega
  unfold pkT
  rw [hM.bk, hg]
  unfold Mc.pkM at h
  rw [hgn] at h
  cases h1 : (p.kd == 1) with
  | true =>
    have e1 := eq_of_beq h1
    rw [h1] at h
    refine sT rfl ⟨⟨rfl, hM.ok⟩, ⟨by rw [e1], hp.mg, hM, hp.l40 (by omega), hp.by'⟩, ?_⟩
    cases ho : hdOk p.ds with
    | true => rw [ho] at h; exact sT rfl h
    | false => rw [ho] at h; exact sF rfl h
  | false =>
    rw [h1] at h
    refine sF rfl ?_
    cases h6 : (p.kd == 6) with
    | true =>
      have e6 := eq_of_beq h6
      rw [h6] at h
      have hl := hp.l39 (by omega)
      refine sT rfl ⟨⟨by omega, by omega, hp.by'⟩, ?_⟩
      cases ho : tr.regB p.kd p.cd p.ds with
      | true => rw [ho] at h; exact sT rfl h
      | false => rw [ho] at h; exact sF rfl h
    | false =>
      rw [h6] at h
      refine sF rfl ?_
      cases h7 : (p.kd == 7) with
      | true =>
        have e7 := eq_of_beq h7
        rw [h7] at h
        refine sT rfl ⟨fun _ => ⟨hp.l39 (by omega), hp.by'⟩, ?_⟩
        cases ho : sv.okK p.mg p.kd p.cd with
        | false => rw [ho] at h; exact sF rfl h
        | true =>
          rw [ho] at h
          refine sT rfl ?_
          cases ha : sv.all6 p.ds with
          | false => rw [ha] at h; exact sF rfl h
          | true =>
            rw [ha] at h
            refine sT rfl ?_
            cases hc : sv.clkG (sv.gD p.ds) with
            | false => rw [hc] at h; exact sF rfl h
            | true => rw [hc] at h; exact sT rfl h
      | false =>
        rw [h7] at h
        exact sF rfl ⟨⟨rfl, hM.ok⟩, ⟨rfl, hp.mg, hM, fun h3 => hp.l39 (by omega), hp.by'⟩, h⟩
noncomputable def tPk : Con := fun args regs => match args with
  | [.c (.p 0 0 0), .c (.l _ bs)] => onM regs fun M => .must (args = [.c (.p 0 0 0), .c (.l .u8 bs)] ∧ M.good ∧ ∀ b ∈ bs, 0 ≤ b ∧ b < 256) (errT (M.step bs).2 (M.step bs).1)
  | [.c (.p 0 0 0), .c .sn] => onM regs fun M => .ret (oMe M (.e eLen))
  | _ => .fail
theorem Known_any {P : Program} {gl : List Nat} {f : FuncId} {ι : Type} {T : ι → Con} {T' : Con} (i0 : ι) (hk : ∀ i, Known P gl f (T i)) (h : ∀ args regs R, (T' args regs).run R → ∃ i, (T i args regs).run R) : Known P gl f T' :=
  ⟨(hk i0).goes, fun args regs R hr => by obtain ⟨i, hi⟩ := h args regs R hr; exact (hk i).sound args regs R hi⟩
theorem pkM_err (M : Mc) (p : Px) : (M.pkM p).2 = none ∨ (M.pkM p).2 = some eLen ∨ (M.pkM p).2 = some eBit ∨ (M.pkM p).2 = some eKnd ∨ (M.pkM p).2 = some eRng := by
  unfold Mc.pkM
  split
  · split
    · exact .inl rfl
    · exact .inr (.inr (.inl rfl))
  · split
    · split <;> exact .inl rfl
    · split
      · split
        · split
          · split
            · exact .inl rfl
            · exact .inr (.inr (.inr (.inr rfl)))
          · exact .inr (.inr (.inl rfl))
        · exact .inr (.inr (.inr (.inl rfl)))
      · exact .inl rfl
theorem step_err (M : Mc) (bs : List Int) : (M.step bs).2 = none ∨ (M.step bs).2 = some eLen ∨ (M.step bs).2 = some eBit ∨ (M.step bs).2 = some eKnd ∨ (M.step bs).2 = some eRng := by
  unfold Mc.step
  split
  · rename_i k hk
    rcases pkV_bad hk with rfl | rfl | rfl
    · exact .inr (.inl rfl)
    · exact .inr (.inr (.inl rfl))
    · exact .inr (.inr (.inr (.inl rfl)))
  · exact pkM_err M _
set_option maxRecDepth 100000 in
attribute [local irreducible] t_pkC pkT inM in
set_option maxHeartbeats 1000000 in
theorem pk_in {M : Mc} {bs : List Int} {R : Out → Prop} (hM : M.good) (hb : ∀ b ∈ bs, 0 ≤ b ∧ b < 256) (h : R (oMe (M.step bs).1 (ncE (M.step bs).2))) : (t_pkC (pkV bs) [.c (.p 0 0 0), .c (.l .u8 bs)] (inM M)).run R := by
  unfold Mc.step at h
  cases hq : pkV bs with
  | bad k =>
    rw [hq] at h
    rcases pkV_bad hq with rfl | rfl | rfl
    · exact (pk_treeBL M bs R).mpr ⟨⟨rfl, hq⟩, h⟩
    · exact (pk_treeBB M bs R).mpr ⟨⟨rfl, hq⟩, h⟩
    · exact (pk_treeBK M bs R).mpr ⟨⟨rfl, hq⟩, h⟩
  | ok p =>
    rw [hq] at h
    have hp := pkV_fine hb hq
    have key : ∀ g : Nat, (g : Int) = p.mg → pkT M g p.row p.kd p.cd p.ds R := fun g hg => pkT_of hg hM hp h
    clear h
    obtain ⟨g, row, kd, cd, ds⟩ := p
    have hg : g = 1 ∨ g = 2 ∨ g = 3 ∨ g = 4 ∨ g = 5 ∨ g = 6 ∨ g = 7 ∨ g = 8 := by have := hp.mg; simp only at this; omega
    rcases hg with rfl | rfl | rfl | rfl | rfl | rfl | rfl | rfl
    · exact (pk_tree1 M row kd cd ds bs R).mpr ⟨⟨rfl, hq⟩, key 1 rfl⟩
    · exact (pk_tree2 M row kd cd ds bs R).mpr ⟨⟨rfl, hq⟩, key 2 rfl⟩
    · exact (pk_tree3 M row kd cd ds bs R).mpr ⟨⟨rfl, hq⟩, key 3 rfl⟩
    · exact (pk_tree4 M row kd cd ds bs R).mpr ⟨⟨rfl, hq⟩, key 4 rfl⟩
    · exact (pk_tree5 M row kd cd ds bs R).mpr ⟨⟨rfl, hq⟩, key 5 rfl⟩
    · exact (pk_tree6 M row kd cd ds bs R).mpr ⟨⟨rfl, hq⟩, key 6 rfl⟩
    · exact (pk_tree7 M row kd cd ds bs R).mpr ⟨⟨rfl, hq⟩, key 7 rfl⟩
    · exact (pk_tree8 M row kd cd ds bs R).mpr ⟨⟨rfl, hq⟩, key 8 rfl⟩
attribute [local irreducible] t_pkC in
set_option maxRecDepth 100000 in
theorem kPk : Known Tryz.prog GL 15 tPk := by
  refine Known_any (.bad 0) k_pkC fun args regs R h => ?_
  unfold tPk at h
  split at h
  case h_3 => exact h.elim
  case h_1 =>
    rename_i _ bs
    obtain ⟨M, rfl, hM, ⟨h1, hg, hb⟩, h⟩ := onM_elim h
    rw [h1]
    exact ⟨pkV bs, pk_in hg hb (errT_run (step_err M bs) h)⟩
  case h_2 =>
    obtain ⟨M, rfl, hM, h⟩ := onM_elim h
    exact ⟨.bad eLen, (pk_treeN M R).mpr ⟨rfl, h⟩⟩
theorem clN_tree (R : Out → Prop) : (t_clT [.c .sn] []).run R = R ⟨.v (.c (.lr K3 [])), []⟩ := by kernel_rfl
noncomputable def tclTN : Con := fun args regs => match args, regs with
  | [.c .sn], [] => .ret ⟨.v (.c (.lr K3 [])), []⟩
  | [.c (.lr ks xs)], [] => tclTV [.c (.lr ks xs)] []
  | _, _ => .fail
noncomputable def clAny : Bool → Con
  | true => t_clT
  | false => tclTV
set_option maxRecDepth 100000 in
attribute [local irreducible] t_clT in
theorem kclTN : Known Tryz.prog GL 142 tclTN := by
  refine Known_any (T := clAny) true (fun b => by cases b; exact kclTV; exact kt_clT) fun args regs R h => ?_
  unfold tclTN at h
  split at h
  · exact ⟨true, (Box.of_eq (clN_tree R) h).out⟩
  · exact ⟨false, h⟩
  · exact h.elim
noncomputable def c_own1 : FuncId → Option Con := conOf [(142, tclTN)]
theorem kc_own1 : ∀ f T, c_own1 f = some T → Known Tryz.prog GL f T := (Knowns.cons kclTN .nil).get
noncomputable def t_own1 : Con := fun args regs => nfun Tryz.prog GL c_own1 [] Tryz.f74 args regs
theorem k_own1 : Known Tryz.prog GL 74 t_own1 := known_inl Tryz.func74 rfl (by kernel_rfl) mixed kc_own1 (by kernel_rfl)
noncomputable def pgN (p : Pg) : NV := .sg (pgSegs p .sn [] fun q => [.cells q])
theorem own1_tree (p : Pg) (R : Out → Prop) : (t_own1 [pgV p] []).run R = (([NV.c (.lr K3 p.ex)] = [NV.c (.lr K3 p.ex)] ∧ p.ex.length ≤ 1000000) ∧ R (oPg p)) := by kernel_rfl
theorem own1_nil (R : Out → Prop) : (t_own1 [pgN pgZ] []).run R = R (oPg pgZ) := by kernel_rfl
noncomputable def tOwnN : Con := fun args regs => match args, regs with
  | [v], [] => (match rdPg v with
    | some p => .must (args = [pgV p] ∧ fits p) (.ret (oPg p))
    | none => .must (args = [pgN pgZ]) (.ret (oPg pgZ)))
  | _, _ => .fail
attribute [local irreducible] t_own1 in
set_option maxRecDepth 100000 in
theorem kOwnN : Known Tryz.prog GL 74 tOwnN := by
  refine k_own1.less fun args regs R h => ?_
  unfold tOwnN at h
  split at h
  case h_2 => exact h.elim
  split at h
  · rename_i p _
    obtain ⟨⟨h1, h2⟩, h⟩ := h
    rw [h1]
    unfold fits at h2
    exact (Box.of_eq (own1_tree p R) ⟨⟨rfl, by omega⟩, h⟩).out
  · obtain ⟨h1, h⟩ := h
    rw [h1]
    exact (Box.of_eq (own1_nil R) h).out
noncomputable def c_fd2 : FuncId → Option Con := conOf [(73, tGe), (74, tOwnN), (75, t_all)]
theorem kc_fd2 : ∀ f T, c_fd2 f = some T → Known Tryz.prog GL f T := (Knowns.cons kGe (.cons kOwnN (.cons k_all .nil))).get
noncomputable def XFe : Cx := { P := Tryz.prog, con := c_fd2, glob := GL, m := 4, loops := [] }
noncomputable def XIt : Cx := { P := Tryz.prog, con := cIt, glob := GL, m := 9, loops := [] }
noncomputable def fr0 : List NS := frame 50 [(3, .v (.c (.p 4 0 0))), (4, .v (.c (.p 5 0 0))), (8, .v (.c (.p 6 0 0))), (9, .v (.c (.p 7 0 0))), (31, .v (.c (.cl 143 [(8, 0, 0)])))]
noncomputable def YF : Yh := bodyY XFe (psOf rgF) (asOf rgF) (bdOf rgF) fr0
noncomputable def frIt (n i : Int) (l : Nat) : List NS := frame 32 [(0, .v (.c (.e 1000))), (1, .v (.c (.p 8 0 0))), (8, .v (.c (.hz 9 l))), (9, .v (.c (.i .i64 n))), (10, .v (.c (.i .i64 i)))]
noncomputable def pgO : Option Pg → Reg
  | some p => pgReg p (.lr K3 p.ex)
  | none => pgReg pgZ .sn
noncomputable def rgI (M : Mc) (k : Ky) (o : Option Pg) : List (Option Reg) := [some (mcG 1 M.v M.inf), some (stM M.st.sto (.hz 3 M.st.sto.l.length)), some (mpReg M.st.sto.m), some (ordReg (kyRows M.st.sto.l)), some (plReg k), some (pgReg pgZ .sn), some (pgO o), some ⟨1, 4, .cells [.b o.isSome]⟩, some ⟨1, 117, .cells [.p 1 0 0]⟩]
noncomputable def SF (M : Mc) (k : Ky) (o : Option Pg) (i : Int) : St := { fr := frIt M.st.L.length i M.st.L.length, rg := rgI M k o ++ [some (ordReg (kyRows (M.st.L.map kyP)))] }
noncomputable def DF (M : Mc) (k : Ky) (o : Option Pg) : St := { fr := frame 32 [], rg := rgI M k o }
noncomputable abbrev itC : Code := bodyLoop f_it 0
noncomputable def rndF (s : St) : Tr ROI := roundI XIt YF KI [] 0 [0, 1, 8, 9, 10] [] itC s Option.none
def rkF (M : Mc) (i : Int) : Ky := toKy ((kyRows (M.st.L.map kyP)).getD i.toNat [])
noncomputable def nxF (M : Mc) (k : Ky) (o : Option Pg) (i : Int) (R : ROI → Prop) : Prop := R (.next (SF M k o (IntKind.i64.wrap (i + 1))) Option.none)
noncomputable def inF (M : Mc) (k : Ky) (o : Option Pg) (i : Int) (R : ROI → Prop) : Prop :=
  sel (decide (i < (M.st.L.length : Int))) (sel (decide (0 ≤ i)) (sel (decide (i < (M.st.L.length : Int))) (sel (decide (i.toNat < (kyRows (M.st.L.map kyP)).length)) (sel (mpHas plSch (kyFC (rkF M i)) M.st.sto.m)
    (true = true ∧ sel ((rkF M i).1 == k.1) (sel ((rkF M i).2.1 == k.2.1) (nxF M k (some (ofRow (mpGet plSch (kyFC (rkF M i)) M.st.sto.m))) i R) (nxF M k o i R)) (nxF M k o i R)) (nxF M k o i R)) False) False) False) (R (.done .normal (DF M k o) Option.none))
theorem round_F0 (M : Mc) (k : Ky) (i : Int) (R : ROI → Prop) : (rndF (SF M k none i)).run R = inF M k none i R := by kernel_rfl
theorem round_F1 (M : Mc) (k : Ky) (p : Pg) (i : Int) (R : ROI → Prop) : (rndF (SF M k (some p) i)).run R = inF M k (some p) i R := by kernel_rfl
theorem round_F (M : Mc) (k : Ky) (i : Int) (R : ROI → Prop) : ∀ o : Option Pg, (rndF (SF M k o i)).run R = inF M k o i R
  | none => round_F0 M k i R
  | some p => round_F1 M k p i R
def hitF (k : Ky) (p : Pg) : Bool := (p.mg == k.1) && (p.pn == k.2.1)
def stepF (k : Ky) (o : Option Pg) (p : Pg) : Option Pg := match hitF k p with
  | true => some p
  | false => o
def lastF (k : Ky) (L : List Pg) : Option Pg := L.foldl (stepF k) none
theorem rk_eq {M : Mc} {i : Int} (h : i.toNat < M.st.L.length) : rkF M i = kyP M.st.L[i.toNat] := by
  unfold rkF
  rw [kyRows_getD (by rw [List.length_map]; exact h), List.getD_eq_getElem?_getD, List.getElem?_map, List.getElem?_eq_getElem h]
  rfl
theorem find_nd : ∀ {L : List Pg} {n : Nat} (hn : n < L.length), (L.map kyP).Nodup → L.find? (fun p => kyEq (kyP L[n]) (kyP p)) = some L[n]
  | [], n, hn, _ => absurd hn (Nat.not_lt_zero _)
  | q :: L, 0, _, _ => by
    rw [List.find?_cons]
    show (match kyEq (kyP q) (kyP q) with | true => some q | false => _) = some q
    rw [kyEq_iff.2 rfl]
  | q :: L, n + 1, hn, h => by
    rw [List.map_cons, List.nodup_cons] at h
    have hn' : n < L.length := Nat.lt_of_succ_lt_succ hn
    rw [List.find?_cons]
    show (match kyEq (kyP L[n]) (kyP q) with | true => some q | false => L.find? (fun p => kyEq (kyP L[n]) (kyP p))) = some L[n]
    cases hk : kyEq (kyP L[n]) (kyP q) with
    | true => exact (h.1 (kyEq_iff.1 hk ▸ List.mem_map.2 ⟨L[n], List.getElem_mem hn', rfl⟩)).elim
    | false => exact find_nd hn' h.2
theorem mp_nth {L : List Pg} {n : Nat} (hn : n < L.length) (h : (L.map kyP).Nodup) : mpHas plSch (kyFC (kyP L[n])) (ents L) = true ∧ ofRow (mpGet plSch (kyFC (kyP L[n])) (ents L)) = L[n] := by
  have := mp_find (kyP L[n]) L
  rw [find_nd hn h] at this
  exact this
structure AF where
  o : Option Pg
  i : Int
noncomputable def endF (M : Mc) (k : Ky) (o : Option Pg) : Tr (NExit × St × Option NExit) := .br o.isSome (.ret (.normal, DF M k (some (o.getD pgZ)), Option.none)) (.ret (.normal, DF M k none, Option.none))
def preF (M : Mc) (k : Ky) (a : AF) (R : NExit × St × Option NExit → Prop) : Prop := (0 ≤ a.i ∧ a.i ≤ (M.st.L.length : Int)) ∧ M.good ∧ (endF M k ((M.st.L.drop a.i.toNat).foldl (stepF k) a.o)).run R
noncomputable def hF (M : Mc) (k : Ky) (a : AF) : St × Option NExit := (SF M k a.o a.i, Option.none)
def nxtF (M : Mc) (k : Ky) (a : AF) (R : NExit × St × Option NExit → Prop) (o : ROI) : Prop := match o with
  | .next s p => ∃ y, (s, p) = hF M k y ∧ ((M.st.L.length : Int) - y.i).toNat < ((M.st.L.length : Int) - a.i).toNat ∧ preF M k y R
  | .done e s p => R (e, s, p)
theorem inF_in (M : Mc) (k : Ky) (a : AF) (R : NExit × St × Option NExit → Prop) (h : preF M k a R) : inF M k a.o a.i (nxtF M k a R) := by
  obtain ⟨o, i⟩ := a
  obtain ⟨⟨h0, hle⟩, hg, hR⟩ := h
  simp only at h0 hle hR
  unfold inF
  by_cases hlt : i < (M.st.L.length : Int)
  · have hj : i.toNat < M.st.L.length := by omega
    have hl8 := hg.lt
    have hw : IntKind.i64.wrap (i + 1) = i + 1 := by rw [IntKind.wrap_i64]; omega
    have ht : (i + 1).toNat = i.toNat + 1 := by omega
    have nx : ∀ o', (endF M k ((M.st.L.drop (i.toNat + 1)).foldl (stepF k) o')).run R → nxF M k o' i (nxtF M k ⟨o, i⟩ R) := fun o' h' => by
      unfold nxF
      rw [hw]
      exact ⟨⟨o', i + 1⟩, rfl, by simp only; omega, ⟨by simp only; omega, by simp only; omega⟩, hg, by simp only; rw [ht]; exact h'⟩
    rw [List.drop_eq_getElem_cons hj, List.foldl_cons] at hR
    have hm := mp_nth hj hg.nd
    rw [rk_eq hj]
    refine sT (decide_eq_true hlt) (sT (decide_eq_true h0) (sT (decide_eq_true hlt) (sT (decide_eq_true (by rw [kyRows_length, List.length_map]; exact hj)) ?_)))
    show sel (mpHas plSch (kyFC (kyP M.st.L[i.toNat])) (ents M.st.L)) (true = true ∧ sel _ (sel _ (nxF M k (some (ofRow (mpGet plSch (kyFC (kyP M.st.L[i.toNat])) (ents M.st.L)))) i _) _) _) _
    rw [hm.2]
    refine sT hm.1 ⟨rfl, ?_⟩
    generalize M.st.L[i.toNat] = p at hR ⊢
    show sel (p.mg == k.1) (sel (p.pn == k.2.1) _ _) _
    cases h1 : p.mg == k.1 with
    | false =>
      refine nx o ?_
      unfold stepF hitF at hR
      rw [h1] at hR
      exact hR
    | true =>
      show sel (p.pn == k.2.1) _ _
      cases h2 : p.pn == k.2.1 with
      | false =>
        refine nx o ?_
        unfold stepF hitF at hR
        rw [h1, h2] at hR
        exact hR
      | true =>
        refine nx (some p) ?_
        unfold stepF hitF at hR
        rw [h1, h2] at hR
        exact hR
  · refine sF (decide_eq_false hlt) ?_
    rw [List.drop_eq_nil_iff.2 (by omega)] at hR
    cases o with
    | none => exact hR
    | some p => exact hR
set_option maxRecDepth 100000 in
theorem loop_F (M : Mc) (k : Ky) : LOkI Tryz.prog GL 9 KI YF 0 itC (fun s => .must (s = (SF M k none 0, Option.none) ∧ M.good) (endF M k (lastF k M.st.L))) := by
  refine loopI_ok (X := XIt) (ls := []) kcIt (by kernel_rfl) (LAllI.none (by kernel_rfl)) [0, 1, 8, 9, 10] [] (hF M k) (fun a => ((M.st.L.length : Int) - a.i).toNat) (preF M k) ?_ ?_
  · rintro s R ⟨⟨hs, hg⟩, hR⟩
    exact ⟨⟨none, 0⟩, hs, ⟨by simp only; omega, by simp only; omega⟩, hg, hR⟩
  · intro a R h
    have := (Box.of_eq (round_F M k a.i (nxtF M k a R) a.o) (inF_in M k a R h)).out
    exact Tr.run_mono _ (fun o ho => ho) this
noncomputable def LF (M : Mc) (k : Ky) (m : Nat) (fr : List NS) (s : St × Option NExit) : Tr (NExit × St × Option NExit) := .must ((m = 9 ∧ fr = fr0) ∧ s = (SF M k none 0, Option.none) ∧ M.good) (endF M k (lastF k M.st.L))
theorem loop_F' (M : Mc) (k : Ky) (m : Nat) (fr : List NS) : LOkI Tryz.prog GL m KI (bodyY XFe (psOf rgF) (asOf rgF) (bdOf rgF) fr) 0 itC (LF M k m fr) := by
  intro l rc N Γ0 w0 h0 hN h0k h0r hY s p Γ a w R Q hI hE hW hL hK
  unfold LF at hL
  obtain ⟨⟨⟨rfl, hfr⟩, h2⟩, h4⟩ := hL
  rw [hfr] at hY
  exact loop_F M k l rc N Γ0 w0 h0 hN h0k h0r hY s p Γ a w R Q hI hE hW ⟨h2, h4⟩ hK
noncomputable def lsF (M : Mc) (k : Ky) (m : Nat) (fr : List NS) : LI := [(0, [0, 1, 8, 9, 10], LF M k m fr)]
noncomputable def RF (M : Mc) (k : Ky) : St → Tr (NExit × St) := rangeT XFe KI cIt (lsF M k) 0 [4, 8, 9] 143 f_it rgF
noncomputable def codeIt : Code := f_it.body.getD .skip
theorem it_body : f_it.body = some codeIt := by kernel_rfl
theorem it_loops : loopsIn codeIt = [(0, itC)] := by kernel_rfl
theorem rgF_eq : rgF = .rangeFunc (.tmp 31) (psOf rgF) (asOf rgF) (bdOf rgF) := by kernel_rfl
theorem con_e : ∀ f T, XFe.con f = some T → Known Tryz.prog GL f T := kc_fd2
theorem rF_ok (M : Mc) (k : Ky) : RgOk Tryz.prog GL 4 0 rgF (RF M k) := by
  have h := rangeT_ok (X := XFe) con_e (K := KI) kcIt (ls := lsF M k) (id := 0) (out := [4, 8, 9]) (g := .tmp 31) (ps := psOf rgF) (assign := asOf rgF) (body := bdOf rgF) Tryz.func143 it_body (by kernel_rfl) (by kernel_rfl) (by kernel_rfl) (by kernel_rfl) (by kernel_rfl)
    (fun m fr => LAllI.one (id := 0) (body := itC) (live := [0, 1, 8, 9, 10]) (L := LF M k m fr) it_loops rfl (loop_F' M k m fr))
  rw [← rgF_eq] at h
  exact h
noncomputable def lpF (M : Mc) (k : Ky) : List (Nat × List Nat × (St → Tr (NExit × St))) := [(0, [3, 4, 8, 9, 31], RF M k)]
noncomputable def t_fd (M : Mc) (k : Ky) : Con := fun args regs => if regs.length = 4 then nfun Tryz.prog GL c_fd2 (lpF M k) f_fd args regs else .fail
theorem fd_loops : loopsIn (f_fd.body.getD .skip) = [] := by kernel_rfl
theorem fd_ranges : rangesIn (f_fd.body.getD .skip) = [(0, rgF)] := by kernel_rfl
theorem k_fd (M : Mc) (k : Ky) : Known Tryz.prog GL 22 (t_fd M k) := by
  refine known_loops (c := f_fd.body.getD .skip) 4 Tryz.func22 (by kernel_rfl) (by kernel_rfl) mixed kc_fd2 ⟨fun i b hb x hf => ?_, fun i b hb x hf => ?_⟩
  · rw [fd_loops] at hb
    cases hb
  · rw [fd_ranges, List.mem_singleton] at hb
    cases hb
    have : x = (0, [3, 4, 8, 9, 31], RF M k) := by simpa [lpF] using hf.symm
    subst this
    exact rF_ok M k
noncomputable def oFd (M : Mc) (x : Pg × Bool) : Out := ⟨.tu [pgV x.1, .c (.b x.2)], (inM M).map some⟩
noncomputable def eqSt (M : Mc) (x : Sp) (A : Prop) : Prop := some (stM M.st.sto (.hz 3 M.st.sto.l.length)) = some (stM x.sto (.hz 3 x.sto.l.length)) ∧ (some (mpReg M.st.sto.m) = some (mpReg x.sto.m) ∧ (some (ordReg (kyRows M.st.sto.l)) = some (ordReg (kyRows x.sto.l)) ∧ A))
noncomputable def fdT (M : Mc) (k : Ky) (R : Out → Prop) : Prop :=
  sel (k.2.2 != 16255)
    ((inP M.st = inP (mpP M.st) ∧ (mpP M.st).ok) ∧ eqSt M (mpP M.st) (([pgV ((mpP M.st).get k).1] = [pgV ((mpP M.st).get k).1] ∧ fits ((mpP M.st).get k).1) ∧ R (oFd M ((mpP M.st).get k))))
    ((inP M.st = inP (mpP M.st) ∧ (mpP M.st).ok) ∧ (((9 = 9 ∧ fr0 = fr0) ∧ (SF { M with st := mpP M.st } k none 0, Option.none) = (SF M k none 0, (Option.none : Option NExit)) ∧ M.good) ∧
      sel (lastF k M.st.L).isSome (([pgV ((lastF k M.st.L).getD pgZ)] = [pgV ((lastF k M.st.L).getD pgZ)] ∧ fits ((lastF k M.st.L).getD pgZ)) ∧ R (oFd M ((lastF k M.st.L).getD pgZ, true)))
        ([pgN pgZ] = [pgN pgZ] ∧ R (oFd M (pgZ, false)))))
theorem fd_tree (M : Mc) (a b c : Int) (R : Out → Prop) : (t_fd M (a, b, c) [.c (.p 0 0 0), .ag (kyNC (a, b, c))] (inM M)).run R = fdT M (a, b, c) R := by kernel_rfl
def Mc.find (M : Mc) (k : Ky) : Pg × Bool := match k.2.2 != 16255 with
  | true => M.st.get k
  | false => ((lastF k M.st.L).getD pgZ, (lastF k M.st.L).isSome)
theorem fold_mem (k : Ky) : ∀ (L : List Pg) (o : Option Pg) {p : Pg}, L.foldl (stepF k) o = some p → o = some p ∨ p ∈ L
  | [], o, p, h => .inl h
  | q :: L, o, p, h => by
    rcases fold_mem k L _ h with h | h
    · unfold stepF at h
      split at h
      · cases h; exact .inr (List.mem_cons_self ..)
      · exact .inl h
    · exact .inr (List.mem_cons_of_mem _ h)
theorem last_fits {M : Mc} (h : M.good) (k : Ky) : fits ((lastF k M.st.L).getD pgZ) := by
  cases hl : lastF k M.st.L with
  | none => exact fits_z
  | some p =>
    rcases fold_mem k _ _ hl with h' | h'
    · cases h'
    · exact h.fit p h'
set_option maxRecDepth 100000 in
theorem fd_in {M : Mc} {k : Ky} {R : Out → Prop} (hM : M.good) (h : R (oFd M (M.find k))) : fdT M k R := by
  unfold fdT
  rw [mpP_eq]
  unfold Mc.find at h
  cases hs : k.2.2 != 16255 with
  | true =>
    rw [hs] at h
    exact ⟨⟨rfl, hM.ok.2⟩, rfl, rfl, rfl, ⟨rfl, get_fits hM.fit k⟩, h⟩
  | false =>
    rw [hs] at h
    refine ⟨⟨rfl, hM.ok.2⟩, ⟨⟨rfl, rfl⟩, rfl, hM⟩, ?_⟩
    have hf := last_fits hM k
    cases hl : lastF k M.st.L with
    | none =>
      rw [hl] at h
      exact ⟨rfl, h⟩
    | some p =>
      rw [hl] at h hf
      exact ⟨⟨rfl, hf⟩, h⟩
noncomputable def tFd : Con := fun args regs => match args with
  | [.c (.p 0 0 0), .ag [.i _ a, .i _ b, .i _ c]] => onM regs fun M => .must (args = [.c (.p 0 0 0), .ag (kyNC (a, b, c))] ∧ M.good) (.ret (oFd M (M.find (a, b, c))))
  | _ => .fail
def mcZ : Mc := ⟨fun _ => mvZ, ixZ, ⟨1, ky0, false, []⟩⟩
attribute [local irreducible] t_fd in
set_option maxRecDepth 100000 in
theorem kFd : Known Tryz.prog GL 22 tFd := by
  refine Known_any (ι := Mc × Ky) (T := fun x => t_fd x.1 x.2) (mcZ, ky0) (fun x => k_fd x.1 x.2) fun args regs R h => ?_
  unfold tFd at h
  split at h
  case h_2 => exact h.elim
  rename_i _ a _ b _ c
  obtain ⟨M, rfl, hM, ⟨h1, hg⟩, h⟩ := onM_elim h
  rw [h1]
  exact ⟨(M, a, b, c), (Box.of_eq (fd_tree M a b c R) (fd_in hg h)).out⟩
noncomputable def t_snew : Con := fun args regs => nfun Tryz.prog GL (fun _ => Option.none) [] Tryz.f53 args regs
theorem k_snew : KnownF Tryz.prog GL 53 t_snew := known_inlF Tryz.func53 rfl (by kernel_rfl) mixed con_none (by kernel_rfl)
noncomputable def c_new : FuncId → Option Con := conOf [(53, t_snew)]
theorem kc_new : ∀ f T, c_new f = some T → Known Tryz.prog GL f T := (Knowns.cons k_snew.known .nil).get
noncomputable def t_new0 : Con := fun args regs => nfun Tryz.prog GL c_new [] Tryz.f14 args regs
theorem k_new0 : KnownF Tryz.prog GL 14 t_new0 := known_inlF Tryz.func14 rfl (by kernel_rfl) mixed kc_new (by kernel_rfl)
def nilsM : List (Nat × Nat × Nat × NC) := [0, 1, 2, 3, 4, 5, 6, 7, 8].flatMap fun g => [(0, 9 * g + 5, 0, .lr K3 []), (0, 9 * (g + 1), 1, .l .u8 [])]
def canonL (F : Nat) (cs : List (Nat × Nat × Reg)) (o : Out) : Tr Out :=
  match o.rg with
  | [] => .ret o
  | _ => canonO F cs none o
def canonV (F : Nat) (cs : List (Nat × Nat × Reg)) (T : Con) : Con := fun args regs => (T args regs).bind (canonL F cs)
theorem KnownF_canonV {P : Program} {gl : List Nat} {f : FuncId} {T : Con} (h : KnownF P gl f T) (F : Nat) (cs : List (Nat × Nat × Reg)) : KnownF P gl f (canonV F cs T) := by
  refine h.weak fun args regs R hR => ?_
  unfold canonV at hR
  rw [Tr.run_bind] at hR
  refine Tr.run_mono _ (fun o ho => ?_) hR
  unfold canonL at ho
  split at ho
  · exact ⟨_, WeakF.refl _, ho⟩
  · exact canonO_ok ho
noncomputable def t_newC : Con := softT [] [] [] nilsM 4 (canonV 3 [(1, 2, ordReg [])] t_new0)
theorem k_newC : Known Tryz.prog GL 14 t_newC := (KnownF_canonV k_new0 3 [(1, 2, ordReg [])]).soft [] [] [] nilsM 4
def mcN (n : Int) : Mc := ⟨fun _ => mvZ, ixZ, ⟨n, (0, 0, 0), false, []⟩⟩
noncomputable def oNo : Out := ⟨.tu [.c .pn, .c (.e eRng)], []⟩
noncomputable def oNw (n : Int) : Out := ⟨.tu [.c (.p 0 0 0), .c .en], (inM (mcN n)).map some⟩
theorem nw_tree (n : Int) (R : Out → Prop) : (t_newC [.c (.i .i64 n)] []).run R = sel (decide (n < 1)) (R oNo) (sel (decide (n > 800)) (R oNo) (R (oNw n))) := by kernel_rfl
noncomputable def tNewM : Con := fun args regs => match args, regs with
  | [.c (.i _ n)], [] => .must (args = [.c (.i .i64 n)]) (.br (decide (n < 1)) (.ret oNo) (.br (decide (n > 800)) (.ret oNo) (.ret (oNw n))))
  | _, _ => .fail
attribute [local irreducible] t_newC in
set_option maxRecDepth 100000 in
theorem kNewM : Known Tryz.prog GL 14 tNewM := by
  refine k_newC.less fun args regs R h => ?_
  unfold tNewM at h
  split at h
  case h_2 => exact h.elim
  rename_i n
  rw [h.1]
  exact (Box.of_eq (nw_tree n R) h.2).out
theorem mcN_good {n : Int} (h1 : 1 ≤ n) (h8 : n ≤ 800) : (mcN n).good := by
  refine ⟨fun k hk => rfl, List.nodup_nil, h1, h8, ?_, ?_, fun k => fits_z, fun k => Nat.zero_le _⟩
  · show ((0 : Nat) : Int) ≤ n
    omega
  · intro p hp
    cases hp
noncomputable def c_pgs0 : FuncId → Option Con := conOf [(72, tKe)]
theorem kc_pgs0 : ∀ f T, c_pgs0 f = some T → Known Tryz.prog GL f T := (Knowns.cons kKe.known .nil).get
noncomputable def t_pgs0 : Con := fun args regs => nfun Tryz.prog GL c_pgs0 [] Tryz.f20 args regs
theorem k_pgs0 : Known Tryz.prog GL 20 t_pgs0 := known_inl Tryz.func20 rfl (by kernel_rfl) mixed kc_pgs0 (by kernel_rfl)
noncomputable def oPgs (M : Mc) : Out := ⟨.v (.c (.lr K3 (kyRows (M.st.L.map kyP)))), (inM M).map some⟩
noncomputable def t_pgsC : Con := softT [] [4] [] [] 4 t_pgs0
theorem k_pgsC : Known Tryz.prog GL 20 t_pgsC := k_pgs0.soft [] [4] [] [] 4
theorem pgs_tree (M : Mc) (R : Out → Prop) : (t_pgsC [.c (.p 0 0 0)] (inM M)).run R = ((inP M.st = inP (mpP M.st) ∧ (mpP M.st).ok) ∧ ((mpP M.st).L.length = (kyRows ((mpP M.st).L.map kyP)).length ∧ R (oPgs { M with st := mpP M.st }))) := by kernel_rfl
noncomputable def tPgs : Con := fun args regs => match args with
  | [.c (.p 0 0 0)] => onM regs fun M => .ret (oPgs M)
  | _ => .fail
attribute [local irreducible] t_pgsC in
set_option maxRecDepth 100000 in
theorem kPgs : Known Tryz.prog GL 20 tPgs := by
  refine k_pgsC.less fun args regs R h => ?_
  unfold tPgs at h
  split at h
  case h_2 => exact h.elim
  obtain ⟨M, rfl, hM, h⟩ := onM_elim h
  have e : ({ M with st := mpP M.st } : Mc) = M := by rw [mpP_eq]
  refine (Box.of_eq (pgs_tree M R) ⟨⟨by rw [mpP_eq], by rw [mpP_eq]; exact hM.2⟩, by rw [kyRows_length, List.length_map], ?_⟩).out
  rw [e]
  exact h
noncomputable def t_pmg : Con := fun args regs => nfun Tryz.prog GL (fun _ => Option.none) [] Tryz.f159 args regs
theorem k_pmg : Known Tryz.prog GL 159 t_pmg := known_inl Tryz.func159 rfl (by kernel_rfl) mixed con_none (by kernel_rfl)
end Go.Proofs.YtlfmkacafppmlaaGreatDoor.mac
namespace Go.Proofs.YtlfmkacafppmlaaGreatDoor.mac
open Go Go.Nx Go.Proofs.YtlfmkacafppmlaaGreatDoor.pk Go.Proofs.YtlfmkacafppmlaaGreatDoor.ac Go.Proofs.YtlfmkacafppmlaaGreatDoor.sto Go.Proofs.YtlfmkacafppmlaaGreatDoor.pge Go.Proofs.YtlfmkacafppmlaaGreatDoor.dec
noncomputable abbrev f_nx := Tryz.f90
noncomputable def rgNx : Code := theRange f_nx 0
noncomputable def frN : List NS := frame 77 [(3, .v (.c (.p 4 0 0))), (4, .v (.c (.p 5 0 0))), (6, .v (.c (.p 6 0 0))), (7, .v (.c (.p 7 0 0))), (14, .v (.c (.cl 143 [(8, 0, 0)])))]
noncomputable def YN : Yh := bodyY XFe (psOf rgNx) (asOf rgNx) (bdOf rgNx) frN
inductive Jn where
  | z
  | a (p : Pg)
  | s (p : Pg)
  | d (p q : Pg)
def Jn.ca : Jn → Nat → NC
  | .z, _ => .pn
  | _, n => .p n 0 0
def Jn.cb : Jn → Nat → NC
  | .z, _ => .pn
  | .a _, _ => .pn
  | .s _, n => .p n 0 0
  | .d _ _, n => .p (n + 1) 0 0
noncomputable def Jn.ex : Jn → List (Option Reg)
  | .z => []
  | .a p => [some (pgReg p (.lr K3 p.ex))]
  | .s p => [some (pgReg p (.lr K3 p.ex))]
  | .d p q => [some (pgReg p (.lr K3 p.ex)), some (pgReg q (.lr K3 q.ex))]
noncomputable def rgJ (M : Mc) (k : Ky) (J : Jn) (n : Nat) : List (Option Reg) := [some (mcG 1 M.v M.inf), some (stM M.st.sto (.hz 3 M.st.sto.l.length)), some (mpReg M.st.sto.m), some (ordReg (kyRows M.st.sto.l)), some (plReg k), some (pgReg pgZ .sn), some ⟨1, 242, .cells [J.ca n]⟩, some ⟨1, 242, .cells [J.cb n]⟩, some ⟨1, 117, .cells [.p 1 0 0]⟩]
noncomputable def rndN (s : St) : Tr ROI := roundI XIt YN KI [] 0 [0, 1, 8, 9, 10] [] itC s Option.none
def Jn.cnt : Jn → Nat
  | .z => 9
  | .a _ => 10
  | .s _ => 10
  | .d _ _ => 11
noncomputable def SN (M : Mc) (k : Ky) (J : Jn) (i : Int) : St := { fr := frame 32 [(0, .v (.c (.e 1000))), (1, .v (.c (.p 8 0 0))), (8, .v (.c (.hz J.cnt M.st.L.length))), (9, .v (.c (.i .i64 M.st.L.length))), (10, .v (.c (.i .i64 i)))], rg := rgJ M k J 9 ++ J.ex ++ [some (ordReg (kyRows (M.st.L.map kyP)))] }
noncomputable def DN (M : Mc) (k : Ky) (J : Jn) : St := { fr := frame 32 [], rg := rgJ M k J 9 ++ J.ex }
noncomputable def nxN (M : Mc) (k : Ky) (i : Int) (R : ROI → Prop) (J : Jn) : Prop := R (.next (SN M k J (IntKind.i64.wrap (i + 1))) Option.none)
def pgN_at (M : Mc) (i : Int) : Pg := ofRow (mpGet plSch (kyFC (rkF M i)) M.st.sto.m)
def hitN (k : Ky) (b : Int) (x : Pg) (N : Jn → Prop) : Jn → Prop
  | .z => sel (decide (b > k.2.2)) (N (.s x)) (N (.a x))
  | .a p => sel (decide (b < p.sb)) (sel (decide (b > k.2.2)) (N (.s x)) (N (.a x))) (sel (decide (b > k.2.2)) (N (.d p x)) (N (.a p)))
  | .s p => sel (decide (b < p.sb)) (sel (decide (b > k.2.2)) (sel (decide (b < p.sb)) (N (.s x)) (N (.d x p))) (N (.d x p))) (sel (decide (b > k.2.2)) (sel (decide (b < p.sb)) (N (.d p x)) (N (.s p))) (N (.s p)))
  | .d p q => sel (decide (b < p.sb)) (sel (decide (b > k.2.2)) (sel (decide (b < q.sb)) (N (.s x)) (N (.d x q))) (N (.d x q))) (sel (decide (b > k.2.2)) (sel (decide (b < q.sb)) (N (.d p x)) (N (.d p q))) (N (.d p q)))
noncomputable def inN (M : Mc) (k : Ky) (J : Jn) (i : Int) (R : ROI → Prop) : Prop :=
  sel (decide (i < (M.st.L.length : Int))) (sel (decide (0 ≤ i)) (sel (decide (i < (M.st.L.length : Int))) (sel (decide (i.toNat < (kyRows (M.st.L.map kyP)).length)) (sel (mpHas plSch (kyFC (rkF M i)) M.st.sto.m)
    (true = true ∧ sel ((rkF M i).1 != k.1) (nxN M k i R J) (sel ((rkF M i).2.1 != k.2.1) (nxN M k i R J) (hitN k (rkF M i).2.2 (pgN_at M i) (nxN M k i R) J)))
    (nxN M k i R J)) False) False) False) (R (.done .normal (DN M k J) Option.none))
theorem round_Nz (M : Mc) (k : Ky) (i : Int) (R : ROI → Prop) : (rndN (SN M k .z i)).run R = inN M k .z i R := by kernel_rfl
theorem round_Na (M : Mc) (k : Ky) (p : Pg) (i : Int) (R : ROI → Prop) : (rndN (SN M k (.a p) i)).run R = inN M k (.a p) i R := by kernel_rfl
theorem round_Ns (M : Mc) (k : Ky) (p : Pg) (i : Int) (R : ROI → Prop) : (rndN (SN M k (.s p) i)).run R = inN M k (.s p) i R := by kernel_rfl
theorem round_Nd (M : Mc) (k : Ky) (p q : Pg) (i : Int) (R : ROI → Prop) : (rndN (SN M k (.d p q) i)).run R = inN M k (.d p q) i R := by kernel_rfl
theorem round_N (M : Mc) (k : Ky) (i : Int) (R : ROI → Prop) : ∀ J : Jn, (rndN (SN M k J i)).run R = inN M k J i R
  | .z => round_Nz M k i R
  | .a p => round_Na M k p i R
  | .s p => round_Ns M k p i R
  | .d p q => round_Nd M k p q i R
def Jn.hit (k : Ky) (x : Pg) : Jn → Jn
  | .z => bif decide (x.sb > k.2.2) then .s x else .a x
  | .a p => bif decide (x.sb < p.sb) then (bif decide (x.sb > k.2.2) then .s x else .a x) else (bif decide (x.sb > k.2.2) then .d p x else .a p)
  | .s p => bif decide (x.sb < p.sb) then (bif decide (x.sb > k.2.2) then .s x else .d x p) else .s p
  | .d p q => bif decide (x.sb < p.sb) then (bif decide (x.sb > k.2.2) && decide (x.sb < q.sb) then .s x else .d x q) else (bif decide (x.sb > k.2.2) && decide (x.sb < q.sb) then .d p x else .d p q)
def Jn.step (k : Ky) (J : Jn) (x : Pg) : Jn := bif hitF k x then J.hit k x else J
def Mc.nxJ (M : Mc) (k : Ky) : Jn := M.st.L.foldl (Jn.step k) .z
theorem hitN_in (k : Ky) (x : Pg) (N : Jn → Prop) (J : Jn) (h : N (J.hit k x)) : hitN k x.sb x N J := by
  revert h
  cases J with
  | z =>
    dsimp only [hitN, Jn.hit]
    cases decide (x.sb > k.2.2) <;> exact fun h => h
  | a p =>
    dsimp only [hitN, Jn.hit]
    cases decide (x.sb > k.2.2) <;> cases decide (x.sb < p.sb) <;> exact fun h => h
  | s p =>
    dsimp only [hitN, Jn.hit]
    cases decide (x.sb > k.2.2) <;> cases decide (x.sb < p.sb) <;> exact fun h => h
  | d p q =>
    dsimp only [hitN, Jn.hit]
    cases decide (x.sb > k.2.2) <;> cases decide (x.sb < p.sb) <;> cases decide (x.sb < q.sb) <;> exact fun h => h
structure AN where
  J : Jn
  i : Int
def Jn.isZ : Jn → Bool
  | .z => true
  | _ => false
def Jn.isA : Jn → Bool
  | .a _ => true
  | _ => false
def Jn.isS : Jn → Bool
  | .s _ => true
  | _ => false
def Jn.p : Jn → Pg
  | .z => pgZ
  | .a p => p
  | .s p => p
  | .d p _ => p
def Jn.q : Jn → Pg
  | .d _ q => q
  | _ => pgZ
noncomputable def endN (M : Mc) (k : Ky) (J : Jn) : Tr (NExit × St × Option NExit) := .br J.isZ (.ret (.normal, DN M k .z, Option.none)) (.br J.isA (.ret (.normal, DN M k (.a J.p), Option.none)) (.br J.isS (.ret (.normal, DN M k (.s J.p), Option.none)) (.ret (.normal, DN M k (.d J.p J.q), Option.none))))
noncomputable def preN (M : Mc) (k : Ky) (a : AN) (R : NExit × St × Option NExit → Prop) : Prop := (0 ≤ a.i ∧ a.i ≤ (M.st.L.length : Int)) ∧ M.good ∧ (endN M k ((M.st.L.drop a.i.toNat).foldl (Jn.step k) a.J)).run R
noncomputable def hN (M : Mc) (k : Ky) (a : AN) : St × Option NExit := (SN M k a.J a.i, Option.none)
noncomputable def nxtN (M : Mc) (k : Ky) (a : AN) (R : NExit × St × Option NExit → Prop) (o : ROI) : Prop := match o with
  | .next s p => ∃ y, (s, p) = hN M k y ∧ ((M.st.L.length : Int) - y.i).toNat < ((M.st.L.length : Int) - a.i).toNat ∧ preN M k y R
  | .done e s p => R (e, s, p)
theorem bne_t {a b : Int} (h : (a == b) = false) : (a != b) = true := by unfold bne; rw [h]; rfl
theorem bne_f {a b : Int} (h : (a == b) = true) : (a != b) = false := by unfold bne; rw [h]; rfl
theorem inN_in (M : Mc) (k : Ky) (a : AN) (R : NExit × St × Option NExit → Prop) (h : preN M k a R) : inN M k a.J a.i (nxtN M k a R) := by
  obtain ⟨J, i⟩ := a
  obtain ⟨⟨h0, hle⟩, hg, hR⟩ := h
  simp only at h0 hle hR
  unfold inN
  by_cases hlt : i < (M.st.L.length : Int)
  · have hj : i.toNat < M.st.L.length := by omega
    have hl8 := hg.lt
    have hw : IntKind.i64.wrap (i + 1) = i + 1 := by rw [IntKind.wrap_i64]; omega
    have ht : (i + 1).toNat = i.toNat + 1 := by omega
    have nx : ∀ J', (endN M k ((M.st.L.drop (i.toNat + 1)).foldl (Jn.step k) J')).run R → nxN M k i (nxtN M k ⟨J, i⟩ R) J' := fun J' h' => by
      unfold nxN
      rw [hw]
      exact ⟨⟨J', i + 1⟩, rfl, by simp only; omega, ⟨by simp only; omega, by simp only; omega⟩, hg, by simp only; rw [ht]; exact h'⟩
    rw [List.drop_eq_getElem_cons hj, List.foldl_cons] at hR
    have hm := mp_nth hj hg.nd
    have hp : pgN_at M i = M.st.L[i.toNat] := by
      unfold pgN_at
      rw [rk_eq hj]
      exact hm.2
    rw [hp, rk_eq hj]
    refine sT (decide_eq_true hlt) (sT (decide_eq_true h0) (sT (decide_eq_true hlt) (sT (decide_eq_true (by rw [kyRows_length, List.length_map]; exact hj)) ?_)))
    refine sT hm.1 ⟨rfl, ?_⟩
    generalize M.st.L[i.toNat] = p at hR ⊢
    show sel (p.mg != k.1) _ (sel (p.pn != k.2.1) _ _)
    cases h1 : p.mg == k.1 with
    | false =>
      rw [bne_t h1]
      refine nx J ?_
      unfold Jn.step hitF at hR
      rw [h1] at hR
      exact hR
    | true =>
      rw [bne_f h1]
      show sel (p.pn != k.2.1) _ _
      cases h2 : p.pn == k.2.1 with
      | false =>
        rw [bne_t h2]
        refine nx J ?_
        unfold Jn.step hitF at hR
        rw [h1, h2] at hR
        exact hR
      | true =>
        rw [bne_f h2]
        refine hitN_in k p _ J (nx (J.hit k p) ?_)
        unfold Jn.step hitF at hR
        rw [h1, h2] at hR
        exact hR
  · refine sF (decide_eq_false hlt) ?_
    rw [List.drop_eq_nil_iff.2 (by omega)] at hR
    cases J <;> exact hR
set_option maxRecDepth 100000 in
theorem loop_N (M : Mc) (k : Ky) : LOkI Tryz.prog GL 9 KI YN 0 itC (fun s => .must (s = (SN M k .z 0, Option.none) ∧ M.good) (endN M k (M.nxJ k))) := by
  refine loopI_ok (X := XIt) (ls := []) kcIt (by kernel_rfl) (LAllI.none (by kernel_rfl)) [0, 1, 8, 9, 10] [] (hN M k) (fun a => ((M.st.L.length : Int) - a.i).toNat) (preN M k) ?_ ?_
  · rintro s R ⟨⟨hs, hg⟩, hR⟩
    exact ⟨⟨.z, 0⟩, hs, ⟨by simp only; omega, by simp only; omega⟩, hg, hR⟩
  · intro a R h
    have := (Box.of_eq (round_N M k a.i (nxtN M k a R) a.J) (inN_in M k a R h)).out
    exact Tr.run_mono _ (fun o ho => ho) this
noncomputable def LN (M : Mc) (k : Ky) (m : Nat) (fr : List NS) (s : St × Option NExit) : Tr (NExit × St × Option NExit) := .must ((m = 9 ∧ fr = frN) ∧ s = (SN M k .z 0, Option.none) ∧ M.good) (endN M k (M.nxJ k))
theorem loop_N' (M : Mc) (k : Ky) (m : Nat) (fr : List NS) : LOkI Tryz.prog GL m KI (bodyY XFe (psOf rgNx) (asOf rgNx) (bdOf rgNx) fr) 0 itC (LN M k m fr) := by
  intro l rc N Γ0 w0 h0 hN h0k h0r hY s p Γ a w R Q hI hE hW hL hK
  unfold LN at hL
  obtain ⟨⟨⟨rfl, hfr⟩, h2⟩, h4⟩ := hL
  rw [hfr] at hY
  exact loop_N M k l rc N Γ0 w0 h0 hN h0k h0r hY s p Γ a w R Q hI hE hW ⟨h2, h4⟩ hK
noncomputable def lsN (M : Mc) (k : Ky) (m : Nat) (fr : List NS) : LI := [(0, [0, 1, 8, 9, 10], LN M k m fr)]
noncomputable def RN (M : Mc) (k : Ky) : St → Tr (NExit × St) := rangeT XFe KI cIt (lsN M k) 0 [4, 6, 7] 143 f_it rgNx
theorem rgNx_eq : rgNx = .rangeFunc (.tmp 14) (psOf rgNx) (asOf rgNx) (bdOf rgNx) := by kernel_rfl
theorem rN_ok (M : Mc) (k : Ky) : RgOk Tryz.prog GL 4 0 rgNx (RN M k) := by
  have h := rangeT_ok (X := XFe) con_e (K := KI) kcIt (ls := lsN M k) (id := 0) (out := [4, 6, 7]) (g := .tmp 14) (ps := psOf rgNx) (assign := asOf rgNx) (body := bdOf rgNx) Tryz.func143 it_body (by kernel_rfl) (by kernel_rfl) (by kernel_rfl) (by kernel_rfl) (by kernel_rfl)
    (fun m fr => LAllI.one (id := 0) (body := itC) (live := [0, 1, 8, 9, 10]) (L := LN M k m fr) it_loops rfl (loop_N' M k m fr))
  rw [← rgNx_eq] at h
  exact h
noncomputable def lpN (M : Mc) (k : Ky) : List (Nat × List Nat × (St → Tr (NExit × St))) := [(0, [3, 4, 6, 7, 14], RN M k)]
noncomputable def t_nx (M : Mc) (k : Ky) : Con := fun args regs => if regs.length = 4 then nfun Tryz.prog GL c_fd2 (lpN M k) f_nx args regs else .fail
theorem nx_loops : loopsIn (f_nx.body.getD .skip) = [] := by kernel_rfl
theorem nx_ranges : rangesIn (f_nx.body.getD .skip) = [(0, rgNx)] := by kernel_rfl
theorem k_nx (M : Mc) (k : Ky) : Known Tryz.prog GL 90 (t_nx M k) := by
  refine known_loops (c := f_nx.body.getD .skip) 4 Tryz.func90 (by kernel_rfl) (by kernel_rfl) mixed kc_fd2 ⟨fun i b hb x hf => ?_, fun i b hb x hf => ?_⟩
  · rw [nx_loops] at hb
    cases hb
  · rw [nx_ranges, List.mem_singleton] at hb
    cases hb
    have : x = (0, [3, 4, 6, 7, 14], RN M k) := by simpa [lpN] using hf.symm
    subst this
    exact rN_ok M k
noncomputable def t_nxC (M : Mc) (k : Ky) : Con := softT [] [] [(0, 5, 0, .lr K3 [])] [] 4 (t_nx M k)
theorem k_nxC (M : Mc) (k : Ky) : Known Tryz.prog GL 90 (t_nxC M k) := (k_nx M k).soft [] [] [(0, 5, 0, .lr K3 [])] [] 4
noncomputable def oNx (M : Mc) (x : Pg × Bool) : Out := ⟨.tu [pgV x.1, .c (.b x.2)], (inM M).map some⟩
noncomputable def owN (M : Mc) (p : Pg) (R : Out → Prop) : Prop := ([pgV p] = [pgV p] ∧ fits p) ∧ R (oNx M (p, true))
noncomputable def nxT (M : Mc) (k : Ky) (R : Out → Prop) : Prop :=
  (inP M.st = inP (mpP M.st) ∧ (mpP M.st).ok) ∧ ((9 = 9 ∧ frN = frN) ∧ (SN { M with st := mpP M.st } k .z 0, Option.none) = (SN M k .z 0, (Option.none : Option NExit)) ∧ M.good) ∧
    sel (M.nxJ k).isZ (R (oNx M (pgZ, false))) (sel (M.nxJ k).isA (owN M (M.nxJ k).p R) (sel (M.nxJ k).isS (owN M (M.nxJ k).p R) (owN M (M.nxJ k).q R)))
theorem nx_tree (M : Mc) (a b c : Int) (R : Out → Prop) : (t_nxC M (a, b, c) [.c (.p 0 0 0), .ag (kyNC (a, b, c))] (inM M)).run R = nxT M (a, b, c) R := by kernel_rfl
def Jn.res : Jn → Pg × Bool
  | .z => (pgZ, false)
  | .a p => (p, true)
  | .s p => (p, true)
  | .d _ q => (q, true)
def Mc.next (M : Mc) (k : Ky) : Pg × Bool := (M.nxJ k).res
def Jn.mem (L : List Pg) : Jn → Prop
  | .z => True
  | .a p => p ∈ L
  | .s p => p ∈ L
  | .d p q => p ∈ L ∧ q ∈ L
theorem Jn.mem_hit {L : List Pg} {k : Ky} {x : Pg} {J : Jn} (hx : x ∈ L) (h : J.mem L) : (J.hit k x).mem L := by
  cases J with
  | z => dsimp only [Jn.hit]; cases decide (x.sb > k.2.2) <;> exact hx
  | a p => dsimp only [Jn.hit]; cases decide (x.sb > k.2.2) <;> cases decide (x.sb < p.sb) <;> first | exact hx | exact h | exact ⟨h, hx⟩
  | s p => dsimp only [Jn.hit]; cases decide (x.sb > k.2.2) <;> cases decide (x.sb < p.sb) <;> first | exact hx | exact h | exact ⟨hx, h⟩
  | d p q => dsimp only [Jn.hit]; cases decide (x.sb > k.2.2) <;> cases decide (x.sb < p.sb) <;> cases decide (x.sb < q.sb) <;> first | exact hx | exact h | exact ⟨hx, h.2⟩ | exact ⟨h.1, hx⟩
theorem Jn.mem_fold {L : List Pg} (k : Ky) : ∀ (l : List Pg) (J : Jn), (∀ x ∈ l, x ∈ L) → J.mem L → (l.foldl (Jn.step k) J).mem L
  | [], _, _, h => h
  | x :: l, J, hl, h => by
    refine Jn.mem_fold k l (J.step k x) (fun y hy => hl y (List.mem_cons_of_mem _ hy)) ?_
    unfold Jn.step
    cases hitF k x with
    | true => exact Jn.mem_hit (hl x (List.mem_cons_self ..)) h
    | false => exact h
theorem nxJ_mem (M : Mc) (k : Ky) : (M.nxJ k).mem M.st.L := Jn.mem_fold k _ _ (fun _ h => h) trivial
theorem nx_in {M : Mc} {k : Ky} {R : Out → Prop} (hM : M.good) (h : R (oNx M (M.next k))) : nxT M k R := by
  unfold nxT
  rw [mpP_eq]
  refine ⟨⟨rfl, hM.ok.2⟩, ⟨⟨rfl, rfl⟩, rfl, hM⟩, ?_⟩
  have hm := nxJ_mem M k
  unfold Mc.next at h
  generalize M.nxJ k = J at h hm ⊢
  cases J with
  | z => exact h
  | a p => exact ⟨⟨rfl, hM.fit p hm⟩, h⟩
  | s p => exact ⟨⟨rfl, hM.fit p hm⟩, h⟩
  | d p q => exact ⟨⟨rfl, hM.fit q hm.2⟩, h⟩
noncomputable def tNx : Con := fun args regs => match args with
  | [.c (.p 0 0 0), .ag [.i _ a, .i _ b, .i _ c]] => onM regs fun M => .must (args = [.c (.p 0 0 0), .ag (kyNC (a, b, c))] ∧ M.good) (.ret (oNx M (M.next (a, b, c))))
  | _ => .fail
attribute [local irreducible] t_nxC in
set_option maxRecDepth 100000 in
theorem kNx : Known Tryz.prog GL 90 tNx := by
  refine Known_any (ι := Mc × Ky) (T := fun x => t_nxC x.1 x.2) (mcZ, ky0) (fun x => k_nxC x.1 x.2) fun args regs R h => ?_
  unfold tNx at h
  split at h
  case h_2 => exact h.elim
  rename_i _ a _ b _ c
  obtain ⟨M, rfl, hM, ⟨h1, hg⟩, h⟩ := onM_elim h
  rw [h1]
  exact ⟨(M, a, b, c), (Box.of_eq (nx_tree M a b c R) (nx_in hg h)).out⟩
end Go.Proofs.YtlfmkacafppmlaaGreatDoor.mac
namespace Go.Proofs.YtlfmkacafppmlaaGreatDoor.rv
open Go Go.Nx Go.Proofs.YtlfmkacafppmlaaGreatDoor.pk Go.Proofs.YtlfmkacafppmlaaGreatDoor.ac Go.Proofs.YtlfmkacafppmlaaGreatDoor.sto Go.Proofs.YtlfmkacafppmlaaGreatDoor.pge Go.Proofs.YtlfmkacafppmlaaGreatDoor.dec Go.Proofs.YtlfmkacafppmlaaGreatDoor.mac
structure Rm where
  mg : Int
  pn : Int
  sb : Int
  ds : List Int
  su : List Int
  sub : Bool
  hd : Bool
  rv : Bool
  mx : Bool
def Rm.nc (s : Rm) : List NC := [.i .i64 s.mg, .i .i64 s.pn, .i .i64 s.sb, .l .i64 s.ds, .l .i64 s.su, .b s.sub, .b s.hd, .b s.rv, .b s.mx]
def Rm.ky (s : Rm) : Ky := (s.mg, s.pn, s.sb)
def rmZ : Rm := ⟨1, 0, 16255, [], [], false, false, false, false⟩
structure Rv where
  m : Mc
  s : Rm
  p : Pg
  fd : Bool
  tk : Int
noncomputable def rcReg (r : Nat) (rm : List NC) (p : Pg) (x : NC) (fd : Bool) (tk : Int) : Reg := ⟨1073, 179, .sg (pgSegs p x (.p r 0 0 :: rm) fun q => [.cells (q ++ [.b fd, .i .i64 tk])])⟩
noncomputable def rcG (V : Rv) : Reg := rcReg 1 V.s.nc V.p (.lr K3 V.p.ex) V.fd V.tk
noncomputable def stN (n : Nat) (s : Sto) : Reg := stReg s.most n (.hz (n + 1) s.l.length) s.pin.1 s.pin.2.1 s.pin.2.2 s.pd
noncomputable def inV (V : Rv) : List Reg := [rcG V, mcG 2 V.m.v V.m.inf, stN 3 V.m.st.sto, ac.mpReg V.m.st.sto.m, ordReg (kyRows V.m.st.sto.l)]
def rdRv : List Reg → Option Rv
  | ⟨_, _, .sg [.cells [.p _ _ _, .i _ a, .i _ b, .i _ c, .l _ ds, .l _ su, .b sub, .b hd, .b rv, .b mx, .i _ mg, .i _ pn, .i _ sb], .recs _ _ cc, .cells [.i _ op], .ints _ _ rows, .recs _ _ th, .cells [.lr _ ex], .recs _ _ lk, .cells [.b ld, .i _ df, .b fd, .i _ tk]]⟩ :: rest => (match rdMc rest with
    | some M => some ⟨M, ⟨a, b, c, ds, su, sub, hd, rv, mx⟩, ⟨mg, pn, sb, cc, op, rows, th, ex, lk, ld, df⟩, fd, tk⟩
    | none => none)
  | _ => none
def Rv.bk (V : Rv) : Rv := { V with m := mac.bk V.m }
theorem Rv.bk_eq (V : Rv) (h : V.m.far) : V.bk = V := by unfold Rv.bk; rw [mac.bk_eq _ h]
def onV (regs : List Reg) (f : Rv → Tr Out) : Tr Out :=
  match rdRv regs with
  | some V => .must (regs = inV V ∧ V.m.ok) (f V)
  | none => .fail
theorem onV_elim {regs : List Reg} {f : Rv → Tr Out} {R : Out → Prop} (h : (onV regs f).run R) : ∃ V, regs = inV V ∧ V.m.ok ∧ (f V).run R := by
  unfold onV at h
  split at h
  · exact ⟨_, h.1.1, h.1.2, h.2⟩
  · exact h.elim
theorem onV_in {V : Rv} {f : Rv → Tr Out} {R : Out → Prop} (hM : V.m.ok) (h : (f V).run R) : (onV (inV V) f).run R := by
  have e : V.bk = V := V.bk_eq hM.1
  show ((inV V = inV V.bk ∧ V.bk.m.ok) ∧ (f V.bk).run R)
  rw [e]
  exact ⟨⟨rfl, hM⟩, h⟩
noncomputable def c_mpin : FuncId → Option Con := conOf [(79, tPin)]
theorem kc_mpin : ∀ f T, c_mpin f = some T → Known Tryz.prog GL f T := (Knowns.cons kPin .nil).get
noncomputable def t_mpin : Con := fun args regs => nfun Tryz.prog GL c_mpin [] Tryz.f26 args regs
theorem k_mpin : Known Tryz.prog GL 26 t_mpin := known_inl Tryz.func26 rfl (by kernel_rfl) mixed kc_mpin (by kernel_rfl)
noncomputable def c_mfree : FuncId → Option Con := conOf [(80, tFree)]
theorem kc_mfree : ∀ f T, c_mfree f = some T → Known Tryz.prog GL f T := (Knowns.cons kFree .nil).get
noncomputable def t_mfree : Con := fun args regs => nfun Tryz.prog GL c_mfree [] Tryz.f27 args regs
theorem k_mfree : Known Tryz.prog GL 27 t_mfree := known_inl Tryz.func27 rfl (by kernel_rfl) mixed kc_mfree (by kernel_rfl)
def Mc.pinned (M : Mc) (k : Ky) : Mc := { M with st := { M.st with pin := k, pd := true } }
def Mc.freed (M : Mc) : Mc := { M with st := { M.st with pd := false } }
noncomputable def oMc (M : Mc) : Out := ⟨.tu [], (inM M).map some⟩
theorem mpin_tree (M : Mc) (k : Ky) (R : Out → Prop) : (t_mpin [.c (.p 0 0 0), .ag (kyNC k)] (inM M)).run R = ((sto.inP M.st = sto.inP (mpP M.st) ∧ (mpP M.st).ok) ∧ R (oMc (Mc.pinned { M with st := mpP M.st } k))) := by kernel_rfl
theorem mfree_tree (M : Mc) (R : Out → Prop) : (t_mfree [.c (.p 0 0 0)] (inM M)).run R = ((sto.inP M.st = sto.inP (mpP M.st) ∧ (mpP M.st).ok) ∧ R (oMc (Mc.freed { M with st := mpP M.st }))) := by kernel_rfl
noncomputable def tMpin : Con := fun args regs => match args with
  | [.c (.p 0 0 0), .ag [.i _ a, .i _ b, .i _ c]] => onM regs fun M => .must (args = [.c (.p 0 0 0), .ag (kyNC (a, b, c))]) (.ret (oMc (Mc.pinned M (a, b, c))))
  | _ => .fail
noncomputable def tMfree : Con := fun args regs => match args with
  | [.c (.p 0 0 0)] => onM regs fun M => .ret (oMc (Mc.freed M))
  | _ => .fail
theorem mp_self (M : Mc) : ({ M with st := mpP M.st } : Mc) = M := by rw [mpP_eq]
attribute [local irreducible] t_mpin in
set_option maxRecDepth 100000 in
theorem kMpin : Known Tryz.prog GL 26 tMpin := by
  refine k_mpin.less fun args regs R h => ?_
  unfold tMpin at h
  split at h
  case h_2 => exact h.elim
  rename_i _ a _ b _ c
  obtain ⟨M, rfl, hM, h1, h⟩ := onM_elim h
  rw [h1]
  refine (Box.of_eq (mpin_tree M (a, b, c) R) ⟨⟨by rw [mpP_eq], by rw [mpP_eq]; exact hM.2⟩, ?_⟩).out
  rw [mp_self]
  exact h
attribute [local irreducible] t_mfree in
set_option maxRecDepth 100000 in
theorem kMfree : Known Tryz.prog GL 27 tMfree := by
  refine k_mfree.less fun args regs R h => ?_
  unfold tMfree at h
  split at h
  case h_2 => exact h.elim
  obtain ⟨M, rfl, hM, h⟩ := onM_elim h
  refine (Box.of_eq (mfree_tree M R) ⟨⟨by rw [mpP_eq], by rw [mpP_eq]; exact hM.2⟩, ?_⟩).out
  rw [mp_self]
  exact h
noncomputable def c_show : FuncId → Option Con := conOf [(26, tMpin)]
theorem kc_show : ∀ f T, c_show f = some T → Known Tryz.prog GL f T := (Knowns.cons kMpin .nil).get
noncomputable def t_show : Con := fun args regs => nfun Tryz.prog GL c_show [] Tryz.f96 args regs
theorem k_show : Known Tryz.prog GL 96 t_show := known_inl Tryz.func96 rfl (by kernel_rfl) mixed kc_show (by kernel_rfl)
def Rv.shown (V : Rv) (x : Pg × Bool) : Rv := match x.2 with
  | true => { V with m := Mc.pinned V.m (kyP x.1), p := x.1, fd := true }
  | false => V
noncomputable def oRv (V : Rv) : Out := ⟨.tu [], (inV V).map some⟩
noncomputable def showT (V : Rv) (q : Pg) (is : Bool) (R : Out → Prop) : Prop := sel is ((inM V.m = inM (mac.bk V.m) ∧ (mac.bk V.m).ok) ∧ [NV.c (.p 0 0 0), .ag (kyNC (kyP q))] = [.c (.p 0 0 0), .ag (kyNC (kyP q))] ∧ R (oRv (V.bk.shown (q, true)))) (R (oRv V))
theorem show_tree (V : Rv) (q : Pg) (is : Bool) (R : Out → Prop) : (t_show [.c (.p 0 0 0), pgV q, .c (.b is)] (inV V)).run R = showT V q is R := by kernel_rfl
noncomputable def tShow : Con := fun args regs => match args with
  | [.c (.p 0 0 0), v, .c (.b is)] => (match sto.rdPg v with
    | some q => onV regs fun V => .must (args = [.c (.p 0 0 0), pgV q, .c (.b is)]) (.ret (oRv (V.shown (q, is))))
    | none => .fail)
  | _ => .fail
attribute [local irreducible] t_show in
set_option maxRecDepth 100000 in
theorem kShow : Known Tryz.prog GL 96 tShow := by
  refine k_show.less fun args regs R h => ?_
  unfold tShow at h
  split at h
  case h_2 => exact h.elim
  rename_i v is
  split at h
  case h_2 => exact h.elim
  rename_i q _
  obtain ⟨V, rfl, hV, h1, h⟩ := onV_elim h
  rw [h1]
  refine (Box.of_eq (show_tree V q is R) ?_).out
  unfold showT
  rw [V.bk_eq hV.1, mac.bk_eq _ hV.1]
  cases is with
  | true => exact sT rfl ⟨⟨rfl, hV⟩, rfl, h⟩
  | false => exact sF rfl h
noncomputable def t_rstart : Con := fun args regs => nfun Tryz.prog GL (fun _ => Option.none) [] Tryz.f95 args regs
theorem k_rstart : Known Tryz.prog GL 95 t_rstart := known_inl Tryz.func95 rfl (by kernel_rfl) mixed con_none (by kernel_rfl)
noncomputable def c_tnew0 : FuncId → Option Con := conOf [(14, tNewM), (95, t_rstart)]
theorem kc_tnew0 : ∀ f T, c_tnew0 f = some T → Known Tryz.prog GL f T := (Knowns.cons kNewM (.cons k_rstart .nil)).get
noncomputable def t_tnew0 : Con := fun args regs => nfun Tryz.prog GL c_tnew0 [] Tryz.f35 args regs
theorem k_tnew0 : Known Tryz.prog GL 35 t_tnew0 := known_inl Tryz.func35 rfl (by kernel_rfl) mixed kc_tnew0 (by kernel_rfl)
def nilsV : List (Nat × Nat × Nat × NC) := [(0, 0, 4, .l .i64 []), (0, 0, 5, .l .i64 []), (0, 5, 0, .lr K3 [])]
noncomputable def t_tnewC : Con := softT [] [] [] nilsV 5 t_tnew0
theorem k_tnewC : Known Tryz.prog GL 35 t_tnewC := k_tnew0.soft [] [] [] nilsV 5
def rvN (n : Int) : Rv := ⟨mcN n, rmZ, pgZ, false, 0⟩
noncomputable def oNv (n : Int) : Out := ⟨.tu [.c (.p 0 0 0), .c .en], (inV (rvN n)).map some⟩
theorem tnew_tree (n : Int) (R : Out → Prop) : (t_tnewC [.c (.i .i64 n)] []).run R = ([NV.c (.i .i64 n)] = [NV.c (.i .i64 n)] ∧ sel (decide (n < 1)) (R oNo) (sel (decide (n > 800)) (R oNo) (R (oNv n)))) := by kernel_rfl
noncomputable def tNewV : Con := fun args regs => match args, regs with
  | [.c (.i _ n)], [] => .must (args = [.c (.i .i64 n)]) (.br (decide (n < 1)) (.ret oNo) (.br (decide (n > 800)) (.ret oNo) (.ret (oNv n))))
  | _, _ => .fail
attribute [local irreducible] t_tnewC in
set_option maxRecDepth 100000 in
theorem kNewV : Known Tryz.prog GL 35 tNewV := by
  refine k_tnewC.less fun args regs R h => ?_
  unfold tNewV at h
  split at h
  case h_2 => exact h.elim
  rename_i n
  rw [h.1]
  exact (Box.of_eq (tnew_tree n R) ⟨rfl, h.2⟩).out
noncomputable def t_tmach : Con := fun args regs => nfun Tryz.prog GL (fun _ => Option.none) [] Tryz.f38 args regs
theorem k_tmach : Known Tryz.prog GL 38 t_tmach := known_inl Tryz.func38 rfl (by kernel_rfl) mixed con_none (by kernel_rfl)
noncomputable def c_rpk : FuncId → Option Con := conOf [(15, tPk), (22, tFd), (96, tShow)]
theorem kc_rpk : ∀ f T, c_rpk f = some T → Known Tryz.prog GL f T := (Knowns.cons kPk (.cons kFd (.cons kShow .nil))).get
noncomputable def t_rpk : Con := fun args regs => nfun Tryz.prog GL c_rpk [] Tryz.f36 args regs
theorem k_rpk : Known Tryz.prog GL 36 t_rpk := known_inl Tryz.func36 rfl (by kernel_rfl) mixed kc_rpk (by kernel_rfl)
noncomputable def stO (n k : Nat) (s : Sto) : Reg := stReg s.most n (.hz k s.l.length) s.pin.1 s.pin.2.1 s.pin.2.2 s.pd
noncomputable def outV (V : Rv) : List (Option Reg) := [some (rcG V), some (mcG 2 V.m.v V.m.inf), some (stO 3 5 V.m.st.sto), some (ac.mpReg V.m.st.sto.m), none, some (ordReg (kyRows V.m.st.sto.l))]
noncomputable def oRe (V : Rv) (e : NC) : Out := ⟨.v (.c e), outV V⟩
def Rv.look (V : Rv) : Rv := match V.s.hd with
  | true => V
  | false => V.shown (V.m.find V.s.ky)
noncomputable def Rv.packet (V : Rv) (bs : List Int) : Rv × Option Nat := match (V.m.step bs).2 with
  | none => (Rv.look { V with m := (V.m.step bs).1 }, none)
  | some k => ({ V with m := (V.m.step bs).1 }, some k)
def Rv.withM (V : Rv) (M : Mc) : Rv := { V with m := M }
noncomputable def findT (V : Rv) (R : Rv → Prop) : Prop := (inM V.m = inM (mac.bk V.m) ∧ (mac.bk V.m).ok) ∧ (([NV.c (.p 0 0 0), .ag (kyNC V.s.ky)] = [.c (.p 0 0 0), .ag (kyNC V.s.ky)] ∧ (mac.bk V.m).good) ∧
    ((inV V.bk = inV V.bk.bk ∧ V.bk.bk.m.ok) ∧ ([NV.c (.p 0 0 0), pgV ((mac.bk V.m).find V.s.ky).1, .c (.b ((mac.bk V.m).find V.s.ky).2)] = [.c (.p 0 0 0), pgV ((mac.bk V.m).find V.s.ky).1, .c (.b ((mac.bk V.m).find V.s.ky).2)] ∧ R (V.bk.bk.shown ((mac.bk V.m).find V.s.ky)))))
noncomputable def rpkT (V : Rv) (bs : List Int) (R : Out → Prop) : Prop :=
  (inM V.m = inM (mac.bk V.m) ∧ (mac.bk V.m).ok) ∧ (([NV.c (.p 0 0 0), .c (.l .u8 bs)] = [.c (.p 0 0 0), .c (.l .u8 bs)] ∧ (mac.bk V.m).good ∧ ∀ b ∈ bs, 0 ≤ b ∧ b < 256) ∧
    sel (((mac.bk V.m).step bs).2 == none) (sel (!V.s.hd) (findT (V.withM ((mac.bk V.m).step bs).1) fun V => R (oRe V .en)) (R (oRe (V.withM ((mac.bk V.m).step bs).1) .en)))
      (sel (((mac.bk V.m).step bs).2 == some eLen) (R (oRe (V.withM ((mac.bk V.m).step bs).1) (.e eLen))) (sel (((mac.bk V.m).step bs).2 == some eBit) (R (oRe (V.withM ((mac.bk V.m).step bs).1) (.e eBit))) (sel (((mac.bk V.m).step bs).2 == some eKnd) (R (oRe (V.withM ((mac.bk V.m).step bs).1) (.e eKnd))) (R (oRe (V.withM ((mac.bk V.m).step bs).1) (.e eRng)))))))
theorem rpk_tree (V : Rv) (bs : List Int) (R : Out → Prop) : (t_rpk [.c (.p 0 0 0), .c (.l .u8 bs)] (inV V)).run R = rpkT V bs R := by kernel_rfl
theorem find_in {V : Rv} {R : Rv → Prop} (hV : V.m.good) (h : R (V.shown (V.m.find V.s.ky))) : findT V R := by
  unfold findT
  rw [V.bk_eq hV.far, V.bk_eq hV.far, hV.bk]
  exact ⟨⟨rfl, hV.ok⟩, ⟨rfl, hV⟩, ⟨rfl, hV.ok⟩, rfl, h⟩
noncomputable def errV (e : Option Nat) (V : Rv) : Tr Out :=
  .br (e == none) (.ret (oRe V .en)) (.br (e == some eLen) (.ret (oRe V (.e eLen))) (.br (e == some eBit) (.ret (oRe V (.e eBit))) (.br (e == some eKnd) (.ret (oRe V (.e eKnd))) (.ret (oRe V (.e eRng))))))
theorem errV_run {e : Option Nat} {V : Rv} {R : Out → Prop} (he : e = none ∨ e = some eLen ∨ e = some eBit ∨ e = some eKnd ∨ e = some eRng) (h : (errV e V).run R) : R (oRe V (ncE e)) := by
  rcases he with rfl | rfl | rfl | rfl | rfl
  all_goals exact h
noncomputable def tRpk : Con := fun args regs => match args with
  | [.c (.p 0 0 0), .c (.l _ bs)] => onV regs fun V => .must (args = [.c (.p 0 0 0), .c (.l .u8 bs)] ∧ V.m.good ∧ ∀ b ∈ bs, 0 ≤ b ∧ b < 256) (errV (V.packet bs).2 (V.packet bs).1)
  | _ => .fail
theorem packet_err (V : Rv) (bs : List Int) : (V.packet bs).2 = (V.m.step bs).2 := by
  unfold Rv.packet
  split <;> simp [*]
theorem rpk_in {V : Rv} {bs : List Int} {R : Out → Prop} (hV : V.m.good) (hb : ∀ b ∈ bs, 0 ≤ b ∧ b < 256) (h : R (oRe (V.packet bs).1 (ncE (V.packet bs).2))) : rpkT V bs R := by
  have hg := step_good hV hb
  unfold rpkT
  rw [hV.bk]
  refine ⟨⟨rfl, hV.ok⟩, ⟨rfl, hV, hb⟩, ?_⟩
  unfold Rv.packet at h
  rcases step_err V.m bs with he | he | he | he | he
  · rw [he] at h ⊢
    refine sT rfl ?_
    unfold Rv.look at h
    cases hh : V.s.hd with
    | true => simp only [hh] at h; exact sF rfl h
    | false =>
      simp only [hh] at h
      exact sT rfl (find_in (V := V.withM (V.m.step bs).1) hg h)
  all_goals rw [he] at h ⊢; exact h
attribute [local irreducible] t_rpk in
set_option maxRecDepth 100000 in
theorem kRpk : Known Tryz.prog GL 36 tRpk := by
  refine k_rpk.less fun args regs R h => ?_
  unfold tRpk at h
  split at h
  case h_2 => exact h.elim
  rename_i _ bs
  obtain ⟨V, rfl, hV, ⟨h1, hg, hb⟩, h⟩ := onV_elim h
  rw [h1]
  refine (Box.of_eq (rpk_tree V bs R) (rpk_in hg hb (errV_run ?_ h))).out
  rw [packet_err]
  exact step_err V.m bs
noncomputable def c_tick : FuncId → Option Con := conOf [(90, tNx), (96, tShow)]
theorem kc_tick : ∀ f T, c_tick f = some T → Known Tryz.prog GL f T := (Knowns.cons kNx (.cons kShow .nil)).get
noncomputable def t_tick : Con := fun args regs => nfun Tryz.prog GL c_tick [] Tryz.f40 args regs
theorem k_tick : Known Tryz.prog GL 40 t_tick := known_inl Tryz.func40 rfl (by kernel_rfl) mixed kc_tick (by kernel_rfl)
def Rv.ticked (V : Rv) : Rv := { V with tk := IntKind.i64.wrap (V.tk + 1) }
noncomputable def nextT (V : Rv) (R : Rv → Prop) : Prop := (inM V.m = inM (mac.bk V.m) ∧ (mac.bk V.m).ok) ∧ (([NV.c (.p 0 0 0), .ag (kyNC (kyP V.p))] = [.c (.p 0 0 0), .ag (kyNC (kyP V.p))] ∧ (mac.bk V.m).good) ∧
    ((inV V.bk = inV V.bk.bk ∧ V.bk.bk.m.ok) ∧ ([NV.c (.p 0 0 0), pgV ((mac.bk V.m).next (kyP V.p)).1, .c (.b ((mac.bk V.m).next (kyP V.p)).2)] = [.c (.p 0 0 0), pgV ((mac.bk V.m).next (kyP V.p)).1, .c (.b ((mac.bk V.m).next (kyP V.p)).2)] ∧ R (V.bk.bk.shown ((mac.bk V.m).next (kyP V.p))))))
noncomputable def tickT (V : Rv) (R : Rv → Prop) : Prop := sel (V.ticked.tk.tmod 4 == 0) (sel (!V.s.hd) (sel (V.s.sb == 16255) (sel V.fd (nextT V.ticked R) (R V.ticked)) (R V.ticked)) (R V.ticked)) (R V.ticked)
theorem tick_tree (V : Rv) (R : Out → Prop) : (t_tick [.c (.p 0 0 0)] (inV V)).run R = tickT V fun V => R (oRv V) := by kernel_rfl
def Rv.tick (V : Rv) : Rv := match (V.ticked.tk.tmod 4 == 0) && (!V.s.hd && ((V.s.sb == 16255) && V.fd)) with
  | true => V.ticked.shown (V.m.next (kyP V.p))
  | false => V.ticked
theorem next_in {V : Rv} {R : Rv → Prop} (hV : V.m.good) (h : R (V.shown (V.m.next (kyP V.p)))) : nextT V R := by
  unfold nextT
  rw [V.bk_eq hV.far, V.bk_eq hV.far, hV.bk]
  exact ⟨⟨rfl, hV.ok⟩, ⟨rfl, hV⟩, ⟨rfl, hV.ok⟩, rfl, h⟩
theorem tick_in {V : Rv} {R : Rv → Prop} (hV : V.m.good) (h : R V.tick) : tickT V R := by
  unfold tickT
  unfold Rv.tick at h
  cases h1 : (V.ticked.tk.tmod 4 == 0) with
  | false => rw [h1] at h; exact sF rfl h
  | true =>
    cases h2 : V.s.hd with
    | true => rw [h1, h2] at h; exact sT rfl (sF rfl h)
    | false =>
      cases h3 : (V.s.sb == 16255) with
      | false => rw [h1, h2, h3] at h; exact sT rfl (sT rfl (sF rfl h))
      | true =>
        cases h4 : V.fd with
        | false => rw [h1, h2, h3, h4] at h; exact sT rfl (sT rfl (sT rfl (sF rfl h)))
        | true =>
          rw [h1, h2, h3, h4] at h
          exact sT rfl (sT rfl (sT rfl (sT rfl (next_in (V := V.ticked) hV h))))
noncomputable def tTick : Con := fun args regs => match args with
  | [.c (.p 0 0 0)] => onV regs fun V => .must V.m.good (.ret (oRv V.tick))
  | _ => .fail
attribute [local irreducible] t_tick in
set_option maxRecDepth 100000 in
theorem kTick : Known Tryz.prog GL 40 tTick := by
  refine k_tick.less fun args regs R h => ?_
  unfold tTick at h
  split at h
  case h_2 => exact h.elim
  obtain ⟨V, rfl, hV, hg, h⟩ := onV_elim h
  exact (Box.of_eq (tick_tree V R) (tick_in hg h)).out
theorem k_clI0 : KnownF Tryz.prog GL 162 (fun args regs => nfun Tryz.prog GL (fun _ => Option.none) [] Tryz.f162 args regs) := known_inlF Tryz.func162 rfl (by kernel_rfl) mixed con_none (by kernel_rfl)
noncomputable def t_clI : Con := softT [] [0] [(0, 0, 0, .l .i64 [])] [] 0 (fun args regs => nfun Tryz.prog GL (fun _ => Option.none) [] Tryz.f162 args regs)
theorem kt_clI : Known Tryz.prog GL 162 t_clI := k_clI0.soft [] [0] [(0, 0, 0, .l .i64 [])] [] 0
theorem clI_tree (xs : List Int) (R : Out → Prop) : (t_clI [.c (.l .i64 xs)] []).run R =
    sel xs.isEmpty (∀ y : Bool, True → sel y (R ⟨.v (.c (.l .i64 [])), []⟩) (sel (decide ((0 + xs.length) * bytesT Tryz.prog 3 ≤ 140737488355328)) (sel (decide (0 + xs.length ≤ 9223372036854775807)) (0 + xs.length = xs.length ∧ R ⟨.v (.c (.l .i64 xs)), []⟩) False) False))
      (sel (decide ((0 + xs.length) * bytesT Tryz.prog 3 ≤ 140737488355328)) (sel (decide (0 + xs.length ≤ 9223372036854775807)) (0 + xs.length = xs.length ∧ R ⟨.v (.c (.l .i64 xs)), []⟩) False) False) := by kernel_rfl
theorem bytesI : bytesT Tryz.prog 3 = 8 := by kernel_rfl
noncomputable def tclIV : Con := fun args regs => match args, regs with
  | [.c (.l _ xs)], [] => .must (args = [.c (.l .i64 xs)] ∧ xs.length ≤ 1000000) (.ret ⟨.v (.c (.l .i64 xs)), []⟩)
  | _, _ => .fail
set_option maxRecDepth 100000 in
theorem kclIV : Known Tryz.prog GL 162 tclIV := by
  refine kt_clI.less fun args regs R h => Box.out ?_
  unfold tclIV at h
  split at h
  case h_2 => exact h.elim
  rename_i xs
  obtain ⟨⟨h1, hl⟩, h⟩ := h
  rw [h1]
  refine Box.of_eq (clI_tree xs R) ?_
  have hb := bytesI
  have key : sel (decide ((0 + xs.length) * bytesT Tryz.prog _ ≤ 140737488355328)) (sel (decide (0 + xs.length ≤ 9223372036854775807)) (0 + xs.length = xs.length ∧ R ⟨.v (.c (.l .i64 xs)), []⟩) False) False := sT (decide_eq_true (by rw [hb]; omega)) (sT (decide_eq_true (by omega)) ⟨by omega, h⟩)
  cases hx : xs.isEmpty with
  | false => exact sF rfl key
  | true =>
    refine sT rfl fun y _ => ?_
    have e : xs = [] := List.isEmpty_iff.1 hx
    subst e
    cases y with
    | true => exact sT rfl h
    | false => exact sF rfl key
noncomputable def arI (xs : List Int) : Reg := ⟨1, 3, .ints .i64 xs⟩
noncomputable def t_clH : Con := canonT 1 [] (some (arI [])) (fun args regs => nfun Tryz.prog GL (fun _ => Option.none) [] Tryz.f162 args regs)
theorem kt_clH : KnownF Tryz.prog GL 162 t_clH := k_clI0.canon 1 [] (some (arI []))
noncomputable def oClH (xs : List Int) : Out := ⟨.v (.c (.hz 1 xs.length)), [none, some (arI xs)]⟩
theorem clH_tree (xs : List Int) (R : Out → Prop) : (t_clH [.c (.l .i64 xs)] []).run R =
    sel xs.isEmpty (∀ y : Bool, True → sel y (R (oClH [])) (sel (decide ((0 + xs.length) * bytesT Tryz.prog 3 ≤ 140737488355328)) (sel (decide (0 + xs.length ≤ 9223372036854775807)) (R ⟨.v (.c (.hz 1 (0 + xs.length))), [none, some (arI xs)]⟩) False) False))
      (sel (decide ((0 + xs.length) * bytesT Tryz.prog 3 ≤ 140737488355328)) (sel (decide (0 + xs.length ≤ 9223372036854775807)) (R ⟨.v (.c (.hz 1 (0 + xs.length))), [none, some (arI xs)]⟩) False) False) := by kernel_rfl
noncomputable def tclH : Con := fun args regs => match args, regs with
  | [.c (.l _ xs)], [] => .must (args = [.c (.l .i64 xs)] ∧ xs.length ≤ 1000000) (.ret (oClH xs))
  | _, _ => .fail
set_option maxRecDepth 100000 in
theorem kclH : KnownF Tryz.prog GL 162 tclH := by
  refine kt_clH.less fun args regs R h => Box.out ?_
  unfold tclH at h
  split at h
  case h_2 => exact h.elim
  rename_i xs
  obtain ⟨⟨h1, hl⟩, h⟩ := h
  rw [h1]
  refine Box.of_eq (clH_tree xs R) ?_
  have hb := bytesI
  have h' : R ⟨.v (.c (.hz 1 (0 + xs.length))), [none, some (arI xs)]⟩ := by rw [Nat.zero_add]; exact h
  have key : sel (decide ((0 + xs.length) * bytesT Tryz.prog _ ≤ 140737488355328)) (sel (decide (0 + xs.length ≤ 9223372036854775807)) (R ⟨.v (.c (.hz 1 (0 + xs.length))), [none, some (arI xs)]⟩) False) False := sT (decide_eq_true (by rw [hb]; omega)) (sT (decide_eq_true (by omega)) h')
  cases hx : xs.isEmpty with
  | false => exact sF rfl key
  | true =>
    refine sT rfl fun y _ => ?_
    have e : xs = [] := List.isEmpty_iff.1 hx
    subst e
    cases y with
    | true => exact sT rfl h
    | false => exact sF rfl key
noncomputable def c_hnum : FuncId → Option Con := conOf [(159, t_pmg)]
theorem kc_hnum : ∀ f T, c_hnum f = some T → Known Tryz.prog GL f T := (Knowns.cons k_pmg .nil).get
noncomputable def t_hnum : Con := fun args regs => nfun Tryz.prog GL c_hnum [] Tryz.f232 args regs
theorem k_hnum : Known Tryz.prog GL 232 t_hnum := known_inl Tryz.func232 rfl (by kernel_rfl) mixed kc_hnum (by kernel_rfl)
noncomputable def t_hpl : Con := fun args regs => nfun Tryz.prog GL (fun _ => Option.none) [] Tryz.f202 args regs
theorem k_hpl : Known Tryz.prog GL 202 t_hpl := known_inl Tryz.func202 rfl (by kernel_rfl) mixed con_none (by kernel_rfl)
noncomputable def plc (n : Int) : Ky := match decide (n < 100) || decide (n > 899) with
  | true => (0, 0, 0)
  | false => (IntKind.i64.wrap (n.tdiv 100), bits .or .i64 (shlv .i64 ((IntKind.i64.wrap (n.tdiv 10)).tmod 10) 4) (n.tmod 10), 16255)
def plcB (n : Int) : Bool := !(decide (n < 100) || decide (n > 899))
noncomputable def oPlc (x : Ky × Bool) : Out := ⟨.tu [.ag (kyNC x.1), .c (.b x.2)], []⟩
theorem hpl_tree (n : Int) (R : Out → Prop) : (t_hpl [.c (.i .i64 n)] []).run R = sel (decide (n < 100)) (R (oPlc ((0, 0, 0), false))) (sel (decide (n > 899)) (R (oPlc ((0, 0, 0), false))) (R (oPlc ((IntKind.i64.wrap (n.tdiv 100), bits .or .i64 (shlv .i64 ((IntKind.i64.wrap (n.tdiv 10)).tmod 10) 4) (n.tmod 10), 16255), true)))) := by kernel_rfl
noncomputable def tHpl : Con := fun args regs => match args, regs with
  | [.c (.i _ n)], [] => .must (args = [.c (.i .i64 n)]) (.ret (oPlc (plc n, plcB n)))
  | _, _ => .fail
set_option maxRecDepth 100000 in
theorem kHpl : Known Tryz.prog GL 202 tHpl := by
  refine k_hpl.less fun args regs R h => ?_
  unfold tHpl at h
  split at h
  case h_2 => exact h.elim
  rename_i n
  obtain ⟨h1, h⟩ := h
  rw [h1]
  refine (Box.of_eq (hpl_tree n R) ?_).out
  have h : R (oPlc (plc n, plcB n)) := h
  unfold plc plcB at h
  cases h2 : decide (n < 100) with
  | true => rw [h2] at h; exact sT rfl h
  | false =>
    cases h3 : decide (n > 899) with
    | true => rw [h2, h3] at h; exact sF rfl (sT rfl h)
    | false => rw [h2, h3] at h; exact sF rfl (sF rfl h)
noncomputable def t_goes : Con := fun args regs => nfun Tryz.prog GL (fun _ => Option.none) [] Tryz.f203 args regs
theorem k_goes : Known Tryz.prog GL 203 t_goes := known_inl Tryz.func203 rfl (by kernel_rfl) mixed con_none (by kernel_rfl)
noncomputable def c_rnum : FuncId → Option Con := conOf [(232, t_hnum)]
theorem kc_rnum : ∀ f T, c_rnum f = some T → Known Tryz.prog GL f T := (Knowns.cons k_hnum .nil).get
noncomputable def t_rnum : Con := fun args regs => nfun Tryz.prog GL c_rnum [] Tryz.f205 args regs
theorem k_rnum : Known Tryz.prog GL 205 t_rnum := known_inl Tryz.func205 rfl (by kernel_rfl) mixed kc_rnum (by kernel_rfl)
noncomputable def c_lsome : FuncId → Option Con := conOf [(159, t_pmg)]
theorem kc_lsome : ∀ f T, c_lsome f = some T → Known Tryz.prog GL f T := (Knowns.cons k_pmg .nil).get
noncomputable def t_lsome : Con := fun args regs => nfun Tryz.prog GL c_lsome [] Tryz.f204 args regs
theorem k_lsome : Known Tryz.prog GL 204 t_lsome := known_inl Tryz.func204 rfl (by kernel_rfl) mixed kc_lsome (by kernel_rfl)
noncomputable def c_foll : FuncId → Option Con := conOf [(204, t_lsome), (203, t_goes)]
theorem kc_foll : ∀ f T, c_foll f = some T → Known Tryz.prog GL f T := (Knowns.cons k_lsome (.cons k_goes .nil)).get
noncomputable def t_foll : Con := fun args regs => nfun Tryz.prog GL c_foll [] Tryz.f164 args regs
theorem k_foll : Known Tryz.prog GL 164 t_foll := known_inl Tryz.func164 rfl (by kernel_rfl) mixed kc_foll (by kernel_rfl)
noncomputable def c_subd : FuncId → Option Con := conOf [(162, tclH)]
theorem kc_subd : ∀ f T, c_subd f = some T → Known Tryz.prog GL f T := (Knowns.cons kclH.known .nil).get
noncomputable def X_subd : Cx := { P := Tryz.prog, con := c_subd, glob := GL, m := 0, loops := [] }
noncomputable def t_subd : Con := fun args regs => if regs.length = 0 then nfun Tryz.prog GL c_subd [(0, [2, 4, 6, 23, 24, 25], unroll X_subd 0 [2, 4, 6, 23, 24, 25] [2, 4, 6] (bodyLoop Tryz.f201 0) 5)] Tryz.f201 args regs else .fail
theorem k_subd : Known Tryz.prog GL 201 t_subd := known_loops 0 Tryz.func201 rfl (by kernel_rfl) mixed kc_subd (LAll.one (id := 0) (body := bodyLoop Tryz.f201 0) (by kernel_rfl) rfl (unroll_ok (X := X_subd) kc_subd mixed (LAll.none (by kernel_rfl)) [2, 4, 6, 23, 24, 25] [2, 4, 6] 5))
def rdRm : List NC → Option Rm
  | [.i _ a, .i _ b, .i _ c, .l _ ds, .l _ su, .b sub, .b hd, .b rv, .b mx] => some ⟨a, b, c, ds, su, sub, hd, rv, mx⟩
  | _ => none
def nilsR : List (Nat × Nat × Nat × NC) := [(0, 0, 3, .l .i64 []), (0, 0, 4, .l .i64 [])]
noncomputable def t_subdC : Con := softT [] [0] nilsR [] 0 t_subd
theorem k_subdC : Known Tryz.prog GL 201 t_subdC := k_subd.soft [] [0] nilsR [] 0
noncomputable def oRm (x : Rm × Bool) : Out := ⟨.tu [.ag x.1.nc, .c (.b x.2)], []⟩
noncomputable def sub4 (xs : List Int) : Int := bits .and .i64 (IntKind.i64.wrap (shlv .i64 (IntKind.i64.wrap (shlv .i64 (IntKind.i64.wrap (shlv .i64 (IntKind.i64.wrap (0 + xs.getD 0 0)) 4 + xs.getD 1 0)) 4 + xs.getD 2 0)) 4 + xs.getD 3 0)) 16255
def snoc (xs : List Int) (d : Int) : List Int := List.take xs.length xs ++ List.take 1 (List.drop 0 [d])
theorem snoc_eq (xs : List Int) (d : Int) : snoc xs d = xs ++ [d] := by unfold snoc; rw [List.take_length]; rfl
noncomputable def apT (xs : List Int) (N : Prop) : Prop := sel (decide (xs.length ≤ xs.length)) (sel (decide ((xs.length + 1) * bytesT Tryz.prog 3 ≤ 140737488355328)) (sel (decide (xs.length + 1 ≤ 9223372036854775807)) N False) False) False
theorem apT_in {xs : List Int} {N : Prop} (h : xs.length ≤ 1000) (hN : N) : apT xs N := by
  unfold apT
  rw [bytesI]
  exact sT (decide_eq_true (Nat.le_refl _)) (sT (decide_eq_true (by omega)) (sT (decide_eq_true (by omega)) hN))
noncomputable def subdT (s : Rm) (d : Int) (R : Out → Prop) : Prop := ([NV.c (.l .i64 s.su)] = [.c (.l .i64 s.su)] ∧ s.su.length ≤ 1000000) ∧ apT s.su
  (sel (decide (((s.su.length + 1 : Nat) : Int) < 4)) (s.su.length + 1 = (snoc s.su d).length ∧ R (oRm ({ s with su := snoc s.su d }, false)))
    (sel (decide ((4 : Int) ≤ ((s.su.length + 1 : Nat) : Int))) (sel (decide (0 < (snoc s.su d).length)) (sel (decide (1 < (snoc s.su d).length)) (sel (decide (2 < (snoc s.su d).length)) (sel (decide (3 < (snoc s.su d).length)) (R (oRm ({ s with sb := sub4 (snoc s.su d), su := [], sub := false }, true))) False) False) False) False) False))
theorem subd_tree (s : Rm) (d : Int) (R : Out → Prop) : (t_subdC [.ag s.nc, .c (.i .i64 d)] []).run R = subdT s d R := by kernel_rfl
noncomputable def Rm.subd (s : Rm) (d : Int) : Rm × Bool := match decide (s.su.length < 3) with
  | true => ({ s with su := s.su ++ [d] }, false)
  | false => ({ s with sb := sub4 (s.su ++ [d]), su := [], sub := false }, true)
noncomputable def tSubd : Con := fun args regs => match args, regs with
  | [.ag xs, .c (.i _ d)], [] => (match rdRm xs with
    | some s => .must (args = [.ag s.nc, .c (.i .i64 d)] ∧ s.su.length ≤ 3) (.ret (oRm (s.subd d)))
    | none => .fail)
  | _, _ => .fail
attribute [local irreducible] t_subdC in
set_option maxRecDepth 100000 in
theorem kSubd : Known Tryz.prog GL 201 tSubd := by
  refine k_subdC.less fun args regs R h => ?_
  unfold tSubd at h
  split at h
  case h_2 => exact h.elim
  split at h
  case h_2 => exact h.elim
  rename_i s _
  obtain ⟨⟨h1, hl⟩, h⟩ := h
  rw [h1]
  refine (Box.of_eq (subd_tree s _ R) ⟨⟨rfl, by omega⟩, apT_in (by omega) ?_⟩).out
  rw [snoc_eq, List.length_append]
  unfold Rm.subd at h
  by_cases hc : s.su.length < 3
  · rw [decide_eq_true hc] at h
    exact sT (decide_eq_true (by omega)) ⟨rfl, h⟩
  · rw [decide_eq_false hc] at h
    have e : ([‹Int›] : List Int).length = 1 := rfl
    exact sF (decide_eq_false (by omega)) (sT (decide_eq_true (by omega)) (sT (decide_eq_true (by omega)) (sT (decide_eq_true (by omega)) (sT (decide_eq_true (by omega)) (sT (decide_eq_true (by omega)) h)))))
noncomputable def c_dig : FuncId → Option Con := conOf [(162, tclH), (201, tSubd), (202, tHpl), (203, t_goes)]
theorem kc_dig : ∀ f T, c_dig f = some T → Known Tryz.prog GL f T := (Knowns.cons kclH.known (.cons kSubd (.cons kHpl (.cons k_goes .nil)))).get
noncomputable def X_dig : Cx := { P := Tryz.prog, con := c_dig, glob := GL, m := 0, loops := [] }
noncomputable def t_dig : Con := fun args regs => if regs.length = 0 then nfun Tryz.prog GL c_dig [(1, [2, 4, 6, 47, 48, 49], unroll X_dig 1 [2, 4, 6, 47, 48, 49] [2, 4, 6] (bodyLoop Tryz.f163 1) 4)] Tryz.f163 args regs else .fail
theorem k_dig : Known Tryz.prog GL 163 t_dig := known_loops 0 Tryz.func163 rfl (by kernel_rfl) mixed kc_dig (LAll.one (id := 1) (body := bodyLoop Tryz.f163 1) (by kernel_rfl) rfl (unroll_ok (X := X_dig) kc_dig mixed (LAll.none (by kernel_rfl)) [2, 4, 6, 47, 48, 49] [2, 4, 6] 4))
noncomputable def num3 (xs : List Int) : Int := IntKind.i64.wrap (IntKind.i64.wrap (10 * IntKind.i64.wrap (IntKind.i64.wrap (10 * IntKind.i64.wrap (IntKind.i64.wrap (10 * 0) + xs.getD 0 0)) + xs.getD 1 0)) + xs.getD 2 0)
def Rm.gone (s : Rm) (k : Ky) : Rm := { s with mg := k.1, pn := k.2.1, sb := k.2.2, ds := [], hd := false, rv := false }
noncomputable def t_digC : Con := softT [] [0] nilsR [] 0 t_dig
theorem k_digC : Known Tryz.prog GL 163 t_digC := k_dig.soft [] [0] nilsR [] 0
noncomputable def dgM (s : Rm) (d : Int) (R : Out → Prop) : Prop := ([NV.c (.l .i64 s.ds)] = [.c (.l .i64 s.ds)] ∧ s.ds.length ≤ 1000000) ∧ apT s.ds
  (sel (decide (((s.ds.length + 1 : Nat) : Int) < 3)) (s.ds.length + 1 = (snoc s.ds d).length ∧ R (oRm ({ s with ds := snoc s.ds d }, false)))
    (sel (decide ((3 : Int) ≤ ((s.ds.length + 1 : Nat) : Int))) (sel (decide (0 < (snoc s.ds d).length)) (sel (decide (1 < (snoc s.ds d).length)) (sel (decide (2 < (snoc s.ds d).length))
      ([NV.c (.i .i64 (num3 (snoc s.ds d)))] = [.c (.i .i64 (num3 (snoc s.ds d)))] ∧ sel (decide (s.ds.length + 1 ≤ (snoc s.ds d).length)) (R (oRm (s.gone (plc (num3 (snoc s.ds d))), true))) False) False) False) False) False))
noncomputable def digT (s : Rm) (d : Int) (R : Out → Prop) : Prop := sel s.sub (([NV.ag s.nc, .c (.i .i64 d)] = [.ag s.nc, .c (.i .i64 d)] ∧ s.su.length ≤ 3) ∧ R (oRm (s.subd d)))
  (sel ((s.ds.length : Int) == 0) (sel (decide (d < 1)) (R (oRm (s, false))) (sel (decide (d > 8)) (R (oRm (s, false))) (dgM s d R))) (dgM s d R))
theorem dig_tree (s : Rm) (d : Int) (R : Out → Prop) : (t_digC [.ag s.nc, .c (.i .i64 d)] []).run R = digT s d R := by kernel_rfl
noncomputable def Rm.dig2 (s : Rm) (d : Int) : Rm × Bool := match s.ds.isEmpty && (decide (d < 1) || decide (d > 8)) with
  | true => (s, false)
  | false => match decide (s.ds.length < 2) with
    | true => ({ s with ds := s.ds ++ [d] }, false)
    | false => (s.gone (plc (num3 (s.ds ++ [d]))), true)
noncomputable def Rm.dig (s : Rm) (d : Int) : Rm × Bool := match s.sub with
  | true => s.subd d
  | false => s.dig2 d
noncomputable def tDig : Con := fun args regs => match args, regs with
  | [.ag xs, .c (.i _ d)], [] => (match rdRm xs with
    | some s => .must (args = [.ag s.nc, .c (.i .i64 d)] ∧ s.su.length ≤ 3 ∧ s.ds.length ≤ 2) (.ret (oRm (s.dig d)))
    | none => .fail)
  | _, _ => .fail
theorem dgM_in {s : Rm} {d : Int} {R : Out → Prop} (hl : s.ds.length ≤ 2) (h : R (oRm (match decide (s.ds.length < 2) with | true => ({ s with ds := s.ds ++ [d] }, false) | false => (s.gone (plc (num3 (s.ds ++ [d]))), true)))) : dgM s d R := by
  refine ⟨⟨rfl, by omega⟩, apT_in (by omega) ?_⟩
  have e : (s.ds ++ [d]).length = s.ds.length + 1 := by rw [List.length_append]; rfl
  rw [snoc_eq, e]
  by_cases hc : s.ds.length < 2
  · rw [decide_eq_true hc] at h
    exact sT (decide_eq_true (by omega)) ⟨rfl, h⟩
  · rw [decide_eq_false hc] at h
    exact sF (decide_eq_false (by omega)) (sT (decide_eq_true (by omega)) (sT (decide_eq_true (by omega)) (sT (decide_eq_true (by omega)) (sT (decide_eq_true (by omega)) ⟨rfl, sT (decide_eq_true (Nat.le_refl _)) h⟩))))
attribute [local irreducible] t_digC in
set_option maxRecDepth 100000 in
theorem kDig : Known Tryz.prog GL 163 tDig := by
  refine k_digC.less fun args regs R h => ?_
  unfold tDig at h
  split at h
  case h_2 => exact h.elim
  split at h
  case h_2 => exact h.elim
  rename_i d _ s _
  obtain ⟨⟨h1, hs, hl⟩, h⟩ := h
  rw [h1]
  refine (Box.of_eq (dig_tree s d R) ?_).out
  unfold digT
  have h : R (oRm (s.dig d)) := h
  unfold Rm.dig at h
  cases h2 : s.sub with
  | true => rw [h2] at h; exact sT rfl ⟨⟨rfl, hs⟩, h⟩
  | false =>
    rw [h2] at h
    have h : R (oRm (s.dig2 d)) := h
    unfold Rm.dig2 at h
    refine sF rfl ?_
    have e : ((s.ds.length : Int) == 0) = s.ds.isEmpty := by
      cases s.ds with
      | nil => rfl
      | cons x l => rw [beq_eq_false_iff_ne.2 (by rw [List.length_cons]; omega)]; rfl
    rw [e]
    cases h3 : s.ds.isEmpty with
    | false => rw [h3] at h; exact sF rfl (dgM_in hl h)
    | true =>
      rw [h3] at h
      refine sT rfl ?_
      cases h4 : decide (d < 1) with
      | true => rw [h4] at h; exact sT rfl h
      | false =>
        cases h5 : decide (d > 8) with
        | true => rw [h4, h5] at h; exact sF rfl (sT rfl h)
        | false => rw [h4, h5] at h; exact sF rfl (sF rfl (dgM_in hl h))
end Go.Proofs.YtlfmkacafppmlaaGreatDoor.rv
namespace Go.Proofs.YtlfmkacafppmlaaGreatDoor.rv
open Go Go.Nx Go.Proofs.YtlfmkacafppmlaaGreatDoor.pk Go.Proofs.YtlfmkacafppmlaaGreatDoor.ac Go.Proofs.YtlfmkacafppmlaaGreatDoor.sto Go.Proofs.YtlfmkacafppmlaaGreatDoor.pge Go.Proofs.YtlfmkacafppmlaaGreatDoor.dec Go.Proofs.YtlfmkacafppmlaaGreatDoor.mac
def nine (n : Int) : Int := bif decide (9 < n) then 9 else n
noncomputable def nmQ (a b : Int) : Int := bits .or .i64 (shlv .i64 (nine a) 4) (nine b)
noncomputable def nmH (pn : Int) : Int := nmQ (bits .and .i64 (shrv .i64 pn 4) 15) (bits .and .i64 pn 15)
noncomputable def nmV (mg q : Int) : Int := IntKind.i64.wrap (IntKind.i64.wrap (IntKind.i64.wrap (100 * mg) + IntKind.i64.wrap (10 * shrv .i64 q 4)) + bits .and .i64 q 15)
noncomputable def oN (n : Int) : Out := ⟨.v (.c (.i .i64 n)), []⟩
noncomputable def rnumT (mg q : Int) (R : Out → Prop) : Prop := sel (decide (mg ≥ 1)) (sel (!decide (mg ≤ 8)) (R (oN 0)) (sel (decide (q < 0)) (R (oN 0)) (sel (decide (shrv .i64 q 4 ≥ 10)) (R (oN 0)) (sel (decide (bits .and .i64 q 15 ≥ 10)) (R (oN 0)) (R (oN (nmV mg q))))))) (R (oN 0))
theorem rnum_tree (mg pn sb : Int) (R : Out → Prop) : (t_rnum [.ag (kyNC (mg, pn, sb))] []).run R = rnumT mg (nmH pn) R := by kernel_rfl
def numW (mg pn : Int) : Int := match decide (1 ≤ mg ∧ mg ≤ 8) with
  | true => 100 * mg + 10 * nine (pn / 16 % 16) + nine (pn % 16)
  | false => 0
theorem nm_all : ∀ m < 9, ∀ a < 16, ∀ b < 16, 0 ≤ nmQ (Int.ofNat a) (Int.ofNat b) ∧ shrv .i64 (nmQ (Int.ofNat a) (Int.ofNat b)) 4 < 10 ∧ bits .and .i64 (nmQ (Int.ofNat a) (Int.ofNat b)) 15 < 10 ∧ nmV (Int.ofNat m) (nmQ (Int.ofNat a) (Int.ofNat b)) = 100 * Int.ofNat m + 10 * nine (Int.ofNat a) + nine (Int.ofNat b) := by decide +kernel
theorem nat_of {n : Int} {k : Nat} (h : 0 ≤ n ∧ n < (k : Int)) : ∃ m < k, n = Int.ofNat m := ⟨n.toNat, by omega, by show n = ((n.toNat : Nat) : Int); omega⟩
theorem nmH_eq (pn : Int) : nmH pn = nmQ (pn / 16 % 16) (pn % 16) := by
  have e1 : bits .and .i64 (shrv .i64 pn 4) 15 = (shrv .i64 pn 4) % 16 := and_mask64 _ 4 (by decide)
  have e2 : bits .and .i64 pn 15 = pn % 16 := and_mask64 _ 4 (by decide)
  have e3 : shrv .i64 pn 4 = pn / 16 := shrv64 pn 4 (by decide)
  unfold nmH
  rw [e1, e2, e3]
noncomputable def tRnum : Con := fun args regs => match args, regs with
  | [.ag [.i _ mg, .i _ pn, .i _ sb]], [] => .must (args = [.ag (kyNC (mg, pn, sb))]) (.ret (oN (numW mg pn)))
  | _, _ => .fail
attribute [local irreducible] t_rnum in
set_option maxRecDepth 100000 in
theorem kRnum : Known Tryz.prog GL 205 tRnum := by
  refine k_rnum.less fun args regs R h => ?_
  unfold tRnum at h
  split at h
  case h_2 => exact h.elim
  rename_i _ mg _ pn _ sb
  obtain ⟨h1, h⟩ := h
  rw [h1]
  refine (Box.of_eq (rnum_tree mg pn sb R) ?_).out
  have h : R (oN (numW mg pn)) := h
  unfold rnumT
  unfold numW at h
  by_cases hm : 1 ≤ mg ∧ mg ≤ 8
  · rw [decide_eq_true hm] at h
    obtain ⟨m, hm9, rfl⟩ := nat_of (n := mg) (k := 9) ⟨by omega, by omega⟩
    obtain ⟨x, hx, ex⟩ := nat_of (n := pn / 16 % 16) (k := 16) ⟨by omega, by omega⟩
    obtain ⟨y, hy, ey⟩ := nat_of (n := pn % 16) (k := 16) ⟨by omega, by omega⟩
    rw [nmH_eq, ex, ey]
    rw [ex, ey] at h
    obtain ⟨k1, k2, k3, k4⟩ := nm_all m hm9 x hx y hy
    refine sT (decide_eq_true hm.1) (sF (by rw [decide_eq_true hm.2]; rfl) (sF (decide_eq_false (by omega)) (sF (decide_eq_false (by omega)) (sF (decide_eq_false (by omega)) ?_))))
    rw [k4]
    exact h
  · rw [decide_eq_false hm] at h
    by_cases h1 : mg ≥ 1
    · exact sT (decide_eq_true h1) (sT (by rw [decide_eq_false (show ¬ mg ≤ 8 by omega)]; rfl) h)
    · exact sF (decide_eq_false h1) h
noncomputable def c_turns : FuncId → Option Con := conOf [(205, tRnum), (202, tHpl), (203, t_goes)]
theorem kc_turns : ∀ f T, c_turns f = some T → Known Tryz.prog GL f T := (Knowns.cons kRnum (.cons kHpl (.cons k_goes .nil))).get
noncomputable def t_turns : Con := fun args regs => nfun Tryz.prog GL c_turns [] Tryz.f165 args regs
theorem k_turns : Known Tryz.prog GL 165 t_turns := known_inl Tryz.func165 rfl (by kernel_rfl) mixed kc_turns (by kernel_rfl)
noncomputable def t_turnC : Con := softT [] [0] nilsR [] 0 t_turns
theorem k_turnC : Known Tryz.prog GL 165 t_turnC := k_turns.soft [] [0] nilsR [] 0
noncomputable def goT (s : Rm) (n : Int) (R : Out → Prop) : Prop := [NV.c (.i .i64 n)] = [.c (.i .i64 n)] ∧ R (oRm (s.gone (plc n), true))
noncomputable def goN (s : Rm) (n : Int) (R : Out → Prop) : Prop := sel (decide (n > 899)) (goT s 100 R) (sel (decide (n < 100)) (goT s 899 R) (goT s n R))
noncomputable def turnT (s : Rm) (by' : Int) (R : Out → Prop) : Prop := [NV.ag (kyNC s.ky)] = [.ag (kyNC s.ky)] ∧ sel (numW s.mg s.pn == 0) (goN s (IntKind.i64.wrap (100 + by')) R) (goN s (IntKind.i64.wrap (numW s.mg s.pn + by')) R)
theorem turn_tree (s : Rm) (n : Int) (R : Out → Prop) : (t_turnC [.ag s.nc, .c (.i .i64 n)] []).run R = turnT s n R := by kernel_rfl
noncomputable def turnN (mg pn by' : Int) : Int :=
  match decide ((bif numW mg pn == 0 then 100 else numW mg pn) + by' > 899) with
  | true => 100
  | false => match decide ((bif numW mg pn == 0 then 100 else numW mg pn) + by' < 100) with
    | true => 899
    | false => (bif numW mg pn == 0 then 100 else numW mg pn) + by'
noncomputable def Rm.turn (s : Rm) (by' : Int) : Rm × Bool := (s.gone (plc (turnN s.mg s.pn by')), true)
theorem goN_in {s : Rm} {n : Int} {R : Out → Prop} (h : R (oRm (s.gone (plc (match decide (n > 899) with | true => 100 | false => match decide (n < 100) with | true => 899 | false => n)), true))) : goN s n R := by
  unfold goN
  cases h1 : decide (n > 899) with
  | true => rw [h1] at h; exact sT rfl ⟨rfl, h⟩
  | false =>
    rw [h1] at h
    cases h2 : decide (n < 100) with
    | true => rw [h2] at h; exact sF rfl (sT rfl ⟨rfl, h⟩)
    | false => rw [h2] at h; exact sF rfl (sF rfl ⟨rfl, h⟩)
theorem nine_le {n : Int} (h : 0 ≤ n) : 0 ≤ nine n ∧ nine n ≤ 9 := by
  unfold nine
  by_cases h1 : 9 < n
  · rw [decide_eq_true h1]; show (0 : Int) ≤ 9 ∧ (9 : Int) ≤ 9; omega
  · rw [decide_eq_false h1]; show 0 ≤ n ∧ n ≤ 9; omega
theorem numW_le (mg pn : Int) : 0 ≤ numW mg pn ∧ numW mg pn ≤ 899 := by
  unfold numW
  by_cases hm : 1 ≤ mg ∧ mg ≤ 8
  · rw [decide_eq_true hm]
    have h1 := nine_le (n := pn / 16 % 16) (by omega)
    have h2 := nine_le (n := pn % 16) (by omega)
    show 0 ≤ 100 * mg + 10 * nine (pn / 16 % 16) + nine (pn % 16) ∧ 100 * mg + 10 * nine (pn / 16 % 16) + nine (pn % 16) ≤ 899
    omega
  · rw [decide_eq_false hm]
    show (0 : Int) ≤ 0 ∧ (0 : Int) ≤ 899
    omega
noncomputable def tTurn : Con := fun args regs => match args, regs with
  | [.ag xs, .c (.i _ n)], [] => (match rdRm xs with
    | some s => .must (args = [.ag s.nc, .c (.i .i64 n)] ∧ (n = 1 ∨ n = -1)) (.ret (oRm (s.turn n)))
    | none => .fail)
  | _, _ => .fail
attribute [local irreducible] t_turnC in
set_option maxRecDepth 100000 in
theorem kTurn : Known Tryz.prog GL 165 tTurn := by
  refine k_turnC.less fun args regs R h => ?_
  unfold tTurn at h
  split at h
  case h_2 => exact h.elim
  split at h
  case h_2 => exact h.elim
  rename_i n _ s _
  obtain ⟨⟨h1, hn⟩, h⟩ := h
  rw [h1]
  refine (Box.of_eq (turn_tree s n R) ⟨rfl, ?_⟩).out
  have h : R (oRm (s.turn n)) := h
  unfold Rm.turn turnN at h
  have hb := numW_le s.mg s.pn
  cases hz : numW s.mg s.pn == 0 with
  | true =>
    rw [hz] at h
    have hw : IntKind.i64.wrap (100 + n) = 100 + n := by rw [IntKind.wrap_i64]; omega
    rw [hw]
    exact sT rfl (goN_in h)
  | false =>
    rw [hz] at h
    have hw : IntKind.i64.wrap (numW s.mg s.pn + n) = numW s.mg s.pn + n := by rw [IntKind.wrap_i64]; omega
    rw [hw]
    exact sF rfl (goN_in h)
noncomputable def t_follC : Con := softT [] [0] nilsR [] 0 t_foll
theorem k_follC : Known Tryz.prog GL 164 t_follC := k_foll.soft [] [0] nilsR [] 0
noncomputable def follT (s : Rm) (k : Ky) (ln : Bool) (R : Out → Prop) : Prop := sel (!ln) (R (oRm (s, false))) (sel (decide (k.1 ≥ 1)) (sel (decide (k.1 ≤ 8)) (sel (!(k.2.1 != 255)) (R (oRm (s, false))) (R (oRm (s.gone k, true)))) (R (oRm (s, false)))) (R (oRm (s, false))))
def lkNC (l : List (List Sc)) : NV := .ag (rowsNC K3 l)
section
variable (s : Rm) (r0 r1 r2 r3 r4 r5 : List Sc) (ln : Bool) (R : Out → Prop)
theorem foll_0 : (t_follC [.ag s.nc, .c (.i .i64 0), lkNC [r0, r1, r2, r3, r4, r5], .c (.b ln)] []).run R = follT s (toKy r0) ln R := by kernel_rfl
theorem foll_1 : (t_follC [.ag s.nc, .c (.i .i64 1), lkNC [r0, r1, r2, r3, r4, r5], .c (.b ln)] []).run R = follT s (toKy r1) ln R := by kernel_rfl
theorem foll_2 : (t_follC [.ag s.nc, .c (.i .i64 2), lkNC [r0, r1, r2, r3, r4, r5], .c (.b ln)] []).run R = follT s (toKy r2) ln R := by kernel_rfl
theorem foll_3 : (t_follC [.ag s.nc, .c (.i .i64 3), lkNC [r0, r1, r2, r3, r4, r5], .c (.b ln)] []).run R = follT s (toKy r3) ln R := by kernel_rfl
theorem foll_4 : (t_follC [.ag s.nc, .c (.i .i64 4), lkNC [r0, r1, r2, r3, r4, r5], .c (.b ln)] []).run R = follT s (toKy r4) ln R := by kernel_rfl
theorem foll_5 : (t_follC [.ag s.nc, .c (.i .i64 5), lkNC [r0, r1, r2, r3, r4, r5], .c (.b ln)] []).run R = follT s (toKy r5) ln R := by kernel_rfl
end
def Rm.foll (s : Rm) (k : Ky) (ln : Bool) : Rm × Bool := match ln && (decide (1 ≤ k.1 ∧ k.1 ≤ 8) && (k.2.1 != 255)) with
  | true => (s.gone k, true)
  | false => (s, false)
theorem foll_in {s : Rm} {k : Ky} {ln : Bool} {R : Out → Prop} (h : R (oRm (s.foll k ln))) : follT s k ln R := by
  unfold Rm.foll at h
  unfold follT
  cases ln with
  | false => exact h
  | true =>
    refine sF rfl ?_
    by_cases h1 : k.1 ≥ 1
    · refine sT (decide_eq_true h1) ?_
      by_cases h2 : k.1 ≤ 8
      · refine sT (decide_eq_true h2) ?_
        rw [decide_eq_true (show 1 ≤ k.1 ∧ k.1 ≤ 8 from ⟨h1, h2⟩)] at h
        cases h3 : (k.2.1 != 255) with
        | true => rw [h3] at h; exact h
        | false => rw [h3] at h; exact h
      · rw [decide_eq_false (fun hh : 1 ≤ k.1 ∧ k.1 ≤ 8 => h2 hh.2)] at h
        exact sF (decide_eq_false h2) h
    · rw [decide_eq_false (fun hh : 1 ≤ k.1 ∧ k.1 ≤ 8 => h1 hh.1)] at h
      exact sF (decide_eq_false h1) h
noncomputable def tFoll (lk : List (List Sc)) : Con := fun args regs => match args, regs with
  | [.ag xs, .c (.i _ k), v, .c (.b ln)], [] => (match rdRm xs with
    | some s => .must (args = [.ag s.nc, .c (.i .i64 k), lkNC lk, .c (.b ln)] ∧ lk.length = 6 ∧ 0 ≤ k ∧ k ≤ 5) (.ret (oRm (s.foll (toKy (lk.getD k.toNat [])) ln)))
    | none => .fail)
  | _, _ => .fail
theorem list6 {α : Type} {l : List α} (h : l.length = 6) : ∃ a b c d e f, l = [a, b, c, d, e, f] := by
  match l, h with
  | [a, b, c, d, e, f], _ => exact ⟨a, b, c, d, e, f, rfl⟩
attribute [local irreducible] t_follC in
set_option maxRecDepth 100000 in
theorem kFoll (lk : List (List Sc)) : Known Tryz.prog GL 164 (tFoll lk) := by
  refine k_follC.less fun args regs R h => ?_
  unfold tFoll at h
  split at h
  case h_2 => exact h.elim
  split at h
  case h_2 => exact h.elim
  rename_i k v ln _ s _
  obtain ⟨⟨h1, hl, h0, h5⟩, h⟩ := h
  rw [h1]
  obtain ⟨r0, r1, r2, r3, r4, r5, rfl⟩ := list6 hl
  have hk : k = 0 ∨ k = 1 ∨ k = 2 ∨ k = 3 ∨ k = 4 ∨ k = 5 := by omega
  rcases hk with rfl | rfl | rfl | rfl | rfl | rfl
  · exact (Box.of_eq (foll_0 s r0 r1 r2 r3 r4 r5 ln R) (foll_in h)).out
  · exact (Box.of_eq (foll_1 s r0 r1 r2 r3 r4 r5 ln R) (foll_in h)).out
  · exact (Box.of_eq (foll_2 s r0 r1 r2 r3 r4 r5 ln R) (foll_in h)).out
  · exact (Box.of_eq (foll_3 s r0 r1 r2 r3 r4 r5 ln R) (foll_in h)).out
  · exact (Box.of_eq (foll_4 s r0 r1 r2 r3 r4 r5 ln R) (foll_in h)).out
  · exact (Box.of_eq (foll_5 s r0 r1 r2 r3 r4 r5 ln R) (foll_in h)).out
noncomputable def c_key (lk : List (List Sc)) : FuncId → Option Con := conOf [(162, tclIV), (163, tDig), (164, tFoll lk), (165, tTurn)]
theorem kc_key (lk : List (List Sc)) : ∀ f T, c_key lk f = some T → Known Tryz.prog GL f T := (Knowns.cons kclIV (.cons kDig (.cons (kFoll lk) (.cons kTurn .nil)))).get
noncomputable def t_key (lk : List (List Sc)) : Con := fun args regs => nfun Tryz.prog GL (c_key lk) [] Tryz.f98 args regs
theorem k_key (lk : List (List Sc)) : Known Tryz.prog GL 98 (t_key lk) := known_inl Tryz.func98 rfl (by kernel_rfl) mixed (kc_key lk) (by kernel_rfl)
noncomputable def t_keyC (lk : List (List Sc)) : Con := softT [] [0, 1] nilsR [] 0 (t_key lk)
theorem k_keyC (lk : List (List Sc)) : Known Tryz.prog GL 98 (t_keyC lk) := (k_key lk).soft [] [0, 1] nilsR [] 0
def K2 (s : Rm) (N : Prop) : Prop := ([NV.c (.l .i64 s.ds)] = [.c (.l .i64 s.ds)] ∧ s.ds.length ≤ 1000000) ∧ (([NV.c (.l .i64 s.su)] = [.c (.l .i64 s.su)] ∧ s.su.length ≤ 1000000) ∧ N)
section
variable (s : Rm) (r0 r1 r2 r3 r4 r5 : List Sc) (ln : Bool) (k : Int) (R : Out → Prop)
noncomputable abbrev KT (s : Rm) (r0 r1 r2 r3 r4 r5 : List Sc) (ln : Bool) (k : Int) : Tr Out := t_keyC [r0, r1, r2, r3, r4, r5] [.ag s.nc, .c (.i .i64 k), lkNC [r0, r1, r2, r3, r4, r5], .c (.b ln)] []
def digA (s : Rm) (k : Int) (N : Prop) : Prop := ([NV.ag s.nc, .c (.i .i64 k)] = [.ag s.nc, .c (.i .i64 k)] ∧ s.su.length ≤ 3 ∧ s.ds.length ≤ 2) ∧ N
def folA (s : Rm) (l : List (List Sc)) (ln : Bool) (k : Int) (N : Prop) : Prop := ([NV.ag s.nc, .c (.i .i64 k), lkNC l, .c (.b ln)] = [.ag s.nc, .c (.i .i64 k), lkNC l, .c (.b ln)] ∧ l.length = 6 ∧ 0 ≤ k ∧ k ≤ 5) ∧ N
def trnA (s : Rm) (n : Int) (N : Prop) : Prop := ([NV.ag s.nc, .c (.i .i64 n)] = [.ag s.nc, .c (.i .i64 n)] ∧ (n = 1 ∨ n = -1)) ∧ N
theorem key_0 : (KT s r0 r1 r2 r3 r4 r5 ln 0).run R = K2 s (digA s 0 (R (oRm (s.dig 0)))) := by kernel_rfl
theorem key_1 : (KT s r0 r1 r2 r3 r4 r5 ln 1).run R = K2 s (digA s 1 (R (oRm (s.dig 1)))) := by kernel_rfl
theorem key_2 : (KT s r0 r1 r2 r3 r4 r5 ln 2).run R = K2 s (digA s 2 (R (oRm (s.dig 2)))) := by kernel_rfl
theorem key_3 : (KT s r0 r1 r2 r3 r4 r5 ln 3).run R = K2 s (digA s 3 (R (oRm (s.dig 3)))) := by kernel_rfl
theorem key_4 : (KT s r0 r1 r2 r3 r4 r5 ln 4).run R = K2 s (digA s 4 (R (oRm (s.dig 4)))) := by kernel_rfl
theorem key_5 : (KT s r0 r1 r2 r3 r4 r5 ln 5).run R = K2 s (digA s 5 (R (oRm (s.dig 5)))) := by kernel_rfl
theorem key_6 : (KT s r0 r1 r2 r3 r4 r5 ln 6).run R = K2 s (digA s 6 (R (oRm (s.dig 6)))) := by kernel_rfl
theorem key_7 : (KT s r0 r1 r2 r3 r4 r5 ln 7).run R = K2 s (digA s 7 (R (oRm (s.dig 7)))) := by kernel_rfl
theorem key_8 : (KT s r0 r1 r2 r3 r4 r5 ln 8).run R = K2 s (digA s 8 (R (oRm (s.dig 8)))) := by kernel_rfl
theorem key_9 : (KT s r0 r1 r2 r3 r4 r5 ln 9).run R = K2 s (digA s 9 (R (oRm (s.dig 9)))) := by kernel_rfl
theorem key_10 : (KT s r0 r1 r2 r3 r4 r5 ln 10).run R = K2 s (R (oRm ({ s with hd := !s.hd }, !!s.hd))) := by kernel_rfl
theorem key_11 : (KT s r0 r1 r2 r3 r4 r5 ln 11).run R = K2 s (R (oRm ({ s with rv := !s.rv }, false))) := by kernel_rfl
theorem key_12 : (KT s r0 r1 r2 r3 r4 r5 ln 12).run R = K2 s (R (oRm ({ s with mx := !s.mx }, false))) := by kernel_rfl
theorem key_13 : (KT s r0 r1 r2 r3 r4 r5 ln 13).run R = K2 s (trnA s 1 (R (oRm (s.turn 1)))) := by kernel_rfl
theorem key_14 : (KT s r0 r1 r2 r3 r4 r5 ln 14).run R = K2 s (trnA s (-1) (R (oRm (s.turn (-1))))) := by kernel_rfl
theorem key_15 : (KT s r0 r1 r2 r3 r4 r5 ln 15).run R = K2 s (folA s [r0, r1, r2, r3, r4, r5] ln 0 (R (oRm (s.foll (toKy r0) ln)))) := by kernel_rfl
theorem key_16 : (KT s r0 r1 r2 r3 r4 r5 ln 16).run R = K2 s (folA s [r0, r1, r2, r3, r4, r5] ln 1 (R (oRm (s.foll (toKy r1) ln)))) := by kernel_rfl
theorem key_17 : (KT s r0 r1 r2 r3 r4 r5 ln 17).run R = K2 s (folA s [r0, r1, r2, r3, r4, r5] ln 2 (R (oRm (s.foll (toKy r2) ln)))) := by kernel_rfl
theorem key_18 : (KT s r0 r1 r2 r3 r4 r5 ln 18).run R = K2 s (folA s [r0, r1, r2, r3, r4, r5] ln 3 (R (oRm (s.foll (toKy r3) ln)))) := by kernel_rfl
theorem key_19 : (KT s r0 r1 r2 r3 r4 r5 ln 19).run R = K2 s (folA s [r0, r1, r2, r3, r4, r5] ln 5 (R (oRm (s.foll (toKy r5) ln)))) := by kernel_rfl
theorem key_20 : (KT s r0 r1 r2 r3 r4 r5 ln 20).run R = K2 s (R (oRm ({ s with sub := true, su := [], ds := [] }, false))) := by kernel_rfl
theorem key_21 : (KT s r0 r1 r2 r3 r4 r5 ln 21).run R = K2 s (R (oRm ({ s with sub := false, mx := false, su := [], ds := [] }, false))) := by kernel_rfl
def w_lo (s : Rm) (k : Int) : List RC := [.m ([NV.c (.l .i64 s.ds)] = [.c (.l .i64 s.ds)] ∧ s.ds.length ≤ 1000000), .m ([NV.c (.l .i64 s.su)] = [.c (.l .i64 s.su)] ∧ s.su.length ≤ 1000000), .f (decide (k ≥ 0)), .F 3, .f (decide (k ≥ 15)), .F 3, .f (k == 10), .f (k == 11), .f (k == 12), .f (k == 13), .f (k == 14), .f (k == 19), .f (k == 20), .f (k == 21)]
def w_hi (s : Rm) (k : Int) : List RC := [.m ([NV.c (.l .i64 s.ds)] = [.c (.l .i64 s.ds)] ∧ s.ds.length ≤ 1000000), .m ([NV.c (.l .i64 s.su)] = [.c (.l .i64 s.su)] ∧ s.su.length ≤ 1000000), .t (decide (k ≥ 0)), .T 2, .f (decide (k ≤ 9)), .t (decide (k ≥ 15)), .T 2, .f (decide (k ≤ 18)), .f (k == 10), .f (k == 11), .f (k == 12), .f (k == 13), .f (k == 14), .f (k == 19), .f (k == 20), .f (k == 21)]
theorem key_lo : ((KT s r0 r1 r2 r3 r4 r5 ln k).fol (scr (w_lo s k))).run R = road (w_lo s k) (R (oRm (s, false))) := by kernel_rfl
theorem key_hi : ((KT s r0 r1 r2 r3 r4 r5 ln k).fol (scr (w_hi s k))).run R = road (w_hi s k) (R (oRm (s, false))) := by kernel_rfl
end
noncomputable def Rm.keyN (s : Rm) (lk : List (List Sc)) (ln : Bool) : Nat → Rm × Bool
  | 10 => ({ s with hd := !s.hd }, !!s.hd)
  | 11 => ({ s with rv := !s.rv }, false)
  | 12 => ({ s with mx := !s.mx }, false)
  | 13 => s.turn 1
  | 14 => s.turn (-1)
  | 15 => s.foll (toKy (lk.getD 0 [])) ln
  | 16 => s.foll (toKy (lk.getD 1 [])) ln
  | 17 => s.foll (toKy (lk.getD 2 [])) ln
  | 18 => s.foll (toKy (lk.getD 3 [])) ln
  | 19 => s.foll (toKy (lk.getD 5 [])) ln
  | 20 => ({ s with sub := true, su := [], ds := [] }, false)
  | 21 => ({ s with sub := false, mx := false, su := [], ds := [] }, false)
  | n => match decide (n < 10) with
    | true => s.dig (n : Int)
    | false => (s, false)
noncomputable def Rm.key (s : Rm) (k : Int) (lk : List (List Sc)) (ln : Bool) : Rm × Bool := match decide (0 ≤ k) with
  | true => s.keyN lk ln k.toNat
  | false => (s, false)
structure Rm.ok (s : Rm) : Prop where
  ds : s.ds.length ≤ 2
  su : s.su.length ≤ 3
noncomputable def tKey (lk : List (List Sc)) : Con := fun args regs => match args, regs with
  | [.ag xs, .c (.i _ k), v, .c (.b ln)], [] => (match rdRm xs with
    | some s => .must (args = [.ag s.nc, .c (.i .i64 k), lkNC lk, .c (.b ln)] ∧ lk.length = 6 ∧ s.ok) (.ret (oRm (s.key k lk ln)))
    | none => .fail)
  | _, _ => .fail
theorem K2_in {s : Rm} {N : Prop} (h : s.ok) (hN : N) : K2 s N := ⟨⟨rfl, by have := h.ds; omega⟩, ⟨rfl, by have := h.su; omega⟩, hN⟩
attribute [local irreducible] t_keyC in
set_option maxRecDepth 100000 in
theorem key_in (s : Rm) (r0 r1 r2 r3 r4 r5 : List Sc) (ln : Bool) (k : Int) (R : Out → Prop) (hs : s.ok) (h : R (oRm (s.key k [r0, r1, r2, r3, r4, r5] ln))) : Box ((KT s r0 r1 r2 r3 r4 r5 ln k).run R) := by
  by_cases h0 : k < 0
  · have e : s.key k [r0, r1, r2, r3, r4, r5] ln = (s, false) := by unfold Rm.key; rw [decide_eq_false (show ¬ 0 ≤ k by omega)]
    rw [e] at h
    refine ⟨by_road (key_lo s r0 r1 r2 r3 r4 r5 ln k R) ?_ h⟩
    refine ⟨⟨rfl, by have := hs.ds; omega⟩, ⟨rfl, by have := hs.su; omega⟩, decide_eq_false (by omega), decide_eq_false (by omega), ?_⟩
    refine ⟨?_, ?_, ?_, ?_, ?_, ?_, ?_, ?_, trivial⟩ <;> exact beq_eq_false_iff_ne.2 (by omega)
  · by_cases h1 : 22 ≤ k
    · have e : s.key k [r0, r1, r2, r3, r4, r5] ln = (s, false) := by
        unfold Rm.key
        rw [decide_eq_true (show 0 ≤ k by omega)]
        show s.keyN [r0, r1, r2, r3, r4, r5] ln k.toNat = (s, false)
        obtain ⟨n, hn⟩ : ∃ n, k.toNat = n + 22 := ⟨k.toNat - 22, by omega⟩
        rw [hn]
        rfl
      rw [e] at h
      refine ⟨by_road (key_hi s r0 r1 r2 r3 r4 r5 ln k R) ?_ h⟩
      refine ⟨⟨rfl, by have := hs.ds; omega⟩, ⟨rfl, by have := hs.su; omega⟩, decide_eq_true (by omega), decide_eq_false (by omega), decide_eq_true (by omega), decide_eq_false (by omega), ?_⟩
      refine ⟨?_, ?_, ?_, ?_, ?_, ?_, ?_, ?_, trivial⟩ <;> exact beq_eq_false_iff_ne.2 (by omega)
    · have hk : k = 0 ∨ k = 1 ∨ k = 2 ∨ k = 3 ∨ k = 4 ∨ k = 5 ∨ k = 6 ∨ k = 7 ∨ k = 8 ∨ k = 9 ∨ k = 10 ∨ k = 11 ∨ k = 12 ∨ k = 13 ∨ k = 14 ∨ k = 15 ∨ k = 16 ∨ k = 17 ∨ k = 18 ∨ k = 19 ∨ k = 20 ∨ k = 21 := by omega
      clear h0 h1
      have dg : ∀ n : Int, digA s n (R (oRm (s.dig n))) ↔ R (oRm (s.dig n)) := fun n => ⟨fun x => x.2, fun x => ⟨⟨rfl, hs.su, hs.ds⟩, x⟩⟩
      rcases hk with rfl | rfl | rfl | rfl | rfl | rfl | rfl | rfl | rfl | rfl | rfl | rfl | rfl | rfl | rfl | rfl | rfl | rfl | rfl | rfl | rfl | rfl
      · exact Box.of_eq (key_0 s r0 r1 r2 r3 r4 r5 ln R) (K2_in hs ((dg 0).2 h))
      · exact Box.of_eq (key_1 s r0 r1 r2 r3 r4 r5 ln R) (K2_in hs ((dg 1).2 h))
      · exact Box.of_eq (key_2 s r0 r1 r2 r3 r4 r5 ln R) (K2_in hs ((dg 2).2 h))
      · exact Box.of_eq (key_3 s r0 r1 r2 r3 r4 r5 ln R) (K2_in hs ((dg 3).2 h))
      · exact Box.of_eq (key_4 s r0 r1 r2 r3 r4 r5 ln R) (K2_in hs ((dg 4).2 h))
      · exact Box.of_eq (key_5 s r0 r1 r2 r3 r4 r5 ln R) (K2_in hs ((dg 5).2 h))
      · exact Box.of_eq (key_6 s r0 r1 r2 r3 r4 r5 ln R) (K2_in hs ((dg 6).2 h))
      · exact Box.of_eq (key_7 s r0 r1 r2 r3 r4 r5 ln R) (K2_in hs ((dg 7).2 h))
      · exact Box.of_eq (key_8 s r0 r1 r2 r3 r4 r5 ln R) (K2_in hs ((dg 8).2 h))
      · exact Box.of_eq (key_9 s r0 r1 r2 r3 r4 r5 ln R) (K2_in hs ((dg 9).2 h))
      · exact Box.of_eq (key_10 s r0 r1 r2 r3 r4 r5 ln R) (K2_in hs h)
      · exact Box.of_eq (key_11 s r0 r1 r2 r3 r4 r5 ln R) (K2_in hs h)
      · exact Box.of_eq (key_12 s r0 r1 r2 r3 r4 r5 ln R) (K2_in hs h)
      · exact Box.of_eq (key_13 s r0 r1 r2 r3 r4 r5 ln R) (K2_in hs ⟨⟨rfl, .inl rfl⟩, h⟩)
      · exact Box.of_eq (key_14 s r0 r1 r2 r3 r4 r5 ln R) (K2_in hs ⟨⟨rfl, .inr rfl⟩, h⟩)
      · exact Box.of_eq (key_15 s r0 r1 r2 r3 r4 r5 ln R) (K2_in hs ⟨⟨rfl, rfl, by decide, by decide⟩, h⟩)
      · exact Box.of_eq (key_16 s r0 r1 r2 r3 r4 r5 ln R) (K2_in hs ⟨⟨rfl, rfl, by decide, by decide⟩, h⟩)
      · exact Box.of_eq (key_17 s r0 r1 r2 r3 r4 r5 ln R) (K2_in hs ⟨⟨rfl, rfl, by decide, by decide⟩, h⟩)
      · exact Box.of_eq (key_18 s r0 r1 r2 r3 r4 r5 ln R) (K2_in hs ⟨⟨rfl, rfl, by decide, by decide⟩, h⟩)
      · exact Box.of_eq (key_19 s r0 r1 r2 r3 r4 r5 ln R) (K2_in hs ⟨⟨rfl, rfl, by decide, by decide⟩, h⟩)
      · exact Box.of_eq (key_20 s r0 r1 r2 r3 r4 r5 ln R) (K2_in hs h)
      · exact Box.of_eq (key_21 s r0 r1 r2 r3 r4 r5 ln R) (K2_in hs h)
attribute [local irreducible] t_keyC in
set_option maxRecDepth 100000 in
theorem kKey (lk : List (List Sc)) : Known Tryz.prog GL 98 (tKey lk) := by
  refine (k_keyC lk).less fun args regs R h => ?_
  unfold tKey at h
  split at h
  case h_2 => exact h.elim
  split at h
  case h_2 => exact h.elim
  rename_i k v ln _ s _
  obtain ⟨⟨h1, hl, hs⟩, h⟩ := h
  rw [h1]
  obtain ⟨r0, r1, r2, r3, r4, r5, rfl⟩ := list6 hl
  exact (key_in s r0 r1 r2 r3 r4 r5 ln k R hs h).out
end Go.Proofs.YtlfmkacafppmlaaGreatDoor.rv
namespace Go.Proofs.YtlfmkacafppmlaaGreatDoor.rv
open Go Go.Nx Go.Proofs.YtlfmkacafppmlaaGreatDoor.pk Go.Proofs.YtlfmkacafppmlaaGreatDoor.ac Go.Proofs.YtlfmkacafppmlaaGreatDoor.sto Go.Proofs.YtlfmkacafppmlaaGreatDoor.pge Go.Proofs.YtlfmkacafppmlaaGreatDoor.dec Go.Proofs.YtlfmkacafppmlaaGreatDoor.mac
noncomputable def rcN (V : Rv) : Reg := rcReg 1 V.s.nc pgZ .sn V.fd V.tk
noncomputable def inVn (V : Rv) : List Reg := [rcN V, mcG 2 V.m.v V.m.inf, stN 3 V.m.st.sto, ac.mpReg V.m.st.sto.m, ordReg (kyRows V.m.st.sto.l)]
def rdRn : List Reg → Option Rv
  | ⟨_, _, .sg [.cells [.p _ _ _, .i _ a, .i _ b, .i _ c, .l _ ds, .l _ su, .b sub, .b hd, .b rv, .b mx, .i _ _, .i _ _, .i _ _], .recs _ _ _, .cells [.i _ _], .ints _ _ _, .recs _ _ _, .cells [.sn], .recs _ _ _, .cells [.b _, .i _ _, .b fd, .i _ tk]]⟩ :: rest => (match rdMc rest with
    | some M => some ⟨M, ⟨a, b, c, ds, su, sub, hd, rv, mx⟩, pgZ, fd, tk⟩
    | none => none)
  | _ => none
noncomputable def showN (V : Rv) (q : Pg) (is : Bool) (R : Out → Prop) : Prop := sel is ((inM V.m = inM (mac.bk V.m) ∧ (mac.bk V.m).ok) ∧ [NV.c (.p 0 0 0), .ag (kyNC (kyP q))] = [.c (.p 0 0 0), .ag (kyNC (kyP q))] ∧ R (oRv (V.bk.shown (q, true)))) (R ⟨.tu [], (inVn V).map some⟩)
theorem show_treeN (V : Rv) (q : Pg) (is : Bool) (R : Out → Prop) : (t_show [.c (.p 0 0 0), pgV q, .c (.b is)] (inVn V)).run R = showN V q is R := by kernel_rfl
noncomputable def tShowN : Con := fun args regs => match args with
  | [.c (.p 0 0 0), v, .c (.b is)] => (match sto.rdPg v, rdRn regs with
    | some q, some V => .must (args = [.c (.p 0 0 0), pgV q, .c (.b is)] ∧ regs = inVn V ∧ V.m.ok) (.br is (.ret (oRv (V.shown (q, true)))) (.ret ⟨.tu [], (inVn V).map some⟩))
    | _, _ => .fail)
  | _ => .fail
attribute [local irreducible] t_show in
set_option maxRecDepth 100000 in
theorem kShowN : Known Tryz.prog GL 96 tShowN := by
  refine k_show.less fun args regs R h => ?_
  unfold tShowN at h
  split at h
  case h_2 => exact h.elim
  rename_i v is
  split at h
  case h_2 => exact h.elim
  rename_i q V _ _
  obtain ⟨⟨h1, h2, hV⟩, h⟩ := h
  rw [h1, h2]
  refine (Box.of_eq (show_treeN V q is R) ?_).out
  unfold showN
  rw [V.bk_eq hV.1, mac.bk_eq _ hV.1]
  have h : sel is (R (oRv (V.shown (q, true)))) (R ⟨.tu [], (inVn V).map some⟩) := h
  cases is with
  | true => exact sT rfl ⟨⟨rfl, hV⟩, rfl, h⟩
  | false => exact sF rfl h
noncomputable def shAny : Bool → Con
  | true => tShow
  | false => tShowN
noncomputable def tShowA : Con := fun args regs => match rdRv regs with
  | some _ => tShow args regs
  | none => tShowN args regs
theorem kShowA : Known Tryz.prog GL 96 tShowA := by
  refine Known_any (T := shAny) true (fun b => by cases b; exact kShowN; exact kShow) fun args regs R h => ?_
  unfold tShowA at h
  split at h
  · exact ⟨true, h⟩
  · exact ⟨false, h⟩
noncomputable def c_rkey (lk : List (List Sc)) : FuncId → Option Con := conOf [(98, tKey lk), (27, tMfree), (22, tFd), (96, tShowA)]
theorem kc_rkey (lk : List (List Sc)) : ∀ f T, c_rkey lk f = some T → Known Tryz.prog GL f T := (Knowns.cons (kKey lk) (.cons kMfree (.cons kFd (.cons kShowA .nil)))).get
noncomputable def t_rkey (lk : List (List Sc)) : Con := fun args regs => nfun Tryz.prog GL (c_rkey lk) [] Tryz.f39 args regs
theorem k_rkey (lk : List (List Sc)) : Known Tryz.prog GL 39 (t_rkey lk) := known_inl Tryz.func39 rfl (by kernel_rfl) mixed (kc_rkey lk) (by kernel_rfl)
noncomputable def t_rkeyC (lk : List (List Sc)) : Con := softT [] [] [] [(0, 5, 0, .lr K3 [])] 5 (t_rkey lk)
theorem k_rkeyC (lk : List (List Sc)) : Known Tryz.prog GL 39 (t_rkeyC lk) := (k_rkey lk).soft [] [] [] [(0, 5, 0, .lr K3 [])] 5
def Rv.with (V : Rv) (s : Rm) : Rv := { V with s := s }
def Rv.fresh (V : Rv) (s : Rm) : Rv := { V with s := s, p := pgZ, fd := false, m := Mc.freed V.m }
noncomputable def Rv.key (V : Rv) (k : Int) : Rv := match (V.s.key k V.p.lk (V.fd && V.p.ld)).2 with
  | true => (V.fresh (V.s.key k V.p.lk (V.fd && V.p.ld)).1).shown ((Mc.freed V.m).find (V.s.key k V.p.lk (V.fd && V.p.ld)).1.ky)
  | false => V.with (V.s.key k V.p.lk (V.fd && V.p.ld)).1
noncomputable def askT (V : Rv) (M : Mc) (s : Rm) (R : Out → Prop) : Prop := (inM M = inM (mac.bk M) ∧ (mac.bk M).ok) ∧ (([NV.c (.p 0 0 0), .ag (kyNC s.ky)] = [.c (.p 0 0 0), .ag (kyNC s.ky)] ∧ (mac.bk M).good) ∧
    (([NV.c (.p 0 0 0), pgV ((mac.bk M).find s.ky).1, .c (.b ((mac.bk M).find s.ky).2)] = [.c (.p 0 0 0), pgV ((mac.bk M).find s.ky).1, .c (.b ((mac.bk M).find s.ky).2)] ∧ inVn ⟨mac.bk M, s, pgZ, false, V.tk⟩ = inVn (Rv.bk ⟨mac.bk M, s, pgZ, false, V.tk⟩) ∧ (Rv.bk ⟨mac.bk M, s, pgZ, false, V.tk⟩).m.ok) ∧
      sel ((mac.bk M).find s.ky).2 (R (oRv ((Rv.bk ⟨mac.bk M, s, pgZ, false, V.tk⟩).shown (((mac.bk M).find s.ky).1, true)))) (R (oRv (Rv.bk ⟨mac.bk M, s, pgZ, false, V.tk⟩)))))
noncomputable def keyP (V : Rv) (lk : List (List Sc)) (k : Int) (ln : Bool) (R : Out → Prop) : Prop := ([NV.ag V.s.nc, .c (.i .i64 k), lkNC lk, .c (.b ln)] = [.ag V.s.nc, .c (.i .i64 k), lkNC lk, .c (.b ln)] ∧ lk.length = 6 ∧ V.s.ok) ∧
  sel (V.s.key k lk ln).2 ((inM V.m = inM (mac.bk V.m) ∧ (mac.bk V.m).ok) ∧ askT V (Mc.freed (mac.bk V.m)) (V.s.key k lk ln).1 R) (R (oRv (V.with (V.s.key k lk ln).1)))
def Rv.lks (V : Rv) (l : List (List Sc)) : Rv := { V with p := { V.p with lk := l } }
noncomputable def rkeyT (V : Rv) (lk : List (List Sc)) (k : Int) (R : Out → Prop) : Prop := sel V.fd (keyP V lk k V.p.ld R) (keyP V lk k false R)
theorem rkey_tree (V : Rv) (r0 r1 r2 r3 r4 r5 : List Sc) (k : Int) (R : Out → Prop) : (t_rkeyC [r0, r1, r2, r3, r4, r5] [.c (.p 0 0 0), .c (.i .i64 k)] (inV (V.lks [r0, r1, r2, r3, r4, r5]))).run R = rkeyT (V.lks [r0, r1, r2, r3, r4, r5]) [r0, r1, r2, r3, r4, r5] k R := by kernel_rfl
theorem freed_good {M : Mc} (h : M.good) : (Mc.freed M).good := ⟨h.far, h.nd, h.m1, h.m8, h.len, h.fit, h.vfit, h.txt⟩
theorem pinned_good {M : Mc} (h : M.good) (k : Ky) : (Mc.pinned M k).good := ⟨h.far, h.nd, h.m1, h.m8, h.len, h.fit, h.vfit, h.txt⟩
theorem askT_in {V : Rv} {M : Mc} {s : Rm} {R : Out → Prop} (hM : M.good) (h : R (oRv (Rv.shown ⟨M, s, pgZ, false, V.tk⟩ (M.find s.ky)))) : askT V M s R := by
  unfold askT
  have e : Rv.bk ⟨M, s, pgZ, false, V.tk⟩ = ⟨M, s, pgZ, false, V.tk⟩ := Rv.bk_eq _ hM.far
  rw [hM.bk, e]
  refine ⟨⟨rfl, hM.ok⟩, ⟨rfl, hM⟩, ⟨rfl, rfl, hM.ok⟩, ?_⟩
  unfold Rv.shown at h
  cases hf : (M.find s.ky).2 with
  | true => rw [hf] at h; exact sT rfl h
  | false => rw [hf] at h; exact sF rfl h
theorem keyP_in {V : Rv} {k : Int} {ln : Bool} {R : Out → Prop} (hl : V.p.lk.length = 6) (hs : V.s.ok) (hM : V.m.good)
    (h : R (oRv (match (V.s.key k V.p.lk ln).2 with
      | true => (V.fresh (V.s.key k V.p.lk ln).1).shown ((Mc.freed V.m).find (V.s.key k V.p.lk ln).1.ky)
      | false => V.with (V.s.key k V.p.lk ln).1))) : keyP V V.p.lk k ln R := by
  refine ⟨⟨rfl, hl, hs⟩, ?_⟩
  rw [hM.bk]
  cases hk : (V.s.key k V.p.lk ln).2 with
  | true => rw [hk] at h; exact sT rfl ⟨⟨rfl, hM.ok⟩, askT_in (freed_good hM) h⟩
  | false => rw [hk] at h; exact sF rfl h
theorem rkey_in {V : Rv} {k : Int} {R : Out → Prop} (hl : V.p.lk.length = 6) (hs : V.s.ok) (hM : V.m.good) (h : R (oRv (V.key k))) : rkeyT V V.p.lk k R := by
  unfold rkeyT
  unfold Rv.key at h
  cases hf : V.fd with
  | true => rw [hf] at h; exact sT rfl (keyP_in hl hs hM h)
  | false => rw [hf] at h; exact sF rfl (keyP_in hl hs hM h)
noncomputable def tRkey : Con := fun args regs => match args with
  | [.c (.p 0 0 0), .c (.i _ k)] => onV regs fun V => .must (args = [.c (.p 0 0 0), .c (.i .i64 k)] ∧ V.p.lk.length = 6 ∧ V.s.ok ∧ V.m.good) (.ret (oRv (V.key k)))
  | _ => .fail
attribute [local irreducible] t_rkeyC in
set_option maxRecDepth 100000 in
theorem kRkey : Known Tryz.prog GL 39 tRkey := by
  refine Known_any (T := t_rkeyC) [] k_rkeyC fun args regs R h => ?_
  unfold tRkey at h
  split at h
  case h_2 => exact h.elim
  rename_i _ k
  obtain ⟨V, rfl, hV, ⟨h1, hl, hs, hg⟩, h⟩ := onV_elim h
  rw [h1]
  refine ⟨V.p.lk, ?_⟩
  obtain ⟨r0, r1, r2, r3, r4, r5, hr⟩ := list6 hl
  have e : V = V.lks [r0, r1, r2, r3, r4, r5] := by unfold Rv.lks; rw [← hr]
  have hh := rkey_in (R := R) hl hs hg h
  rw [hr] at hh ⊢
  have t := rkey_tree V r0 r1 r2 r3 r4 r5 k R
  rw [← e] at t
  exact (Box.of_eq t hh).out
noncomputable def t_rline0 : Con := fun args regs => nfun Tryz.prog GL (fun _ => Option.none) [] Tryz.f97 args regs
theorem k_rline0 : Known Tryz.prog GL 97 t_rline0 := known_inl Tryz.func97 rfl (by kernel_rfl) mixed con_none (by kernel_rfl)
def hexD : ByteArray := ⟨#[48, 49, 50, 51, 52, 53, 54, 55, 56, 57, 97, 98, 99, 100, 101, 102]⟩
def qd (a : Int) : Int := (IntKind.i64.wrap (a.tmod 10 + 10)).tmod 10
noncomputable def nib4 (p : Int) : Int := bits .and .i64 (shrv .i64 p 4) 15
noncomputable def nib0 (p : Int) : Int := bits .and .i64 p 15
noncomputable def line0 (m p : Int) : ByteArray := ⟨#[80]⟩ ++ strOfNums [byteAt hexD (qd m).toNat, byteAt hexD (nib4 p).toNat, byteAt hexD (nib0 p).toNat] ++ ⟨#[32, 32, 32, 32]⟩
noncomputable def oS (s : ByteArray) : Out := ⟨.v (.c (.s s)), []⟩
noncomputable def rlT (m p : Int) (R : Out → Prop) : Prop := sel (decide (0 ≤ qd m)) (sel (decide (qd m < 16)) (sel (decide (0 ≤ nib4 p)) (sel (decide (nib4 p < 16)) (sel (decide (0 ≤ nib0 p)) (sel (decide (nib0 p < 16)) (R (oS (line0 m p))) False) False) False) False) False) False
theorem rline_tree (m p u : Int) (su : List Int) (h r x : Bool) (R : Out → Prop) : (t_rline0 [.ag (Rm.nc ⟨m, p, u, [], su, false, h, r, x⟩)] []).run R = rlT m p R := by kernel_rfl
noncomputable def tLine0 : Con := fun args regs => match args, regs with
  | [.ag xs], [] => (match rdRm xs with
    | some s => .must (args = [.ag s.nc] ∧ s.sub = false ∧ s.ds = []) (.ret (oS (line0 s.mg s.pn)))
    | none => .fail)
  | _, _ => .fail
theorem qd_in (m : Int) : 0 ≤ qd m ∧ qd m < 16 := by
  have hk : ∀ k < 19, 0 ≤ ((Int.ofNat k + 1).tmod 10) ∧ ((Int.ofNat k + 1).tmod 10) < 16 := by decide
  have h1 := Int.tmod_lt_of_pos m (show (0 : Int) < 10 by decide)
  have h2 : -10 < m.tmod 10 := by
    have := Int.lt_tmod_of_pos m (show (0 : Int) < 10 by decide)
    omega
  unfold qd
  have hw : IntKind.i64.wrap (m.tmod 10 + 10) = m.tmod 10 + 10 := by rw [IntKind.wrap_i64]; omega
  rw [hw]
  have := hk (m.tmod 10 + 9).toNat (by omega)
  have e : Int.ofNat (m.tmod 10 + 9).toNat + 1 = m.tmod 10 + 10 := by show (((m.tmod 10 + 9).toNat : Nat) : Int) + 1 = _; omega
  rw [e] at this
  exact this
theorem nib_in (n : Int) : 0 ≤ bits .and .i64 n 15 ∧ bits .and .i64 n 15 < 16 := by
  have e : bits .and .i64 n 15 = n % 16 := and_mask64 _ 4 (by decide)
  rw [e]
  omega
attribute [local irreducible] t_rline0 in
set_option maxRecDepth 100000 in
theorem kLine0 : Known Tryz.prog GL 97 tLine0 := by
  refine k_rline0.less fun args regs R h => ?_
  unfold tLine0 at h
  split at h
  case h_2 => exact h.elim
  split at h
  case h_2 => exact h.elim
  rename_i s _
  obtain ⟨⟨h1, h2, h3⟩, h⟩ := h
  rw [h1]
  obtain ⟨m, p, u, ds, su, sub, hd, rv, mx⟩ := s
  simp only at h2 h3
  subst h2 h3
  refine (Box.of_eq (rline_tree m p u su hd rv mx R) ?_).out
  have q1 := qd_in m
  have q2 := nib_in (shrv .i64 p 4)
  have q3 := nib_in p
  exact sT (decide_eq_true q1.1) (sT (decide_eq_true q1.2) (sT (decide_eq_true q2.1) (sT (decide_eq_true q2.2) (sT (decide_eq_true q3.1) (sT (decide_eq_true q3.2) h)))))
noncomputable def c_stat0 : FuncId → Option Con := conOf [(97, tLine0), (20, tPgs)]
theorem kc_stat0 : ∀ f T, c_stat0 f = some T → Known Tryz.prog GL f T := (Knowns.cons kLine0 (.cons kPgs .nil)).get
noncomputable def t_stat0 : Con := fun args regs => nfun Tryz.prog GL c_stat0 [] Tryz.f37 args regs
theorem k_stat0 : Known Tryz.prog GL 37 t_stat0 := known_inl Tryz.func37 rfl (by kernel_rfl) mixed kc_stat0 (by kernel_rfl)
noncomputable def stNC (V : Rv) (l : ByteArray) : List NC := [.i .i64 V.s.mg, .i .i64 V.s.pn, .i .i64 V.s.sb, .b V.fd, .i .i64 V.p.mg, .i .i64 V.p.pn, .i .i64 V.p.sb, .s l, .i .i64 (kyRows (V.m.st.L.map kyP)).length, .i .i64 V.tk]
noncomputable def stat0T (V : Rv) (R : Out → Prop) : Prop := ([NV.ag V.s.nc] = [.ag V.s.nc] ∧ V.s.sub = false ∧ V.s.ds = []) ∧ ((inM V.m = inM (mac.bk V.m) ∧ (mac.bk V.m).ok) ∧ (some (mcG 2 V.m.v V.m.inf) = some (mcG 2 V.bk.m.v V.bk.m.inf) ∧ (some (stN 3 V.m.st.sto) = some (stN 3 V.bk.m.st.sto) ∧ (some (ac.mpReg V.m.st.sto.m) = some (ac.mpReg V.bk.m.st.sto.m) ∧ (some (ordReg (kyRows V.m.st.sto.l)) = some (ordReg (kyRows V.bk.m.st.sto.l)) ∧ R ⟨.v (.ag (stNC V.bk (line0 V.s.mg V.s.pn))), (inV V).map some⟩)))))
theorem stat0_tree (V : Rv) (R : Out → Prop) : (t_stat0 [.c (.p 0 0 0)] (inV V)).run R = stat0T V R := by kernel_rfl
noncomputable def oSv (V : Rv) (l : ByteArray) : Out := ⟨.v (.ag [.i .i64 V.s.mg, .i .i64 V.s.pn, .i .i64 V.s.sb, .b V.fd, .i .i64 V.p.mg, .i .i64 V.p.pn, .i .i64 V.p.sb, .s l, .i .i64 V.m.st.L.length, .i .i64 V.tk]), (inV V).map some⟩
noncomputable def tStat0 : Con := fun args regs => match args with
  | [.c (.p 0 0 0)] => onV regs fun V => .must (V.s.sub = false ∧ V.s.ds = []) (.ret (oSv V (line0 V.s.mg V.s.pn)))
  | _ => .fail
attribute [local irreducible] t_stat0 in
set_option maxRecDepth 100000 in
theorem kStat0 : Known Tryz.prog GL 37 tStat0 := by
  refine k_stat0.less fun args regs R h => ?_
  unfold tStat0 at h
  split at h
  case h_2 => exact h.elim
  obtain ⟨V, rfl, hV, hs, h⟩ := onV_elim h
  refine (Box.of_eq (stat0_tree V R) ?_).out
  unfold stat0T
  rw [V.bk_eq hV.1, mac.bk_eq _ hV.1]
  refine ⟨⟨rfl, hs⟩, ⟨rfl, hV⟩, rfl, rfl, rfl, rfl, ?_⟩
  have e : (kyRows (V.m.st.L.map kyP)).length = V.m.st.L.length := by rw [kyRows_length, List.length_map]
  have h : R (oSv V (line0 V.s.mg V.s.pn)) := h
  unfold oSv at h
  unfold stNC
  rw [e]
  exact h
noncomputable def c_f19 : FuncId → Option Con := conOf [(35, tNewV), (37, tStat0), (38, t_tmach)]
theorem kc_f19 : ∀ f T, c_f19 f = some T → Known Tryz.prog GL f T := (Knowns.cons kNewV (.cons kStat0 (.cons k_tmach .nil))).get
noncomputable def t_f19 : Con := fun args regs => nfun Tryz.prog GL c_f19 [] Tryz.f34 args regs
theorem k_f19 : Known Tryz.prog GL 34 t_f19 := known_inl Tryz.func34 rfl (by kernel_rfl) mixed kc_f19 (by kernel_rfl)
noncomputable def f19T (R : Out → Prop) : Prop := [NV.c (.i .i64 1)] = [NV.c (.i .i64 1)] ∧ ((inV (rvN 1) = inV (rvN 1).bk ∧ (rvN 1).bk.m.ok) ∧ (((rvN 1).bk.s.sub = false ∧ (rvN 1).bk.s.ds = []) ∧ R ⟨.v (.c (.b true)), []⟩))
theorem f19_tree (R : Out → Prop) : (t_f19 [] []).run R = f19T R := by kernel_rfl
noncomputable def tF19 : Con := fun args regs => match args, regs with
  | [], [] => .ret ⟨.v (.c (.b true)), []⟩
  | _, _ => .fail
attribute [local irreducible] t_f19 in
set_option maxRecDepth 100000 in
theorem kF19 : Known Tryz.prog GL 34 tF19 := by
  refine k_f19.less fun args regs R h => ?_
  unfold tF19 at h
  split at h
  case h_2 => exact h.elim
  have hg := mcN_good (n := 1) (by omega) (by omega)
  refine (Box.of_eq (f19_tree R) ?_).out
  unfold f19T
  rw [Rv.bk_eq _ hg.far]
  exact ⟨rfl, ⟨rfl, hg.ok⟩, ⟨rfl, rfl⟩, h⟩
end Go.Proofs.YtlfmkacafppmlaaGreatDoor.rv
namespace Go.Proofs.YtlfmkacafppmlaaGreatDoor.bm
open Go.Proofs.YtlfmkacafppmlaaGreatDoor.sto (sT sF)
open Go Go.Nx Go.Proofs.YtlfmkacafppmlaaGreatDoor.pk Go.Proofs.YtlfmkacafppmlaaGreatDoor.ln Go.Proofs.YtlfmkacafppmlaaGreatDoor.hd Go.Proofs.YtlfmkacafppmlaaGreatDoor.lb Go.Proofs.YtlfmkacafppmlaaGreatDoor.sv
theorem byT {x : Int} (h : 0 ≤ x ∧ x < 256) : ∃ m, m < 256 ∧ x = Int.ofNat m := ⟨x.toNat, by omega, by show x = ((x.toNat : Nat) : Int); omega⟩
noncomputable def c_rodd : FuncId → Option Con := conOf [(194, ones.tOnes)]
theorem kc_rodd : ∀ f T, c_rodd f = some T → Known Tryz.prog GL f T := (Knowns.cons (known_gl ones.kOnes) .nil).get
noncomputable def t_rodd : Con := fun args regs => nfun Tryz.prog GL c_rodd [] Tryz.f195 args regs
theorem k_rodd : Known Tryz.prog GL 195 t_rodd := known_inl Tryz.func195 rfl (by kernel_rfl) mixed kc_rodd (by kernel_rfl)
theorem rodd_tree (b : Int) (R : Out → Prop) : (t_rodd [.c (.i .u8 b)] []).run R = ((0 ≤ IntKind.i64.wrap b ∧ IntKind.i64.wrap b < 9223372036854775808) ∧ R (oB ((ones.bl (IntKind.i64.wrap b).toNat : Int).tmod 2 == 1))) := by kernel_rfl
theorem rodd_all : ∀ m < 256, ones.par m 8 = odd (Int.ofNat m) := by decide +kernel
noncomputable def tROdd : Con := fun args regs => match args, regs with
  | [.c (.i .u8 b)], [] => .must (0 ≤ b ∧ b < 256) (.ret (oB (odd b)))
  | _, _ => .fail
theorem rodd_in {b : Int} (h : 0 ≤ b ∧ b < 256) : ((ones.bl (IntKind.i64.wrap b).toNat : Int).tmod 2 == 1) = odd b := by
  obtain ⟨m, hm, rfl⟩ := byT h
  have hw : IntKind.i64.wrap (Int.ofNat m) = Int.ofNat m := by rw [IntKind.wrap_i64]; show ((m : Int) + _) % _ - _ = (m : Int); omega
  rw [hw, show (Int.ofNat m).toNat = m from rfl, ← rodd_all m hm]
  have hp := ones.bl_par 8 m (by omega)
  rw [Int.tmod_eq_emod_of_nonneg (by omega)]
  cases h2 : ones.par m 8 with
  | true =>
    rw [h2] at hp
    have hp : ones.bl m % 2 = 1 := hp
    rw [beq_iff_eq]
    omega
  | false =>
    rw [h2] at hp
    have hp : ones.bl m % 2 = 0 := hp
    rw [beq_eq_false_iff_ne]
    omega
set_option maxRecDepth 100000 in
theorem kROdd : Known Tryz.prog GL 195 tROdd := by
  refine k_rodd.less fun args regs R h => Box.out ?_
  unfold tROdd at h
  split at h
  case h_2 => exact h.elim
  rename_i b
  have h1 := h.1
  have h2 : R (oB (odd b)) := h.2
  clear h
  refine Box.of_eq (rodd_tree b R) ⟨?_, by rw [rodd_in h1]; exact h2⟩
  rw [IntKind.wrap_i64]
  omega
noncomputable def c_rmk : FuncId → Option Con := conOf [(195, tROdd)]
theorem kc_rmk : ∀ f T, c_rmk f = some T → Known Tryz.prog GL f T := (Knowns.cons kROdd .nil).get
noncomputable def t_rmk : Con := fun args regs => nfun Tryz.prog GL c_rmk [] Tryz.f134 args regs
theorem k_rmk : Known Tryz.prog GL 134 t_rmk := known_inl Tryz.func134 rfl (by kernel_rfl) mixed kc_rmk (by kernel_rfl)
theorem rmk_tree (c : Int) (R : Out → Prop) : (t_rmk [.c (.i .u8 c)] []).run R = ((0 ≤ aU c 127 ∧ aU c 127 < 256) ∧ sel (odd (aU c 127)) (R ⟨.v (.c (.i .u8 (aU c 127))), []⟩) (R ⟨.v (.c (.i .u8 (oU (aU c 127) 128))), []⟩)) := by kernel_rfl
set_option maxRecDepth 100000 in
theorem kRMkO : Known Tryz.prog GL 134 tMkO := by
  refine k_rmk.less fun args regs R h => Box.out ?_
  unfold tMkO at h
  split at h
  case h_2 => exact h.elim
  rename_i c
  have h2 : R ⟨.v (.c (.i .u8 (mkO c))), []⟩ := h
  clear h
  refine Box.of_eq (rmk_tree c R) ⟨aU_in _ _, ?_⟩
  unfold mkO at h2
  cases hc : odd (aU c 127) with
  | true => rw [hc] at h2; exact selT rfl h2
  | false => rw [hc] at h2; exact selF rfl h2
noncomputable abbrev f_odd := Tryz.f60
noncomputable def c_odd : FuncId → Option Con := conOf [(134, tMkO)]
theorem kc_odd : ∀ f T, c_odd f = some T → Known Tryz.prog GL f T := (Knowns.cons kRMkO .nil).get
noncomputable def X_odd : Cx := { P := Tryz.prog, con := c_odd, glob := GL, m := 0, loops := [] }
def arU (xs : List Int) : Reg := ⟨1, 5, .ints .u8 xs⟩
noncomputable def ouC : Option (List Int × Nat) → NC
  | none => .sn
  | some x => .h 0 0 x.2
noncomputable def ouR : Option (List Int × Nat) → List (Option Reg)
  | none => []
  | some x => [some (arU x.1)]
noncomputable def sOd (bs : List Int) (n i : Int) (o : Option (List Int × Nat)) : St := { fr := frame 27 [(0, .v (.c (.l .u8 bs))), (1, .v (.c (.i .i64 n))), (4, .v (.c .sn)), (5, .v (.c (ouC o))), (6, .v (.c (.i .i64 i)))], rg := ouR o }
noncomputable def dOd (o : Option (List Int × Nat)) : St := { fr := frame 27 [(5, .v (.c (ouC o)))], rg := ouR o }
noncomputable def rOd (s : St) : Tr RO := roundT X_odd 0 [0, 1, 4, 5, 6] [5] (bodyLoop f_odd 0) s
def ixU (i : Int) (l : Nat) (A : Prop) : Prop := sel (decide (0 ≤ i)) (sel (decide (i < (l : Int))) (sel (decide (i.toNat < l)) A False) False) False
def apU (m : Nat) (A : Prop) : Prop := sel (decide (0 + m ≤ m)) (sel (decide ((m + 1) * bytesT Tryz.prog 5 ≤ 140737488355328)) (sel (decide (m + 1 ≤ 9223372036854775807)) A False) False) False
noncomputable def nxOd (bs : List Int) (n i : Int) (R : RO → Prop) (xs : List Int) (m : Nat) : Prop := R (.next (sOd bs n (IntKind.i64.wrap (i + 1)) (some (xs, m))))
theorem od_0 (bs : List Int) (n i : Int) (R : RO → Prop) : (rOd (sOd bs n i none)).run R =
    sel (decide (i < n)) (sel (decide (i < (bs.length : Int))) (ixU i bs.length (nxOd bs n i R [mkO (bs.getD i.toNat 0)] 1)) (nxOd bs n i R [mkO 32] 1)) (R (.done .normal (dOd none))) := by kernel_rfl
theorem od_1 (bs : List Int) (n i : Int) (xs : List Int) (R : RO → Prop) : (rOd (sOd bs n i (some (xs, xs.length)))).run R =
    sel (decide (i < n)) (sel (decide (i < (bs.length : Int))) (ixU i bs.length (apU xs.length (nxOd bs n i R (List.take xs.length xs ++ [mkO (bs.getD i.toNat 0)]) (xs.length + 1)))) (apU xs.length (nxOd bs n i R (List.take xs.length xs ++ [mkO 32]) (xs.length + 1)))) (R (.done .normal (dOd (some (xs, xs.length))))) := by kernel_rfl
noncomputable def odV (bs : List Int) (k : Nat) : List Int := (List.range k).map fun i => mkO (bs.getD i 32)
theorem odV_len (bs : List Int) (k : Nat) : (odV bs k).length = k := by unfold odV; rw [List.length_map, List.length_range]
theorem odV_succ (bs : List Int) (k : Nat) : odV bs (k + 1) = odV bs k ++ [mkO (bs.getD k 32)] := by unfold odV; rw [List.range_succ, List.map_append]; rfl
noncomputable def oOd (bs : List Int) : Nat → Option (List Int × Nat)
  | 0 => none
  | k + 1 => some (odV bs (k + 1), k + 1)
theorem bytesU : bytesT Tryz.prog 5 = 1 := by kernel_rfl
theorem apU_in {m : Nat} {A : Prop} (hm : m ≤ 1000) (h : A) : apU m A := by
  unfold apU
  rw [bytesU]
  exact sT (decide_eq_true (by omega)) (sT (decide_eq_true (by omega)) (sT (decide_eq_true (by omega)) h))
theorem ixU_in {i : Int} {l : Nat} {A : Prop} (h : 0 ≤ i ∧ i < (l : Int)) (hA : A) : ixU i l A := sT (decide_eq_true h.1) (sT (decide_eq_true h.2) (sT (decide_eq_true (by omega)) hA))
def rdOd (s : St) : Option (List Int × Int) := match s.fr[(0 : Nat)]?, s.fr[(1 : Nat)]? with
  | some (.v (.c (.l _ bs))), some (.v (.c (.i _ n))) => some (bs, n)
  | _, _ => none
noncomputable def lOd (s : St) : Tr (NExit × St) := match rdOd s with
  | some x => .must (s = sOd x.1 x.2 0 none ∧ 0 < x.2 ∧ x.2 ≤ 100) (.ret (.normal, dOd (some (odV x.1 x.2.toNat, x.2.toNat))))
  | none => .fail
structure AOd where
  bs : List Int
  n : Int
  k : Nat
noncomputable def hOd (a : AOd) : St := sOd a.bs a.n (a.k : Int) (oOd a.bs a.k)
def preOd (a : AOd) (R : NExit × St → Prop) : Prop := ((a.k : Int) ≤ a.n ∧ 0 < a.n ∧ a.n ≤ 100) ∧ R (.normal, dOd (some (odV a.bs a.n.toNat, a.n.toNat)))
def nxtOd (a : AOd) (R : NExit × St → Prop) (o : RO) : Prop := match o with
  | .next s => ∃ y, s = hOd y ∧ (y.n - y.k).toNat < (a.n - a.k).toNat ∧ preOd y R
  | .done e s => R (e, s)
theorem getD_in {bs : List Int} {k : Nat} (h : k < bs.length) : bs.getD k 32 = bs.getD k 0 := by
  rw [List.getD_eq_getElem?_getD, List.getD_eq_getElem?_getD, List.getElem?_eq_getElem h]; rfl
theorem getD_out {bs : List Int} {k : Nat} (h : ¬ k < bs.length) : bs.getD k 32 = 32 := by
  rw [List.getD_eq_getElem?_getD, List.getElem?_eq_none (by omega)]; rfl
theorem od_in (a : AOd) (R : NExit × St → Prop) (h : preOd a R) : Box ((rOd (hOd a)).run (nxtOd a R)) := by
  obtain ⟨bs, n, k⟩ := a
  obtain ⟨⟨h1, h2, h3⟩, hR⟩ := h
  simp only at h1 h2 h3 hR
  have hw : IntKind.i64.wrap ((k : Int) + 1) = ((k + 1 : Nat) : Int) := by rw [IntKind.wrap_i64]; omega
  have nx : ∀ xs m, (k : Int) < n → xs = odV bs (k + 1) → m = k + 1 → nxOd bs n (k : Int) (nxtOd ⟨bs, n, k⟩ R) xs m := by
    rintro xs m hk rfl rfl
    unfold nxOd
    rw [hw]
    exact ⟨⟨bs, n, k + 1⟩, rfl, by simp only; omega, ⟨by simp only; omega, h2, h3⟩, hR⟩
  match k, h1, hw, nx with
  | 0, h1, hw, nx =>
    have e : odV bs 1 = [mkO (bs.getD 0 32)] := rfl
    refine Box.of_eq (od_0 bs n 0 _) (sT (decide_eq_true h2) ?_)
    by_cases hb : 0 < bs.length
    · exact sT (decide_eq_true (by omega)) (ixU_in ⟨by omega, by omega⟩ (nx _ _ h2 (by rw [e, getD_in hb]; rfl) rfl))
    · exact sF (decide_eq_false (by omega)) (nx _ _ h2 (by rw [e, getD_out hb]) rfl)
  | k + 1, h1, hw, nx =>
    have hl := odV_len bs (k + 1)
    have e := odV_succ bs (k + 1)
    have ha : hOd ⟨bs, n, k + 1⟩ = sOd bs n ((k + 1 : Nat) : Int) (some (odV bs (k + 1), (odV bs (k + 1)).length)) := by
      show sOd bs n _ (some (odV bs (k + 1), k + 1)) = _
      rw [hl]
    rw [ha]
    refine Box.of_eq (od_1 bs n _ _ _) ?_
    by_cases hk : ((k + 1 : Nat) : Int) < n
    · refine sT (decide_eq_true hk) ?_
      rw [List.take_length, hl]
      by_cases hb : k + 1 < bs.length
      · exact sT (decide_eq_true (by omega)) (ixU_in ⟨by omega, by omega⟩ (apU_in (by omega) (nx _ _ hk (by rw [e, getD_in hb]; rfl) rfl)))
      · exact sF (decide_eq_false (by omega)) (apU_in (by omega) (nx _ _ hk (by rw [e, getD_out hb]) rfl))
    · refine sF (decide_eq_false hk) ?_
      have hn : n.toNat = k + 1 := by omega
      rw [hn] at hR
      rw [hl]
      exact hR
set_option maxRecDepth 100000 in
theorem loop_od : LOk Tryz.prog GL 0 0 (bodyLoop f_odd 0) lOd := by
  refine loop_ok (X := X_odd) kc_odd mixed (LAll.none (by kernel_rfl)) [0, 1, 4, 5, 6] [5] hOd (fun a => (a.n - a.k).toNat) preOd ?_ ?_
  · intro s R h
    unfold lOd at h
    split at h
    case h_2 => exact h.elim
    rename_i x hx
    obtain ⟨⟨hs, h1, h2⟩, hR⟩ := h
    exact ⟨⟨x.1, x.2, 0⟩, hs, ⟨by simp only; omega, h1, h2⟩, hR⟩
  · intro a R h
    exact Tr.run_mono _ (fun o ho => ho) (od_in a R h).out
noncomputable def t_odd0 : Con := fun args regs => if regs.length = 0 then nfun Tryz.prog GL c_odd [(0, [0, 1, 4, 5, 6], lOd)] f_odd args regs else .fail
theorem k_odd0 : Known Tryz.prog GL 60 t_odd0 := known_loops 0 Tryz.func60 rfl (by kernel_rfl) mixed kc_odd (LAll.one (id := 0) (body := bodyLoop f_odd 0) (by kernel_rfl) rfl loop_od)
noncomputable def t_oddC : Con := softT [] [0] [] [] 0 t_odd0
theorem k_oddC : Known Tryz.prog GL 60 t_oddC := k_odd0.soft [] [0] [] [] 0
noncomputable def oLu (xs : List Int) : Out := ⟨.v (.c (.l .u8 xs)), []⟩
theorem odd_tree (bs : List Int) (n : Int) (R : Out → Prop) : (t_oddC [.c (.l .u8 bs), .c (.i .i64 n)] []).run R = ((sOd bs n 0 none = sOd bs n 0 none ∧ 0 < n ∧ n ≤ 100) ∧ (n.toNat = (odV bs n.toNat).length ∧ R (oLu (odV bs n.toNat)))) := by kernel_rfl
noncomputable def tOddB : Con := fun args regs => match args, regs with
  | [.c (.l _ bs), .c (.i _ n)], [] => .must (args = [.c (.l .u8 bs), .c (.i .i64 n)] ∧ 0 < n ∧ n ≤ 100) (.ret (oLu (odV bs n.toNat)))
  | _, _ => .fail
attribute [local irreducible] t_oddC in
set_option maxRecDepth 100000 in
theorem kOddB : Known Tryz.prog GL 60 tOddB := by
  refine k_oddC.less fun args regs R h => ?_
  unfold tOddB at h
  split at h
  case h_2 => exact h.elim
  rename_i _ bs _ n
  obtain ⟨⟨h1, h2, h3⟩, h⟩ := h
  rw [h1]
  exact (Box.of_eq (odd_tree bs n R) ⟨⟨rfl, h2, h3⟩, (odV_len _ _).symm, h⟩).out
open Go.Proofs.YtlfmkacafppmlaaGreatDoor.pge (Hx)
noncomputable def c_pl0 : FuncId → Option Con := conOf [(12, num.tNumV)]
theorem kc_pl0 : ∀ f T, c_pl0 f = some T → Known Tryz.prog GL f T := (Knowns.cons (known_gl num.kNumV) .nil).get
noncomputable def t_pl0 : Con := fun args regs => nfun Tryz.prog GL c_pl0 [] Tryz.f30 args regs
theorem k_pl0 : Known Tryz.prog GL 30 t_pl0 := known_inl Tryz.func30 rfl (by kernel_rfl) mixed kc_pl0 (by kernel_rfl)
noncomputable def t_rright : Con := fun args regs => nfun Tryz.prog GL (fun _ => Option.none) [] Tryz.f131 args regs
theorem k_rright : Known Tryz.prog GL 131 t_rright := known_inl Tryz.func131 rfl (by kernel_rfl) mixed con_none (by kernel_rfl)
noncomputable def c_rplaced : FuncId → Option Con := conOf [(133, tRPut)]
theorem kc_rplaced : ∀ f T, c_rplaced f = some T → Known Tryz.prog GL f T := (Knowns.cons kg_rput .nil).get
noncomputable def t_rplaced : Con := fun args regs => nfun Tryz.prog GL c_rplaced [] Tryz.f132 args regs
theorem k_rplaced : Known Tryz.prog GL 132 t_rplaced := known_inl Tryz.func132 rfl (by kernel_rfl) mixed kc_rplaced (by kernel_rfl)
noncomputable def c_rpkd : FuncId → Option Con := conOf [(133, tRPut)]
theorem kc_rpkd : ∀ f T, c_rpkd f = some T → Known Tryz.prog GL f T := (Knowns.cons kg_rput .nil).get
noncomputable def t_rpkd : Con := fun args regs => nfun Tryz.prog GL c_rpkd [] Tryz.f61 args regs
theorem k_rpkd : Known Tryz.prog GL 61 t_rpkd := known_inl Tryz.func61 rfl (by kernel_rfl) mixed kc_rpkd (by kernel_rfl)
noncomputable abbrev f_hb := Tryz.f59
noncomputable def c_hb : FuncId → Option Con := conOf [(131, t_rright), (132, t_rplaced), (133, tRPut), (61, t_rpkd)]
theorem kc_hb : ∀ f T, c_hb f = some T → Known Tryz.prog GL f T := (Knowns.cons k_rright (.cons k_rplaced (.cons kg_rput (.cons k_rpkd .nil)))).get
noncomputable def X_hb : Cx := { P := Tryz.prog, con := c_hb, glob := GL, m := 0, loops := [] }
def alB (h : Hx) : Nat → Bool
  | 0 => h.c0
  | 1 => h.c1
  | 2 => h.c2
  | 3 => h.c3
  | 4 => h.c4
  | 5 => h.c5
  | 6 => h.c6
  | 7 => h.c7
  | 8 => h.c8
  | 9 => h.c9
  | 10 => h.c10
  | _ => false
def pw (k : Nat) : Int := Int.ofNat (2 ^ k)
noncomputable def alV (h : Hx) : Nat → Int
  | 0 => 0
  | k + 1 => bif alB h k then bits .or .i64 (alV h k) (pw k) else alV h k
noncomputable def hxR (h : Hx) : Reg := ⟨15, 48, .cells h.nc⟩
noncomputable def sHB (xs : List Int) (h : Hx) (all : Int) (i : Int) : St := { fr := frame 55 [(1, .v (.c (.l .u8 xs))), (2, .v (.c (.p 0 0 0))), (4, .v (.c .sn)), (5, .v (.c (.i .i64 0))), (6, .v (.c (.i .i64 all))), (7, .v (.c (.i .i64 i)))], rg := [some (hxR h)] }
noncomputable def dHB (xs : List Int) (h : Hx) (all : Int) : St := { fr := frame 55 [(1, .v (.c (.l .u8 xs))), (2, .v (.c (.p 0 0 0))), (4, .v (.c .sn)), (5, .v (.c (.i .i64 0))), (6, .v (.c (.i .i64 all)))], rg := [some (hxR h)] }
noncomputable def rHB (s : St) : Tr RO := roundT X_hb 0 [1, 2, 4, 5, 6, 7] [1, 2, 4, 5, 6] (bodyLoop f_hb 0) s
noncomputable def nHB (xs : List Int) (h : Hx) (all : Int) (k : Nat) (R : RO → Prop) : Prop := sel (alB h k) (R (.next (sHB xs h (bits .or .i64 all (pw k)) (Int.ofNat (k + 1))))) (R (.next (sHB xs h all (Int.ofNat (k + 1)))))
theorem hb_0 (xs : List Int) (h : Hx) (all : Int) (R : RO → Prop) : (rHB (sHB xs h all 0)).run R = nHB xs h all 0 R := by kernel_rfl
theorem hb_1 (xs : List Int) (h : Hx) (all : Int) (R : RO → Prop) : (rHB (sHB xs h all 1)).run R = nHB xs h all 1 R := by kernel_rfl
theorem hb_2 (xs : List Int) (h : Hx) (all : Int) (R : RO → Prop) : (rHB (sHB xs h all 2)).run R = nHB xs h all 2 R := by kernel_rfl
theorem hb_3 (xs : List Int) (h : Hx) (all : Int) (R : RO → Prop) : (rHB (sHB xs h all 3)).run R = nHB xs h all 3 R := by kernel_rfl
theorem hb_4 (xs : List Int) (h : Hx) (all : Int) (R : RO → Prop) : (rHB (sHB xs h all 4)).run R = nHB xs h all 4 R := by kernel_rfl
theorem hb_5 (xs : List Int) (h : Hx) (all : Int) (R : RO → Prop) : (rHB (sHB xs h all 5)).run R = nHB xs h all 5 R := by kernel_rfl
theorem hb_6 (xs : List Int) (h : Hx) (all : Int) (R : RO → Prop) : (rHB (sHB xs h all 6)).run R = nHB xs h all 6 R := by kernel_rfl
theorem hb_7 (xs : List Int) (h : Hx) (all : Int) (R : RO → Prop) : (rHB (sHB xs h all 7)).run R = nHB xs h all 7 R := by kernel_rfl
theorem hb_8 (xs : List Int) (h : Hx) (all : Int) (R : RO → Prop) : (rHB (sHB xs h all 8)).run R = nHB xs h all 8 R := by kernel_rfl
theorem hb_9 (xs : List Int) (h : Hx) (all : Int) (R : RO → Prop) : (rHB (sHB xs h all 9)).run R = nHB xs h all 9 R := by kernel_rfl
theorem hb_10 (xs : List Int) (h : Hx) (all : Int) (R : RO → Prop) : (rHB (sHB xs h all 10)).run R = nHB xs h all 10 R := by kernel_rfl
theorem hb_11 (xs : List Int) (h : Hx) (all : Int) (R : RO → Prop) : (rHB (sHB xs h all 11)).run R = R (.done .normal (dHB xs h all)) := by kernel_rfl
theorem hb_k (xs : List Int) (h : Hx) (all : Int) (R : RO → Prop) : ∀ k < 11, (rHB (sHB xs h all (Int.ofNat k))).run R = nHB xs h all k R
  | 0, _ => hb_0 xs h all R
  | 1, _ => hb_1 xs h all R
  | 2, _ => hb_2 xs h all R
  | 3, _ => hb_3 xs h all R
  | 4, _ => hb_4 xs h all R
  | 5, _ => hb_5 xs h all R
  | 6, _ => hb_6 xs h all R
  | 7, _ => hb_7 xs h all R
  | 8, _ => hb_8 xs h all R
  | 9, _ => hb_9 xs h all R
  | 10, _ => hb_10 xs h all R
  | k + 11, hk => absurd hk (by omega)
def rdHB (s : St) : Option (List Int × Hx) := match s.fr[(1 : Nat)]?, s.rg[(0 : Nat)]? with
  | some (.v (.c (.l _ xs))), some (some { body := .cells [.i _ mg, .i _ pn, .i _ sb, .b c0, .b c1, .b c2, .b c3, .b c4, .b c5, .b c6, .b c7, .b c8, .b c9, .b c10, .i _ op], .. }) => some (xs, ⟨mg, pn, sb, c0, c1, c2, c3, c4, c5, c6, c7, c8, c9, c10, op⟩)
  | _, _ => none
noncomputable def lHB (s : St) : Tr (NExit × St) := match rdHB s with
  | some x => .must (s = sHB x.1 x.2 0 0) (.ret (.normal, dHB x.1 x.2 (alV x.2 11)))
  | none => .fail
structure AHB where
  xs : List Int
  h : Hx
  k : Nat
noncomputable def hHB (a : AHB) : St := sHB a.xs a.h (alV a.h a.k) (Int.ofNat a.k)
def preHB (a : AHB) (R : NExit × St → Prop) : Prop := a.k ≤ 11 ∧ R (.normal, dHB a.xs a.h (alV a.h 11))
def nxtHB (a : AHB) (R : NExit × St → Prop) (o : RO) : Prop := match o with
  | .next s => ∃ y, s = hHB y ∧ 11 - y.k < 11 - a.k ∧ preHB y R
  | .done e s => R (e, s)
theorem hb_in (a : AHB) (R : NExit × St → Prop) (h : preHB a R) : Box ((rHB (hHB a)).run (nxtHB a R)) := by
  obtain ⟨xs, h', k⟩ := a
  obtain ⟨h1, hR⟩ := h
  simp only at h1 hR
  by_cases hk : k < 11
  · refine Box.of_eq (hb_k xs h' _ _ k hk) ?_
    unfold nHB
    have e : alV h' (k + 1) = bif alB h' k then bits .or .i64 (alV h' k) (pw k) else alV h' k := rfl
    have nx : ∀ all, all = alV h' (k + 1) → nxtHB ⟨xs, h', k⟩ R (.next (sHB xs h' all (Int.ofNat (k + 1)))) := by
      rintro _ rfl
      exact ⟨⟨xs, h', k + 1⟩, rfl, by simp only; omega, by simp only [preHB]; exact ⟨by omega, hR⟩⟩
    cases hb : alB h' k with
    | true => exact sT rfl (nx _ (by rw [e, hb]; rfl))
    | false => exact sF rfl (nx _ (by rw [e, hb]; rfl))
  · have hk : k = 11 := by omega
    subst hk
    exact Box.of_eq (hb_11 xs h' _ _) hR
set_option maxRecDepth 100000 in
theorem loop_hb : LOk Tryz.prog GL 0 0 (bodyLoop f_hb 0) lHB := by
  refine loop_ok (X := X_hb) kc_hb mixed (LAll.none (by kernel_rfl)) [1, 2, 4, 5, 6, 7] [1, 2, 4, 5, 6] hHB (fun a => 11 - a.k) preHB ?_ ?_
  · intro s R h
    unfold lHB at h
    split at h
    case h_2 => exact h.elim
    rename_i x hx
    obtain ⟨hs, hR⟩ := h
    exact ⟨⟨x.1, x.2, 0⟩, hs, by simp only; omega, hR⟩
  · intro a R h
    exact Tr.run_mono _ (fun o ho => ho) (hb_in a R h).out
noncomputable def t_hb0 : Con := fun args regs => if regs.length = 0 then nfun Tryz.prog GL c_hb [(0, [1, 2, 4, 5, 6, 7], lHB)] f_hb args regs else .fail
theorem k_hb0 : Known Tryz.prog GL 59 t_hb0 := known_loops 0 Tryz.func59 rfl (by kernel_rfl) mixed kc_hb (LAll.one (id := 0) (body := bodyLoop f_hb 0) (by kernel_rfl) rfl loop_hb)
def e16 (x : Int) : Prop := 0 ≤ x ∧ x < 16
noncomputable def pl6 (pn sb b : Int) : List Int := [put (bits .and .i64 pn 15), put (shrv .i64 pn 4), put (bits .and .i64 sb 15), put (bits .or .i64 (bits .and .i64 (shrv .i64 sb 4) 7) (shlv .i64 (bits .and .i64 b 1) 3)), put (bits .and .i64 (shrv .i64 sb 8) 15), put (bits .or .i64 (bits .and .i64 (shrv .i64 sb 12) 3) (shlv .i64 (shrv .i64 b 1) 2))]
noncomputable def m6 (pn sb b : Int) (A : Prop) : Prop := e16 (bits .and .i64 pn 15) ∧ e16 (shrv .i64 pn 4) ∧ e16 (bits .and .i64 sb 15) ∧ e16 (bits .or .i64 (bits .and .i64 (shrv .i64 sb 4) 7) (shlv .i64 (bits .and .i64 b 1) 3)) ∧ e16 (bits .and .i64 (shrv .i64 sb 8) 15) ∧ e16 (bits .or .i64 (bits .and .i64 (shrv .i64 sb 12) 3) (shlv .i64 (shrv .i64 b 1) 2)) ∧ A
noncomputable def t8 (all : Int) : List Int := [put (bits .and .i64 (shrv .i64 all 3) 15), put (bits .and .i64 (shrv .i64 all 7) 15)]
noncomputable def hdD (h : Hx) (all : Int) (xs : List Int) : List Int := pl6 h.pn h.sb (bits .and .i64 all 7) ++ t8 all ++ xs
noncomputable def hdT (h : Hx) (all : Int) (xs : List Int) : List Int := List.take (8 + xs.length) (hdD h all xs)
noncomputable def adr (mg row : Int) : Int := bits .or .i64 (mg.tmod 8) (shlv .i64 (bits .and .i64 row 1) 3)
noncomputable def pkB (mg row : Int) (ds : List Int) : List Int := [put (adr mg row), put (shrv .i64 row 1)] ++ ds
noncomputable def oPr (x : NC) (e : Int) : Out := ⟨.tu [.c x, .c (.i .i64 e)], []⟩
def zz2 (n m : Nat) (A : Prop) : Prop := sel (decide ((n + m) * bytesT Tryz.prog 5 ≤ 140737488355328)) (sel (decide (n + m ≤ 9223372036854775807)) A False) False
noncomputable def hbI (h : Hx) (all : Int) (xs : List Int) (R : Out → Prop) : Prop :=
  m6 h.pn h.sb (bits .and .i64 all 7) (e16 (bits .and .i64 (shrv .i64 all 3) 15) ∧ (e16 (bits .and .i64 (shrv .i64 all 7) 15) ∧ zz2 8 xs.length (sel (decide (0 + (8 + xs.length) ≤ (hdD h all xs).length)) (
    e16 (adr h.mg 0) ∧ (e16 0 ∧ zz2 2 (hdT h all xs).length (2 + (hdT h all xs).length = (pkB h.mg 0 (hdT h all xs)).length ∧ R (oPr (.l .u8 (pkB h.mg 0 (hdT h all xs))) 0)))) False)))
noncomputable def hbT (h : Hx) (xs : List Int) (R : Out → Prop) : Prop :=
  sel (decide (h.mg ≥ 1)) (sel (decide (h.mg ≤ 8)) (sel (decide (h.pn ≥ 0)) (sel (decide (h.pn ≤ 255)) (sel (decide (h.sb ≥ 0)) (sel (!(bits .andNot .i64 h.sb 16255 == 0)) (R (oPr .sn 101)) (sel ((xs.length : Int) != 32) (R (oPr .sn 102))
    (sHB xs h 0 0 = sHB xs h 0 0 ∧ hbI h (alV h 11) xs R))) (R (oPr .sn 101))) (R (oPr .sn 101))) (R (oPr .sn 101))) (R (oPr .sn 101))) (R (oPr .sn 101))
noncomputable def t_hbC : Con := softT [] [0] [] [] 0 t_hb0
theorem k_hbC : Known Tryz.prog GL 59 t_hbC := k_hb0.soft [] [0] [] [] 0
theorem hbc_tree (h : Hx) (xs : List Int) (R : Out → Prop) : (t_hbC [.ag h.nc, .c (.l .u8 xs)] []).run R = hbT h xs R := by kernel_rfl
def right (m p s : Int) : Prop := (1 ≤ m ∧ m ≤ 8) ∧ (0 ≤ p ∧ p ≤ 255) ∧ 0 ≤ s ∧ bits .andNot .i64 s 16255 = 0
theorem adr_all : ∀ g < 8, ∀ r < 32, 0 ≤ adr (Int.ofNat g + 1) (Int.ofNat r) ∧ adr (Int.ofNat g + 1) (Int.ofNat r) < 16 := by decide +kernel
theorem adr_in {m r : Int} (hm : 1 ≤ m ∧ m ≤ 8) (hr : 0 ≤ r ∧ r < 32) : e16 (adr m r) := by
  have := adr_all (m - 1).toNat (by omega) r.toNat (by omega)
  have e1 : Int.ofNat (m - 1).toNat + 1 = m := by show (((m - 1).toNat : Nat) : Int) + 1 = m; omega
  have e2 : Int.ofNat r.toNat = r := by show ((r.toNat : Nat) : Int) = r; omega
  rw [e1, e2] at this
  exact this
theorem m6_in {p s b : Int} {A : Prop} (hp : 0 ≤ p ∧ p ≤ 255) (hb : 0 ≤ b ∧ b < 8) (h : A) : m6 p s b A := by
  have c1 : e16 (aI p 15) := by rw [aI_15]; exact ⟨by omega, by omega⟩
  have c2 : e16 (shrv .i64 p 4) := by rw [sh_4]; exact ⟨by omega, by omega⟩
  have c3 : e16 (aI s 15) := by rw [aI_15]; exact ⟨by omega, by omega⟩
  have c4 : e16 (nb3 s (aI b 1)) := by rw [aI_1, nb3_eq _ _ (by omega)]; exact ⟨by omega, by omega⟩
  have c5 : e16 (nb4 s) := by rw [nb4_eq]; exact ⟨by omega, by omega⟩
  have c6 : e16 (nb5 s (shrv .i64 b 1)) := by rw [sh_1, nb5_eq _ _ (by omega)]; exact ⟨by omega, by omega⟩
  exact ⟨c1, c2, c3, c4, c5, c6, h⟩
theorem zz2_in {n m : Nat} {A : Prop} (h : n + m ≤ 10000) (hA : A) : zz2 n m A := by
  unfold zz2
  rw [bytesU]
  exact sT (decide_eq_true (by omega)) (sT (decide_eq_true (by omega)) hA)
theorem hdD_len (h : Hx) (all : Int) (xs : List Int) : (hdD h all xs).length = 8 + xs.length := by
  unfold hdD
  rw [List.length_append]
  rfl
theorem hdT_eq (h : Hx) (all : Int) (xs : List Int) : hdT h all xs = hdD h all xs := by
  unfold hdT
  rw [← hdD_len h all xs, List.take_length]
noncomputable def hbV (h : Hx) (xs : List Int) : List Int := pkB h.mg 0 (hdD h (alV h 11) xs)
attribute [local irreducible] zz2 in
theorem hbI_in {h : Hx} {all : Int} {xs : List Int} {R : Out → Prop} (hr : right h.mg h.pn h.sb) (hl : xs.length = 32) (hR : R (oPr (.l .u8 (pkB h.mg 0 (hdD h all xs))) 0)) : hbI h all xs R := by
  have ha : 0 ≤ bits .and .i64 all 7 ∧ bits .and .i64 all 7 < 8 := by
    have e : bits .and .i64 all 7 = all % 8 := and_mask64 all 3 (by decide)
    rw [e]
    omega
  have k3 : e16 (bits .and .i64 (shrv .i64 all 3) 15) := by
    have e : bits .and .i64 (shrv .i64 all 3) 15 = (shrv .i64 all 3) % 16 := and_mask64 _ 4 (by decide)
    rw [e]
    exact ⟨by omega, by omega⟩
  have k7 : e16 (bits .and .i64 (shrv .i64 all 7) 15) := by
    have e : bits .and .i64 (shrv .i64 all 7) 15 = (shrv .i64 all 7) % 16 := and_mask64 _ 4 (by decide)
    rw [e]
    exact ⟨by omega, by omega⟩
  have hd := hdD_len h all xs
  have hp : (pkB h.mg 0 (hdD h all xs)).length = 2 + (hdD h all xs).length := by unfold pkB; rw [List.length_append]; rfl
  have h40 : 8 + xs.length ≤ 10000 := by omega
  have h41 : 0 + (8 + xs.length) ≤ (hdD h all xs).length := by omega
  have h42 : 2 + (hdD h all xs).length ≤ 10000 := by omega
  have h43 : e16 (adr h.mg 0) := adr_in hr.1 ⟨by decide, by decide⟩
  have h44 : e16 0 := ⟨by decide, by decide⟩
  unfold hbI
  rw [hdT_eq]
  refine m6_in hr.2.1 ha (And.intro k3 (And.intro k7 ?_))
  refine zz2_in (n := 8) (m := xs.length) h40 ?_
  refine sT (decide_eq_true h41) (And.intro h43 (And.intro h44 ?_))
  exact zz2_in (n := 2) (m := (hdD h all xs).length) h42 (And.intro hp.symm hR)
noncomputable def tHB : Con := fun args regs => match args, regs with
  | [.ag [.i _ mg, .i _ pn, .i _ sb, .b c0, .b c1, .b c2, .b c3, .b c4, .b c5, .b c6, .b c7, .b c8, .b c9, .b c10, .i _ op], .c (.l _ xs)], [] =>
    .must (args = [.ag (Hx.nc ⟨mg, pn, sb, c0, c1, c2, c3, c4, c5, c6, c7, c8, c9, c10, op⟩), .c (.l .u8 xs)] ∧ right mg pn sb ∧ xs.length = 32) (.ret (oPr (.l .u8 (hbV ⟨mg, pn, sb, c0, c1, c2, c3, c4, c5, c6, c7, c8, c9, c10, op⟩ xs)) 0))
  | _, _ => .fail
attribute [local irreducible] t_hbC in
set_option maxRecDepth 100000 in
theorem kHB : Known Tryz.prog GL 59 tHB := by
  refine k_hbC.less fun args regs R h => ?_
  unfold tHB at h
  split at h
  case h_2 => exact h.elim
  rename_i _ mg _ pn _ sb c0 c1 c2 c3 c4 c5 c6 c7 c8 c9 c10 _ op _ xs
  obtain ⟨⟨h1, hr, hl⟩, h⟩ := h
  rw [h1]
  refine (Box.of_eq (hbc_tree ⟨mg, pn, sb, c0, c1, c2, c3, c4, c5, c6, c7, c8, c9, c10, op⟩ xs R) ?_).out
  unfold hbT
  exact sT (decide_eq_true hr.1.1) (sT (decide_eq_true hr.1.2) (sT (decide_eq_true hr.2.1.1) (sT (decide_eq_true hr.2.1.2) (sT (decide_eq_true hr.2.2.1) (sF (by rw [Bool.not_eq_false', beq_iff_eq]; exact hr.2.2.2) (sF (by rw [bne_eq_false_iff_eq]; omega) ⟨rfl, hbI_in hr hl h⟩))))))
def pgs8 : List Int := [0, 1, 2, 35, 153, 255, 26, 16]
def sub4 : List Int := [0, 1, 2, 16255]
def plP (b : Int) : Int := pgs8.getD (b % 8).toNat 0
def plS (c : Int) : Int := sub4.getD (c % 4).toNat 0
def i83 (n : Int) (l : Nat) (A : Prop) : Prop := sel (decide (0 ≤ n)) (sel (decide (n < (l : Int))) (sel (decide (0 + n.toNat < l)) A False) False) False
theorem pl_tree (a b c : Int) (R : Out → Prop) : (t_pl0 [.c (.i .i64 a), .c (.i .i64 b), .c (.i .i64 c)] []).run R =
    (((0 : Int) < 3 ∧ (3 : Int) < 4611686018427387904) ∧ (((0 : Int) < 8 ∧ (8 : Int) < 4611686018427387904) ∧ i83 (b % 8) 8 (((0 : Int) < 4 ∧ (4 : Int) < 4611686018427387904) ∧ i83 (c % 4) 4
      (R ⟨.v (.ag [.i .i64 (IntKind.i64.wrap (a % 3 + 1)), .i .i64 (pgs8.getD (0 + (b % 8).toNat) 0), .i .i64 (sub4.getD (0 + (c % 4).toNat) 0)]), []⟩)))) := by kernel_rfl
noncomputable def oPl (a b c : Int) : Out := ⟨.v (.ag [.i .i64 (a % 3 + 1), .i .i64 (plP b), .i .i64 (plS c)]), []⟩
noncomputable def tPl : Con := fun args regs => match args, regs with
  | [.c (.i _ a), .c (.i _ b), .c (.i _ c)], [] => .must (args = [.c (.i .i64 a), .c (.i .i64 b), .c (.i .i64 c)]) (.ret (oPl a b c))
  | _, _ => .fail
theorem i83_in {n : Int} {l : Nat} {A : Prop} (h : 0 ≤ n ∧ n < (l : Int)) (hA : A) : i83 n l A := sT (decide_eq_true h.1) (sT (decide_eq_true h.2) (sT (decide_eq_true (by omega)) hA))
attribute [local irreducible] t_pl0 in
set_option maxRecDepth 100000 in
theorem kPl : Known Tryz.prog GL 30 tPl := by
  refine k_pl0.less fun args regs R h => ?_
  unfold tPl at h
  split at h
  case h_2 => exact h.elim
  rename_i _ a _ b _ c
  obtain ⟨h1, h⟩ := h
  rw [h1]
  refine (Box.of_eq (pl_tree a b c R) ⟨⟨by decide, by decide⟩, ⟨by decide, by decide⟩, i83_in ⟨by omega, by show b % 8 < 8; omega⟩ ⟨⟨by decide, by decide⟩, i83_in ⟨by omega, by show c % 4 < 4; omega⟩ ?_⟩⟩).out
  have hw : IntKind.i64.wrap (a % 3 + 1) = a % 3 + 1 := by rw [IntKind.wrap_i64]; omega
  rw [hw, Nat.zero_add, Nat.zero_add]
  exact h
theorem plP_in (b : Int) : 0 ≤ plP b ∧ plP b ≤ 255 := by
  have key : ∀ n < 8, 0 ≤ pgs8.getD n 0 ∧ pgs8.getD n 0 ≤ 255 := by decide
  exact key _ (by omega)
theorem pl_right (a b c : Int) : right (a % 3 + 1) (plP b) (plS c) := by
  have key : ∀ n < 4, 0 ≤ sub4.getD n 0 ∧ bits .andNot .i64 (sub4.getD n 0) 16255 = 0 := by decide +kernel
  have h := key (c % 4).toNat (by omega)
  exact ⟨⟨by omega, by omega⟩, plP_in b, h.1, h.2⟩
noncomputable abbrev f_by := Tryz.f16
noncomputable def t_tof : Con := fun args regs => nfun Tryz.prog GL (fun _ => Option.none) [] Tryz.f62 args regs
theorem k_tof : Known Tryz.prog GL 62 t_tof := known_inl Tryz.func62 rfl (by kernel_rfl) mixed con_none (by kernel_rfl)
noncomputable def c_by : FuncId → Option Con := conOf [(12, num.tNumV), (30, tPl), (60, tOddB), (59, tHB), (61, t_rpkd), (62, t_tof), (63, ts.tRTBg)]
theorem kc_by : ∀ f T, c_by f = some T → Known Tryz.prog GL f T := (Knowns.cons (known_gl num.kNumV) (.cons kPl (.cons kOddB (.cons kHB (.cons k_rpkd (.cons k_tof (.cons ts.kRTBg .nil))))))).get
noncomputable def X_by : Cx := { P := Tryz.prog, con := c_by, glob := GL, m := 0, loops := [] }
noncomputable def lp1 : St → Tr (NExit × St) := unroll X_by 1 [1, 2, 3, 4, 5, 6] [1, 2, 3, 4, 5] (bodyLoop f_by 1) 12
noncomputable def t_by : Con := fun args regs => if regs.length = 0 then nfun Tryz.prog GL c_by [(1, [1, 2, 3, 4, 5, 6], lp1)] f_by args regs else .fail
theorem by_loops : (loopsIn (f_by.body.getD .skip)).filter (fun p => p.1 == 1) = [(1, bodyLoop f_by 1)] := by kernel_rfl
theorem by_ranges : rangesIn (f_by.body.getD .skip) = [] := by kernel_rfl
theorem k_by : Known Tryz.prog GL 16 t_by := by
  refine known_loops (c := f_by.body.getD .skip) 0 Tryz.func16 (by kernel_rfl) (by kernel_rfl) mixed kc_by ⟨fun i b hb x hf => ?_, fun i b hb x hf => ?_⟩
  · have hx : x = (1, [1, 2, 3, 4, 5, 6], lp1) := by
      have := List.mem_of_find?_eq_some hf
      simpa using this
    have hi : i = 1 := by
      have := List.find?_some hf
      rw [hx] at this
      exact (eq_of_beq this).symm
    have hm : (i, b) ∈ (loopsIn (f_by.body.getD .skip)).filter (fun p => p.1 == 1) := List.mem_filter.2 ⟨hb, by rw [hi]; rfl⟩
    rw [by_loops, List.mem_singleton] at hm
    cases hm
    rw [hx]
    exact unroll_ok (X := X_by) kc_by mixed (LAll.none (by kernel_rfl)) [1, 2, 3, 4, 5, 6] [1, 2, 3, 4, 5] 12
  · rw [by_ranges] at hb
    cases hb
noncomputable def t_byC : Con := softT [] [0] [(0, 0, 0, .l .u8 [])] [] 0 t_by
theorem k_byC : Known Tryz.prog GL 16 t_byC := k_by.soft [] [0] [(0, 0, 0, .l .u8 [])] [] 0
structure Dv where
  k : Int
  mag : Int
  pg : Int
  sb : Int
  n : Int
  L : List Int
  T : List Int
  W : List Int
  B : List Int
def Dv.nv (d : Dv) : NV := .ag [.i .i64 d.k, .i .i64 d.mag, .i .i64 d.pg, .i .i64 d.sb, .i .i64 d.n, .l .i64 d.L, .l .u8 d.T, .l .u8 d.W, .l .i64 d.B]
noncomputable def cbit (n : Int) (k : Nat) : Bool := bits .and .i64 (shrv .i64 n (Int.ofNat k)) 1 == 1
noncomputable def hxOf (d : Dv) : Hx := ⟨d.mag % 3 + 1, plP d.pg, plS d.sb, cbit d.n 0, cbit d.n 1, cbit d.n 2, cbit d.n 3, cbit d.n 4, cbit d.n 5, cbit d.n 6, cbit d.n 7, cbit d.n 8, cbit d.n 9, cbit d.n 10, 0⟩
def plA (d : Dv) : Prop := [NV.c (.i .i64 d.mag), .c (.i .i64 d.pg), .c (.i .i64 d.sb)] = [NV.c (.i .i64 d.mag), .c (.i .i64 d.pg), .c (.i .i64 d.sb)]
def nmA (m : Int) : Prop := 0 < m ∧ m < 4611686018427387904
def odA (T : List Int) (n : Int) : Prop := [NV.c (.l .u8 T), .c (.i .i64 n)] = [NV.c (.l .u8 T), .c (.i .i64 n)] ∧ 0 < n ∧ n ≤ 100
theorem by_1 (mag pg sb n : Int) (L T W B : List Int) (R : Out → Prop) : (t_byC [Dv.nv ⟨1, mag, pg, sb, n, L, T, W, B⟩] []).run R =
    (plA ⟨1, mag, pg, sb, n, L, T, W, B⟩ ∧ (odA T 32 ∧ (([NV.ag (hxOf ⟨1, mag, pg, sb, n, L, T, W, B⟩).nc, .c (.l .u8 (odV T 32))] = [NV.ag (hxOf ⟨1, mag, pg, sb, n, L, T, W, B⟩).nc, .c (.l .u8 (odV T 32))] ∧ right (mag % 3 + 1) (plP pg) (plS sb) ∧ (odV T 32).length = 32) ∧ R (oLu (hbV (hxOf ⟨1, mag, pg, sb, n, L, T, W, B⟩) (odV T 32)))))) := by kernel_rfl
theorem by_2 (mag pg sb n : Int) (L T W B : List Int) (R : Out → Prop) : (t_byC [Dv.nv ⟨2, mag, pg, sb, n, L, T, W, B⟩] []).run R =
    (plA ⟨2, mag, pg, sb, n, L, T, W, B⟩ ∧ (nmA 25 ∧ (odA T 40 ∧ (e16 (adr (mag % 3 + 1) (n % 25)) ∧ (e16 (shrv .i64 (n % 25) 1) ∧ (42 = 42 ∧ R (oLu (pkB (mag % 3 + 1) (n % 25) (odV T 40))))))))) := by kernel_rfl
noncomputable def opt (n sb : Int) : Int := bits .or .i64 (shlv .i64 (n % 16) 10) (IntKind.i64.wrap ((sb % 5).tdiv 4))
noncomputable def trR (v : Int) : List Sc := [.i (bits .and .i64 v 63), .i (bits .and .i64 (shrv .i64 v 6) 31), .i (bits .and .i64 (shrv .i64 v 11) 127)]
noncomputable def trO (n sb : Int) : List (List Sc) := trR (opt n sb) :: List.replicate 12 [.i 0, .i 0, .i 0]
noncomputable def cdO (pg : Int) : Int := IntKind.i64.wrap (IntKind.i64.wrap ((pg % 3).tdiv 2) * 3)
noncomputable def trB (mg row cd : Int) (rows : List (List Sc)) : List Int := adr0 mg row :: adr1 row :: ts.LTg cd rows
theorem by_5 (mag pg sb n : Int) (L T W B : List Int) (R : Out → Prop) : (t_byC [Dv.nv ⟨5, mag, pg, sb, n, L, T, W, B⟩] []).run R =
    (plA ⟨5, mag, pg, sb, n, L, T, W, B⟩ ∧ (nmA 16 ∧ (nmA 5 ∧ (nmA 3 ∧ sel (ts.okTB (mag % 3 + 1) 28 (cdO pg)) (42 = 42 ∧ R (oLu (trB (mag % 3 + 1) 28 (cdO pg) (trO n sb)))) (R (oLu [])))))) := by kernel_rfl
theorem by_6 (mag pg sb n : Int) (L T W B : List Int) (R : Out → Prop) : (t_byC [Dv.nv ⟨6, mag, pg, sb, n, L, T, W, B⟩] []).run R =
    (plA ⟨6, mag, pg, sb, n, L, T, W, B⟩ ∧ (nmA 16 ∧ (nmA 5 ∧ (nmA 3 ∧ sel (ts.okTB (mag % 3 + 1) 29 (cdO pg)) (42 = 42 ∧ R (oLu (trB (mag % 3 + 1) 29 (cdO pg) (trO n sb)))) (R (oLu [])))))) := by kernel_rfl
noncomputable def byV (d : Dv) : List Int :=
  bif d.k == 1 then hbV (hxOf d) (odV d.T 32) else bif d.k == 2 then pkB (d.mag % 3 + 1) (d.n % 25) (odV d.T 40)
  else bif d.k == 5 then trB (d.mag % 3 + 1) 28 (cdO d.pg) (trO d.n d.sb) else trB (d.mag % 3 + 1) 29 (cdO d.pg) (trO d.n d.sb)
def okD (d : Dv) : Prop := d.k = 1 ∨ d.k = 2 ∨ d.k = 5 ∨ d.k = 6
theorem cdO_in (pg : Int) : 0 ≤ cdO pg ∧ cdO pg ≤ 3 := by
  have key : ∀ n < 3, 0 ≤ IntKind.i64.wrap (IntKind.i64.wrap ((Int.ofNat n).tdiv 2) * 3) ∧ IntKind.i64.wrap (IntKind.i64.wrap ((Int.ofNat n).tdiv 2) * 3) ≤ 3 := by decide +kernel
  have h := key (pg % 3).toNat (by omega)
  have e : Int.ofNat (pg % 3).toNat = pg % 3 := by show (((pg % 3).toNat : Nat) : Int) = pg % 3; omega
  rw [e] at h
  exact h
theorem okTB_of {mg row cd : Int} (hm : 1 ≤ mg ∧ mg ≤ 8) (hc : 0 ≤ cd ∧ cd ≤ 3) (hr : row = 28 ∨ row = 29 ∨ row = 26) : ts.okTB mg row cd = true := by
  unfold ts.okTB
  rw [decide_eq_true (show 1 ≤ mg ∧ mg ≤ 8 ∧ 0 ≤ cd ∧ cd ≤ 15 from ⟨hm.1, hm.2, hc.1, by omega⟩)]
  rcases hr with rfl | rfl | rfl <;> rfl
noncomputable def tBy : Con := fun args regs => match args, regs with
  | [.ag [.i _ k, .i _ mag, .i _ pg, .i _ sb, .i _ n, .l _ L, .l _ T, .l _ W, .l _ B]], [] => .must (args = [Dv.nv ⟨k, mag, pg, sb, n, L, T, W, B⟩] ∧ okD ⟨k, mag, pg, sb, n, L, T, W, B⟩) (.ret (oLu (byV ⟨k, mag, pg, sb, n, L, T, W, B⟩)))
  | _, _ => .fail
attribute [local irreducible] t_byC in
set_option maxRecDepth 100000 in
theorem kBy : Known Tryz.prog GL 16 tBy := by
  refine k_byC.less fun args regs R h => ?_
  unfold tBy at h
  split at h
  case h_2 => exact h.elim
  rename_i _ k _ mag _ pg _ sb _ n _ L _ T _ W _ B
  obtain ⟨⟨h1, hk⟩, h⟩ := h
  rw [h1]
  have hm : 1 ≤ mag % 3 + 1 ∧ mag % 3 + 1 ≤ 8 := ⟨by omega, by omega⟩
  have n16 : nmA 16 := ⟨by decide, by decide⟩
  have n5 : nmA 5 := ⟨by decide, by decide⟩
  have n3 : nmA 3 := ⟨by decide, by decide⟩
  have n25 : nmA 25 := ⟨by decide, by decide⟩
  have hk' : k = 1 ∨ k = 2 ∨ k = 5 ∨ k = 6 := hk
  rcases hk' with rfl | rfl | rfl | rfl
  · exact (Box.of_eq (by_1 mag pg sb n L T W B R) ⟨rfl, ⟨rfl, by decide, by decide⟩, ⟨rfl, pl_right mag pg sb, odV_len _ _⟩, h⟩).out
  · have e1 : e16 (adr (mag % 3 + 1) (n % 25)) := adr_in hm ⟨by omega, by omega⟩
    have e2 : e16 (shrv .i64 (n % 25) 1) := by rw [sh_1]; exact ⟨by omega, by omega⟩
    exact (Box.of_eq (by_2 mag pg sb n L T W B R) ⟨rfl, n25, ⟨rfl, by decide, by decide⟩, e1, e2, rfl, h⟩).out
  · exact (Box.of_eq (by_5 mag pg sb n L T W B R) ⟨rfl, n16, n5, n3, sT (okTB_of hm (cdO_in pg) (.inl rfl)) ⟨rfl, h⟩⟩).out
  · exact (Box.of_eq (by_6 mag pg sb n L T W B R) ⟨rfl, n16, n5, n3, sT (okTB_of hm (cdO_in pg) (.inr (.inl rfl))) ⟨rfl, h⟩⟩).out
end Go.Proofs.YtlfmkacafppmlaaGreatDoor.bm
namespace Go.Proofs.YtlfmkacafppmlaaGreatDoor.df
open Go.Proofs.YtlfmkacafppmlaaGreatDoor.sto (sT sF)
open Go Go.Nx Go.Proofs.YtlfmkacafppmlaaGreatDoor.pk Go.Proofs.YtlfmkacafppmlaaGreatDoor.mac Go.Proofs.YtlfmkacafppmlaaGreatDoor.bm
def B8 (b : Int) : Prop := 0 ≤ b ∧ b < 256
theorem put_in (n : Int) : B8 (put n) := by
  have key : ∀ m < 16, 0 ≤ putL.getD m 0 ∧ putL.getD m 0 < 256 := by decide +kernel
  exact key (n % 16).toNat (by omega)
theorem u8_in (v : BitVec 8) : B8 (u8 v) := by
  have := v.isLt
  unfold B8 u8
  omega
theorem odV_in (T : List Int) (k : Nat) : ∀ b ∈ odV T k, B8 b := by
  intro b hb
  unfold odV at hb
  obtain ⟨i, -, rfl⟩ := List.mem_map.1 hb
  exact sv.mkO_in _
theorem app_in {l m : List Int} (h1 : ∀ b ∈ l, B8 b) (h2 : ∀ b ∈ m, B8 b) : ∀ b ∈ l ++ m, B8 b := fun b hb => (List.mem_append.1 hb).elim (h1 b) (h2 b)
theorem pkB_in {mg row : Int} {ds : List Int} (h : ∀ b ∈ ds, B8 b) : ∀ b ∈ pkB mg row ds, B8 b := List.forall_mem_cons.2 ⟨put_in _, List.forall_mem_cons.2 ⟨put_in _, h⟩⟩
theorem hbV_in (h : pge.Hx) {xs : List Int} (hx : ∀ b ∈ xs, B8 b) : ∀ b ∈ hbV h xs, B8 b := by
  refine pkB_in (app_in (app_in ?_ ?_) hx)
  · unfold pl6
    repeat (refine List.forall_mem_cons.2 ⟨put_in _, ?_⟩)
    intro b hb; cases hb
  · unfold t8
    repeat (refine List.forall_mem_cons.2 ⟨put_in _, ?_⟩)
    intro b hb; cases hb
theorem tw_in (r : List Sc) : ∀ b ∈ tr.tw r, B8 b := by
  unfold tr.tw
  repeat (refine List.forall_mem_cons.2 ⟨u8_in _, ?_⟩)
  intro b hb; cases hb
theorem trB_in (mg row cd : Int) (rows : List (List Sc)) : ∀ b ∈ trB mg row cd rows, B8 b := by
  refine List.forall_mem_cons.2 ⟨put_in _, List.forall_mem_cons.2 ⟨put_in _, ?_⟩⟩
  unfold ts.LTg tr.LT
  refine List.forall_mem_cons.2 ⟨put_in _, ?_⟩
  iterate 12 (refine app_in (tw_in _) ?_)
  exact tw_in _
theorem byV_in (d : Dv) : ∀ b ∈ byV d, B8 b := by
  unfold byV
  cases d.k == 1 with
  | true => exact hbV_in _ (odV_in _ _)
  | false =>
    cases d.k == 2 with
    | true => exact pkB_in (odV_in _ _)
    | false =>
      cases d.k == 5 with
      | true => exact trB_in _ _ _ _
      | false => exact trB_in _ _ _ _
end Go.Proofs.YtlfmkacafppmlaaGreatDoor.df
namespace Go.Proofs.YtlfmkacafppmlaaGreatDoor.rv
open Go.Proofs.YtlfmkacafppmlaaGreatDoor.sto (sT sF Ky Sp kyP kyNC)
open Go.Proofs.YtlfmkacafppmlaaGreatDoor.ac (Pg pgZ)
open Go Go.Nx Go.Proofs.YtlfmkacafppmlaaGreatDoor.pk Go.Proofs.YtlfmkacafppmlaaGreatDoor.mac Go.Proofs.YtlfmkacafppmlaaGreatDoor.bm Go.Proofs.YtlfmkacafppmlaaGreatDoor.rv
def argT (ls : List (Nat × Nat × Nat × NC)) (T : Con) : Con := fun args regs => T (mapVs (nilOf ls) 0 args) regs
theorem Known_args {P : Program} {gl : List Nat} {f : FuncId} {T : Con} (h : Known P gl f T) (ls : List (Nat × Nat × Nat × NC)) : Known P gl f (argT ls T) :=
  ⟨h.goes, fun args regs R hr Γ w vs hw hg ha ho => h.sound (mapVs (nilOf ls) 0 args) regs R hr Γ w vs hw hg (mapVs_soft args vs 0 (fun i j k y _ => nilOf_soft Γ ls i j k y) ha) ho⟩
noncomputable def tByN : Con := argT [(0, 0, 5, .l .i64 []), (0, 0, 6, .l .u8 []), (0, 0, 7, .l .u8 []), (0, 0, 8, .l .i64 [])] tBy
theorem kByN : Known Tryz.prog GL 16 tByN := Known_args kBy _
noncomputable def tRpkN : Con := fun args regs => match args with
  | [.c (.p 0 0 0), .c (.l _ bs)] => onV regs fun V => .must (args = [.c (.p 0 0 0), .c (.l .u8 bs)] ∧ V.m.good ∧ (∀ b ∈ bs, 0 ≤ b ∧ b < 256) ∧ (V.packet bs).2 = none) (.ret (oRe (V.packet bs).1 .en))
  | _ => .fail
theorem kRpkN : Known Tryz.prog GL 36 tRpkN := by
  refine kRpk.less fun args regs R h => ?_
  unfold tRpkN at h
  split at h
  case h_2 => exact h.elim
  rename_i _ bs
  obtain ⟨V, rfl, hV, ⟨h1, hg, hb, he⟩, h⟩ := onV_elim h
  rw [h1]
  refine onV_in (f := fun V => .must ([NV.c (.p 0 0 0), .c (.l .u8 bs)] = [.c (.p 0 0 0), .c (.l .u8 bs)] ∧ V.m.good ∧ ∀ b ∈ bs, 0 ≤ b ∧ b < 256) (errV (V.packet bs).2 (V.packet bs).1)) hV ⟨⟨rfl, hg, hb⟩, ?_⟩
  rw [he]
  exact h
noncomputable def Rv.pk (V : Rv) (d : Dv) : Rv := (V.packet (byV d)).1
def okK (V : Rv) (d : Dv) : Prop := okD d ∧ (V.packet (byV d)).2 = none
theorem shown_good {V : Rv} (h : V.m.good) (x : Pg × Bool) : (V.shown x).m.good := by
  unfold Rv.shown
  split
  · exact pinned_good h _
  · exact h
theorem look_good {V : Rv} (h : V.m.good) : V.look.m.good := by
  unfold Rv.look
  split
  · exact h
  · exact shown_good h _
theorem packet_good {V : Rv} (h : V.m.good) {bs : List Int} (hb : ∀ b ∈ bs, 0 ≤ b ∧ b < 256) : (V.packet bs).1.m.good := by
  have hg := step_good h hb
  unfold Rv.packet
  split
  · exact look_good (V := { V with m := (V.m.step bs).1 }) hg
  · exact hg
theorem tick_good {V : Rv} (h : V.m.good) : V.tick.m.good := by
  unfold Rv.tick
  split
  · exact shown_good (V := V.ticked) h _
  · exact h
theorem key_good {V : Rv} (h : V.m.good) (k : Int) : (V.key k).m.good := by
  unfold Rv.key
  split
  · exact shown_good (V := V.fresh _) (freed_good h) _
  · exact h
theorem pk_good {V : Rv} (h : V.m.good) (d : Dv) : (V.pk d).m.good := packet_good h (df.byV_in d)
noncomputable def pkK (V : Rv) (d : Dv) (A : Prop) : Prop := ([d.nv] = [d.nv] ∧ okD d) ∧ ((inV V = inV V.bk ∧ V.bk.m.ok) ∧ (([NV.c (.p 0 0 0), .c (.l .u8 (byV d))] = [NV.c (.p 0 0 0), .c (.l .u8 (byV d))] ∧ V.bk.m.good ∧ (∀ b ∈ byV d, 0 ≤ b ∧ b < 256) ∧ (V.bk.packet (byV d)).2 = none) ∧ A))
theorem pkK_in {V : Rv} {d : Dv} {A : Prop} (hg : V.m.good) (hk : okK V d) (hA : A) : pkK V d A := by
  unfold pkK
  rw [V.bk_eq hg.far]
  exact ⟨⟨rfl, hk.1⟩, ⟨rfl, hg.ok⟩, ⟨rfl, hg, df.byV_in d, hk.2⟩, hA⟩
def okKs (V : Rv) : List Dv → Prop
  | [] => True
  | d :: l => okK V d ∧ okKs (V.pk d) l
noncomputable def Rv.pks (V : Rv) (l : List Dv) : Rv := l.foldl Rv.pk V
theorem pks_cons (V : Rv) (d : Dv) (l : List Dv) : V.pks (d :: l) = (V.pk d).pks l := rfl
theorem pks_good : ∀ (l : List Dv) {V : Rv}, V.m.good → (V.pks l).m.good
  | [], _, h => h
  | d :: l, _, h => pks_good l (pk_good h d)
def okKb (d : Dv) : Bool := d.k == 1 || (d.k == 2 || (d.k == 5 || d.k == 6))
theorem okKb_of {d : Dv} (h : okKb d = true) : okD d := by
  unfold okKb at h
  unfold okD
  simpa only [Bool.or_eq_true, beq_iff_eq] using h
noncomputable def okKsB (V : Rv) : List Dv → Bool
  | [] => true
  | d :: l => okKb d && ((V.packet (byV d)).2.isNone && okKsB (V.pk d) l)
theorem okKs_of : ∀ {l : List Dv} {V : Rv}, okKsB V l = true → okKs V l
  | [], _, _ => trivial
  | d :: l, V, h => by
    unfold okKsB at h
    rw [Bool.and_eq_true, Bool.and_eq_true] at h
    exact ⟨⟨okKb_of h.1, Option.isNone_iff_eq_none.1 h.2.1⟩, okKs_of h.2.2⟩
end Go.Proofs.YtlfmkacafppmlaaGreatDoor.rv
namespace Go.Proofs.YtlfmkacafppmlaaGreatDoor.tk
open Go.Proofs.YtlfmkacafppmlaaGreatDoor.sto (sT sF Ky Sp kyP kyNC)
open Go.Proofs.YtlfmkacafppmlaaGreatDoor.ac (Pg pgZ)
open Go Go.Nx Go.Proofs.YtlfmkacafppmlaaGreatDoor.pk Go.Proofs.YtlfmkacafppmlaaGreatDoor.mac Go.Proofs.YtlfmkacafppmlaaGreatDoor.bm Go.Proofs.YtlfmkacafppmlaaGreatDoor.rv
noncomputable abbrev f_tk := Tryz.f6
noncomputable def c_tk : FuncId → Option Con := conOf [(34, tF19), (12, num.tNumV), (35, tNewV), (16, tByN), (36, tRpkN), (39, tRkey), (40, tTick), (37, tStat0), (33, hd.tSamePT)]
theorem kc_tk : ∀ f T, c_tk f = some T → Known Tryz.prog GL f T := (Knowns.cons kF19 (.cons (known_gl num.kNumV) (.cons kNewV (.cons kByN (.cons kRpkN (.cons kRkey (.cons kTick (.cons kStat0 (.cons hd.kSamePT .nil))))))))).get
noncomputable def X_tk : Cx := { P := Tryz.prog, con := c_tk, glob := GL, m := 0, loops := [] }
noncomputable def s0 (n : Int) (o : Bool) (V : Rv) (i : Int) : St := { fr := frame 90 [(0, .v (.c (.i .i64 n))), (1, .v (.c (.b o))), (5, .v (.c (.b true))), (6, .v (.c (.p 0 0 0))), (8, .v (.c (.i .i64 i)))], rg := (inV V).map some }
noncomputable def dT (n : Int) (o : Bool) (V : Rv) : St := { fr := frame 90 [(0, .v (.c (.i .i64 n))), (1, .v (.c (.b o))), (5, .v (.c (.b true))), (6, .v (.c (.p 0 0 0)))], rg := (inV V).map some }
noncomputable def r0 (s : St) : Tr RO := roundT X_tk 0 [0, 1, 5, 6, 8] [0, 1, 5, 6] (bodyLoop f_tk 0) s
def dS (i : Int) : Dv := ⟨1, 0, 0, i, 0, [], [], [], []⟩
noncomputable def in0 (n : Int) (o : Bool) (V : Rv) (i : Int) (R : RO → Prop) : Prop := sel (decide (i < 3)) (pkK V (dS i) (R (.next (s0 n o (V.bk.pk (dS i)) (IntKind.i64.wrap (i + 1)))))) (R (.done .normal (dT n o V)))
theorem round_0 (n : Int) (o : Bool) (V : Rv) (i : Int) (R : RO → Prop) : (r0 (s0 n o V i)).run R = in0 n o V i R := by kernel_rfl
noncomputable def s4 (n : Int) (o : Bool) (V : Rv) (i : Int) : St := { fr := frame 90 [(0, .v (.c (.i .i64 n))), (1, .v (.c (.b o))), (5, .v (.c (.b true))), (6, .v (.c (.p 0 0 0))), (11, .v (.c (.i .i64 i)))], rg := (inV V).map some }
noncomputable def r4 (s : St) : Tr RO := roundT X_tk 4 [0, 1, 5, 6, 11] [0, 1, 5, 6] (bodyLoop f_tk 4) s
noncomputable def in4 (n : Int) (o : Bool) (V : Rv) (i : Int) (R : RO → Prop) : Prop := sel (decide (i < n)) ((inV V = inV V.bk ∧ V.bk.m.ok) ∧ (V.bk.m.good ∧ R (.next (s4 n o V.bk.tick (IntKind.i64.wrap (i + 1)))))) (R (.done .normal (dT n o V)))
theorem round_4 (n : Int) (o : Bool) (V : Rv) (i : Int) (R : RO → Prop) : (r4 (s4 n o V i)).run R = in4 n o V i R := by kernel_rfl
noncomputable def s2 (n : Int) (o : Bool) (V : Rv) (j : Int) : St := { fr := frame 90 [(0, .v (.c (.i .i64 n))), (1, .v (.c (.b o))), (5, .v (.c (.b true))), (6, .v (.c (.p 0 0 0))), (43, .v (.c (.h 5 0 5))), (44, .v (.c (.i .i64 5))), (45, .v (.c (.i .i64 j)))], rg := (inV V).map some ++ [some (arI [20, 0, 0, 0, 1])] }
noncomputable def r2 (s : St) : Tr RO := roundT X_tk 2 [0, 1, 5, 6, 43, 44, 45] [0, 1, 5, 6] (bodyLoop f_tk 2) s
def kyA (j : Int) : Int := ([20, 0, 0, 0, 1] : List Int).getD (0 + j.toNat) 0
noncomputable def in2 (n : Int) (o : Bool) (V : Rv) (j : Int) (R : RO → Prop) : Prop := sel (decide (j < 5)) (sel (decide (0 ≤ j)) (sel (decide (j < 5)) (sel (decide (0 + j.toNat < 5)) ((inV V = inV V.bk ∧ V.bk.m.ok) ∧ (([NV.c (.p 0 0 0), .c (.i .i64 (kyA j))] = [NV.c (.p 0 0 0), .c (.i .i64 (kyA j))] ∧ V.bk.p.lk.length = 6 ∧ V.bk.s.ok ∧ V.bk.m.good) ∧ R (.next (s2 n o (V.bk.key (kyA j)) (IntKind.i64.wrap (j + 1)))))) False) False) False) (R (.done .normal (dT n o V)))
theorem round_2 (n : Int) (o : Bool) (V : Rv) (j : Int) (R : RO → Prop) : (r2 (s2 n o V j)).run R = in2 n o V j R := by kernel_rfl
def rdTk (s : St) : Option (Int × Bool × Rv) := match s.fr[(0 : Nat)]?, s.fr[(1 : Nat)]?, s.rg with
  | some (.v (.c (.i _ n))), some (.v (.c (.b o))), some a :: some b :: some c :: some d :: some e :: _ => (match rdRv [a, b, c, d, e] with
    | some V => some (n, o, V)
    | none => none)
  | _, _, _ => none
def L3 : List Dv := [dS 0, dS 1, dS 2]
structure ATk where
  n : Int
  o : Bool
  V : Rv
  i : Nat
def nxtTk (h : ATk → St) (μ : ATk → Nat) (pre : ATk → (NExit × St → Prop) → Prop) (x : ATk) (R : NExit × St → Prop) (q : RO) : Prop := match q with
  | .next s => ∃ y, s = h y ∧ μ y < μ x ∧ pre y R
  | .done e s => R (e, s)
noncomputable def l0 (s : St) : Tr (NExit × St) := match rdTk s with
  | some (n, o, V) => .must (s = s0 n o V 0 ∧ V.m.good ∧ okKs V L3) (.ret (.normal, dT n o (V.pks L3)))
  | none => .fail
noncomputable def h0 (x : ATk) : St := s0 x.n x.o x.V (x.i : Int)
noncomputable def pre0 (x : ATk) (R : NExit × St → Prop) : Prop := x.i ≤ 3 ∧ x.V.m.good ∧ okKs x.V (L3.drop x.i) ∧ R (.normal, dT x.n x.o (x.V.pks (L3.drop x.i)))
theorem L3_at : ∀ {i : Nat}, i < 3 → L3.drop i = dS (i : Int) :: L3.drop (i + 1)
  | 0, _ => rfl
  | 1, _ => rfl
  | 2, _ => rfl
  | _ + 3, h => absurd h (by omega)
attribute [local irreducible] Rv.pk s0 dT in
theorem in0_in (x : ATk) (R : NExit × St → Prop) (h : pre0 x R) : in0 x.n x.o x.V (x.i : Int) (nxtTk h0 (fun x => 3 - x.i) pre0 x R) := by
  obtain ⟨n, o, V, i⟩ := x
  obtain ⟨hi, hg, hk, hR⟩ := h
  simp only at hi hg hk hR
  show in0 n o V (i : Int) (nxtTk h0 (fun x => 3 - x.i) pre0 ⟨n, o, V, i⟩ R)
  unfold in0
  rw [V.bk_eq hg.far]
  by_cases hlt : i < 3
  · have hw : IntKind.i64.wrap ((i : Int) + 1) = ((i + 1 : Nat) : Int) := by rw [IntKind.wrap_i64]; omega
    rw [L3_at hlt] at hk hR
    rw [pks_cons] at hR
    obtain ⟨k1, k2⟩ := hk
    rw [hw]
    refine sT (decide_eq_true (by omega)) (pkK_in hg k1 ?_)
    exact ⟨⟨n, o, V.pk (dS (i : Int)), i + 1⟩, rfl, by simp only; omega, by simp only; omega, pk_good hg _, k2, hR⟩
  · have e : L3.drop i = [] := List.drop_eq_nil_iff.2 (by show 3 ≤ i; omega)
    rw [e] at hR
    exact sF (decide_eq_false (by omega)) hR
set_option maxRecDepth 100000 in
theorem loop_0 : LOk Tryz.prog GL 0 0 (bodyLoop f_tk 0) l0 := by
  refine loop_ok (X := X_tk) kc_tk mixed (LAll.none (by kernel_rfl)) [0, 1, 5, 6, 8] [0, 1, 5, 6] h0 (fun x => 3 - x.i) pre0 ?_ ?_
  · intro s R h
    unfold l0 at h
    split at h
    case h_2 => exact h.elim
    rename_i n o V hx
    obtain ⟨⟨hs, hg, hk⟩, hR⟩ := h
    exact ⟨⟨n, o, V, 0⟩, hs, by simp only; omega, hg, hk, hR⟩
  · intro x R h
    exact Tr.run_mono _ (fun q hq => hq) (Box.of_eq (round_0 x.n x.o x.V (x.i : Int) (nxtTk h0 (fun x => 3 - x.i) pre0 x R)) (in0_in x R h)).out
def Rv.ticks (V : Rv) : Nat → Rv
  | 0 => V
  | k + 1 => Rv.ticks V.tick k
noncomputable def l4 (s : St) : Tr (NExit × St) := match rdTk s with
  | some (n, o, V) => .must (s = s4 n o V 0 ∧ V.m.good ∧ 0 ≤ n ∧ n ≤ 1000) (.ret (.normal, dT n o (Rv.ticks V n.toNat)))
  | none => .fail
noncomputable def h4 (x : ATk) : St := s4 x.n x.o x.V (x.i : Int)
def pre4 (x : ATk) (R : NExit × St → Prop) : Prop := ((x.i : Int) ≤ x.n ∧ x.n ≤ 1000) ∧ x.V.m.good ∧ R (.normal, dT x.n x.o (Rv.ticks x.V (x.n.toNat - x.i)))
theorem in4_in (x : ATk) (R : NExit × St → Prop) (h : pre4 x R) : in4 x.n x.o x.V (x.i : Int) (nxtTk h4 (fun x => x.n.toNat - x.i) pre4 x R) := by
  obtain ⟨n, o, V, i⟩ := x
  obtain ⟨hi, hg, hR⟩ := h
  simp only at hi hg hR
  show in4 n o V (i : Int) (nxtTk h4 (fun x => x.n.toNat - x.i) pre4 ⟨n, o, V, i⟩ R)
  unfold in4
  rw [V.bk_eq hg.far]
  by_cases hlt : (i : Int) < n
  · have hw : IntKind.i64.wrap ((i : Int) + 1) = ((i + 1 : Nat) : Int) := by rw [IntKind.wrap_i64]; omega
    have he : n.toNat - i = (n.toNat - (i + 1)) + 1 := by omega
    rw [he] at hR
    rw [hw]
    exact sT (decide_eq_true hlt) ⟨⟨rfl, hg.ok⟩, hg, ⟨n, o, V.tick, i + 1⟩, rfl, by simp only; omega, ⟨by simp only; omega, hi.2⟩, tick_good hg, hR⟩
  · have he : n.toNat - i = 0 := by omega
    rw [he] at hR
    exact sF (decide_eq_false hlt) hR
set_option maxRecDepth 100000 in
theorem loop_4 : LOk Tryz.prog GL 0 4 (bodyLoop f_tk 4) l4 := by
  refine loop_ok (X := X_tk) kc_tk mixed (LAll.none (by kernel_rfl)) [0, 1, 5, 6, 11] [0, 1, 5, 6] h4 (fun x => x.n.toNat - x.i) pre4 ?_ ?_
  · intro s R h
    unfold l4 at h
    split at h
    case h_2 => exact h.elim
    rename_i n o V hx
    obtain ⟨⟨hs, hg, hn, hm⟩, hR⟩ := h
    exact ⟨⟨n, o, V, 0⟩, hs, ⟨by simp only; omega, hm⟩, hg, hR⟩
  · intro x R h
    exact Tr.run_mono _ (fun q hq => hq) (Box.of_eq (round_4 x.n x.o x.V (x.i : Int) (nxtTk h4 (fun x => x.n.toNat - x.i) pre4 x R)) (in4_in x R h)).out
def okKy (V : Rv) : List Int → Prop
  | [] => True
  | k :: l => (V.p.lk.length = 6 ∧ V.s.ok) ∧ okKy (V.key k) l
noncomputable def Rv.keys (V : Rv) (l : List Int) : Rv := l.foldl Rv.key V
def K5 : List Int := [20, 0, 0, 0, 1]
noncomputable def l2 (s : St) : Tr (NExit × St) := match rdTk s with
  | some (n, o, V) => .must (s = s2 n o V 0 ∧ V.m.good ∧ okKy V K5) (.ret (.normal, dT n o (Rv.keys V K5)))
  | none => .fail
noncomputable def h2 (x : ATk) : St := s2 x.n x.o x.V (x.i : Int)
noncomputable def pre2 (x : ATk) (R : NExit × St → Prop) : Prop := x.i ≤ 5 ∧ x.V.m.good ∧ okKy x.V (K5.drop x.i) ∧ R (.normal, dT x.n x.o (Rv.keys x.V (K5.drop x.i)))
theorem K5_at : ∀ {i : Nat}, i < 5 → K5.drop i = kyA (i : Int) :: K5.drop (i + 1)
  | 0, _ => rfl
  | 1, _ => rfl
  | 2, _ => rfl
  | 3, _ => rfl
  | 4, _ => rfl
  | _ + 5, h => absurd h (by omega)
theorem keys_cons (V : Rv) (k : Int) (l : List Int) : Rv.keys V (k :: l) = Rv.keys (V.key k) l := rfl
attribute [local irreducible] Rv.key s2 dT in
theorem in2_in (x : ATk) (R : NExit × St → Prop) (h : pre2 x R) : in2 x.n x.o x.V (x.i : Int) (nxtTk h2 (fun x => 5 - x.i) pre2 x R) := by
  obtain ⟨n, o, V, i⟩ := x
  obtain ⟨hi, hg, hk, hR⟩ := h
  simp only at hi hg hk hR
  show in2 n o V (i : Int) (nxtTk h2 (fun x => 5 - x.i) pre2 ⟨n, o, V, i⟩ R)
  unfold in2
  rw [V.bk_eq hg.far]
  by_cases hlt : i < 5
  · have hw : IntKind.i64.wrap ((i : Int) + 1) = ((i + 1 : Nat) : Int) := by rw [IntKind.wrap_i64]; omega
    rw [K5_at hlt] at hk hR
    rw [keys_cons] at hR
    obtain ⟨k1, k2⟩ := hk
    rw [hw]
    refine sT (decide_eq_true (by omega)) (sT (decide_eq_true (by omega)) (sT (decide_eq_true (by omega)) (sT (decide_eq_true (by omega)) ⟨⟨rfl, hg.ok⟩, ⟨rfl, k1.1, k1.2, hg⟩, ?_⟩)))
    exact ⟨⟨n, o, V.key (kyA (i : Int)), i + 1⟩, rfl, by simp only; omega, by simp only; omega, key_good hg _, k2, hR⟩
  · have e : K5.drop i = [] := List.drop_eq_nil_iff.2 (by show 5 ≤ i; omega)
    rw [e] at hR
    exact sF (decide_eq_false (by omega)) hR
set_option maxRecDepth 100000 in
theorem loop_2 : LOk Tryz.prog GL 0 2 (bodyLoop f_tk 2) l2 := by
  refine loop_ok (X := X_tk) kc_tk mixed (LAll.none (by kernel_rfl)) [0, 1, 5, 6, 43, 44, 45] [0, 1, 5, 6] h2 (fun x => 5 - x.i) pre2 ?_ ?_
  · intro s R h
    unfold l2 at h
    split at h
    case h_2 => exact h.elim
    rename_i n o V hx
    obtain ⟨⟨hs, hg, hk⟩, hR⟩ := h
    exact ⟨⟨n, o, V, 0⟩, hs, by simp only; omega, hg, hk, hR⟩
  · intro x R h
    exact Tr.run_mono _ (fun q hq => hq) (Box.of_eq (round_2 x.n x.o x.V (x.i : Int) (nxtTk h2 (fun x => 5 - x.i) pre2 x R)) (in2_in x R h)).out
noncomputable def t_tk : Con := fun args regs => if regs.length = 0 then nfun Tryz.prog GL c_tk [(0, [0, 1, 5, 6, 8], l0), (2, [0, 1, 5, 6, 43, 44, 45], l2), (4, [0, 1, 5, 6, 11], l4)] f_tk args regs else .fail
theorem k_tk : Known Tryz.prog GL 6 t_tk := known_loops 0 Tryz.func6 rfl (by kernel_rfl) mixed kc_tk (LAll.three (i1 := 0) (i2 := 2) (i3 := 4) (b1 := bodyLoop f_tk 0) (b2 := bodyLoop f_tk 2) (b3 := bodyLoop f_tk 4) (by kernel_rfl) rfl (by decide) loop_0 loop_2 loop_4)
noncomputable def oBl (b : Bool) : Out := ⟨.v (.c (.b b)), []⟩
def dF : Dv := ⟨1, 0, 5, 0, 0, [], [], [], []⟩
def wnt (n : Int) : Bool → Int
  | true => 1
  | false => (IntKind.i64.wrap (2 + IntKind.i64.wrap (n.tdiv 4))).tmod 3
noncomputable def ansT (V : Rv) (n w : Int) (R : Out → Prop) : Prop := sel V.fd (sel (V.tk == n) ((V.p.mg = 1 ∧ V.p.pn = 0 ∧ V.p.sb = w) ∧ R (oBl ((V.m.st.L.length : Int) == 3))) (R (oBl false))) (R (oBl false))
noncomputable def endT (V : Rv) (n w : Int) (R : Out → Prop) : Prop := (inV V = inV V.bk ∧ V.bk.m.ok) ∧ ((V.bk.s.sub = false ∧ V.bk.s.ds = []) ∧ ansT V.bk n w R)
noncomputable def tkkT (n : Int) (o : Bool) (V : Rv) (w : Int) (R : Out → Prop) : Prop := (s4 n o V 0 = s4 n o V.bk 0 ∧ V.bk.m.good ∧ 0 ≤ n ∧ n ≤ 1000) ∧ endT (Rv.ticks V.bk n.toNat) n w R
noncomputable def kyyT (n : Int) (V : Rv) (R : Out → Prop) : Prop := (s2 n true V 0 = s2 n true V.bk 0 ∧ V.bk.m.good ∧ okKy V.bk K5) ∧ tkkT n true (Rv.keys V.bk K5) (wnt n true) R
noncomputable def tkT (n : Int) (o : Bool) (R : Out → Prop) (rest : Rv → Prop) : Prop := ((0 : Int) < 100 ∧ (100 : Int) < 4611686018427387904) ∧ ([NV.c (.i .i64 6)] = [NV.c (.i .i64 6)] ∧ ((s0 (n % 100) o (rvN 6) 0 = s0 (n % 100) o (rvN 6).bk 0 ∧ (rvN 6).bk.m.good ∧ okKs (rvN 6).bk L3) ∧ pkK (Rv.pks (rvN 6).bk L3) dF (rest ((Rv.pks (rvN 6).bk L3).bk.pk dF))))
theorem tk_1 (n : Int) (R : Out → Prop) : (t_tk [.c (.i .i64 n), .c (.b true)] []).run R = tkT n true R (fun V => kyyT (n % 100) V R) := by kernel_rfl
theorem tk_0 (n : Int) (R : Out → Prop) : (t_tk [.c (.i .i64 n), .c (.b false)] []).run R = tkT n false R (fun V => tkkT (n % 100) false V (wnt (n % 100) false) R) := by kernel_rfl
noncomputable def fin (V : Rv) (n w : Int) : Bool := !V.s.sub && (V.s.ds.isEmpty && (V.fd && ((V.tk == n) && ((V.p.mg == 1) && ((V.p.pn == 0) && ((V.p.sb == w) && ((V.m.st.L.length : Int) == 3)))))))
noncomputable def goT (o : Bool) : Nat → Nat → Rv → Bool
  | 0, _, _ => true
  | f + 1, i, V => fin V (Int.ofNat i) (wnt (Int.ofNat i) o) && goT o f (i + 1) V.tick
theorem goT_at {o : Bool} : ∀ {f i : Nat} {V : Rv}, goT o f i V = true → ∀ k < f, fin (Rv.ticks V k) (Int.ofNat (i + k)) (wnt (Int.ofNat (i + k)) o) = true
  | 0, _, _, _, _, h => absurd h (by omega)
  | f + 1, i, V, h, 0, _ => by
    unfold goT at h
    rw [Bool.and_eq_true] at h
    exact h.1
  | f + 1, i, V, h, k + 1, hk => by
    unfold goT at h
    rw [Bool.and_eq_true] at h
    have := goT_at h.2 k (by omega)
    have e : i + (k + 1) = i + 1 + k := by omega
    rw [e]
    exact this
noncomputable def okKyB (V : Rv) : List Int → Bool
  | [] => true
  | k :: l => (decide (V.p.lk.length = 6) && (decide (V.s.ds.length ≤ 2) && decide (V.s.su.length ≤ 3))) && okKyB (V.key k) l
theorem okKy_of : ∀ {l : List Int} {V : Rv}, okKyB V l = true → okKy V l
  | [], _, _ => trivial
  | k :: l, V, h => by
    unfold okKyB at h
    rw [Bool.and_eq_true, Bool.and_eq_true, Bool.and_eq_true] at h
    exact ⟨⟨of_decide_eq_true h.1.1, of_decide_eq_true h.1.2.1, of_decide_eq_true h.1.2.2⟩, okKy_of h.2⟩
noncomputable def W0 : Rv := rvN 6
noncomputable def W1 : Rv := W0.pks L3
noncomputable def W2 : Rv := W1.pk dF
noncomputable def W3 : Rv := Rv.keys W2 K5
theorem c_1 : okKsB W0 L3 = true := by kernel_rfl
theorem c_2 : (okKb dF && (W1.packet (byV dF)).2.isNone) = true := by kernel_rfl
theorem c_3 : okKyB W2 K5 = true := by kernel_rfl
theorem c_4 : goT false 100 0 W2 = true := by kernel_rfl
theorem c_5 : goT true 100 0 W3 = true := by kernel_rfl
theorem ticks_good : ∀ (k : Nat) {V : Rv}, V.m.good → (Rv.ticks V k).m.good
  | 0, _, h => h
  | k + 1, _, h => ticks_good k (tick_good h)
theorem keys_good : ∀ (l : List Int) {V : Rv}, V.m.good → (Rv.keys V l).m.good
  | [], _, h => h
  | k :: l, _, h => keys_good l (key_good h k)
theorem g0 : W0.m.good := mcN_good (by decide) (by decide)
theorem g1 : W1.m.good := pks_good L3 g0
theorem g2 : W2.m.good := pk_good g1 dF
theorem g3 : W3.m.good := keys_good K5 g2
theorem end_in {V : Rv} {n w : Int} {R : Out → Prop} (hg : V.m.good) (h : fin V n w = true) (hR : R (oBl true)) : endT V n w R := by
  unfold fin at h
  simp only [Bool.and_eq_true, Bool.not_eq_true', beq_iff_eq, List.isEmpty_iff] at h
  obtain ⟨h1, h2, h3, h4, h5, h6, h7, h8⟩ := h
  unfold endT
  rw [V.bk_eq hg.far]
  refine ⟨⟨rfl, hg.ok⟩, ⟨h1, h2⟩, ?_⟩
  unfold ansT
  refine sT h3 (sT (beq_iff_eq.2 h4) ⟨⟨h5, h6, h7⟩, ?_⟩)
  rw [h8]
  exact hR
theorem tkk_in {n : Int} {o : Bool} {V : Rv} {R : Out → Prop} (hg : V.m.good) (hn : 0 ≤ n ∧ n < 100) (h : goT o 100 0 V = true) (hR : R (oBl true)) : tkkT n o V (wnt n o) R := by
  unfold tkkT
  rw [V.bk_eq hg.far]
  refine ⟨⟨rfl, hg, hn.1, by omega⟩, ?_⟩
  have := goT_at h n.toNat (by omega)
  rw [Nat.zero_add] at this
  have e : Int.ofNat n.toNat = n := by show ((n.toNat : Nat) : Int) = n; omega
  rw [e] at this
  exact end_in (ticks_good _ hg) this hR
theorem c_2' : okK W1 dF := by
  have h := c_2
  rw [Bool.and_eq_true] at h
  exact ⟨okKb_of h.1, Option.isNone_iff_eq_none.1 h.2⟩
theorem tkT_in {n : Int} {o : Bool} {R : Out → Prop} {rest : Rv → Prop} (h : rest W2) : tkT n o R rest := by
  unfold tkT
  have e0 : (rvN 6).bk = W0 := Rv.bk_eq _ g0.far
  rw [e0]
  have e1 : (W0.pks L3).bk = W1 := Rv.bk_eq _ g1.far
  rw [e1]
  exact ⟨⟨by decide, by decide⟩, rfl, ⟨rfl, g0, okKs_of c_1⟩, pkK_in g1 c_2' h⟩
theorem in_0 (n : Int) {R : Out → Prop} (hR : R (oBl true)) : tkT n false R (fun V => tkkT (n % 100) false V (wnt (n % 100) false) R) := tkT_in (tkk_in g2 ⟨by omega, by omega⟩ c_4 hR)
theorem in_1 (n : Int) {R : Out → Prop} (hR : R (oBl true)) : tkT n true R (fun V => kyyT (n % 100) V R) := by
  refine tkT_in ?_
  unfold kyyT
  have e2 : W2.bk = W2 := Rv.bk_eq _ g2.far
  rw [e2]
  exact ⟨⟨rfl, g2, okKy_of c_3⟩, tkk_in g3 ⟨by omega, by omega⟩ c_5 hR⟩
attribute [local irreducible] t_tk in
theorem tk_yes (n : Int) (o : Bool) : Holds (t_tk [.c (.i .i64 n), .c (.b o)] []) fun q => q.res = .v (.c (.b true)) := by
  cases o with
  | true => exact ⟨Box.out (Box.of_eq (tk_1 n _) (in_1 n rfl))⟩
  | false => exact ⟨Box.out (Box.of_eq (tk_0 n _) (in_0 n rfl))⟩
def shsTk : List Sh := [.i .i64, .b]
theorem tk_law (xs : List NV) (h : R2 ShOk shsTk xs) : Holds (t_tk xs []) fun o => o.res = .v (.c (.b true)) := by
  cases h with
  | cons h1 h =>
    cases h with
    | cons h2 h =>
      cases h
      cases h1 with
      | @i _ n _ =>
        cases h2 with
        | @b o => exact tk_yes n o
end Go.Proofs.YtlfmkacafppmlaaGreatDoor.tk
