/-
  The law MinitelLost.
-/
import Derived.Test.YtdijbpokklgjlaaGreatDoorMnI
set_option linter.unusedVariables false
namespace Go.Proofs.YtdijbpokklgjlaaGreatDoor.mtl
open Go Go.Nx Go.Proofs.YtdijbpokklgjlaaGreatDoor.prt
open Go.Proofs.YtdijbpokklgjlaaGreatDoor.lex (arr lx InBytes mkEv K7 kMake)
open Go.Proofs.YtdijbpokklgjlaaGreatDoor.lxv (wf cel pend shft cc evts okP ev ignR)
open Go.Proofs.YtdijbpokklgjlaaGreatDoor.scr (Scr Ev eventS rollsS Ins newS)

noncomputable abbrev f_lo := Tryz.f4
noncomputable def c_lo : FuncId → Option Con := conOf [(7, tFst), (11, num.tNumV), (8, tNewM), (14, tLn2), (10, lex.tMake), (9, tByM 2),
  (15, tOut), (12, tTake), (16, tLost), (13, tSmB)]
theorem kc_lo : ∀ f T, c_lo f = some T → Known Tryz.prog [] f T := (Knowns.cons kFst (.cons num.kNumV (.cons kNewM (.cons kLn2 (.cons kMake (.cons kModem.known (.cons kOut.known (.cons kTake.known (.cons kLost.known (.cons kSmB .nil)))))))))).get
noncomputable def X_lo : Cx := { P := Tryz.prog, con := c_lo, glob := [], m := 0, loops := [] }
noncomputable def lvI : List Nat := [0, 1, 5, 6, 8, 9, 10, 11, 40, 41, 42]
noncomputable def lvO : List Nat := [0, 1, 5, 6, 8, 9, 10, 11]
noncomputable def lpI : List (Nat × List Nat × (St → Tr (NExit × St))) := [(2, lvI, unroll X_lo 2 lvI lvO (bodyLoop f_lo 2) 4)]
noncomputable def X_lo2 : Cx := { P := Tryz.prog, con := c_lo, glob := [], m := 0, loops := lpI }
noncomputable def s_lo (M : Mn) (most n : Int) (w : List Int) (k : Nat) (lost i : Int) : St := { fr := frame 86 [(0, .v (.c (.i .i64 most))), (1, .v (.c (.i .i64 n))), (5, .v (.c (.b true))), (6, .v (.c (.p 0 0 0))), (8, .v (.c (.hz 7 k))), (9, .v (.c (.i .i64 lost))), (10, .v (.c (.l .u8 oneV))), (11, .v (.c (.i .i64 i)))], rg := (mnIn M).map some ++ [some (arr w)] }
noncomputable def e_lo (M : Mn) (w : List Int) (k : Nat) (lost : Int) : St := { fr := frame 86 [(5, .v (.c (.b true))), (6, .v (.c (.p 0 0 0))), (8, .v (.c (.hz 7 k))), (9, .v (.c (.i .i64 lost)))], rg := (mnIn M).map some ++ [some (arr w)] }
noncomputable def mdR (c : Int) (M : Mn) (N : Mn → Prop) : Prop := (0 ≤ c ∧ c < 256) ∧ lensR M ∧ (OkM (nrm M) ∧ byte (mkEv c)) ∧ N (comesM 2 (mkEv c) (nrm M))
theorem round_lo (M : Mn) (most n : Int) (w : List Int) (lost i : Int) (R : RO → Prop) : (roundT X_lo2 0 lvO [5, 6, 8, 9] (bodyLoop f_lo 0) (s_lo M most n w w.length lost i)).run R =
    sel (decide (i < n)) (mdR 27 M fun M1 => mdR 57 M1 fun M2 => mdR 123 M2 fun M3 => sel (decide (w64 ((w.length : Int) + 5) ≤ most)) (apB w oneV (R (.next (s_lo M3 most n (cutB w oneV) (w.length + oneV.length) lost (w64 (i + 1))))))
      (R (.next (s_lo M3 most n w w.length (w64 (lost + 1)) (w64 (i + 1)))))) (R (.done .normal (e_lo M w w.length lost))) := by kernel_rfl

/-! ### the loop, summed up -/
def goLo (most : Int) : Nat → List Int → Int → List Int × Int
  | 0, o, k => (o, k)
  | n + 1, o, k => if (o.length : Int) + 5 ≤ most then goLo most n (o ++ oneV) k else goLo most n o (w64 (k + 1))
structure ALo where
  most : Int
  n : Int
  o : List Int
  k : Int
  i : Int
noncomputable def h_lo (a : ALo) : St := s_lo (LM a.most a.o a.k) a.most a.n a.o a.o.length a.k a.i
noncomputable def end_lo (most : Int) (r : List Int × Int) : NExit × St := (.normal, e_lo (LM most r.1 r.2) r.1 r.1.length r.2)
def boLo (most n : Int) : Prop := 1 ≤ most ∧ most ≤ 40 ∧ 0 ≤ n ∧ n ≤ 20
def preLo (a : ALo) (R : NExit × St → Prop) : Prop := boLo a.most a.n ∧ 0 ≤ a.i ∧ a.o.length ≤ 40 ∧ R (end_lo a.most (goLo a.most (a.n - a.i).toNat a.o a.k))
theorem lm_ok {most : Int} {o : List Int} {k : Int} (h : most ≤ 5000) (ho : o.length ≤ 5000) : OkM (LM most o k) := ⟨ins_newS, startP_ok, h, ho, by simp [LM, newM], OkL.nil, OkL.nil, OkL.nil⟩
theorem ok_l2 {M : Mn} (h : OkM M) {l : LL} (hl : OkL l) : OkM { M with l2 := l } := ⟨h.sc, h.p, h.most, h.o2, h.o3, h.l1, hl, h.l3⟩
theorem okL_1 : OkL ⟨[27], 0⟩ := OkL.next (l := ⟨[], 0⟩) OkL.nil (b := mkEv 27) (by decide +kernel)
theorem okL_2 : OkL ⟨[27, 57], 0⟩ := OkL.next (l := ⟨[27], 0⟩) okL_1 (b := mkEv 57) (by decide +kernel)
theorem mdR_in {c : Int} {M : Mn} {N : Mn → Prop} (hc : 0 ≤ c ∧ c < 256) (hM : OkM M) (hN : N (comesM 2 (mkEv c) M)) : mdR c M N := by
  unfold mdR
  rw [nrm_eq hM.p]
  exact ⟨hc, lensR_in M, ⟨hM, mkEv_byte hc⟩, hN⟩
theorem ask3_in {most : Int} {o : List Int} {k : Int} {N : Mn → Prop} (h : most ≤ 5000) (ho : o.length ≤ 5000) (hN : N (sendM 2 oneV (LM most o k))) : mdR 27 (LM most o k) fun M1 => mdR 57 M1 fun M2 => mdR 123 M2 N := by
  have hM := lm_ok (k := k) h ho
  refine mdR_in (by decide) hM ?_
  rw [lm_1]
  refine mdR_in (by decide) (ok_l2 hM okL_1) ?_
  rw [lm_2]
  refine mdR_in (by decide) (ok_l2 hM okL_2) ?_
  rw [lm_3]
  exact hN
theorem oneV_len : oneV.length = 5 := rfl
def rdLo (s : St) : Option (Int × Int) := match s.fr[(0 : Nat)]?, s.fr[(1 : Nat)]? with
  | some (.v (.c (.i _ most))), some (.v (.c (.i _ n))) => some (most, n)
  | _, _ => none
noncomputable def l_lo (s : St) : Tr (NExit × St) := match rdLo s with
  | some (most, n) => .must (s = s_lo (LM most [] 0) most n [] 0 0 0 ∧ boLo most n) (.ret (end_lo most (goLo most n.toNat [] 0)))
  | none => .fail
theorem inner_lo : LAll X_lo2 (bodyLoop f_lo 0) := LAll.one (id := 2) (body := bodyLoop f_lo 2) (by kernel_rfl) rfl (unroll_ok (X := X_lo) kc_lo mixed (LAll.none (by kernel_rfl)) lvI lvO 4)
set_option maxRecDepth 100000 in
theorem loop_lo : LOk Tryz.prog [] 0 0 (bodyLoop f_lo 0) l_lo := by
  refine loop_ok (X := X_lo2) kc_lo mixed inner_lo lvO [5, 6, 8, 9] h_lo (fun a => (a.n - a.i).toNat) preLo ?_ ?_
  · intro s R h
    unfold l_lo at h
    split at h
    case h_2 => exact h.elim
    rename_i most n hrd
    obtain ⟨⟨hs, hb⟩, hR⟩ := h
    refine ⟨⟨most, n, [], 0, 0⟩, hs, hb, by simp, by simp, ?_⟩
    show R (end_lo most (goLo most (n - 0).toNat [] 0))
    rw [Int.sub_zero]
    exact hR
  · intro a R h
    obtain ⟨most, n, o, k, i⟩ := a
    obtain ⟨hb, h0, ho, hR⟩ := h
    simp only at hb h0 ho hR
    obtain ⟨hb1, hb2, hb3, hb4⟩ := hb
    refine Tr.run_mono _ (fun o ho => ho) (Box.of_eq (round_lo (LM most o k) most n o k i _) (sel_by (fun hlt => ask3_in (by omega) (by omega) ?_) fun hlt => ?_)).out
    · have hw : w64 (i + 1) = i + 1 := w64_id (by omega)
      have hw2 : w64 ((o.length : Int) + 5) = o.length + 5 := w64_id (by omega)
      have hn : (n - i).toNat = (n - (i + 1)).toNat + 1 := by omega
      rw [hn] at hR
      simp only [goLo] at hR
      rw [lm_send, hw, hw2]
      refine sel_by (fun hm => ?_) fun hm => ?_
      · rw [if_pos hm] at hR ⊢
        have hcl : (cutB o oneV).length = o.length + oneV.length := by rw [cutB_eq, List.length_append]
        refine apB_in (by omega) (by rw [oneV_len]; omega) ⟨⟨most, n, o ++ oneV, k, i + 1⟩, ?_, by simp only; omega, ⟨hb1, hb2, hb3, hb4⟩, by simp only; omega, by simp only [List.length_append, oneV_len]; omega, hR⟩
        show s_lo _ _ _ (cutB o oneV) _ _ _ = s_lo _ _ _ (o ++ oneV) (o ++ oneV).length _ _
        rw [cutB_eq, List.length_append]
      · rw [if_neg hm] at hR ⊢
        exact ⟨⟨most, n, o, w64 (k + 1), i + 1⟩, rfl, by simp only; omega, ⟨hb1, hb2, hb3, hb4⟩, by simp only; omega, ho, hR⟩
    · have hn : (n - i).toNat = 0 := by omega
      rw [hn] at hR
      exact hR
noncomputable def tLo : Con := fun args regs => if regs.length = 0 then nfun Tryz.prog [] c_lo [(0, lvO, canonL [(8, arr [])] [] 0 lvO l_lo)] f_lo args regs else .fail
theorem kLo : Known Tryz.prog [] 4 tLo := known_loops 0 Tryz.func4 rfl (by kernel_rfl) mixed kc_lo (LAll.one (id := 0) (body := bodyLoop f_lo 0) (by kernel_rfl) rfl (loop_lo.canon [(8, arr [])] [] lvO))

/-! ### the law -/
def bytesR (O w : List Int) (N : Prop) : Prop := sel (decide (O.length ≤ O.length)) (sel (decide (w.length ≤ w.length)) ((List.take O.length O = List.take w.length w ∧ (List.take O.length O).length ≤ 1000) ∧ N) False) False
def outQ (M : Mn) (N : Prop) : Prop := lensR M ∧ (((2 : Int) = 2 ∨ (2 : Int) = 3) ∧ smallM (nrm M)) ∧ N
noncomputable def fin_lo (most : Int) (r : List Int × Int) (R : Out → Prop) : Prop :=
  outQ (LM most r.1 r.2) (bytesR r.1 r.1 (lensR (LM most r.1 r.2) ∧ sel (r.2 == r.2) (outQ (LM most r.1 r.2) (bytesR r.1 r.1 (outQ (LM most [] r.2) (R yesO)))) (R ⟨.v (.c (.b false)), []⟩)))
theorem lo_tree (a b : Int) (R : Out → Prop) : (tLo [.c (.i .i64 a), .c (.i .i64 b)] []).run R =
    (((0 : Int) < 40 ∧ (40 : Int) < 4611686018427387904) ∧ ((0 : Int) < 20 ∧ (20 : Int) < 4611686018427387904) ∧ (1 ≤ w64 (a % 40 + 1) ∧ w64 (a % 40 + 1) ≤ 4096) ∧ (([1, 67, 117, 60, 4] : List Int).length ≤ 1000 ∧ InBytes [1, 67, 117, 60, 4]) ∧
      (s_lo (LM (w64 (a % 40 + 1)) [] 0) (w64 (a % 40 + 1)) (b % 20) [] 0 0 0 = s_lo (LM (w64 (a % 40 + 1)) [] 0) (w64 (a % 40 + 1)) (b % 20) [] 0 0 0 ∧ boLo (w64 (a % 40 + 1)) (b % 20)) ∧
      fin_lo (w64 (a % 40 + 1)) (goLo (w64 (a % 40 + 1)) (b % 20).toNat [] 0) R) := by kernel_rfl
theorem goLo_len {most : Int} (hm : most ≤ 5000) : ∀ (n : Nat) (o : List Int) (k : Int), o.length ≤ 5000 → (goLo most n o k).1.length ≤ 5000
  | 0, o, k, h => h
  | n + 1, o, k, h => by
    unfold goLo
    split
    · rename_i h1
      exact goLo_len hm n _ _ (by rw [List.length_append, oneV_len]; omega)
    · exact goLo_len hm n _ _ h
theorem goLo_small {most : Int} (hm : most ≤ 1000) : ∀ (n : Nat) (o : List Int) (k : Int), o.length ≤ 1000 → (goLo most n o k).1.length ≤ 1000
  | 0, o, k, h => h
  | n + 1, o, k, h => by
    unfold goLo
    split
    · rename_i h1
      exact goLo_small hm n _ _ (by rw [List.length_append, oneV_len]; omega)
    · exact goLo_small hm n _ _ h
theorem bytesR_in {O w : List Int} {N : Prop} (h : O = w) (hl : O.length ≤ 1000) (hN : N) : bytesR O w N := by
  subst h
  exact selT (dT (Nat.le_refl _)) (selT (dT (Nat.le_refl _)) ⟨⟨rfl, by rw [List.take_length]; exact hl⟩, hN⟩)
theorem outQ_in {M : Mn} {N : Prop} (h2 : M.o2.length ≤ 1000) (h3 : M.o3.length ≤ 1000) (hN : N) : outQ M N :=
  ⟨lensR_in M, ⟨.inl rfl, ⟨by show M.o2.length ≤ 100000; omega, by show M.o3.length ≤ 100000; omega⟩⟩, hN⟩
set_option maxRecDepth 100000 in
theorem lo_in (a b : Int) (R : Out → Prop) (hR : R yesO) : Box ((tLo [.c (.i .i64 a), .c (.i .i64 b)] []).run R) := by
  have h0 : 0 ≤ a % 40 := Int.emod_nonneg _ (by decide)
  have h1 : a % 40 < 40 := Int.emod_lt_of_pos _ (by decide)
  have h2 : 0 ≤ b % 20 := Int.emod_nonneg _ (by decide)
  have h3 : b % 20 < 20 := Int.emod_lt_of_pos _ (by decide)
  refine Box.of_eq (lo_tree a b R) ?_
  rw [w64_id (x := a % 40 + 1) (by omega)]
  have hl := goLo_small (most := a % 40 + 1) (by omega) (b % 20).toNat [] 0 (by simp)
  generalize goLo (a % 40 + 1) (b % 20).toNat [] 0 = r at hl ⊢
  refine ⟨⟨by decide, by decide⟩, ⟨by decide, by decide⟩, ⟨by omega, by omega⟩, ⟨by decide, inB_cons (by decide) (inB_cons (by decide) (inB_cons (by decide) (inB_cons (by decide) (inB_cons (by decide) inB_nil))))⟩, ⟨rfl, ⟨by omega, by omega, h2, by omega⟩⟩, ?_⟩
  have z : ([] : List Int).length ≤ 1000 := by simp
  exact outQ_in hl z (bytesR_in rfl hl ⟨lensR_in _, selT (bT rfl) (outQ_in hl z (bytesR_in rfl hl (outQ_in z z hR)))⟩)
theorem Gives.holds {t : Tr Out} (h : ∀ R : Out → Prop, R yesO → Box (t.run R)) : Holds t fun o => o.res = .v (.c (.b true)) := ⟨Box.out (h _ rfl)⟩
theorem lo_holds (a b : Int) : Holds (tLo [.c (.i .i64 a), .c (.i .i64 b)] []) fun o => o.res = .v (.c (.b true)) := Gives.holds fun R hR => lo_in a b R hR
def shsLo : List Sh := [.i .i64, .i .i64]
theorem lo_law (xs : List NV) (h : R2 ShOk shsLo xs) : Holds (tLo xs []) fun o => o.res = .v (.c (.b true)) := by
  cases h with
  | cons h1 h =>
    cases h with
    | cons h2 h =>
      cases h
      cases h1 with
      | @i _ a ha =>
        cases h2 with
        | @i _ b hb => exact lo_holds a b
theorem known_gl {P : Program} {gl : List Nat} {f : FuncId} {T : Con} (h : Known P [] f T) : Known P gl f T :=
  ⟨h.goes, fun args regs R hR Γ w vs hw _ ha ho => h.sound args regs R hR Γ w vs hw ⟨(fun x hx => by cases hx), (fun x hx => by cases hx)⟩ ha ho⟩
def GL : List Nat := [142, 0]
theorem kLoG : Known Tryz.prog GL 4 tLo := known_gl kLo
end Go.Proofs.YtdijbpokklgjlaaGreatDoor.mtl
