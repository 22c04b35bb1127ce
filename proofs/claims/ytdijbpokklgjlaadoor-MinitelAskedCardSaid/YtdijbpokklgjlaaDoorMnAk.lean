/-
  The law MinitelAsked.
-/
import Derived.Test.YtdijbpokklgjlaaDoorMnY
set_option linter.unusedVariables false
namespace Go.Proofs.YtdijbpokklgjlaaDoor.mtl
open Go Go.Nx Go.Proofs.YtdijbpokklgjlaaDoor.prt
open Go.Proofs.YtdijbpokklgjlaaDoor.lex (arr lx InBytes mkEv K7 kMake)
open Go.Proofs.YtdijbpokklgjlaaDoor.lxv (wf cel pend shft cc evts okP ev ignR)
open Go.Proofs.YtdijbpokklgjlaaDoor.scr (Scr Ev eventS rollsS Ins newS)

noncomputable abbrev f_ak := Tryd.f3
noncomputable def c_ak : FuncId → Option Con := conOf [(4, tFst), (5, tNewM), (9, tLn2), (6, lex.tMake), (7, tByM 2), (8, tByM 3),
  (10, tOut), (11, tSmB)]
theorem kc_ak : ∀ f T, c_ak f = some T → Known Tryd.prog [] f T := (Knowns.cons kFst (.cons kNewM (.cons kLn2 (.cons kMake (.cons kModem.known (.cons kSocket.known (.cons kOut.known (.cons kSmB .nil)))))))).get
noncomputable def X_ak : Cx := { P := Tryd.prog, con := c_ak, glob := [], m := 0, loops := [] }
noncomputable def t_ak : Con := fun args regs => if regs.length = 0 then nfun Tryd.prog [] c_ak [(0, [1, 5, 6, 8, 9, 10], unroll X_ak 0 [1, 5, 6, 8, 9, 10] [1, 5, 6, 9] (bodyLoop f_ak 0) 4)] f_ak args regs else .fail
theorem k_ak : Known Tryd.prog [] 3 t_ak := known_loops 0 Tryd.func3 rfl (by kernel_rfl) mixed kc_ak (LAll.one (id := 0) (body := bodyLoop f_ak 0) (by kernel_rfl) rfl (unroll_ok (X := X_ak) kc_ak mixed (LAll.none (by kernel_rfl)) [1, 5, 6, 8, 9, 10] [1, 5, 6, 9] 4))
def noB : Out := ⟨.v (.c (.b false)), []⟩
def bB (x : Bool) : Out := ⟨.v (.c (.b x)), []⟩
noncomputable def akR (j c : Int) (M : Mn) (N : Mn → Prop) : Prop := lensR M ∧ (OkM (nrm M) ∧ byte (mkEv c)) ∧ N (comesM j (mkEv c) (nrm M))
def in8 (c : Int) : Prop := 0 ≤ c ∧ c < 256
/-- A byte, by the line or by the socket. -/
noncomputable def byB (i k c : Int) (M : Mn) (N : Mn → Prop) : Prop := in8 c ∧ sel (decide (i ≥ w64 (k + 1))) (sel (decide (k < 2)) (akR 2 c M N) (akR 3 c M N)) (akR 3 c M N)
def qK (j : Int) (M : Mn) (N : Prop) : Prop := lensR M ∧ ((j = 2 ∨ j = 3) ∧ smallM (nrm M)) ∧ N
def bytesK (O w : List Int) (N : Prop) : Prop := sel (decide (O.length ≤ O.length)) ((List.take O.length O = w ∧ (List.take O.length O).length ≤ 1000) ∧ N) False
noncomputable def wholeR (M : Mn) (R : Out → Prop) : Prop := bytesK M.o3 oneV (qK 2 M (R (bB ((M.o2.length : Int) == 0))))
noncomputable def partR (M : Mn) (R : Out → Prop) : Prop := sel ((M.o3.length : Int) == 0) (qK 2 M (R (bB ((M.o2.length : Int) == 0)))) (R noB)
def lineK (N : Prop) : Prop := (([1, 67, 117, 60, 4] : List Int).length ≤ 1000 ∧ InBytes [1, 67, 117, 60, 4]) ∧ N
noncomputable def mixR (k : Int) (R : Out → Prop) : Prop := ((1 : Int) ≤ 100 ∧ (100 : Int) ≤ 4096) ∧ byB 0 k 27 (newM 100) fun M1 => byB 1 k 57 M1 fun M2 => byB 2 k 123 M2 fun M3 => lineK (qK 3 M3 (sel (k == 2) (wholeR M3 R) (partR M3 R)))
noncomputable def sokR (R : Out → Prop) : Prop := ((1 : Int) ≤ 100 ∧ (100 : Int) ≤ 4096) ∧ in8 27 ∧ akR 3 27 (newM 100) fun M1 => in8 57 ∧ akR 3 57 M1 fun M2 => in8 123 ∧ akR 3 123 M2 fun M3 => lineK (qK 3 M3 (wholeR M3 R))
theorem ak_T (n : Int) (R : Out → Prop) : (t_ak [.c (.i .i64 n), .c (.b true)] []).run R = sel (decide (n < 0)) (mixR (Int.tmod (w64 (0 - w64 (n + 1))) 3) R) (mixR (Int.tmod n 3) R) := by kernel_rfl
theorem ak_F (n : Int) (R : Out → Prop) : (t_ak [.c (.i .i64 n), .c (.b false)] []).run R = sel (decide (n < 0)) (sokR R) (sokR R) := by kernel_rfl

/-! ### what the bytes do -/
noncomputable def SK (sc : Scr) (P : List Int) : Mn := { newM 100 with sc := sc, l3 := ⟨P, 0⟩ }
def InsK (sc : Scr) : Prop := ∃ r, Ins r sc
theorem ccK : ∀ n < 128, cc (mkEv (Int.ofNat n)) = Int.ofNat n := by decide +kernel
theorem cc_k {c : Int} (h : 0 ≤ c ∧ c < 128) : cc (mkEv c) = c := by
  have e : c = Int.ofNat c.toNat := by show c = ((c.toNat : Nat) : Int); omega
  rw [e]
  exact ccK _ (by omega)
theorem sk_step {sc : Scr} {P P' : List Int} {c : Int} (hc : 0 ≤ c ∧ c < 128) (h1 : evts P 0 c = []) (h2 : pend P c = P') (h3 : shft 0 c = 0) : comesM 3 (mkEv c) (SK sc P) = SK sc P' := by
  rw [comes_own rfl rfl]
  unfold byteM nextL
  rw [cc_k hc]
  show evsM _ true 3 (evts P 0 c) (setL (SK sc P) 3 ⟨pend P c, shft 0 c⟩) = _
  rw [h1, h2, h3]
  rfl
noncomputable def letK (sc : Scr) (c : Int) : Scr := eventS (evX (ev 1 0 0 0 0 0 (w64 c))) sc
theorem sk_let {sc : Scr} {P : List Int} {c : Int} (h : 32 ≤ c ∧ c < 128) : comesM 2 (mkEv c) (SK sc P) = SK (letK sc c) P := by
  rw [comes_own rfl rfl]
  unfold byteM nextL
  rw [cc_k (by omega)]
  obtain ⟨e1, e2, e3⟩ := lxv.way_chr (s := 0) (c := c) (by omega)
  show evsM _ true 2 (evts [] 0 c) (setL (SK sc P) 2 ⟨pend [] c, shft 0 c⟩) = _
  rw [e1, e2, e3]
  rfl
noncomputable def DK (sc : Scr) : Mn := { SK sc [] with p := (askV startP 10 1 123 0 0).1, sc := rollsS (askV startP 10 1 123 0 0).1.ro sc, o3 := oneV }
theorem sk_ask {sc : Scr} : comesM 3 (mkEv 123) (SK sc [27, 57]) = DK sc := by
  rw [comes_own rfl rfl]
  unfold byteM nextL
  rw [cc_k (by decide)]
  show evsM _ true 3 (evts [27, 57] 0 123) (setL (SK sc [27, 57]) 3 ⟨pend [27, 57] 123, shft 0 123⟩) = _
  rw [ev_c, pe_c, sh_c]
  show sendM 3 oneV { SK sc [] with p := (askV startP 10 1 123 0 0).1, sc := rollsS (askV startP 10 1 123 0 0).1.ro sc } = _
  unfold sendM
  rw [if_neg (by unfold oneV; simp), if_neg (by show ¬ (((0 : Nat) : Int) + 5 > 100); decide)]
  rfl
theorem InsK.lets {sc : Scr} (h : InsK sc) (c : Int) : InsK (letK sc c) := by
  obtain ⟨r, hr⟩ := h
  exact ⟨r, hr.event _⟩
theorem okLK_1 : OkL ⟨[27], 0⟩ := OkL.next (l := ⟨[], 0⟩) OkL.nil (b := mkEv 27) (by decide +kernel)
theorem okLK_2 : OkL ⟨[27, 57], 0⟩ := OkL.next (l := ⟨[27], 0⟩) okLK_1 (b := mkEv 57) (by decide +kernel)
theorem sk_ok {sc : Scr} {P : List Int} (h : InsK sc) (hP : OkL ⟨P, 0⟩) : OkM (SK sc P) := ⟨h, startP_ok, by show (100 : Int) ≤ 5000; decide, by simp [SK, newM], by simp [SK, newM], OkL.nil, OkL.nil, hP⟩
theorem dk_ok {sc : Scr} (h : InsK sc) : OkM (DK sc) := sk_ask ▸ (sk_ok h okLK_2).comes 3 (mkEv_byte (by decide))
theorem akR_in {j c : Int} {M : Mn} {N : Mn → Prop} (hc : in8 c) (hM : OkM M) (hN : N (comesM j (mkEv c) M)) : akR j c M N := by
  unfold akR
  rw [nrm_eq hM.p]
  exact ⟨lensR_in M, ⟨hM, mkEv_byte hc⟩, hN⟩
theorem line_in {N : Prop} (h : N) : lineK N := ⟨⟨by decide, inB_cons (by decide) (inB_cons (by decide) (inB_cons (by decide) (inB_cons (by decide) (inB_cons (by decide) inB_nil))))⟩, h⟩
theorem qK_in {j : Int} {M : Mn} {N : Prop} (hj : j = 2 ∨ j = 3) (hM : OkM M) (hN : N) : qK j M N := ⟨lensR_in M, ⟨hj, ⟨by have := hM.o2; show M.o2.length ≤ 100000; omega, by have := hM.o3; show M.o3.length ≤ 100000; omega⟩⟩, hN⟩
theorem whole_in {sc : Scr} {R : Out → Prop} (h : InsK sc) (hR : R yesO) : wholeR (DK sc) R :=
  selT (dT (Nat.le_refl _)) ⟨⟨rfl, by decide⟩, qK_in (.inl rfl) (dk_ok h) hR⟩
theorem part_in {sc : Scr} {P : List Int} {R : Out → Prop} (h : InsK sc) (hP : OkL ⟨P, 0⟩) (hR : R yesO) : partR (SK sc P) R := selT rfl (qK_in (.inl rfl) (sk_ok h hP) hR)
theorem insK_new : InsK newS := ins_newS
theorem sk_0 : newM 100 = SK newS [] := rfl
theorem sok_in {R : Out → Prop} (hR : R yesO) : sokR R := by
  refine ⟨⟨by decide, by decide⟩, by decide, ?_⟩
  rw [sk_0]
  refine akR_in (by decide) (sk_ok insK_new OkL.nil) ?_
  rw [sk_step (by decide) (ev_a 0) pe_a (sh_a 0)]
  refine ⟨by decide, akR_in (by decide) (sk_ok insK_new okLK_1) ?_⟩
  rw [sk_step (by decide) (ev_b 0) pe_b (sh_b 0)]
  refine ⟨by decide, akR_in (by decide) (sk_ok insK_new okLK_2) ?_⟩
  rw [sk_ask]
  exact line_in (qK_in (.inr rfl) (dk_ok insK_new) (whole_in insK_new hR))
theorem byB_S {i k c : Int} {M : Mn} {N : Mn → Prop} (hc : in8 c) (h : ¬ (i ≥ k + 1 ∧ k < 2)) (hk : 0 ≤ k ∧ k < 3) (hN : akR 3 c M N) : byB i k c M N := by
  unfold byB
  rw [w64_id (by omega)]
  exact ⟨hc, sel_by (fun h1 => sel_by (fun h2 => (h ⟨h1, h2⟩).elim) fun _ => hN) fun _ => hN⟩
theorem byB_M {i k c : Int} {M : Mn} {N : Mn → Prop} (hc : in8 c) (h : i ≥ k + 1 ∧ k < 2) (hk : 0 ≤ k ∧ k < 3) (hN : akR 2 c M N) : byB i k c M N := by
  unfold byB
  rw [w64_id (by omega)]
  exact ⟨hc, selT (dT h.1) (selT (dT h.2) hN)⟩
theorem mix_in {k : Int} {R : Out → Prop} (hk : 0 ≤ k ∧ k < 3) (hR : R yesO) : mixR k R := by
  refine ⟨⟨by decide, by decide⟩, ?_⟩
  rw [sk_0]
  have h3 : k = 0 ∨ k = 1 ∨ k = 2 := by omega
  have hn := insK_new
  refine byB_S (by decide) (by omega) hk (akR_in (by decide) (sk_ok hn OkL.nil) ?_)
  rw [sk_step (by decide) (ev_a 0) pe_a (sh_a 0)]
  rcases h3 with rfl | rfl | rfl
  · refine byB_M (by decide) (by decide) hk (akR_in (by decide) (sk_ok hn okLK_1) ?_)
    rw [sk_let (by decide)]
    refine byB_M (by decide) (by decide) hk (akR_in (by decide) (sk_ok (hn.lets _) okLK_1) ?_)
    rw [sk_let (by decide)]
    exact line_in (qK_in (.inr rfl) (sk_ok ((hn.lets _).lets _) okLK_1) (selF rfl (part_in ((hn.lets _).lets _) okLK_1 hR)))
  · refine byB_S (by decide) (by decide) hk (akR_in (by decide) (sk_ok hn okLK_1) ?_)
    rw [sk_step (by decide) (ev_b 0) pe_b (sh_b 0)]
    refine byB_M (by decide) (by decide) hk (akR_in (by decide) (sk_ok hn okLK_2) ?_)
    rw [sk_let (by decide)]
    exact line_in (qK_in (.inr rfl) (sk_ok (hn.lets _) okLK_2) (selF rfl (part_in (hn.lets _) okLK_2 hR)))
  · refine byB_S (by decide) (by decide) hk (akR_in (by decide) (sk_ok hn okLK_1) ?_)
    rw [sk_step (by decide) (ev_b 0) pe_b (sh_b 0)]
    refine byB_S (by decide) (by decide) hk (akR_in (by decide) (sk_ok hn okLK_2) ?_)
    rw [sk_ask]
    exact line_in (qK_in (.inr rfl) (dk_ok hn) (selT rfl (whole_in hn hR)))
set_option maxRecDepth 100000 in
theorem ak_in (n : Int) (x : Bool) (hn : -9223372036854775808 ≤ n ∧ n ≤ 9223372036854775807) (R : Out → Prop) (hR : R yesO) : Box ((t_ak [.c (.i .i64 n), .c (.b x)] []).run R) := by
  cases x with
  | false => exact Box.of_eq (ak_F n R) (sel_by (fun _ => sok_in hR) fun _ => sok_in hR)
  | true =>
    refine Box.of_eq (ak_T n R) (sel_by (fun h => mix_in ?_ hR) fun h => mix_in ?_ hR)
    · rw [w64_id (x := n + 1) (by omega), w64_id (by omega), Int.tmod_eq_emod_of_nonneg (by omega)]
      omega
    · rw [Int.tmod_eq_emod_of_nonneg (by omega)]
      omega
theorem GivesK.holds {t : Tr Out} (h : ∀ R : Out → Prop, R yesO → Box (t.run R)) : Holds t fun o => o.res = .v (.c (.b true)) := ⟨Box.out (h _ rfl)⟩
theorem ak_holds (n : Int) (x : Bool) (hn : -9223372036854775808 ≤ n ∧ n ≤ 9223372036854775807) : Holds (t_ak [.c (.i .i64 n), .c (.b x)] []) fun o => o.res = .v (.c (.b true)) := GivesK.holds fun R hR => ak_in n x hn R hR
def shsAk : List Sh := [.i .i64, .b]
theorem ak_law (xs : List NV) (h : R2 ShOk shsAk xs) : Holds (t_ak xs []) fun o => o.res = .v (.c (.b true)) := by
  cases h with
  | cons h1 h =>
    cases h with
    | cons h2 h =>
      cases h
      cases h1 with
      | @i _ n hn =>
        cases h2 with
        | @b x =>
          refine ak_holds n x ?_
          have := hn
          simp [Lit.wf, IntKind.min, IntKind.max, IntKind.signed, IntKind.bits] at this
          constructor <;> omega
theorem known_glK {P : Program} {gl : List Nat} {f : FuncId} {T : Con} (h : Known P [] f T) : Known P gl f T :=
  ⟨h.goes, fun args regs R hR Γ w vs hw _ ha ho => h.sound args regs R hR Γ w vs hw ⟨(fun x hx => by cases hx), (fun x hx => by cases hx)⟩ ha ho⟩
def GLK : List Nat := [128, 0]
theorem kAkG : Known Tryd.prog GLK 3 t_ak := known_glK k_ak
end Go.Proofs.YtdijbpokklgjlaaDoor.mtl
