/-
  The law MinitelAsked.
-/
import Derived.Test.YtdijbpokklgjlaaDoorMnY
set_option linter.unusedVariables false
namespace Go.Proofs.YtdijbpokklgjlaaDoor.mtl
open Go Go.Nx Go.Proofs.YtdijbpokklgjlaaDoor.prt
open Go.Proofs.YtdijbpokklgjlaaDoor.lex (arr lx InBytes mkEv K7 kMake)
open Go.Proofs.YtdijbpokklgjlaaDoor.lxv (wf cel pend shft cc evts okP ev ignR)
open Go.Proofs.YtdijbpokklgjlaaDoor.scr (Scr Ev eventS rollsS Ins newS)

noncomputable abbrev f_ak := Tryd.f3
noncomputable def c_ak : FuncId → Option Con := conOf [(4, tFst), (5, tNewM), (9, tLn2), (6, lex.tMake), (7, tByM 2), (8, tByM 3),
  (10, tOut), (11, tSmB)]
theorem kc_ak : ∀ f T, c_ak f = some T → Known Tryd.prog [] f T := (Knowns.cons kFst (.cons kNewM (.cons kLn2 (.cons kMake (.cons kModem.known (.cons kSocket.known (.cons kOut.known (.cons kSmB .nil)))))))).get
noncomputable def X_ak : Cx := { P := Tryd.prog, con := c_ak, glob := [], m := 0, loops := [] }
def noB : Out := ⟨.v (.c (.b false)), []⟩
def bB (x : Bool) : Out := ⟨.v (.c (.b x)), []⟩
noncomputable def akR (j c : Int) (M : Mn) (N : Mn → Prop) : Prop := lensR M ∧ (OkM (nrm M) ∧ byte (mkEv c)) ∧ N (comesM j (mkEv c) (nrm M))
def in8 (c : Int) : Prop := 0 ≤ c ∧ c < 256
instance (c : Int) : Decidable (in8 c) := inferInstanceAs (Decidable (0 ≤ c ∧ c < 256))
def qK (j : Int) (M : Mn) (N : Prop) : Prop := lensR M ∧ ((j = 2 ∨ j = 3) ∧ smallM (nrm M)) ∧ N
def bytesK (O w : List Int) (N : Prop) : Prop := sel (decide (O.length ≤ O.length)) ((List.take O.length O = w ∧ (List.take O.length O).length ≤ 1000) ∧ N) False
noncomputable def wholeR (M : Mn) (R : Out → Prop) : Prop := bytesK M.o3 oneV (qK 2 M (R (bB ((M.o2.length : Int) == 0))))
noncomputable def partR (M : Mn) (R : Out → Prop) : Prop := sel ((M.o3.length : Int) == 0) (qK 2 M (R (bB ((M.o2.length : Int) == 0)))) (R noB)
def lineK (N : Prop) : Prop := (([1, 67, 117, 60, 4] : List Int).length ≤ 1000 ∧ InBytes [1, 67, 117, 60, 4]) ∧ N
/-! ### what the bytes do -/
noncomputable def SK (sc : Scr) (P : List Int) : Mn := { newM 100 with sc := sc, l3 := ⟨P, 0⟩ }
def InsK (sc : Scr) : Prop := ∃ r, Ins r sc
theorem ccK : ∀ n < 128, cc (mkEv (Int.ofNat n)) = Int.ofNat n := by decide +kernel
theorem cc_k {c : Int} (h : 0 ≤ c ∧ c < 128) : cc (mkEv c) = c := by
  have e : c = Int.ofNat c.toNat := by show c = ((c.toNat : Nat) : Int); omega
  rw [e]
  exact ccK _ (by omega)
theorem sk_step {sc : Scr} {P P' : List Int} {c : Int} (hc : 0 ≤ c ∧ c < 128) (h1 : evts P 0 c = []) (h2 : pend P c = P') (h3 : shft 0 c = 0) : comesM 3 (mkEv c) (SK sc P) = SK sc P' := by
  rw [comes_own rfl rfl]
  unfold byteM nextL
  rw [cc_k hc]
  show evsM _ true 3 (evts P 0 c) (setL (SK sc P) 3 ⟨pend P c, shft 0 c⟩) = _
  rw [h1, h2, h3]
  rfl
noncomputable def letK (sc : Scr) (c : Int) : Scr := eventS (evX (ev 1 0 0 0 0 0 (w64 c))) sc
theorem sk_let {sc : Scr} {P : List Int} {c : Int} (h : 32 ≤ c ∧ c < 128) : comesM 2 (mkEv c) (SK sc P) = SK (letK sc c) P := by
  rw [comes_own rfl rfl]
  unfold byteM nextL
  rw [cc_k (by omega)]
  obtain ⟨e1, e2, e3⟩ := lxv.way_chr (s := 0) (c := c) (by omega)
  show evsM _ true 2 (evts [] 0 c) (setL (SK sc P) 2 ⟨pend [] c, shft 0 c⟩) = _
  rw [e1, e2, e3]
  rfl
noncomputable def DK (sc : Scr) : Mn := { SK sc [] with p := (askV startP 10 1 123 0 0).1, sc := rollsS (askV startP 10 1 123 0 0).1.ro sc, o3 := oneV }
theorem sk_ask {sc : Scr} : comesM 3 (mkEv 123) (SK sc [27, 57]) = DK sc := by
  rw [comes_own rfl rfl]
  unfold byteM nextL
  rw [cc_k (by decide)]
  show evsM _ true 3 (evts [27, 57] 0 123) (setL (SK sc [27, 57]) 3 ⟨pend [27, 57] 123, shft 0 123⟩) = _
  rw [ev_c, pe_c, sh_c]
  show sendM 3 oneV { SK sc [] with p := (askV startP 10 1 123 0 0).1, sc := rollsS (askV startP 10 1 123 0 0).1.ro sc } = _
  unfold sendM
  rw [if_neg (by unfold oneV; simp), if_neg (by show ¬ (((0 : Nat) : Int) + 5 > 100); decide)]
  rfl
theorem InsK.lets {sc : Scr} (h : InsK sc) (c : Int) : InsK (letK sc c) := by
  obtain ⟨r, hr⟩ := h
  exact ⟨r, hr.event _⟩
theorem okLK_1 : OkL ⟨[27], 0⟩ := OkL.next (l := ⟨[], 0⟩) OkL.nil (b := mkEv 27) (by decide +kernel)
theorem okLK_2 : OkL ⟨[27, 57], 0⟩ := OkL.next (l := ⟨[27], 0⟩) okLK_1 (b := mkEv 57) (by decide +kernel)
theorem sk_ok {sc : Scr} {P : List Int} (h : InsK sc) (hP : OkL ⟨P, 0⟩) : OkM (SK sc P) := ⟨h, startP_ok, by show (100 : Int) ≤ 5000; decide, by simp [SK, newM], by simp [SK, newM], OkL.nil, OkL.nil, hP⟩
theorem dk_ok {sc : Scr} (h : InsK sc) : OkM (DK sc) := sk_ask ▸ (sk_ok h okLK_2).comes 3 (mkEv_byte (by decide))
theorem akR_in {j c : Int} {M : Mn} {N : Mn → Prop} (hc : in8 c) (hM : OkM M) (hN : N (comesM j (mkEv c) M)) : akR j c M N := by
  unfold akR
  rw [nrm_eq hM.p]
  exact ⟨lensR_in M, ⟨hM, mkEv_byte hc⟩, hN⟩
theorem line_in {N : Prop} (h : N) : lineK N := ⟨⟨by decide, inB_cons (by decide) (inB_cons (by decide) (inB_cons (by decide) (inB_cons (by decide) (inB_cons (by decide) inB_nil))))⟩, h⟩
theorem qK_in {j : Int} {M : Mn} {N : Prop} (hj : j = 2 ∨ j = 3) (hM : OkM M) (hN : N) : qK j M N := ⟨lensR_in M, ⟨hj, ⟨by have := hM.o2; show M.o2.length ≤ 100000; omega, by have := hM.o3; show M.o3.length ≤ 100000; omega⟩⟩, hN⟩
theorem whole_in {sc : Scr} {R : Out → Prop} (h : InsK sc) (hR : R yesO) : wholeR (DK sc) R :=
  show sel (decide (oneV.length ≤ oneV.length)) ((List.take oneV.length oneV = oneV ∧ (List.take oneV.length oneV).length ≤ 1000) ∧ _) False from
  selT (dT (Nat.le_refl _)) ⟨⟨rfl, by decide⟩, qK_in (.inl rfl) (dk_ok h) hR⟩
theorem part_in {sc : Scr} {P : List Int} {R : Out → Prop} (h : InsK sc) (hP : OkL ⟨P, 0⟩) (hR : R yesO) : partR (SK sc P) R := selT rfl (qK_in (.inl rfl) (sk_ok h hP) hR)
theorem insK_new : InsK newS := ins_newS
theorem sk_0 : newM 100 = SK newS [] := rfl
/-! ### the three bytes -/
def askL : List Int := [27, 57, 123]
noncomputable def s_ak (M : Mn) (x : Bool) (k i : Int) : St := { fr := frame 97 [(1, .v (.c (.b x))), (5, .v (.c (.b true))), (6, .v (.c (.p 0 0 0))), (8, .v (.c (.h 7 0 3))), (9, .v (.c (.i .i64 k))), (10, .v (.c (.i .i64 i)))], rg := (mnIn M).map some ++ [some (arr askL)] }
noncomputable def e_ak (M : Mn) (x : Bool) (k : Int) : St := { fr := frame 97 [(1, .v (.c (.b x))), (5, .v (.c (.b true))), (6, .v (.c (.p 0 0 0))), (9, .v (.c (.i .i64 k)))], rg := (mnIn M).map some }
def ixA (i : Int) (A : Prop) : Prop := sel (decide (0 ≤ i)) (sel (decide (i < 3)) (sel (decide (0 + i.toNat < askL.length)) A False) False) False
noncomputable def rndA (x : Bool) (k i c : Int) (M : Mn) (N : Mn → Prop) : Prop := in8 c ∧ sel x (sel (decide (i ≥ w64 (k + 1))) (sel (decide (k < 2)) (akR 2 c M N) (akR 3 c M N)) (akR 3 c M N)) (akR 3 c M N)
theorem round_ak (M : Mn) (x : Bool) (k i : Int) (R : RO → Prop) : (roundT X_ak 0 [1, 5, 6, 8, 9, 10] [1, 5, 6, 9] (bodyLoop f_ak 0) (s_ak M x k i)).run R =
    sel (decide (i < 3)) (ixA i (rndA x k i (askL.getD (0 + i.toNat) 0) M fun M1 => R (.next (s_ak M1 x k (w64 (i + 1)))))) (R (.done .normal (e_ak M x k))) := by kernel_rfl
/-- A byte, by the line or by the socket. -/
noncomputable def stpA (x : Bool) (k i c : Int) (M : Mn) : Mn := if x = true ∧ i ≥ k + 1 ∧ k < 2 then comesM 2 (mkEv c) M else comesM 3 (mkEv c) M
theorem rndA_in {x : Bool} {k i c : Int} {M : Mn} {N : Mn → Prop} (hc : in8 c) (hk : 0 ≤ k ∧ k < 3) (hM : OkM M) (hN : N (stpA x k i c M)) : rndA x k i c M N := by
  unfold rndA
  rw [w64_id (by omega)]
  unfold stpA at hN
  refine ⟨hc, sel_b (fun hx => sel_by (fun h1 => sel_by (fun h2 => ?_) fun h2 => ?_) fun h1 => ?_) fun hx => ?_⟩
  · rw [if_pos ⟨hx, h1, h2⟩] at hN; exact akR_in hc hM hN
  · rw [if_neg (fun e => h2 e.2.2)] at hN; exact akR_in hc hM hN
  · rw [if_neg (fun e => h1 e.2.1)] at hN; exact akR_in hc hM hN
  · rw [if_neg (fun e => by rw [hx] at e; cases e.1)] at hN; exact akR_in hc hM hN
noncomputable def M1A (x : Bool) (k : Int) : Mn := stpA x k 0 27 (newM 100)
noncomputable def M2A (x : Bool) (k : Int) : Mn := stpA x k 1 57 (M1A x k)
noncomputable def M3A (x : Bool) (k : Int) : Mn := stpA x k 2 123 (M2A x k)
noncomputable def MiA (x : Bool) (k : Int) : Nat → Mn
  | 0 => newM 100
  | 1 => M1A x k
  | 2 => M2A x k
  | _ => M3A x k
theorem stpA_ok {x : Bool} {k i c : Int} {M : Mn} (hc : in8 c) (hM : OkM M) : OkM (stpA x k i c M) := by
  unfold stpA
  split
  · exact hM.comes 2 (mkEv_byte hc)
  · exact hM.comes 3 (mkEv_byte hc)
theorem MiA_ok {x : Bool} {k : Int} : ∀ i, OkM (MiA x k i)
  | 0 => newM_ok (by decide)
  | 1 => stpA_ok (by decide) (newM_ok (by decide))
  | 2 => stpA_ok (by decide) (stpA_ok (by decide) (newM_ok (by decide)))
  | n + 3 => stpA_ok (by decide) (stpA_ok (by decide) (stpA_ok (by decide) (newM_ok (by decide))))
structure AAk where
  x : Bool
  k : Int
  i : Nat
noncomputable def h_ak (a : AAk) : St := s_ak (MiA a.x a.k a.i) a.x a.k (a.i : Int)
def preAk (a : AAk) (R : NExit × St → Prop) : Prop := (0 ≤ a.k ∧ a.k < 3) ∧ a.i ≤ 3 ∧ R (.normal, e_ak (M3A a.x a.k) a.x a.k)
def rdAk (s : St) : Option (Bool × Int) := match s.fr[(1 : Nat)]?, s.fr[(9 : Nat)]? with
  | some (.v (.c (.b x))), some (.v (.c (.i _ k))) => some (x, k)
  | _, _ => none
noncomputable def l_ak (s : St) : Tr (NExit × St) := match rdAk s with
  | some (x, k) => .must (s = s_ak (newM 100) x k 0 ∧ 0 ≤ k ∧ k < 3) (.ret (.normal, e_ak (M3A x k) x k))
  | none => .fail
set_option maxRecDepth 100000 in
theorem loop_ak : LOk Tryd.prog [] 0 0 (bodyLoop f_ak 0) l_ak := by
  refine loop_ok (X := X_ak) kc_ak mixed (LAll.none (by kernel_rfl)) [1, 5, 6, 8, 9, 10] [1, 5, 6, 9] h_ak (fun a => 3 - a.i) preAk ?_ ?_
  · intro s R h
    unfold l_ak at h
    split at h
    case h_2 => exact h.elim
    rename_i x k hrd
    obtain ⟨⟨hs, hk⟩, hR⟩ := h
    exact ⟨⟨x, k, 0⟩, hs, hk, by simp, hR⟩
  · intro a R h
    obtain ⟨x, k, i⟩ := a
    obtain ⟨hk, hi, hR⟩ := h
    simp only at hk hi hR
    refine Tr.run_mono _ (fun o ho => ho) (Box.of_eq (round_ak (MiA x k i) x k (i : Int) _) (sel_by (fun hlt => ?_) fun hlt => ?_)).out
    · have hj : ∀ c, askL.getD (0 + ((i : Int)).toNat) 0 = c → in8 c → stpA x k (i : Int) c (MiA x k i) = MiA x k (i + 1) → ixA (i : Int) (rndA x k (i : Int) (askL.getD (0 + ((i : Int)).toNat) 0) (MiA x k i) fun M1 => (fun o => match o with
          | .next s => ∃ y, s = h_ak y ∧ 3 - y.i < 3 - i ∧ preAk y R
          | .done e s => R (e, s)) (RO.next (s_ak M1 x k (w64 ((i : Int) + 1))))) := by
        intro c h1 h2 h3
        have hw : w64 ((i : Int) + 1) = ((i + 1 : Nat) : Int) := by rw [w64_id (by omega)]; omega
        refine selT (dT (by omega)) (selT (dT hlt) (selT (dT (by show 0 + ((i : Int)).toNat < 3; omega)) ?_))
        rw [h1]
        refine rndA_in h2 hk (MiA_ok i) ?_
        rw [h3, hw]
        exact ⟨⟨x, k, i + 1⟩, rfl, by simp only; omega, hk, by simp only; omega, hR⟩
      have h3 : i = 0 ∨ i = 1 ∨ i = 2 := by omega
      rcases h3 with rfl | rfl | rfl
      · exact hj 27 rfl (by decide) rfl
      · exact hj 57 rfl (by decide) rfl
      · exact hj 123 rfl (by decide) rfl
    · have : i = 3 := by omega
      subst this
      exact hR
noncomputable def t_ak : Con := fun args regs => if regs.length = 0 then nfun Tryd.prog [] c_ak [(0, [1, 5, 6, 8, 9, 10], l_ak)] f_ak args regs else .fail
theorem k_ak : Known Tryd.prog [] 3 t_ak := known_loops 0 Tryd.func3 rfl (by kernel_rfl) mixed kc_ak (LAll.one (id := 0) (body := bodyLoop f_ak 0) (by kernel_rfl) rfl loop_ak)
noncomputable def mixR (k : Int) (R : Out → Prop) : Prop := ((1 : Int) ≤ 100 ∧ (100 : Int) ≤ 4096) ∧ (s_ak (newM 100) true k 0 = s_ak (newM 100) true k 0 ∧ 0 ≤ k ∧ k < 3) ∧ lineK (qK 3 (M3A true k) (sel (k == 2) (wholeR (M3A true k) R) (partR (M3A true k) R)))
noncomputable def sokR (k : Int) (R : Out → Prop) : Prop := ((1 : Int) ≤ 100 ∧ (100 : Int) ≤ 4096) ∧ (s_ak (newM 100) false k 0 = s_ak (newM 100) false k 0 ∧ 0 ≤ k ∧ k < 3) ∧ lineK (qK 3 (M3A false k) (wholeR (M3A false k) R))
theorem ak_T (n : Int) (R : Out → Prop) : (t_ak [.c (.i .i64 n), .c (.b true)] []).run R = sel (decide (n < 0)) (mixR (Int.tmod (w64 (0 - w64 (n + 1))) 3) R) (mixR (Int.tmod n 3) R) := by kernel_rfl
theorem ak_F (n : Int) (R : Out → Prop) : (t_ak [.c (.i .i64 n), .c (.b false)] []).run R = sel (decide (n < 0)) (sokR (Int.tmod (w64 (0 - w64 (n + 1))) 3) R) (sokR (Int.tmod n 3) R) := by kernel_rfl
/-- All by the socket. -/
theorem all_sok {x : Bool} {k : Int} (h : ∀ i, ¬ (x = true ∧ i ≥ k + 1 ∧ k < 2 ∧ i ≤ 2)) : M3A x k = DK newS := by
  have e1 : M1A x k = SK newS [27] := by
    unfold M1A stpA
    rw [if_neg (fun e => h 0 ⟨e.1, e.2.1, e.2.2, by decide⟩), sk_0]
    exact sk_step (by decide) (ev_a 0) pe_a (sh_a 0)
  have e2 : M2A x k = SK newS [27, 57] := by
    unfold M2A stpA
    rw [if_neg (fun e => h 1 ⟨e.1, e.2.1, e.2.2, by decide⟩), e1]
    exact sk_step (by decide) (ev_b 0) pe_b (sh_b 0)
  unfold M3A stpA
  rw [if_neg (fun e => h 2 ⟨e.1, e.2.1, e.2.2, by decide⟩), e2]
  exact sk_ask
theorem mix_0 : M3A true 0 = SK (letK (letK newS 57) 123) [27] := by
  unfold M3A M2A M1A stpA
  rw [if_pos ⟨rfl, by decide, by decide⟩, if_pos ⟨rfl, by decide, by decide⟩, if_neg (fun e => absurd e.2.1 (by decide)), sk_0, sk_step (by decide) (ev_a 0) pe_a (sh_a 0), sk_let (by decide), sk_let (by decide)]
theorem mix_1 : M3A true 1 = SK (letK newS 123) [27, 57] := by
  unfold M3A M2A M1A stpA
  rw [if_pos ⟨rfl, by decide, by decide⟩, if_neg (fun e => absurd e.2.1 (by decide)), if_neg (fun e => absurd e.2.1 (by decide)), sk_0, sk_step (by decide) (ev_a 0) pe_a (sh_a 0), sk_step (by decide) (ev_b 0) pe_b (sh_b 0), sk_let (by decide)]
theorem sok_in {k : Int} {R : Out → Prop} (hk : 0 ≤ k ∧ k < 3) (hR : R yesO) : sokR k R := by
  unfold sokR
  rw [all_sok (x := false) (k := k) fun i e => by cases e.1]
  exact ⟨⟨by decide, by decide⟩, ⟨rfl, hk⟩, line_in (qK_in (.inr rfl) (dk_ok insK_new) (whole_in insK_new hR))⟩
theorem mix_in {k : Int} {R : Out → Prop} (hk : 0 ≤ k ∧ k < 3) (hR : R yesO) : mixR k R := by
  have hn := insK_new
  refine ⟨⟨by decide, by decide⟩, ⟨rfl, hk⟩, line_in ?_⟩
  have h3 : k = 0 ∨ k = 1 ∨ k = 2 := by omega
  rcases h3 with rfl | rfl | rfl
  · rw [mix_0]
    exact qK_in (.inr rfl) (sk_ok ((hn.lets _).lets _) okLK_1) (selF rfl (part_in ((hn.lets _).lets _) okLK_1 hR))
  · rw [mix_1]
    exact qK_in (.inr rfl) (sk_ok (hn.lets _) okLK_2) (selF rfl (part_in (hn.lets _) okLK_2 hR))
  · rw [all_sok (x := true) (k := 2) fun i e => absurd e.2.2.1 (by decide)]
    exact qK_in (.inr rfl) (dk_ok hn) (selT rfl (whole_in hn hR))
set_option maxRecDepth 100000 in
theorem ak_in (n : Int) (x : Bool) (hn : -9223372036854775808 ≤ n ∧ n ≤ 9223372036854775807) (R : Out → Prop) (hR : R yesO) : Box ((t_ak [.c (.i .i64 n), .c (.b x)] []).run R) := by
  have k1 : n < 0 → 0 ≤ Int.tmod (w64 (0 - w64 (n + 1))) 3 ∧ Int.tmod (w64 (0 - w64 (n + 1))) 3 < 3 := fun h => by
    rw [w64_id (x := n + 1) (by omega), w64_id (by omega), Int.tmod_eq_emod_of_nonneg (by omega)]
    omega
  have k2 : ¬ n < 0 → 0 ≤ Int.tmod n 3 ∧ Int.tmod n 3 < 3 := fun h => by
    rw [Int.tmod_eq_emod_of_nonneg (by omega)]
    omega
  cases x with
  | false => exact Box.of_eq (ak_F n R) (sel_by (fun h => sok_in (k1 h) hR) fun h => sok_in (k2 h) hR)
  | true => exact Box.of_eq (ak_T n R) (sel_by (fun h => mix_in (k1 h) hR) fun h => mix_in (k2 h) hR)
theorem GivesK.holds {t : Tr Out} (h : ∀ R : Out → Prop, R yesO → Box (t.run R)) : Holds t fun o => o.res = .v (.c (.b true)) := ⟨Box.out (h _ rfl)⟩
theorem ak_holds (n : Int) (x : Bool) (hn : -9223372036854775808 ≤ n ∧ n ≤ 9223372036854775807) : Holds (t_ak [.c (.i .i64 n), .c (.b x)] []) fun o => o.res = .v (.c (.b true)) := GivesK.holds fun R hR => ak_in n x hn R hR
def shsAk : List Sh := [.i .i64, .b]
theorem ak_law (xs : List NV) (h : R2 ShOk shsAk xs) : Holds (t_ak xs []) fun o => o.res = .v (.c (.b true)) := by
  cases h with
  | cons h1 h =>
    cases h with
    | cons h2 h =>
      cases h
      cases h1 with
      | @i _ n hn =>
        cases h2 with
        | @b x =>
          refine ak_holds n x ?_
          have := hn
          simp [Lit.wf, IntKind.min, IntKind.max, IntKind.signed, IntKind.bits] at this
          constructor <;> omega
theorem known_glK {P : Program} {gl : List Nat} {f : FuncId} {T : Con} (h : Known P [] f T) : Known P gl f T :=
  ⟨h.goes, fun args regs R hR Γ w vs hw _ ha ho => h.sound args regs R hR Γ w vs hw ⟨(fun x hx => by cases hx), (fun x hx => by cases hx)⟩ ha ho⟩
def GLK : List Nat := [128, 0]
theorem kAkG : Known Tryd.prog GLK 3 t_ak := known_glK k_ak
end Go.Proofs.YtdijbpokklgjlaaDoor.mtl
