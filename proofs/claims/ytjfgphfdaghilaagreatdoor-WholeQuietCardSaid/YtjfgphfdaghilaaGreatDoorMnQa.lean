/-
  The law WholeQuiet.
-/
import Derived.Test.YtjfgphfdaghilaaGreatDoorVnE
import Derived.Test.YtjfgphfdaghilaaGreatDoorMnY
set_option linter.unusedVariables false
namespace Go.Proofs.YtjfgphfdaghilaaGreatDoor.qu
open Go Go.Nx Go.Proofs.YtjfgphfdaghilaaGreatDoor.prt
open Go.Proofs.YtjfgphfdaghilaaGreatDoor.mtl hiding GL known_gl
open Go.Proofs.YtjfgphfdaghilaaGreatDoor.pk (GL)
open Go.Proofs.YtjfgphfdaghilaaGreatDoor.lex (arr lx InBytes mkEv K7 kMake)
open Go.Proofs.YtjfgphfdaghilaaGreatDoor.lxv (cc evts pend shft beg shf ev ignR ctlR goOn endsR signR placeR okP)
open Go.Proofs.YtjfgphfdaghilaaGreatDoor.scr (Scr newS)

theorem kgScState : Known Tryz.prog GL 41 scr.tState := Nx.known_gl scr.kState
theorem kgNewM : Known Tryz.prog GL 10 tNewM := Nx.known_gl kNewM
theorem kgMake : Known Tryz.prog GL 22 lex.tMake := Nx.known_gl kMake
theorem kgSocket : Known Tryz.prog GL 21 (tByM 3) := Nx.known_gl kSocket.known
theorem kgModem : Known Tryz.prog GL 23 (tByM 2) := Nx.known_gl kModem.known
theorem kgOut : Known Tryz.prog GL 19 tOut := Nx.known_gl kOut.known
theorem kgLost : Known Tryz.prog GL 20 tLost := Nx.known_gl kLost.known
noncomputable def c_mSt : FuncId → Option Con := conOf [(41, scr.tState)]
theorem kc_mSt : ∀ f T, c_mSt f = some T → Known Tryz.prog GL f T := (Knowns.cons kgScState .nil).get
noncomputable def t_mSt : Con := fun args regs => nfun Tryz.prog GL c_mSt [] Tryz.f14 args regs
theorem k_mSt : Known Tryz.prog GL 14 t_mSt := known_inl Tryz.func14 rfl (by kernel_rfl) mixed kc_mSt (by kernel_rfl)
noncomputable def c_qu : FuncId → Option Con := conOf [(7, vn.tYes), (10, tNewM), (22, lex.tMake), (21, (tByM 3)), (23, (tByM 2)), (14, t_mSt), (19, tOut), (20, tLost)]
theorem kc_qu : ∀ f T, c_qu f = some T → Known Tryz.prog GL f T := (Knowns.cons vn.kYes_works (.cons kgNewM (.cons kgMake (.cons kgSocket (.cons kgModem (.cons k_mSt (.cons kgOut (.cons kgLost .nil)))))))).get
noncomputable abbrev f_qu := Tryz.f4
noncomputable def X_qu : Cx := { P := Tryz.prog, con := c_qu, glob := GL, m := 0, loops := [] }
noncomputable def s_qu (M : Mn) (b : List Int) (x : Bool) (i : Int) : St := { fr := frame 98 [(0, .v (.c (.l .u8 b))), (1, .v (.c (.b x))), (5, .v (.c (.p 0 0 0))), (7, .v (.c (.i .i64 i)))], rg := (mnIn M).map some }
noncomputable def e_qu (M : Mn) : St := { fr := frame 98 [(5, .v (.c (.p 0 0 0)))], rg := (mnIn M).map some }
noncomputable def byR (j c : Int) (M : Mn) (N : Mn → Prop) : Prop := (0 ≤ c ∧ c < 256) ∧ lensR M ∧ (OkM (nrm M) ∧ byte (mkEv c)) ∧ N (comesM j (mkEv c) (nrm M))
def pickR (q : Int) (N : Int → Prop) : Prop := sel (q == 27) (N 26) (sel (q == 57) (N 32) (sel (q == 58) (N 32) (sel (q == 59) (N 32) (N q))))
theorem round_qu (M : Mn) (b : List Int) (x : Bool) (i : Int) (R : RO → Prop) : (roundT X_qu 0 [0, 1, 5, 7] [5] (bodyLoop f_qu 0) (s_qu M b x i)).run R =
    sel (decide (i < (b.length : Int))) (ix i b (pickR (bits .and .u8 (b.getD i.toNat 0) 127) fun c => sel x (byR 3 c M fun M1 => R (.next (s_qu M1 b x (w64 (i + 1))))) (byR 2 c M fun M1 => R (.next (s_qu M1 b x (w64 (i + 1)))))))
      (R (.done .normal (e_qu M))) := by kernel_rfl
/-- The byte that is sent. -/
def cQ (y : Int) : Int := let q := bits .and .u8 y 127; if q = 27 then 26 else if q = 57 ∨ q = 58 ∨ q = 59 then 32 else q
theorem cQ_all : ∀ n < 256, 0 ≤ cQ (Int.ofNat n) ∧ cQ (Int.ofNat n) < 128 ∧ cQ (Int.ofNat n) ≠ 27 := by decide +kernel
theorem cQ_in {y : Int} (h : byte y) : 0 ≤ cQ y ∧ cQ y < 128 ∧ cQ y ≠ 27 := by
  have e : y = Int.ofNat y.toNat := by show y = ((y.toNat : Nat) : Int); have := h.1; omega
  rw [e]
  exact cQ_all _ (by have := h.1; have := h.2; omega)
theorem pick_in {y : Int} {N : Int → Prop} (h : N (cQ y)) : pickR (bits .and .u8 y 127) N := by
  unfold pickR
  unfold cQ at h
  simp only at h
  generalize bits .and .u8 y 127 = q at *
  by_cases h1 : q = 27
  · rw [if_pos h1] at h; exact selT (by rw [h1]; rfl) h
  rw [if_neg h1] at h
  refine selF (by simpa using h1) ?_
  by_cases h2 : q = 57
  · rw [if_pos (.inl h2)] at h; exact selT (by rw [h2]; rfl) h
  refine selF (by simpa using h2) ?_
  by_cases h3 : q = 58
  · rw [if_pos (.inr (.inl h3))] at h; exact selT (by rw [h3]; rfl) h
  refine selF (by simpa using h3) ?_
  by_cases h4 : q = 59
  · rw [if_pos (.inr (.inr h4))] at h; exact selT (by rw [h4]; rfl) h
  refine selF (by simpa using h4) ?_
  rw [if_neg (by simp [h2, h3, h4])] at h
  exact h
theorem cc_all : ∀ n < 128, cc (mkEv (Int.ofNat n)) = Int.ofNat n := by decide +kernel
theorem cc_mk {c : Int} (h : 0 ≤ c ∧ c < 128) : cc (mkEv c) = c := by
  have e : c = Int.ofNat c.toNat := by show c = ((c.toNat : Nat) : Int); omega
  rw [e]
  exact cc_all _ (by omega)

/-! ### nothing is asked -/
def begQ (P : List Int) : Prop := P = [] ∨ P.getD 0 0 = 18 ∨ P.getD 0 0 = 25 ∨ P.getD 0 0 = 31
theorem ctl_q (c : Int) : x7 (ctlR c) 0 ≠ 10 := by
  unfold ctlR
  repeat' split
  all_goals first | decide | exact (show (2 : Int) ≠ 10 by decide)
theorem evts_q {P : List Int} {s c : Int} (hP : begQ P) : ∀ r ∈ evts P s c, x7 r 0 ≠ 10 := by
  intro r hr
  unfold evts at hr
  split at hr
  · rcases List.mem_append.1 hr with h | h
    · split at h
      · cases h
      · rw [List.mem_singleton] at h; subst h; decide
    · split at h
      · cases h
      · rw [List.mem_singleton] at h; subst h; exact ctl_q c
  split at hr
  · rw [List.mem_singleton] at hr; subst hr; exact (show (1 : Int) ≠ 10 by decide)
  rename_i hne
  split at hr
  · cases hr
  rw [List.mem_singleton] at hr
  subst hr
  unfold endsR
  rcases hP with h | h | h | h
  · exact absurd h hne
  · rw [if_pos h]; exact (show (7 : Int) ≠ 10 by decide)
  · rw [if_neg (by rw [h]; decide), if_pos h]; exact (show (1 : Int) ≠ 10 by decide)
  · rw [if_neg (by rw [h]; decide), if_neg (by rw [h]; decide), if_pos h]
    unfold placeR
    split
    · decide
    · exact (show (5 : Int) ≠ 10 by decide)
theorem pend_q {P : List Int} {c : Int} (hP : begQ P) (hc : c ≠ 27) : begQ (pend P c) := by
  unfold pend
  split
  · split
    · rename_i h
      right
      unfold beg at h
      simp only [Bool.or_eq_true, beq_iff_eq] at h
      show c = 18 ∨ c = 25 ∨ c = 31
      omega
    · exact .inl rfl
  split
  · exact .inl rfl
  rename_i hne
  split
  · right
    rcases hP with h | h
    · exact absurd h hne
    · cases P with
      | nil => exact absurd rfl hne
      | cons a P => exact h
  · exact .inl rfl
structure Qt (M : Mn) : Prop where
  ok : OkM M
  p : M.p = startP
  o2 : M.o2 = []
  o3 : M.o3 = []
  lost : M.lost = 0
  l2 : begQ M.l2.P
  l3 : begQ M.l3.P
theorem Qt.ev {M : Mn} (h : Qt M) (hd an : Bool) (j : Int) {r : List Sc} (hr : x7 r 0 ≠ 10) : Qt (evM hd an j M r) := by
  have hok := h.ok.ev hd an j r
  unfold evM at hok ⊢
  rw [if_neg hr] at hok ⊢
  cases hd
  · exact h
  · exact ⟨hok, h.p, h.o2, h.o3, h.lost, h.l2, h.l3⟩
theorem Qt.evs {hd an : Bool} {j : Int} : ∀ (Y : List (List Sc)) {M : Mn}, Qt M → (∀ r ∈ Y, x7 r 0 ≠ 10) → Qt (evsM hd an j Y M)
  | [], _, h, _ => h
  | r :: Y, _, h, hY => Qt.evs Y (h.ev hd an j (hY r (by simp))) fun r hr => hY r (by simp [hr])
theorem Qt.comes {M : Mn} (h : Qt M) {j : Int} (hj : j = 2 ∨ j = 3) {c : Int} (hc : 0 ≤ c ∧ c < 128 ∧ c ≠ 27) : Qt (comesM j (mkEv c) M) := by
  have h2 : hrs M.p.M 2 j = false := by rw [h.p]; rcases hj with rfl | rfl <;> kernel_rfl
  have h3 : hrs M.p.M 3 j = false := by rw [h.p]; rcases hj with rfl | rfl <;> kernel_rfl
  rw [comes_own h2 h3]
  unfold byteM
  rw [cc_mk ⟨hc.1, hc.2.1⟩]
  have hg : begQ (getL M j).P := by
    unfold getL
    rcases hj with rfl | rfl
    · exact h.l2
    · exact h.l3
  refine Qt.evs _ ?_ (evts_q hg)
  have hl : OkL (nextL (getL M j) (mkEv c)) := (h.ok.getL j).next (mkEv_byte ⟨hc.1, by omega⟩)
  have hok := h.ok.setL j hl
  have hn : begQ (nextL (getL M j) (mkEv c)).P := by
    show begQ (pend _ (cc (mkEv c)))
    rw [cc_mk ⟨hc.1, hc.2.1⟩]
    exact pend_q hg hc.2.2
  rcases hj with rfl | rfl
  · exact ⟨hok, h.p, h.o2, h.o3, h.lost, hn, h.l3⟩
  · exact ⟨hok, h.p, h.o2, h.o3, h.lost, h.l2, hn⟩
noncomputable def stepQ (x : Bool) (M : Mn) (y : Int) : Mn := comesM (if x then 3 else 2) (mkEv (cQ y)) M
noncomputable def foldQ (x : Bool) (b : List Int) (M : Mn) : Mn := b.foldl (stepQ x) M
noncomputable def endQ (x : Bool) (b : List Int) : Mn := foldQ x b (newM 100)
theorem Qt.step {M : Mn} (h : Qt M) (x : Bool) {y : Int} (hy : byte y) : Qt (stepQ x M y) := by
  unfold stepQ
  exact h.comes (by cases x <;> simp) (cQ_in hy)
theorem Qt.fold (x : Bool) : ∀ (b : List Int) {M : Mn}, Qt M → InBytes b → Qt (foldQ x b M)
  | [], _, h, _ => h
  | y :: b, _, h, hb => Qt.fold x b (h.step x (hb y (by simp))) fun z hz => hb z (by simp [hz])
theorem newM_qt : Qt (newM 100) := ⟨newM_ok (by decide), rfl, rfl, rfl, rfl, .inl rfl, .inl rfl⟩

/-! ### the loop -/
structure AQ where
  M : Mn
  b : List Int
  x : Bool
  i : Int
noncomputable def hQ (a : AQ) : St := s_qu a.M a.b a.x a.i
def preQ (a : AQ) (R : NExit × St → Prop) : Prop := (0 ≤ a.i ∧ a.i ≤ (a.b.length : Int)) ∧ a.b.length ≤ 200 ∧ InBytes a.b ∧ OkM a.M ∧ R (.normal, e_qu (foldQ a.x (a.b.drop a.i.toNat) a.M))
def rdQ (s : St) : Option (List Int × Bool) := match s.fr[(0 : Nat)]?, s.fr[(1 : Nat)]? with
  | some (.v (.c (.l _ xs))), some (.v (.c (.b x))) => some (xs, x)
  | _, _ => none
noncomputable def l_qu (s : St) : Tr (NExit × St) := match rdQ s with
  | some (b, x) => .must (s = s_qu (newM 100) b x 0 ∧ b.length ≤ 200 ∧ InBytes b) (.ret (.normal, e_qu (endQ x b)))
  | none => .fail
theorem byR_in {j c : Int} {M : Mn} {N : Mn → Prop} (hc : 0 ≤ c ∧ c < 256) (hM : OkM M) (hN : N (comesM j (mkEv c) M)) : byR j c M N := by
  unfold byR
  rw [nrm_eq hM.p]
  exact ⟨hc, lensR_in M, ⟨hM, mkEv_byte hc⟩, hN⟩
set_option maxRecDepth 100000 in
theorem loop_qu : LOk Tryz.prog GL 0 0 (bodyLoop f_qu 0) l_qu := by
  refine loop_ok (X := X_qu) kc_qu mixed (LAll.none (by kernel_rfl)) [0, 1, 5, 7] [5] hQ (fun a => ((a.b.length : Int) - a.i).toNat) preQ ?_ ?_
  · intro s R h
    unfold l_qu at h
    split at h
    case h_2 => exact h.elim
    rename_i b x hrd
    obtain ⟨⟨hs, hl, hb⟩, hR⟩ := h
    exact ⟨⟨newM 100, b, x, 0⟩, hs, ⟨by simp only; omega, by simp only; omega⟩, hl, hb, newM_qt.ok, hR⟩
  · intro a R h
    obtain ⟨M, b, x, i⟩ := a
    obtain ⟨⟨h0, hle⟩, hl, hb, hM, hR⟩ := h
    simp only at h0 hle hl hb hM hR
    refine Tr.run_mono _ (fun o ho => ho) (Box.of_eq (round_qu M b x i _) (sel_by (fun hlt => ix_in ⟨h0, hlt⟩ (pick_in ?_)) fun hlt => ?_)).out
    · have hw : w64 (i + 1) = i + 1 := by unfold w64; rw [IntKind.wrap_i64]; omega
      have hd : b.drop i.toNat = b.getD i.toNat 0 :: b.drop (i + 1).toNat := by
        have hj : i.toNat < b.length := by omega
        rw [List.drop_eq_getElem_cons hj, List.getD_eq_getElem?_getD, List.getElem?_eq_getElem hj, show (i + 1).toNat = i.toNat + 1 by omega]
        rfl
      have hy : byte (b.getD i.toNat 0) := by
        have hj : i.toNat < b.length := by omega
        rw [List.getD_eq_getElem?_getD, List.getElem?_eq_getElem hj]
        exact hb _ (List.getElem_mem hj)
      have hc := cQ_in hy
      rw [hw]
      rw [hd] at hR
      cases x with
      | true => exact selT rfl (byR_in ⟨hc.1, by omega⟩ hM ⟨⟨stepQ true M (b.getD i.toNat 0), b, true, i + 1⟩, rfl, by simp only; omega, ⟨by simp only; omega, by simp only; omega⟩, hl, hb, hM.comes 3 (mkEv_byte ⟨hc.1, by omega⟩), hR⟩)
      | false => exact selF rfl (byR_in ⟨hc.1, by omega⟩ hM ⟨⟨stepQ false M (b.getD i.toNat 0), b, false, i + 1⟩, rfl, by simp only; omega, ⟨by simp only; omega, by simp only; omega⟩, hl, hb, hM.comes 2 (mkEv_byte ⟨hc.1, by omega⟩), hR⟩)
    · rw [List.drop_eq_nil_iff.2 (by omega)] at hR
      exact hR
noncomputable def t_qu : Con := fun args regs => if regs.length = 0 then nfun Tryz.prog GL c_qu [(0, [0, 1, 5, 7], l_qu)] f_qu args regs else .fail
theorem k_qu : Known Tryz.prog GL 4 t_qu := known_loops 0 Tryz.func4 rfl (by kernel_rfl) mixed kc_qu (LAll.one (id := 0) (body := bodyLoop f_qu 0) (by kernel_rfl) rfl loop_qu)
end Go.Proofs.YtjfgphfdaghilaaGreatDoor.qu
