/-
  Joined: AqZa, AqN1, AqN2, AqN3, AqN4, AqN5, NxA, NxB, NxC, WfA, BmA, BmB, BmC, BmD, BmE, BmG, SuA, SuB, SuC, AqN6, SuD, SuE, SuF.
-/
import Derived.Test.YtlfmkacafppmlaaDoorSu5
set_option linter.unusedVariables false
namespace Go.Proofs.YtlfmkacafppmlaaDoor.mac
open Go Go.Nx Go.Proofs.YtlfmkacafppmlaaDoor.pk Go.Proofs.YtlfmkacafppmlaaDoor.ac Go.Proofs.YtlfmkacafppmlaaDoor.sto Go.Proofs.YtlfmkacafppmlaaDoor.pge Go.Proofs.YtlfmkacafppmlaaDoor.dec
noncomputable def oFd (M : Mc) (x : Pg × Bool) : Out := ⟨.tu [pgV x.1, .c (.b x.2)], (inM M).map some⟩
noncomputable def eqSt (M : Mc) (x : Sp) (A : Prop) : Prop := some (stM M.st.sto (.hz 3 M.st.sto.l.length)) = some (stM x.sto (.hz 3 x.sto.l.length)) ∧ (some (mpReg M.st.sto.m) = some (mpReg x.sto.m) ∧ (some (ordReg (kyRows M.st.sto.l)) = some (ordReg (kyRows x.sto.l)) ∧ A))
noncomputable def fdT (M : Mc) (k : Ky) (R : Out → Prop) : Prop :=
  sel (k.2.2 != 16255)
    ((inP M.st = inP (mpP M.st) ∧ (mpP M.st).ok) ∧ eqSt M (mpP M.st) (([pgV ((mpP M.st).get k).1] = [pgV ((mpP M.st).get k).1] ∧ fits ((mpP M.st).get k).1) ∧ R (oFd M ((mpP M.st).get k))))
    ((inP M.st = inP (mpP M.st) ∧ (mpP M.st).ok) ∧ (((9 = 9 ∧ fr0 = fr0) ∧ (SF { M with st := mpP M.st } k none 0, Option.none) = (SF M k none 0, (Option.none : Option NExit)) ∧ M.good) ∧
      sel (lastF k M.st.L).isSome (([pgV ((lastF k M.st.L).getD pgZ)] = [pgV ((lastF k M.st.L).getD pgZ)] ∧ fits ((lastF k M.st.L).getD pgZ)) ∧ R (oFd M ((lastF k M.st.L).getD pgZ, true)))
        ([pgN pgZ] = [pgN pgZ] ∧ R (oFd M (pgZ, false)))))
theorem fd_tree (M : Mc) (a b c : Int) (R : Out → Prop) : (t_fd M (a, b, c) [.c (.p 0 0 0), .ag (kyNC (a, b, c))] (inM M)).run R = fdT M (a, b, c) R := by kernel_rfl
def Mc.find (M : Mc) (k : Ky) : Pg × Bool := match k.2.2 != 16255 with
  | true => M.st.get k
  | false => ((lastF k M.st.L).getD pgZ, (lastF k M.st.L).isSome)
theorem fold_mem (k : Ky) : ∀ (L : List Pg) (o : Option Pg) {p : Pg}, L.foldl (stepF k) o = some p → o = some p ∨ p ∈ L
  | [], o, p, h => .inl h
  | q :: L, o, p, h => by
    rcases fold_mem k L _ h with h | h
    · unfold stepF at h
      split at h
      · cases h; exact .inr (List.mem_cons_self ..)
      · exact .inl h
    · exact .inr (List.mem_cons_of_mem _ h)
theorem last_fits {M : Mc} (h : M.good) (k : Ky) : fits ((lastF k M.st.L).getD pgZ) := by
  cases hl : lastF k M.st.L with
  | none => exact fits_z
  | some p =>
    rcases fold_mem k _ _ hl with h' | h'
    · cases h'
    · exact h.fit p h'
set_option maxRecDepth 100000 in
theorem fd_in {M : Mc} {k : Ky} {R : Out → Prop} (hM : M.good) (h : R (oFd M (M.find k))) : fdT M k R := by
  unfold fdT
  rw [mpP_eq]
  unfold Mc.find at h
  cases hs : k.2.2 != 16255 with
  | true =>
    rw [hs] at h
    exact ⟨⟨rfl, hM.ok.2⟩, rfl, rfl, rfl, ⟨rfl, get_fits hM.fit k⟩, h⟩
  | false =>
    rw [hs] at h
    refine ⟨⟨rfl, hM.ok.2⟩, ⟨⟨rfl, rfl⟩, rfl, hM⟩, ?_⟩
    have hf := last_fits hM k
    cases hl : lastF k M.st.L with
    | none =>
      rw [hl] at h
      exact ⟨rfl, h⟩
    | some p =>
      rw [hl] at h hf
      exact ⟨⟨rfl, hf⟩, h⟩
noncomputable def tFd : Con := fun args regs => match args with
  | [.c (.p 0 0 0), .ag [.i _ a, .i _ b, .i _ c]] => onM regs fun M => .must (args = [.c (.p 0 0 0), .ag (kyNC (a, b, c))] ∧ M.good) (.ret (oFd M (M.find (a, b, c))))
  | _ => .fail
def mcZ : Mc := ⟨fun _ => mvZ, ixZ, ⟨1, ky0, false, []⟩⟩
attribute [local irreducible] t_fd in
set_option maxRecDepth 100000 in
theorem kFd : Known Tryd.prog GL 9 tFd := by
  refine Known_any (ι := Mc × Ky) (T := fun x => t_fd x.1 x.2) (mcZ, ky0) (fun x => k_fd x.1 x.2) fun args regs R h => ?_
  unfold tFd at h
  split at h
  case h_2 => exact h.elim
  rename_i _ a _ b _ c
  obtain ⟨M, rfl, hM, ⟨h1, hg⟩, h⟩ := onM_elim h
  rw [h1]
  exact ⟨(M, a, b, c), (Box.of_eq (fd_tree M a b c R) (fd_in hg h)).out⟩
noncomputable def t_snew : Con := fun args regs => nfun Tryd.prog GL (fun _ => Option.none) [] Tryd.f15 args regs
theorem k_snew : KnownF Tryd.prog GL 15 t_snew := known_inlF Tryd.func15 rfl (by kernel_rfl) mixed con_none (by kernel_rfl)
noncomputable def c_new : FuncId → Option Con := conOf [(15, t_snew)]
theorem kc_new : ∀ f T, c_new f = some T → Known Tryd.prog GL f T := (Knowns.cons k_snew.known .nil).get
noncomputable def t_new0 : Con := fun args regs => nfun Tryd.prog GL c_new [] Tryd.f5 args regs
theorem k_new0 : KnownF Tryd.prog GL 5 t_new0 := known_inlF Tryd.func5 rfl (by kernel_rfl) mixed kc_new (by kernel_rfl)
def nilsM : List (Nat × Nat × Nat × NC) := [0, 1, 2, 3, 4, 5, 6, 7, 8].flatMap fun g => [(0, 9 * g + 5, 0, .lr K3 []), (0, 9 * (g + 1), 1, .l .u8 [])]
def canonL (F : Nat) (cs : List (Nat × Nat × Reg)) (o : Out) : Tr Out :=
  match o.rg with
  | [] => .ret o
  | _ => canonO F cs none o
def canonV (F : Nat) (cs : List (Nat × Nat × Reg)) (T : Con) : Con := fun args regs => (T args regs).bind (canonL F cs)
theorem KnownF_canonV {P : Program} {gl : List Nat} {f : FuncId} {T : Con} (h : KnownF P gl f T) (F : Nat) (cs : List (Nat × Nat × Reg)) : KnownF P gl f (canonV F cs T) := by
  refine h.weak fun args regs R hR => ?_
  unfold canonV at hR
  rw [Tr.run_bind] at hR
  refine Tr.run_mono _ (fun o ho => ?_) hR
  unfold canonL at ho
  split at ho
  · exact ⟨_, WeakF.refl _, ho⟩
  · exact canonO_ok ho
noncomputable def t_newC : Con := softT [] [] [] nilsM 4 (canonV 3 [(1, 2, ordReg [])] t_new0)
theorem k_newC : Known Tryd.prog GL 5 t_newC := (KnownF_canonV k_new0 3 [(1, 2, ordReg [])]).soft [] [] [] nilsM 4
def mcN (n : Int) : Mc := ⟨fun _ => mvZ, ixZ, ⟨n, (0, 0, 0), false, []⟩⟩
noncomputable def oNo : Out := ⟨.tu [.c .pn, .c (.e eRng)], []⟩
noncomputable def oNw (n : Int) : Out := ⟨.tu [.c (.p 0 0 0), .c .en], (inM (mcN n)).map some⟩
theorem nw_tree (n : Int) (R : Out → Prop) : (t_newC [.c (.i .i64 n)] []).run R = sel (decide (n < 1)) (R oNo) (sel (decide (n > 800)) (R oNo) (R (oNw n))) := by kernel_rfl
noncomputable def tNewM : Con := fun args regs => match args, regs with
  | [.c (.i _ n)], [] => .must (args = [.c (.i .i64 n)]) (.br (decide (n < 1)) (.ret oNo) (.br (decide (n > 800)) (.ret oNo) (.ret (oNw n))))
  | _, _ => .fail
attribute [local irreducible] t_newC in
set_option maxRecDepth 100000 in
theorem kNewM : Known Tryd.prog GL 5 tNewM := by
  refine k_newC.less fun args regs R h => ?_
  unfold tNewM at h
  split at h
  case h_2 => exact h.elim
  rename_i n
  rw [h.1]
  exact (Box.of_eq (nw_tree n R) h.2).out
theorem mcN_good {n : Int} (h1 : 1 ≤ n) (h8 : n ≤ 800) : (mcN n).good := by
  refine ⟨fun k hk => rfl, List.nodup_nil, h1, h8, ?_, ?_, fun k => fits_z, fun k => Nat.zero_le _⟩
  · show ((0 : Nat) : Int) ≤ n
    omega
  · intro p hp
    cases hp
noncomputable def c_pgs0 : FuncId → Option Con := conOf [(28, tKe)]
theorem kc_pgs0 : ∀ f T, c_pgs0 f = some T → Known Tryd.prog GL f T := (Knowns.cons kKe.known .nil).get
noncomputable def t_pgs0 : Con := fun args regs => nfun Tryd.prog GL c_pgs0 [] Tryd.f10 args regs
theorem k_pgs0 : Known Tryd.prog GL 10 t_pgs0 := known_inl Tryd.func10 rfl (by kernel_rfl) mixed kc_pgs0 (by kernel_rfl)
noncomputable def oPgs (M : Mc) : Out := ⟨.v (.c (.lr K3 (kyRows (M.st.L.map kyP)))), (inM M).map some⟩
noncomputable def t_pgsC : Con := softT [] [4] [] [] 4 t_pgs0
theorem k_pgsC : Known Tryd.prog GL 10 t_pgsC := k_pgs0.soft [] [4] [] [] 4
theorem pgs_tree (M : Mc) (R : Out → Prop) : (t_pgsC [.c (.p 0 0 0)] (inM M)).run R = ((inP M.st = inP (mpP M.st) ∧ (mpP M.st).ok) ∧ ((mpP M.st).L.length = (kyRows ((mpP M.st).L.map kyP)).length ∧ R (oPgs { M with st := mpP M.st }))) := by kernel_rfl
noncomputable def tPgs : Con := fun args regs => match args with
  | [.c (.p 0 0 0)] => onM regs fun M => .ret (oPgs M)
  | _ => .fail
attribute [local irreducible] t_pgsC in
set_option maxRecDepth 100000 in
theorem kPgs : Known Tryd.prog GL 10 tPgs := by
  refine k_pgsC.less fun args regs R h => ?_
  unfold tPgs at h
  split at h
  case h_2 => exact h.elim
  obtain ⟨M, rfl, hM, h⟩ := onM_elim h
  have e : ({ M with st := mpP M.st } : Mc) = M := by rw [mpP_eq]
  refine (Box.of_eq (pgs_tree M R) ⟨⟨by rw [mpP_eq], by rw [mpP_eq]; exact hM.2⟩, by rw [kyRows_length, List.length_map], ?_⟩).out
  rw [e]
  exact h
end Go.Proofs.YtlfmkacafppmlaaDoor.mac
namespace Go.Proofs.YtlfmkacafppmlaaDoor.mac
open Go Go.Nx Go.Proofs.YtlfmkacafppmlaaDoor.pk Go.Proofs.YtlfmkacafppmlaaDoor.ac Go.Proofs.YtlfmkacafppmlaaDoor.sto Go.Proofs.YtlfmkacafppmlaaDoor.pge Go.Proofs.YtlfmkacafppmlaaDoor.dec
noncomputable abbrev f_nx := Tryd.f12
noncomputable def rgNx : Code := theRange f_nx 0
noncomputable def frN : List NS := frame 77 [(3, .v (.c (.p 4 0 0))), (4, .v (.c (.p 5 0 0))), (6, .v (.c (.p 6 0 0))), (7, .v (.c (.p 7 0 0))), (14, .v (.c (.cl 55 [(8, 0, 0)])))]
noncomputable def YN : Yh := bodyY XFe (psOf rgNx) (asOf rgNx) (bdOf rgNx) frN
inductive Jn where
  | z
  | a (p : Pg)
  | s (p : Pg)
  | d (p q : Pg)
def Jn.ca : Jn → Nat → NC
  | .z, _ => .pn
  | _, n => .p n 0 0
def Jn.cb : Jn → Nat → NC
  | .z, _ => .pn
  | .a _, _ => .pn
  | .s _, n => .p n 0 0
  | .d _ _, n => .p (n + 1) 0 0
noncomputable def Jn.ex : Jn → List (Option Reg)
  | .z => []
  | .a p => [some (pgReg p (.lr K3 p.ex))]
  | .s p => [some (pgReg p (.lr K3 p.ex))]
  | .d p q => [some (pgReg p (.lr K3 p.ex)), some (pgReg q (.lr K3 q.ex))]
noncomputable def rgJ (M : Mc) (k : Ky) (J : Jn) (n : Nat) : List (Option Reg) := [some (mcG 1 M.v M.inf), some (stM M.st.sto (.hz 3 M.st.sto.l.length)), some (mpReg M.st.sto.m), some (ordReg (kyRows M.st.sto.l)), some (plReg k), some (pgReg pgZ .sn), some ⟨1, 81, .cells [J.ca n]⟩, some ⟨1, 81, .cells [J.cb n]⟩, some ⟨1, 53, .cells [.p 1 0 0]⟩]
noncomputable def rndN (s : St) : Tr ROI := roundI XIt YN KI [] 0 [0, 1, 8, 9, 10] [] itC s Option.none
def Jn.cnt : Jn → Nat
  | .z => 9
  | .a _ => 10
  | .s _ => 10
  | .d _ _ => 11
noncomputable def SN (M : Mc) (k : Ky) (J : Jn) (i : Int) : St := { fr := frame 32 [(0, .v (.c (.e 1000))), (1, .v (.c (.p 8 0 0))), (8, .v (.c (.hz J.cnt M.st.L.length))), (9, .v (.c (.i .i64 M.st.L.length))), (10, .v (.c (.i .i64 i)))], rg := rgJ M k J 9 ++ J.ex ++ [some (ordReg (kyRows (M.st.L.map kyP)))] }
noncomputable def DN (M : Mc) (k : Ky) (J : Jn) : St := { fr := frame 32 [], rg := rgJ M k J 9 ++ J.ex }
noncomputable def nxN (M : Mc) (k : Ky) (i : Int) (R : ROI → Prop) (J : Jn) : Prop := R (.next (SN M k J (IntKind.i64.wrap (i + 1))) Option.none)
def pgN_at (M : Mc) (i : Int) : Pg := ofRow (mpGet plSch (kyFC (rkF M i)) M.st.sto.m)
def hitN (k : Ky) (b : Int) (x : Pg) (N : Jn → Prop) : Jn → Prop
  | .z => sel (decide (b > k.2.2)) (N (.s x)) (N (.a x))
  | .a p => sel (decide (b < p.sb)) (sel (decide (b > k.2.2)) (N (.s x)) (N (.a x))) (sel (decide (b > k.2.2)) (N (.d p x)) (N (.a p)))
  | .s p => sel (decide (b < p.sb)) (sel (decide (b > k.2.2)) (sel (decide (b < p.sb)) (N (.s x)) (N (.d x p))) (N (.d x p))) (sel (decide (b > k.2.2)) (sel (decide (b < p.sb)) (N (.d p x)) (N (.s p))) (N (.s p)))
  | .d p q => sel (decide (b < p.sb)) (sel (decide (b > k.2.2)) (sel (decide (b < q.sb)) (N (.s x)) (N (.d x q))) (N (.d x q))) (sel (decide (b > k.2.2)) (sel (decide (b < q.sb)) (N (.d p x)) (N (.d p q))) (N (.d p q)))
noncomputable def inN (M : Mc) (k : Ky) (J : Jn) (i : Int) (R : ROI → Prop) : Prop :=
  sel (decide (i < (M.st.L.length : Int))) (sel (decide (0 ≤ i)) (sel (decide (i < (M.st.L.length : Int))) (sel (decide (i.toNat < (kyRows (M.st.L.map kyP)).length)) (sel (mpHas plSch (kyFC (rkF M i)) M.st.sto.m)
    (true = true ∧ sel ((rkF M i).1 != k.1) (nxN M k i R J) (sel ((rkF M i).2.1 != k.2.1) (nxN M k i R J) (hitN k (rkF M i).2.2 (pgN_at M i) (nxN M k i R) J)))
    (nxN M k i R J)) False) False) False) (R (.done .normal (DN M k J) Option.none))
theorem round_Nz (M : Mc) (k : Ky) (i : Int) (R : ROI → Prop) : (rndN (SN M k .z i)).run R = inN M k .z i R := by kernel_rfl
theorem round_Na (M : Mc) (k : Ky) (p : Pg) (i : Int) (R : ROI → Prop) : (rndN (SN M k (.a p) i)).run R = inN M k (.a p) i R := by kernel_rfl
theorem round_Ns (M : Mc) (k : Ky) (p : Pg) (i : Int) (R : ROI → Prop) : (rndN (SN M k (.s p) i)).run R = inN M k (.s p) i R := by kernel_rfl
theorem round_Nd (M : Mc) (k : Ky) (p q : Pg) (i : Int) (R : ROI → Prop) : (rndN (SN M k (.d p q) i)).run R = inN M k (.d p q) i R := by kernel_rfl
theorem round_N (M : Mc) (k : Ky) (i : Int) (R : ROI → Prop) : ∀ J : Jn, (rndN (SN M k J i)).run R = inN M k J i R
  | .z => round_Nz M k i R
  | .a p => round_Na M k p i R
  | .s p => round_Ns M k p i R
  | .d p q => round_Nd M k p q i R
def Jn.hit (k : Ky) (x : Pg) : Jn → Jn
  | .z => bif decide (x.sb > k.2.2) then .s x else .a x
  | .a p => bif decide (x.sb < p.sb) then (bif decide (x.sb > k.2.2) then .s x else .a x) else (bif decide (x.sb > k.2.2) then .d p x else .a p)
  | .s p => bif decide (x.sb < p.sb) then (bif decide (x.sb > k.2.2) then .s x else .d x p) else .s p
  | .d p q => bif decide (x.sb < p.sb) then (bif decide (x.sb > k.2.2) && decide (x.sb < q.sb) then .s x else .d x q) else (bif decide (x.sb > k.2.2) && decide (x.sb < q.sb) then .d p x else .d p q)
def Jn.step (k : Ky) (J : Jn) (x : Pg) : Jn := bif hitF k x then J.hit k x else J
def Mc.nxJ (M : Mc) (k : Ky) : Jn := M.st.L.foldl (Jn.step k) .z
theorem hitN_in (k : Ky) (x : Pg) (N : Jn → Prop) (J : Jn) (h : N (J.hit k x)) : hitN k x.sb x N J := by
  revert h
  cases J with
  | z =>
    dsimp only [hitN, Jn.hit]
    cases decide (x.sb > k.2.2) <;> exact fun h => h
  | a p =>
    dsimp only [hitN, Jn.hit]
    cases decide (x.sb > k.2.2) <;> cases decide (x.sb < p.sb) <;> exact fun h => h
  | s p =>
    dsimp only [hitN, Jn.hit]
    cases decide (x.sb > k.2.2) <;> cases decide (x.sb < p.sb) <;> exact fun h => h
  | d p q =>
    dsimp only [hitN, Jn.hit]
    cases decide (x.sb > k.2.2) <;> cases decide (x.sb < p.sb) <;> cases decide (x.sb < q.sb) <;> exact fun h => h
structure AN where
  J : Jn
  i : Int
def Jn.isZ : Jn → Bool
  | .z => true
  | _ => false
def Jn.isA : Jn → Bool
  | .a _ => true
  | _ => false
def Jn.isS : Jn → Bool
  | .s _ => true
  | _ => false
def Jn.p : Jn → Pg
  | .z => pgZ
  | .a p => p
  | .s p => p
  | .d p _ => p
def Jn.q : Jn → Pg
  | .d _ q => q
  | _ => pgZ
noncomputable def endN (M : Mc) (k : Ky) (J : Jn) : Tr (NExit × St × Option NExit) := .br J.isZ (.ret (.normal, DN M k .z, Option.none)) (.br J.isA (.ret (.normal, DN M k (.a J.p), Option.none)) (.br J.isS (.ret (.normal, DN M k (.s J.p), Option.none)) (.ret (.normal, DN M k (.d J.p J.q), Option.none))))
noncomputable def preN (M : Mc) (k : Ky) (a : AN) (R : NExit × St × Option NExit → Prop) : Prop := (0 ≤ a.i ∧ a.i ≤ (M.st.L.length : Int)) ∧ M.good ∧ (endN M k ((M.st.L.drop a.i.toNat).foldl (Jn.step k) a.J)).run R
noncomputable def hN (M : Mc) (k : Ky) (a : AN) : St × Option NExit := (SN M k a.J a.i, Option.none)
noncomputable def nxtN (M : Mc) (k : Ky) (a : AN) (R : NExit × St × Option NExit → Prop) (o : ROI) : Prop := match o with
  | .next s p => ∃ y, (s, p) = hN M k y ∧ ((M.st.L.length : Int) - y.i).toNat < ((M.st.L.length : Int) - a.i).toNat ∧ preN M k y R
  | .done e s p => R (e, s, p)
theorem bne_t {a b : Int} (h : (a == b) = false) : (a != b) = true := by unfold bne; rw [h]; rfl
theorem bne_f {a b : Int} (h : (a == b) = true) : (a != b) = false := by unfold bne; rw [h]; rfl
theorem inN_in (M : Mc) (k : Ky) (a : AN) (R : NExit × St × Option NExit → Prop) (h : preN M k a R) : inN M k a.J a.i (nxtN M k a R) := by
  obtain ⟨J, i⟩ := a
  obtain ⟨⟨h0, hle⟩, hg, hR⟩ := h
  simp only at h0 hle hR
  unfold inN
  by_cases hlt : i < (M.st.L.length : Int)
  · have hj : i.toNat < M.st.L.length := by omega
    have hl8 := hg.lt
    have hw : IntKind.i64.wrap (i + 1) = i + 1 := by rw [IntKind.wrap_i64]; omega
    have ht : (i + 1).toNat = i.toNat + 1 := by omega
    have nx : ∀ J', (endN M k ((M.st.L.drop (i.toNat + 1)).foldl (Jn.step k) J')).run R → nxN M k i (nxtN M k ⟨J, i⟩ R) J' := fun J' h' => by
      unfold nxN
      rw [hw]
      exact ⟨⟨J', i + 1⟩, rfl, by simp only; omega, ⟨by simp only; omega, by simp only; omega⟩, hg, by simp only; rw [ht]; exact h'⟩
    rw [List.drop_eq_getElem_cons hj, List.foldl_cons] at hR
    have hm := mp_nth hj hg.nd
    have hp : pgN_at M i = M.st.L[i.toNat] := by
      unfold pgN_at
      rw [rk_eq hj]
      exact hm.2
    rw [hp, rk_eq hj]
    refine sT (decide_eq_true hlt) (sT (decide_eq_true h0) (sT (decide_eq_true hlt) (sT (decide_eq_true (by rw [kyRows_length, List.length_map]; exact hj)) ?_)))
    refine sT hm.1 ⟨rfl, ?_⟩
    generalize M.st.L[i.toNat] = p at hR ⊢
    show sel (p.mg != k.1) _ (sel (p.pn != k.2.1) _ _)
    cases h1 : p.mg == k.1 with
    | false =>
      rw [bne_t h1]
      refine nx J ?_
      unfold Jn.step hitF at hR
      rw [h1] at hR
      exact hR
    | true =>
      rw [bne_f h1]
      show sel (p.pn != k.2.1) _ _
      cases h2 : p.pn == k.2.1 with
      | false =>
        rw [bne_t h2]
        refine nx J ?_
        unfold Jn.step hitF at hR
        rw [h1, h2] at hR
        exact hR
      | true =>
        rw [bne_f h2]
        refine hitN_in k p _ J (nx (J.hit k p) ?_)
        unfold Jn.step hitF at hR
        rw [h1, h2] at hR
        exact hR
  · refine sF (decide_eq_false hlt) ?_
    rw [List.drop_eq_nil_iff.2 (by omega)] at hR
    cases J <;> exact hR
set_option maxRecDepth 100000 in
theorem loop_N (M : Mc) (k : Ky) : LOkI Tryd.prog GL 9 KI YN 0 itC (fun s => .must (s = (SN M k .z 0, Option.none) ∧ M.good) (endN M k (M.nxJ k))) := by
  refine loopI_ok (X := XIt) (ls := []) kcIt (by kernel_rfl) (LAllI.none (by kernel_rfl)) [0, 1, 8, 9, 10] [] (hN M k) (fun a => ((M.st.L.length : Int) - a.i).toNat) (preN M k) ?_ ?_
  · rintro s R ⟨⟨hs, hg⟩, hR⟩
    exact ⟨⟨.z, 0⟩, hs, ⟨by simp only; omega, by simp only; omega⟩, hg, hR⟩
  · intro a R h
    have := (Box.of_eq (round_N M k a.i (nxtN M k a R) a.J) (inN_in M k a R h)).out
    exact Tr.run_mono _ (fun o ho => ho) this
noncomputable def LN (M : Mc) (k : Ky) (m : Nat) (fr : List NS) (s : St × Option NExit) : Tr (NExit × St × Option NExit) := .must ((m = 9 ∧ fr = frN) ∧ s = (SN M k .z 0, Option.none) ∧ M.good) (endN M k (M.nxJ k))
theorem loop_N' (M : Mc) (k : Ky) (m : Nat) (fr : List NS) : LOkI Tryd.prog GL m KI (bodyY XFe (psOf rgNx) (asOf rgNx) (bdOf rgNx) fr) 0 itC (LN M k m fr) := by
  intro l rc N Γ0 w0 h0 hN h0k h0r hY s p Γ a w R Q hI hE hW hL hK
  unfold LN at hL
  obtain ⟨⟨⟨rfl, hfr⟩, h2⟩, h4⟩ := hL
  rw [hfr] at hY
  exact loop_N M k l rc N Γ0 w0 h0 hN h0k h0r hY s p Γ a w R Q hI hE hW ⟨h2, h4⟩ hK
noncomputable def lsN (M : Mc) (k : Ky) (m : Nat) (fr : List NS) : LI := [(0, [0, 1, 8, 9, 10], LN M k m fr)]
noncomputable def RN (M : Mc) (k : Ky) : St → Tr (NExit × St) := rangeT XFe KI cIt (lsN M k) 0 [4, 6, 7] 55 f_it rgNx
theorem rgNx_eq : rgNx = .rangeFunc (.tmp 14) (psOf rgNx) (asOf rgNx) (bdOf rgNx) := by kernel_rfl
theorem rN_ok (M : Mc) (k : Ky) : RgOk Tryd.prog GL 4 0 rgNx (RN M k) := by
  have h := rangeT_ok (X := XFe) con_e (K := KI) kcIt (ls := lsN M k) (id := 0) (out := [4, 6, 7]) (g := .tmp 14) (ps := psOf rgNx) (assign := asOf rgNx) (body := bdOf rgNx) Tryd.func55 it_body (by kernel_rfl) (by kernel_rfl) (by kernel_rfl) (by kernel_rfl) (by kernel_rfl)
    (fun m fr => LAllI.one (id := 0) (body := itC) (live := [0, 1, 8, 9, 10]) (L := LN M k m fr) it_loops rfl (loop_N' M k m fr))
  rw [← rgNx_eq] at h
  exact h
noncomputable def lpN (M : Mc) (k : Ky) : List (Nat × List Nat × (St → Tr (NExit × St))) := [(0, [3, 4, 6, 7, 14], RN M k)]
noncomputable def t_nx (M : Mc) (k : Ky) : Con := fun args regs => if regs.length = 4 then nfun Tryd.prog GL c_fd2 (lpN M k) f_nx args regs else .fail
theorem nx_loops : loopsIn (f_nx.body.getD .skip) = [] := by kernel_rfl
theorem nx_ranges : rangesIn (f_nx.body.getD .skip) = [(0, rgNx)] := by kernel_rfl
theorem k_nx (M : Mc) (k : Ky) : Known Tryd.prog GL 12 (t_nx M k) := by
  refine known_loops (c := f_nx.body.getD .skip) 4 Tryd.func12 (by kernel_rfl) (by kernel_rfl) mixed kc_fd2 ⟨fun i b hb x hf => ?_, fun i b hb x hf => ?_⟩
  · rw [nx_loops] at hb
    cases hb
  · rw [nx_ranges, List.mem_singleton] at hb
    cases hb
    have : x = (0, [3, 4, 6, 7, 14], RN M k) := by simpa [lpN] using hf.symm
    subst this
    exact rN_ok M k
noncomputable def t_nxC (M : Mc) (k : Ky) : Con := softT [] [] [(0, 5, 0, .lr K3 [])] [] 4 (t_nx M k)
theorem k_nxC (M : Mc) (k : Ky) : Known Tryd.prog GL 12 (t_nxC M k) := (k_nx M k).soft [] [] [(0, 5, 0, .lr K3 [])] [] 4
noncomputable def oNx (M : Mc) (x : Pg × Bool) : Out := ⟨.tu [pgV x.1, .c (.b x.2)], (inM M).map some⟩
noncomputable def owN (M : Mc) (p : Pg) (R : Out → Prop) : Prop := ([pgV p] = [pgV p] ∧ fits p) ∧ R (oNx M (p, true))
noncomputable def nxT (M : Mc) (k : Ky) (R : Out → Prop) : Prop :=
  (inP M.st = inP (mpP M.st) ∧ (mpP M.st).ok) ∧ ((9 = 9 ∧ frN = frN) ∧ (SN { M with st := mpP M.st } k .z 0, Option.none) = (SN M k .z 0, (Option.none : Option NExit)) ∧ M.good) ∧
    sel (M.nxJ k).isZ (R (oNx M (pgZ, false))) (sel (M.nxJ k).isA (owN M (M.nxJ k).p R) (sel (M.nxJ k).isS (owN M (M.nxJ k).p R) (owN M (M.nxJ k).q R)))
theorem nx_tree (M : Mc) (a b c : Int) (R : Out → Prop) : (t_nxC M (a, b, c) [.c (.p 0 0 0), .ag (kyNC (a, b, c))] (inM M)).run R = nxT M (a, b, c) R := by kernel_rfl
def Jn.res : Jn → Pg × Bool
  | .z => (pgZ, false)
  | .a p => (p, true)
  | .s p => (p, true)
  | .d _ q => (q, true)
def Mc.next (M : Mc) (k : Ky) : Pg × Bool := (M.nxJ k).res
def Jn.mem (L : List Pg) : Jn → Prop
  | .z => True
  | .a p => p ∈ L
  | .s p => p ∈ L
  | .d p q => p ∈ L ∧ q ∈ L
theorem Jn.mem_hit {L : List Pg} {k : Ky} {x : Pg} {J : Jn} (hx : x ∈ L) (h : J.mem L) : (J.hit k x).mem L := by
  cases J with
  | z => dsimp only [Jn.hit]; cases decide (x.sb > k.2.2) <;> exact hx
  | a p => dsimp only [Jn.hit]; cases decide (x.sb > k.2.2) <;> cases decide (x.sb < p.sb) <;> first | exact hx | exact h | exact ⟨h, hx⟩
  | s p => dsimp only [Jn.hit]; cases decide (x.sb > k.2.2) <;> cases decide (x.sb < p.sb) <;> first | exact hx | exact h | exact ⟨hx, h⟩
  | d p q => dsimp only [Jn.hit]; cases decide (x.sb > k.2.2) <;> cases decide (x.sb < p.sb) <;> cases decide (x.sb < q.sb) <;> first | exact hx | exact h | exact ⟨hx, h.2⟩ | exact ⟨h.1, hx⟩
theorem Jn.mem_fold {L : List Pg} (k : Ky) : ∀ (l : List Pg) (J : Jn), (∀ x ∈ l, x ∈ L) → J.mem L → (l.foldl (Jn.step k) J).mem L
  | [], _, _, h => h
  | x :: l, J, hl, h => by
    refine Jn.mem_fold k l (J.step k x) (fun y hy => hl y (List.mem_cons_of_mem _ hy)) ?_
    unfold Jn.step
    cases hitF k x with
    | true => exact Jn.mem_hit (hl x (List.mem_cons_self ..)) h
    | false => exact h
theorem nxJ_mem (M : Mc) (k : Ky) : (M.nxJ k).mem M.st.L := Jn.mem_fold k _ _ (fun _ h => h) trivial
theorem nx_in {M : Mc} {k : Ky} {R : Out → Prop} (hM : M.good) (h : R (oNx M (M.next k))) : nxT M k R := by
  unfold nxT
  rw [mpP_eq]
  refine ⟨⟨rfl, hM.ok.2⟩, ⟨⟨rfl, rfl⟩, rfl, hM⟩, ?_⟩
  have hm := nxJ_mem M k
  unfold Mc.next at h
  generalize M.nxJ k = J at h hm ⊢
  cases J with
  | z => exact h
  | a p => exact ⟨⟨rfl, hM.fit p hm⟩, h⟩
  | s p => exact ⟨⟨rfl, hM.fit p hm⟩, h⟩
  | d p q => exact ⟨⟨rfl, hM.fit q hm.2⟩, h⟩
noncomputable def tNx : Con := fun args regs => match args with
  | [.c (.p 0 0 0), .ag [.i _ a, .i _ b, .i _ c]] => onM regs fun M => .must (args = [.c (.p 0 0 0), .ag (kyNC (a, b, c))] ∧ M.good) (.ret (oNx M (M.next (a, b, c))))
  | _ => .fail
attribute [local irreducible] t_nxC in
set_option maxRecDepth 100000 in
theorem kNx : Known Tryd.prog GL 12 tNx := by
  refine Known_any (ι := Mc × Ky) (T := fun x => t_nxC x.1 x.2) (mcZ, ky0) (fun x => k_nxC x.1 x.2) fun args regs R h => ?_
  unfold tNx at h
  split at h
  case h_2 => exact h.elim
  rename_i _ a _ b _ c
  obtain ⟨M, rfl, hM, ⟨h1, hg⟩, h⟩ := onM_elim h
  rw [h1]
  exact ⟨(M, a, b, c), (Box.of_eq (nx_tree M a b c R) (nx_in hg h)).out⟩
end Go.Proofs.YtlfmkacafppmlaaDoor.mac
namespace Go.Proofs.YtlfmkacafppmlaaDoor.mac
open Go Go.Nx Go.Proofs.YtlfmkacafppmlaaDoor.pk Go.Proofs.YtlfmkacafppmlaaDoor.ac Go.Proofs.YtlfmkacafppmlaaDoor.sto Go.Proofs.YtlfmkacafppmlaaDoor.pge Go.Proofs.YtlfmkacafppmlaaDoor.dec
structure Kept (P : Pg → Prop) : Prop where
  z : P pgZ
  nw : ∀ (h : Hx) (p : Pg) (t : List Int), P p → P (newQ h p t)
  row : ∀ (p : Pg) (r : Int) (ds : List Int), P p → P (rowP p r ds)
  ex : ∀ (p : Pg) (c : Int) (l : List (List Sc)), P p → P (extraP p c l)
  lk : ∀ (p : Pg) (m : Int) (ds : List Int), P p → P { p with lk := lkR m ds, ld := true }
  df : ∀ (p : Pg) (n : Int), P p → P { p with df := n }
structure Mc.allP (P : Pg → Prop) (M : Mc) : Prop where
  st : ∀ p ∈ M.st.L, P p
  v : ∀ k, P (M.v k).p
theorem put_all {P : Pg → Prop} {x : Sp} {p : Pg} (h : ∀ q ∈ x.L, P q) (hp : P p) : ∀ q ∈ (x.put p).L, P q := by
  have h1 : ∀ q ∈ ((x.drop (kyP p)).push p).L, P q := fun q hq => by
    rcases List.mem_append.1 hq with hq | hq
    · exact h q (List.mem_filter.1 hq).1
    · rw [List.mem_singleton] at hq
      exact hq ▸ hp
  unfold Sp.put
  split
  · exact h1
  · exact fun q hq => h1 q (List.mem_filter.1 hq).1
theorem get_all {P : Pg → Prop} {x : Sp} (h : ∀ q ∈ x.L, P q) (hz : P pgZ) (k : Ky) : P (x.get k).1 := by
  unfold Sp.get
  cases hf : x.L.find? (fun p => kyEq k (kyP p)) with
  | none => exact hz
  | some p => exact h p (List.mem_of_find?_eq_some hf)
theorem upd_all {P : Pg → Prop} {v : Nat → Mv} {g : Nat} {m : Mv} (h : ∀ k, P (v k).p) (hm : P m.p) (k : Nat) : P (upd v g m k).p := by
  by_cases e : k = g
  · subst e
    rw [upd_same]
    exact hm
  · rw [upd_other e]
    exact h k
section
variable {P : Pg → Prop} (hP : Kept P)
include hP
theorem endM_all {M : Mc} (h : M.allP P) (g : Nat) : (M.endM g).allP P := by
  unfold Mc.endM
  split
  · exact ⟨put_all h.st (h.v g), upd_all h.v hP.z⟩
  · exact h
theorem ends_all {c : Bool} {g : Int} : ∀ (n i : Nat) (M : Mc), M.allP P → (Mc.ends c g n i M).allP P
  | 0, _, _, h => h
  | n + 1, i, M, h => by
    unfold Mc.ends
    refine ends_all n (i + 1) _ ?_
    split
    · exact endM_all hP h i
    · exact h
theorem opP_all {x : Sp} (h : ∀ q ∈ x.L, P q) (hx : Hx) (t : List Int) : P (opP x hx t) := by
  unfold opP newP
  refine hP.nw _ _ _ ?_
  split
  · exact get_all h hP.z _
  · exact hP.z
theorem dfP_all {m : Mv} {p : Pg} (h : P p) : P (dfP m p) := by
  unfold dfP
  split
  · exact hP.df _ _ h
  · exact h
theorem hdM_all {M : Mc} (h : M.allP P) (g : Nat) (ds : List Int) : (M.hdM g ds).allP P := by
  have h0 : (M.headed g (hdV g ds) (dec.txV ds)).allP P := ⟨h.st, upd_all h.v (h.v g)⟩
  have h1 := ends_all hP (c := (hdV g ds).c7) (g := g) 8 1 _ h0
  unfold Mc.hdM Mc.open'
  split
  · exact h1
  · exact ⟨h1.st, upd_all h1.v (dfP_all hP (opP_all hP h1.st _ _))⟩
theorem part_all {m : Mv} (h : P m.p) (p : Px) : P (m.part p).p := by
  unfold Mv.part
  split
  · exact hP.row _ _ _ h
  · split
    · unfold Mv.extra
      split
      · exact hP.ex _ _ _ h
      · exact h
    · split
      · unfold Mv.linked
        split
        · exact h
        · exact hP.lk _ _ _ h
      · split
        · exact hP.df _ _ h
        · exact h
theorem insM_all {M : Mc} (h : M.allP P) (g : Nat) (p : Px) : (M.insM g p).allP P := by
  unfold Mc.insM
  split
  · exact ⟨h.st, upd_all h.v (part_all hP (h.v g) p)⟩
  · exact h
theorem pkM_all {M : Mc} (h : M.allP P) (p : Px) : (M.pkM p).1.allP P := by
  unfold Mc.pkM
  split
  · split
    · exact hdM_all hP h _ _
    · exact h
  · split
    · split
      · exact ⟨h.st, upd_all h.v (h.v _)⟩
      · exact h
    · split
      · split
        · split
          · split
            · exact ⟨h.st, h.v⟩
            · exact h
          · exact h
        · exact h
      · exact insM_all hP h _ _
theorem step_all {M : Mc} (h : M.allP P) (bs : List Int) : (M.step bs).1.allP P := by
  unfold Mc.step
  split
  · exact h
  · exact pkM_all hP h _
end
structure Wf (p : Pg) : Prop where
  c : p.c.length = 11
  rows : p.rows.length = 1000
  th : p.th.length = 25
  lk : p.lk.length = 6
theorem mergeV_len (old ds : List Int) (had : Bool) : (mergeV old ds had).length = 40 := by
  unfold mergeV
  rw [hd.mapF_length, List.length_replicate]
theorem setR_wf {p : Pg} (h : Wf p) {n : Nat} (hn : n < 25) (ds : List Int) : Wf (Pg.setR p n ds) := by
  refine ⟨h.c, ?_, ?_, h.lk⟩
  · show (spl p.rows (n * 40) 40 (mergeV (r40 p n) ds (thB p n))).length = 1000
    have hm := mergeV_len (r40 p n) ds (thB p n)
    have hr := h.rows
    generalize mergeV (r40 p n) ds (thB p n) = ys at hm
    unfold spl
    split
    · simp at hm
    · rw [List.length_append, List.length_append, List.length_take, List.length_drop, hm, hr]
      omega
  · show (p.th.set n [.b true]).length = 25
    rw [List.length_set, h.th]
theorem wf_kept : Kept Wf where
  z := ⟨rfl, by decide +kernel, rfl, rfl⟩
  nw := fun h p t hp => by
    have := setR_wf hp (n := 0) (by decide) (dat t)
    exact ⟨rfl, this.rows, this.th, this.lk⟩
  row := fun p r ds hp => by
    unfold rowP
    by_cases h1 : r < 1
    · rw [decide_eq_true h1]; split <;> first | exact hp | simp_all
    · by_cases h2 : r > 24
      · rw [decide_eq_true h2]; split <;> first | exact hp | simp_all
      · rw [decide_eq_false h1, decide_eq_false h2]
        exact setR_wf hp (by omega) ds
  ex := fun p c l hp => by
    unfold extraP
    split
    · exact ⟨hp.c, hp.rows, hp.th, hp.lk⟩
    · exact hp
  lk := fun p m ds hp => ⟨hp.c, hp.rows, hp.th, rfl⟩
  df := fun p n hp => ⟨hp.c, hp.rows, hp.th, hp.lk⟩
theorem allP_nw {P : Pg → Prop} (h : P pgZ) (M : Mc) (hv : M.v = fun _ => mvZ) (hL : M.st.L = []) : M.allP P :=
  ⟨fun p hp => (List.not_mem_nil (hL ▸ hp)).elim, fun k => by rw [hv]; exact h⟩
end Go.Proofs.YtlfmkacafppmlaaDoor.mac
namespace Go.Proofs.YtlfmkacafppmlaaDoor.bm
open Go.Proofs.YtlfmkacafppmlaaDoor.sto (sT sF)
open Go Go.Nx Go.Proofs.YtlfmkacafppmlaaDoor.pk Go.Proofs.YtlfmkacafppmlaaDoor.ln Go.Proofs.YtlfmkacafppmlaaDoor.hd Go.Proofs.YtlfmkacafppmlaaDoor.lb Go.Proofs.YtlfmkacafppmlaaDoor.sv
theorem bytesU : bytesT Tryd.prog 5 = 1 := by kernel_rfl
open Go.Proofs.YtlfmkacafppmlaaDoor.pge (Hx)
noncomputable def t_rright : Con := fun args regs => nfun Tryd.prog GL (fun _ => Option.none) [] Tryd.f16 args regs
theorem k_rright : Known Tryd.prog GL 16 t_rright := known_inl Tryd.func16 rfl (by kernel_rfl) mixed con_none (by kernel_rfl)
noncomputable def c_rplaced : FuncId → Option Con := conOf [(18, tRPut)]
theorem kc_rplaced : ∀ f T, c_rplaced f = some T → Known Tryd.prog GL f T := (Knowns.cons kg_rput .nil).get
noncomputable def t_rplaced : Con := fun args regs => nfun Tryd.prog GL c_rplaced [] Tryd.f17 args regs
theorem k_rplaced : Known Tryd.prog GL 17 t_rplaced := known_inl Tryd.func17 rfl (by kernel_rfl) mixed kc_rplaced (by kernel_rfl)
noncomputable def c_rpkd : FuncId → Option Con := conOf [(18, tRPut)]
theorem kc_rpkd : ∀ f T, c_rpkd f = some T → Known Tryd.prog GL f T := (Knowns.cons kg_rput .nil).get
noncomputable def t_rpkd : Con := fun args regs => nfun Tryd.prog GL c_rpkd [] Tryd.f19 args regs
theorem k_rpkd : Known Tryd.prog GL 19 t_rpkd := known_inl Tryd.func19 rfl (by kernel_rfl) mixed kc_rpkd (by kernel_rfl)
noncomputable abbrev f_hb := Tryd.f6
noncomputable def c_hb : FuncId → Option Con := conOf [(16, t_rright), (17, t_rplaced), (18, tRPut), (19, t_rpkd)]
theorem kc_hb : ∀ f T, c_hb f = some T → Known Tryd.prog GL f T := (Knowns.cons k_rright (.cons k_rplaced (.cons kg_rput (.cons k_rpkd .nil)))).get
noncomputable def X_hb : Cx := { P := Tryd.prog, con := c_hb, glob := GL, m := 0, loops := [] }
def alB (h : Hx) : Nat → Bool
  | 0 => h.c0
  | 1 => h.c1
  | 2 => h.c2
  | 3 => h.c3
  | 4 => h.c4
  | 5 => h.c5
  | 6 => h.c6
  | 7 => h.c7
  | 8 => h.c8
  | 9 => h.c9
  | 10 => h.c10
  | _ => false
def pw (k : Nat) : Int := Int.ofNat (2 ^ k)
noncomputable def alV (h : Hx) : Nat → Int
  | 0 => 0
  | k + 1 => bif alB h k then bits .or .i64 (alV h k) (pw k) else alV h k
noncomputable def hxR (h : Hx) : Reg := ⟨15, 36, .cells h.nc⟩
noncomputable def sHB (xs : List Int) (h : Hx) (all : Int) (i : Int) : St := { fr := frame 55 [(1, .v (.c (.l .u8 xs))), (2, .v (.c (.p 0 0 0))), (4, .v (.c .sn)), (5, .v (.c (.i .i64 0))), (6, .v (.c (.i .i64 all))), (7, .v (.c (.i .i64 i)))], rg := [some (hxR h)] }
noncomputable def dHB (xs : List Int) (h : Hx) (all : Int) : St := { fr := frame 55 [(1, .v (.c (.l .u8 xs))), (2, .v (.c (.p 0 0 0))), (4, .v (.c .sn)), (5, .v (.c (.i .i64 0))), (6, .v (.c (.i .i64 all)))], rg := [some (hxR h)] }
noncomputable def rHB (s : St) : Tr RO := roundT X_hb 0 [1, 2, 4, 5, 6, 7] [1, 2, 4, 5, 6] (bodyLoop f_hb 0) s
noncomputable def nHB (xs : List Int) (h : Hx) (all : Int) (k : Nat) (R : RO → Prop) : Prop := sel (alB h k) (R (.next (sHB xs h (bits .or .i64 all (pw k)) (Int.ofNat (k + 1))))) (R (.next (sHB xs h all (Int.ofNat (k + 1)))))
theorem hb_0 (xs : List Int) (h : Hx) (all : Int) (R : RO → Prop) : (rHB (sHB xs h all 0)).run R = nHB xs h all 0 R := by kernel_rfl
theorem hb_1 (xs : List Int) (h : Hx) (all : Int) (R : RO → Prop) : (rHB (sHB xs h all 1)).run R = nHB xs h all 1 R := by kernel_rfl
theorem hb_2 (xs : List Int) (h : Hx) (all : Int) (R : RO → Prop) : (rHB (sHB xs h all 2)).run R = nHB xs h all 2 R := by kernel_rfl
theorem hb_3 (xs : List Int) (h : Hx) (all : Int) (R : RO → Prop) : (rHB (sHB xs h all 3)).run R = nHB xs h all 3 R := by kernel_rfl
theorem hb_4 (xs : List Int) (h : Hx) (all : Int) (R : RO → Prop) : (rHB (sHB xs h all 4)).run R = nHB xs h all 4 R := by kernel_rfl
theorem hb_5 (xs : List Int) (h : Hx) (all : Int) (R : RO → Prop) : (rHB (sHB xs h all 5)).run R = nHB xs h all 5 R := by kernel_rfl
theorem hb_6 (xs : List Int) (h : Hx) (all : Int) (R : RO → Prop) : (rHB (sHB xs h all 6)).run R = nHB xs h all 6 R := by kernel_rfl
theorem hb_7 (xs : List Int) (h : Hx) (all : Int) (R : RO → Prop) : (rHB (sHB xs h all 7)).run R = nHB xs h all 7 R := by kernel_rfl
theorem hb_8 (xs : List Int) (h : Hx) (all : Int) (R : RO → Prop) : (rHB (sHB xs h all 8)).run R = nHB xs h all 8 R := by kernel_rfl
theorem hb_9 (xs : List Int) (h : Hx) (all : Int) (R : RO → Prop) : (rHB (sHB xs h all 9)).run R = nHB xs h all 9 R := by kernel_rfl
theorem hb_10 (xs : List Int) (h : Hx) (all : Int) (R : RO → Prop) : (rHB (sHB xs h all 10)).run R = nHB xs h all 10 R := by kernel_rfl
theorem hb_11 (xs : List Int) (h : Hx) (all : Int) (R : RO → Prop) : (rHB (sHB xs h all 11)).run R = R (.done .normal (dHB xs h all)) := by kernel_rfl
theorem hb_k (xs : List Int) (h : Hx) (all : Int) (R : RO → Prop) : ∀ k < 11, (rHB (sHB xs h all (Int.ofNat k))).run R = nHB xs h all k R
  | 0, _ => hb_0 xs h all R
  | 1, _ => hb_1 xs h all R
  | 2, _ => hb_2 xs h all R
  | 3, _ => hb_3 xs h all R
  | 4, _ => hb_4 xs h all R
  | 5, _ => hb_5 xs h all R
  | 6, _ => hb_6 xs h all R
  | 7, _ => hb_7 xs h all R
  | 8, _ => hb_8 xs h all R
  | 9, _ => hb_9 xs h all R
  | 10, _ => hb_10 xs h all R
  | k + 11, hk => absurd hk (by omega)
def rdHB (s : St) : Option (List Int × Hx) := match s.fr[(1 : Nat)]?, s.rg[(0 : Nat)]? with
  | some (.v (.c (.l _ xs))), some (some { body := .cells [.i _ mg, .i _ pn, .i _ sb, .b c0, .b c1, .b c2, .b c3, .b c4, .b c5, .b c6, .b c7, .b c8, .b c9, .b c10, .i _ op], .. }) => some (xs, ⟨mg, pn, sb, c0, c1, c2, c3, c4, c5, c6, c7, c8, c9, c10, op⟩)
  | _, _ => none
noncomputable def lHB (s : St) : Tr (NExit × St) := match rdHB s with
  | some x => .must (s = sHB x.1 x.2 0 0) (.ret (.normal, dHB x.1 x.2 (alV x.2 11)))
  | none => .fail
structure AHB where
  xs : List Int
  h : Hx
  k : Nat
noncomputable def hHB (a : AHB) : St := sHB a.xs a.h (alV a.h a.k) (Int.ofNat a.k)
def preHB (a : AHB) (R : NExit × St → Prop) : Prop := a.k ≤ 11 ∧ R (.normal, dHB a.xs a.h (alV a.h 11))
def nxtHB (a : AHB) (R : NExit × St → Prop) (o : RO) : Prop := match o with
  | .next s => ∃ y, s = hHB y ∧ 11 - y.k < 11 - a.k ∧ preHB y R
  | .done e s => R (e, s)
theorem hb_in (a : AHB) (R : NExit × St → Prop) (h : preHB a R) : Box ((rHB (hHB a)).run (nxtHB a R)) := by
  obtain ⟨xs, h', k⟩ := a
  obtain ⟨h1, hR⟩ := h
  simp only at h1 hR
  by_cases hk : k < 11
  · refine Box.of_eq (hb_k xs h' _ _ k hk) ?_
    unfold nHB
    have e : alV h' (k + 1) = bif alB h' k then bits .or .i64 (alV h' k) (pw k) else alV h' k := rfl
    have nx : ∀ all, all = alV h' (k + 1) → nxtHB ⟨xs, h', k⟩ R (.next (sHB xs h' all (Int.ofNat (k + 1)))) := by
      rintro _ rfl
      exact ⟨⟨xs, h', k + 1⟩, rfl, by simp only; omega, by simp only [preHB]; exact ⟨by omega, hR⟩⟩
    cases hb : alB h' k with
    | true => exact sT rfl (nx _ (by rw [e, hb]; rfl))
    | false => exact sF rfl (nx _ (by rw [e, hb]; rfl))
  · have hk : k = 11 := by omega
    subst hk
    exact Box.of_eq (hb_11 xs h' _ _) hR
set_option maxRecDepth 100000 in
theorem loop_hb : LOk Tryd.prog GL 0 0 (bodyLoop f_hb 0) lHB := by
  refine loop_ok (X := X_hb) kc_hb mixed (LAll.none (by kernel_rfl)) [1, 2, 4, 5, 6, 7] [1, 2, 4, 5, 6] hHB (fun a => 11 - a.k) preHB ?_ ?_
  · intro s R h
    unfold lHB at h
    split at h
    case h_2 => exact h.elim
    rename_i x hx
    obtain ⟨hs, hR⟩ := h
    exact ⟨⟨x.1, x.2, 0⟩, hs, by simp only; omega, hR⟩
  · intro a R h
    exact Tr.run_mono _ (fun o ho => ho) (hb_in a R h).out
noncomputable def t_hb0 : Con := fun args regs => if regs.length = 0 then nfun Tryd.prog GL c_hb [(0, [1, 2, 4, 5, 6, 7], lHB)] f_hb args regs else .fail
theorem k_hb0 : Known Tryd.prog GL 6 t_hb0 := known_loops 0 Tryd.func6 rfl (by kernel_rfl) mixed kc_hb (LAll.one (id := 0) (body := bodyLoop f_hb 0) (by kernel_rfl) rfl loop_hb)
def e16 (x : Int) : Prop := 0 ≤ x ∧ x < 16
noncomputable def pl6 (pn sb b : Int) : List Int := [put (bits .and .i64 pn 15), put (shrv .i64 pn 4), put (bits .and .i64 sb 15), put (bits .or .i64 (bits .and .i64 (shrv .i64 sb 4) 7) (shlv .i64 (bits .and .i64 b 1) 3)), put (bits .and .i64 (shrv .i64 sb 8) 15), put (bits .or .i64 (bits .and .i64 (shrv .i64 sb 12) 3) (shlv .i64 (shrv .i64 b 1) 2))]
noncomputable def m6 (pn sb b : Int) (A : Prop) : Prop := e16 (bits .and .i64 pn 15) ∧ e16 (shrv .i64 pn 4) ∧ e16 (bits .and .i64 sb 15) ∧ e16 (bits .or .i64 (bits .and .i64 (shrv .i64 sb 4) 7) (shlv .i64 (bits .and .i64 b 1) 3)) ∧ e16 (bits .and .i64 (shrv .i64 sb 8) 15) ∧ e16 (bits .or .i64 (bits .and .i64 (shrv .i64 sb 12) 3) (shlv .i64 (shrv .i64 b 1) 2)) ∧ A
noncomputable def t8 (all : Int) : List Int := [put (bits .and .i64 (shrv .i64 all 3) 15), put (bits .and .i64 (shrv .i64 all 7) 15)]
noncomputable def hdD (h : Hx) (all : Int) (xs : List Int) : List Int := pl6 h.pn h.sb (bits .and .i64 all 7) ++ t8 all ++ xs
noncomputable def hdT (h : Hx) (all : Int) (xs : List Int) : List Int := List.take (8 + xs.length) (hdD h all xs)
noncomputable def adr (mg row : Int) : Int := bits .or .i64 (mg.tmod 8) (shlv .i64 (bits .and .i64 row 1) 3)
noncomputable def pkB (mg row : Int) (ds : List Int) : List Int := [put (adr mg row), put (shrv .i64 row 1)] ++ ds
noncomputable def oPr (x : NC) (e : Int) : Out := ⟨.tu [.c x, .c (.i .i64 e)], []⟩
def zz2 (n m : Nat) (A : Prop) : Prop := sel (decide ((n + m) * bytesT Tryd.prog 5 ≤ 140737488355328)) (sel (decide (n + m ≤ 9223372036854775807)) A False) False
noncomputable def hbI (h : Hx) (all : Int) (xs : List Int) (R : Out → Prop) : Prop :=
  m6 h.pn h.sb (bits .and .i64 all 7) (e16 (bits .and .i64 (shrv .i64 all 3) 15) ∧ (e16 (bits .and .i64 (shrv .i64 all 7) 15) ∧ zz2 8 xs.length (sel (decide (0 + (8 + xs.length) ≤ (hdD h all xs).length)) (
    e16 (adr h.mg 0) ∧ (e16 0 ∧ zz2 2 (hdT h all xs).length (2 + (hdT h all xs).length = (pkB h.mg 0 (hdT h all xs)).length ∧ R (oPr (.l .u8 (pkB h.mg 0 (hdT h all xs))) 0)))) False)))
noncomputable def hbT (h : Hx) (xs : List Int) (R : Out → Prop) : Prop :=
  sel (decide (h.mg ≥ 1)) (sel (decide (h.mg ≤ 8)) (sel (decide (h.pn ≥ 0)) (sel (decide (h.pn ≤ 255)) (sel (decide (h.sb ≥ 0)) (sel (!(bits .andNot .i64 h.sb 16255 == 0)) (R (oPr .sn 101)) (sel ((xs.length : Int) != 32) (R (oPr .sn 102))
    (sHB xs h 0 0 = sHB xs h 0 0 ∧ hbI h (alV h 11) xs R))) (R (oPr .sn 101))) (R (oPr .sn 101))) (R (oPr .sn 101))) (R (oPr .sn 101))) (R (oPr .sn 101))
noncomputable def t_hbC : Con := softT [] [0] [] [] 0 t_hb0
theorem k_hbC : Known Tryd.prog GL 6 t_hbC := k_hb0.soft [] [0] [] [] 0
theorem hbc_tree (h : Hx) (xs : List Int) (R : Out → Prop) : (t_hbC [.ag h.nc, .c (.l .u8 xs)] []).run R = hbT h xs R := by kernel_rfl
def right (m p s : Int) : Prop := (1 ≤ m ∧ m ≤ 8) ∧ (0 ≤ p ∧ p ≤ 255) ∧ 0 ≤ s ∧ bits .andNot .i64 s 16255 = 0
theorem adr_all : ∀ g < 8, ∀ r < 32, 0 ≤ adr (Int.ofNat g + 1) (Int.ofNat r) ∧ adr (Int.ofNat g + 1) (Int.ofNat r) < 16 := by decide +kernel
theorem adr_in {m r : Int} (hm : 1 ≤ m ∧ m ≤ 8) (hr : 0 ≤ r ∧ r < 32) : e16 (adr m r) := by
  have := adr_all (m - 1).toNat (by omega) r.toNat (by omega)
  have e1 : Int.ofNat (m - 1).toNat + 1 = m := by show (((m - 1).toNat : Nat) : Int) + 1 = m; omega
  have e2 : Int.ofNat r.toNat = r := by show ((r.toNat : Nat) : Int) = r; omega
  rw [e1, e2] at this
  exact this
theorem m6_in {p s b : Int} {A : Prop} (hp : 0 ≤ p ∧ p ≤ 255) (hb : 0 ≤ b ∧ b < 8) (h : A) : m6 p s b A := by
  have c1 : e16 (aI p 15) := by rw [aI_15]; exact ⟨by omega, by omega⟩
  have c2 : e16 (shrv .i64 p 4) := by rw [sh_4]; exact ⟨by omega, by omega⟩
  have c3 : e16 (aI s 15) := by rw [aI_15]; exact ⟨by omega, by omega⟩
  have c4 : e16 (nb3 s (aI b 1)) := by rw [aI_1, nb3_eq _ _ (by omega)]; exact ⟨by omega, by omega⟩
  have c5 : e16 (nb4 s) := by rw [nb4_eq]; exact ⟨by omega, by omega⟩
  have c6 : e16 (nb5 s (shrv .i64 b 1)) := by rw [sh_1, nb5_eq _ _ (by omega)]; exact ⟨by omega, by omega⟩
  exact ⟨c1, c2, c3, c4, c5, c6, h⟩
theorem zz2_in {n m : Nat} {A : Prop} (h : n + m ≤ 10000) (hA : A) : zz2 n m A := by
  unfold zz2
  rw [bytesU]
  exact sT (decide_eq_true (by omega)) (sT (decide_eq_true (by omega)) hA)
theorem hdD_len (h : Hx) (all : Int) (xs : List Int) : (hdD h all xs).length = 8 + xs.length := by
  unfold hdD
  rw [List.length_append]
  rfl
theorem hdT_eq (h : Hx) (all : Int) (xs : List Int) : hdT h all xs = hdD h all xs := by
  unfold hdT
  rw [← hdD_len h all xs, List.take_length]
noncomputable def hbV (h : Hx) (xs : List Int) : List Int := pkB h.mg 0 (hdD h (alV h 11) xs)
attribute [local irreducible] zz2 in
theorem hbI_in {h : Hx} {all : Int} {xs : List Int} {R : Out → Prop} (hr : right h.mg h.pn h.sb) (hl : xs.length = 32) (hR : R (oPr (.l .u8 (pkB h.mg 0 (hdD h all xs))) 0)) : hbI h all xs R := by
  have ha : 0 ≤ bits .and .i64 all 7 ∧ bits .and .i64 all 7 < 8 := by
    have e : bits .and .i64 all 7 = all % 8 := and_mask64 all 3 (by decide)
    rw [e]
    omega
  have k3 : e16 (bits .and .i64 (shrv .i64 all 3) 15) := by
    have e : bits .and .i64 (shrv .i64 all 3) 15 = (shrv .i64 all 3) % 16 := and_mask64 _ 4 (by decide)
    rw [e]
    exact ⟨by omega, by omega⟩
  have k7 : e16 (bits .and .i64 (shrv .i64 all 7) 15) := by
    have e : bits .and .i64 (shrv .i64 all 7) 15 = (shrv .i64 all 7) % 16 := and_mask64 _ 4 (by decide)
    rw [e]
    exact ⟨by omega, by omega⟩
  have hd := hdD_len h all xs
  have hp : (pkB h.mg 0 (hdD h all xs)).length = 2 + (hdD h all xs).length := by unfold pkB; rw [List.length_append]; rfl
  have h40 : 8 + xs.length ≤ 10000 := by omega
  have h41 : 0 + (8 + xs.length) ≤ (hdD h all xs).length := by omega
  have h42 : 2 + (hdD h all xs).length ≤ 10000 := by omega
  have h43 : e16 (adr h.mg 0) := adr_in hr.1 ⟨by decide, by decide⟩
  have h44 : e16 0 := ⟨by decide, by decide⟩
  unfold hbI
  rw [hdT_eq]
  refine m6_in hr.2.1 ha (And.intro k3 (And.intro k7 ?_))
  refine zz2_in (n := 8) (m := xs.length) h40 ?_
  refine sT (decide_eq_true h41) (And.intro h43 (And.intro h44 ?_))
  exact zz2_in (n := 2) (m := (hdD h all xs).length) h42 (And.intro hp.symm hR)
noncomputable def tHB : Con := fun args regs => match args, regs with
  | [.ag [.i _ mg, .i _ pn, .i _ sb, .b c0, .b c1, .b c2, .b c3, .b c4, .b c5, .b c6, .b c7, .b c8, .b c9, .b c10, .i _ op], .c (.l _ xs)], [] =>
    .must (args = [.ag (Hx.nc ⟨mg, pn, sb, c0, c1, c2, c3, c4, c5, c6, c7, c8, c9, c10, op⟩), .c (.l .u8 xs)] ∧ right mg pn sb ∧ xs.length = 32) (.ret (oPr (.l .u8 (hbV ⟨mg, pn, sb, c0, c1, c2, c3, c4, c5, c6, c7, c8, c9, c10, op⟩ xs)) 0))
  | _, _ => .fail
attribute [local irreducible] t_hbC in
set_option maxRecDepth 100000 in
theorem kHB : Known Tryd.prog GL 6 tHB := by
  refine k_hbC.less fun args regs R h => ?_
  unfold tHB at h
  split at h
  case h_2 => exact h.elim
  rename_i _ mg _ pn _ sb c0 c1 c2 c3 c4 c5 c6 c7 c8 c9 c10 _ op _ xs
  obtain ⟨⟨h1, hr, hl⟩, h⟩ := h
  rw [h1]
  refine (Box.of_eq (hbc_tree ⟨mg, pn, sb, c0, c1, c2, c3, c4, c5, c6, c7, c8, c9, c10, op⟩ xs R) ?_).out
  unfold hbT
  exact sT (decide_eq_true hr.1.1) (sT (decide_eq_true hr.1.2) (sT (decide_eq_true hr.2.1.1) (sT (decide_eq_true hr.2.1.2) (sT (decide_eq_true hr.2.2.1) (sF (by rw [Bool.not_eq_false', beq_iff_eq]; exact hr.2.2.2) (sF (by rw [bne_eq_false_iff_eq]; omega) ⟨rfl, hbI_in hr hl h⟩))))))
end Go.Proofs.YtlfmkacafppmlaaDoor.bm
namespace Go.Proofs.YtlfmkacafppmlaaDoor.bm
end Go.Proofs.YtlfmkacafppmlaaDoor.bm
namespace Go.Proofs.YtlfmkacafppmlaaDoor.df
open Go.Proofs.YtlfmkacafppmlaaDoor.sto (sT sF)
open Go Go.Nx Go.Proofs.YtlfmkacafppmlaaDoor.pk Go.Proofs.YtlfmkacafppmlaaDoor.mac Go.Proofs.YtlfmkacafppmlaaDoor.bm
def B8 (b : Int) : Prop := 0 ≤ b ∧ b < 256
theorem put_in (n : Int) : B8 (put n) := by
  have key : ∀ m < 16, 0 ≤ putL.getD m 0 ∧ putL.getD m 0 < 256 := by decide +kernel
  exact key (n % 16).toNat (by omega)
theorem app_in {l m : List Int} (h1 : ∀ b ∈ l, B8 b) (h2 : ∀ b ∈ m, B8 b) : ∀ b ∈ l ++ m, B8 b := fun b hb => (List.mem_append.1 hb).elim (h1 b) (h2 b)
theorem pkB_in {mg row : Int} {ds : List Int} (h : ∀ b ∈ ds, B8 b) : ∀ b ∈ pkB mg row ds, B8 b := List.forall_mem_cons.2 ⟨put_in _, List.forall_mem_cons.2 ⟨put_in _, h⟩⟩
theorem hbV_in (h : pge.Hx) {xs : List Int} (hx : ∀ b ∈ xs, B8 b) : ∀ b ∈ hbV h xs, B8 b := by
  refine pkB_in (app_in (app_in ?_ ?_) hx)
  · unfold pl6
    repeat (refine List.forall_mem_cons.2 ⟨put_in _, ?_⟩)
    intro b hb; cases hb
  · unfold t8
    repeat (refine List.forall_mem_cons.2 ⟨put_in _, ?_⟩)
    intro b hb; cases hb
end Go.Proofs.YtlfmkacafppmlaaDoor.df
namespace Go.Proofs.YtlfmkacafppmlaaDoor.su
open Go.Proofs.YtlfmkacafppmlaaDoor.sto (sT sF Ky Sp kyP kyEq kyEq_iff nk)
open Go.Proofs.YtlfmkacafppmlaaDoor.ac (Pg pgZ)
open Go.Proofs.YtlfmkacafppmlaaDoor.dec
open Go.Proofs.YtlfmkacafppmlaaDoor.pge (Hx)
open Go.Proofs.YtlfmkacafppmlaaDoor.hd (aI_15 sh_4 nb3 nb4 nb5 nb3_eq nb4_eq nb5_eq subOf sub_back getN_put getB_put)
open Go Go.Nx Go.Proofs.YtlfmkacafppmlaaDoor.pk Go.Proofs.YtlfmkacafppmlaaDoor.mac Go.Proofs.YtlfmkacafppmlaaDoor.bm
def rk (S : List Int) (x : Int) : Nat := S.countP fun y => decide (y < x)
theorem countP_same {S : List Int} {p q : Int → Bool} (h : ∀ z ∈ S, p z = q z) : S.countP p = S.countP q := List.countP_congr fun z hz => by rw [h z hz]
theorem cnt_split (S : List Int) (x : Int) : (S.countP fun y => decide (y ≤ x)) = (S.countP fun y => decide (y < x)) + S.countP fun y => decide (y = x) := by
  induction S with
  | nil => rfl
  | cons a S ih =>
    rw [List.countP_cons, List.countP_cons, List.countP_cons, ih]
    by_cases h1 : a < x
    · rw [decide_eq_true h1, decide_eq_true (show a ≤ x by omega), decide_eq_false (show ¬ a = x by omega)]; simp; omega
    · by_cases h2 : a = x
      · rw [decide_eq_false h1, decide_eq_true (show a ≤ x by omega), decide_eq_true h2]; simp; omega
      · rw [decide_eq_false h1, decide_eq_false (show ¬ a ≤ x by omega), decide_eq_false h2]; simp
theorem cnt_one {S : List Int} {x : Int} (hn : S.Nodup) (hx : x ∈ S) : (S.countP fun y => decide (y = x)) = 1 := by
  induction S with
  | nil => cases hx
  | cons a S ih =>
    rw [List.nodup_cons] at hn
    rw [List.countP_cons]
    rcases List.mem_cons.1 hx with h | h
    · subst h
      have : (S.countP fun y => decide (y = x)) = 0 := by
        rw [List.countP_eq_zero]
        intro z hz hd
        exact hn.1 (of_decide_eq_true hd ▸ hz)
      rw [this]; simp
    · have : ¬ a = x := fun e => hn.1 (e ▸ h)
      rw [ih hn.2 h, decide_eq_false this]; simp
theorem rk_le {S : List Int} {x : Int} (hn : S.Nodup) (hx : x ∈ S) : (S.countP fun y => decide (y ≤ x)) = rk S x + 1 := by
  rw [cnt_split, cnt_one hn hx]; rfl
theorem rk_next {S : List Int} {x y : Int} (hn : S.Nodup) (hx : x ∈ S) (hxy : x < y) (hno : ∀ z ∈ S, x < z → y ≤ z) : rk S y = rk S x + 1 := by
  rw [← rk_le hn hx]
  refine countP_same fun z hz => ?_
  by_cases h : z ≤ x
  · rw [decide_eq_true h, decide_eq_true (show z < y by omega)]
  · have := hno z hz (by omega)
    rw [decide_eq_false h, decide_eq_false (show ¬ z < y by omega)]
theorem rk_last {S : List Int} {x : Int} (hn : S.Nodup) (hx : x ∈ S) (hno : ∀ z ∈ S, ¬ x < z) : rk S x + 1 = S.length := by
  rw [← rk_le hn hx, List.countP_eq_length]
  intro z hz
  exact decide_eq_true (by have := hno z hz; omega)
theorem rk_least {S : List Int} {x : Int} (h : ∀ z ∈ S, x ≤ z) : rk S x = 0 := by
  unfold rk
  rw [List.countP_eq_zero]
  intro z hz hd
  have := of_decide_eq_true hd
  have := h z hz
  omega
theorem rk_mono {S : List Int} {x y : Int} (hn : S.Nodup) (hx : x ∈ S) (hxy : x < y) : rk S x < rk S y := by
  have h1 := rk_le hn hx
  have h2 : (S.countP fun z => decide (z ≤ x)) ≤ S.countP fun z => decide (z < y) := List.countP_mono_left fun z _ hz => by
    have := of_decide_eq_true hz
    exact decide_eq_true (by omega)
  unfold rk at *
  omega
theorem rk_inj {S : List Int} {x y : Int} (hn : S.Nodup) (hx : x ∈ S) (hy : y ∈ S) (h : rk S x = rk S y) : x = y := by
  rcases Int.lt_trichotomy x y with h1 | h1 | h1
  · have := rk_mono hn hx h1; omega
  · exact h1
  · have := rk_mono hn hy h1; omega
theorem rk_lt {S : List Int} {x : Int} (hn : S.Nodup) (hx : x ∈ S) : rk S x < S.length := by
  have := rk_le hn hx
  have h2 : (S.countP fun z => decide (z ≤ x)) ≤ S.length := List.countP_le_length
  omega
theorem len_sub : ∀ {l m : List Int}, l.Nodup → (∀ x ∈ l, x ∈ m) → l.length ≤ m.length
  | [], _, _, _ => Nat.zero_le _
  | a :: l, m, hn, hs => by
    rw [List.nodup_cons] at hn
    have ha := hs a (List.mem_cons_self ..)
    have h := len_sub (l := l) (m := m.erase a) hn.2 fun x hx => (List.mem_erase_of_ne (fun e : x = a => hn.1 (e ▸ hx))).2 (hs x (List.mem_cons_of_mem _ hx))
    rw [List.length_erase_of_mem ha] at h
    have : 1 ≤ m.length := List.length_pos_of_mem ha
    rw [List.length_cons]
    omega
theorem len_same {l m : List Int} (hl : l.Nodup) (hm : m.Nodup) (h : ∀ x, x ∈ l ↔ x ∈ m) : l.length = m.length := Nat.le_antisymm (len_sub hl fun x hx => (h x).1 hx) (len_sub hm fun x hx => (h x).2 hx)
def zs : List Int := List.replicate 32 0
def hS (pn s : Int) : Hx := ⟨2, pn, s, false, false, false, false, false, false, false, false, false, false, false, 0⟩
noncomputable def hB (pn s : Int) : List Int := hbV (hS pn s) zs
noncomputable def dsB (pn s : Int) : List Int := (hB pn s).drop 2
def okS (s : Int) : Prop := (0 ≤ s ∧ s < 16384 ∧ s / 128 % 2 = 0) ∧ s % 2 = 0
theorem pk_52 (s : Int) : pkV (hB 52 s) = .ok ⟨2, 0, 1, 0, dsB 52 s⟩ := by kernel_rfl
theorem pk_255 : pkV (hB 255 0) = .ok ⟨2, 0, 1, 0, dsB 255 0⟩ ∧ hdOk (dsB 255 0) = true ∧ (hdV 2 (dsB 255 0)).pn = 255 := ⟨by kernel_rfl, by kernel_rfl, by kernel_rfl⟩
theorem ok_eq (s : Int) : hdOk (dsB 52 s) = ([put (bits .and .i64 52 15), put (shrv .i64 52 4), put (bits .and .i64 s 15), put (nb3 s 0), put (nb4 s), put (nb5 s 0), put (bits .and .i64 (shrv .i64 0 3) 15), put (bits .and .i64 (shrv .i64 0 7) 15)].all getB) := by kernel_rfl
theorem ok_52 (s : Int) : hdOk (dsB 52 s) = true := by
  rw [ok_eq]
  simp only [List.all_cons, List.all_nil, getB_put, Bool.and_self]
theorem sb_eq (s : Int) : (hdV 2 (dsB 52 s)).sb = subOf (getN (put (bits .and .i64 s 15))) (getN (put (nb3 s 0))) (getN (put (nb4 s))) (getN (put (nb5 s 0))) := by kernel_rfl
theorem hd_52 (s : Int) (h : okS s) : (hdV 2 (dsB 52 s)).mg = 2 ∧ (hdV 2 (dsB 52 s)).pn = 52 ∧ (hdV 2 (dsB 52 s)).sb = s := by
  refine ⟨by kernel_rfl, by kernel_rfl, ?_⟩
  rw [sb_eq, getN_put, getN_put, getN_put, getN_put]
  have e1 : bits .and .i64 s 15 = s % 16 := aI_15 s
  rw [e1, nb3_eq s 0 (by omega), nb4_eq, nb5_eq s 0 (by omega)]
  have := sub_back s 0 0 h.1
  have c1 : s % 16 % 16 = s % 16 := by omega
  have c2 : (s / 16 % 8 + 0 * 8) % 16 = s / 16 % 8 + 0 * 8 := by omega
  have c3 : s / 256 % 16 % 16 = s / 256 % 16 := by omega
  have c4 : (s / 4096 % 4 + 0 * 4) % 16 = s / 4096 % 4 + 0 * 4 := by omega
  rw [c1, c2, c3, c4]
  exact this
theorem step_52 (M : Mc) (s : Int) : M.step (hB 52 s) = (M.hdM 2 (dsB 52 s), none) := by
  unfold Mc.step
  rw [pk_52]
  show M.pkM ⟨2, 0, 1, 0, dsB 52 s⟩ = _
  unfold Mc.pkM
  show (match hdOk (dsB 52 s) with | true => (M.hdM 2 (dsB 52 s), none) | false => (M, some eBit)) = _
  rw [ok_52]
theorem step_255 (M : Mc) : M.step (hB 255 0) = (M.hdM 2 (dsB 255 0), none) := by
  unfold Mc.step
  rw [pk_255.1]
  show M.pkM ⟨2, 0, 1, 0, dsB 255 0⟩ = _
  unfold Mc.pkM
  show (match hdOk (dsB 255 0) with | true => (M.hdM 2 (dsB 255 0), none) | false => (M, some eBit)) = _
  rw [pk_255.2.1]
theorem hB_in (pn s : Int) : ∀ b ∈ hB pn s, 0 ≤ b ∧ b < 256 := df.hbV_in _ (fun b hb => by
  have := List.eq_of_mem_replicate hb
  subst this
  exact ⟨by decide, by decide⟩)
def Clg (g : Nat) (M : Mc) : Prop := ∀ k, k ≠ g → (M.v k).opn = false
theorem endM_shut {M : Mc} {g : Nat} (h : (M.v g).opn = false) : M.endM g = M := by unfold Mc.endM; rw [h]
theorem endM_far {M : Mc} {g k : Nat} (h : k ≠ g) : (M.endM g).v k = M.v k := by
  unfold Mc.endM
  split
  · exact upd_other h
  · rfl
theorem ends_off {c : Bool} {g : Nat} : ∀ (n i : Nat) {M : Mc}, g < i → Clg g M → Mc.ends c (g : Int) n i M = M
  | 0, _, _, _, _ => rfl
  | n + 1, i, M, hi, h => by
    have e : M.endM i = M := endM_shut (h i (by omega))
    show Mc.ends c (g : Int) n (i + 1) (match c || (i : Int) == (g : Int) with | true => M.endM i | false => M) = M
    cases c || (i : Int) == (g : Int) with
    | true => rw [e]; exact ends_off n (i + 1) (by omega) h
    | false => exact ends_off n (i + 1) (by omega) h
theorem ends_on {c : Bool} {g : Nat} : ∀ (n i : Nat) {M : Mc}, i ≤ g → g < i + n → Clg g M → Mc.ends c (g : Int) n i M = M.endM g
  | 0, _, _, h1, h2, _ => absurd h2 (by omega)
  | n + 1, i, M, h1, h2, h => by
    show Mc.ends c (g : Int) n (i + 1) (match c || (i : Int) == (g : Int) with | true => M.endM i | false => M) = M.endM g
    by_cases hg : i = g
    · subst hg
      have e : (c || (i : Int) == (i : Int)) = true := by rw [beq_self_eq_true, Bool.or_true]
      rw [e]
      exact ends_off n (i + 1) (by omega) fun k hk => by rw [endM_far hk]; exact h k hk
    · have e : M.endM i = M := endM_shut (h i hg)
      cases c || (i : Int) == (g : Int) with
      | true => rw [e]; exact ends_on n (i + 1) (by omega) (by omega) h
      | false => exact ends_on n (i + 1) (by omega) (by omega) h
noncomputable def midM (M : Mc) (ds : List Int) : Mc := (M.headed 2 (hdV 2 ds) (txV ds)).endM 2
theorem hdM_two {M : Mc} (ds : List Int) (h : Clg 2 M) : M.hdM 2 ds = Mc.open' (midM M ds) 2 (hdV 2 ds) (txV ds) := by
  have hc : Clg 2 (M.headed 2 (hdV 2 ds) (txV ds)) := fun k hk => by
    show (upd M.v 2 _ k).opn = false
    rw [upd_other hk]
    exact h k hk
  have e := ends_on (c := (hdV 2 ds).c7) 8 1 (g := 2) (by decide) (by decide) hc
  show Mc.open' (Mc.ends (hdV 2 ds).c7 ((2 : Nat) : Int) 8 1 (M.headed 2 (hdV 2 ds) (txV ds))) 2 (hdV 2 ds) (txV ds) = _
  rw [e]
  rfl
def stE (M : Mc) : Sp := match (M.v 2).opn with
  | true => Sp.put (M.v 2).p M.st
  | false => M.st
theorem mid_st (M : Mc) (ds : List Int) : (midM M ds).st = stE M := by
  unfold midM Mc.endM stE
  have e : ((M.headed 2 (hdV 2 ds) (txV ds)).v 2).opn = (M.v 2).opn := by show (upd M.v 2 { M.v 2 with h := hdV 2 ds, t := txV ds, bg := true } 2).opn = _; rw [upd_same]
  have e2 : ((M.headed 2 (hdV 2 ds) (txV ds)).v 2).p = (M.v 2).p := by show (upd M.v 2 { M.v 2 with h := hdV 2 ds, t := txV ds, bg := true } 2).p = _; rw [upd_same]
  rw [e]
  cases (M.v 2).opn with
  | true => show Sp.put ((M.headed 2 (hdV 2 ds) (txV ds)).v 2).p M.st = _; rw [e2]
  | false => rfl
theorem mid_cl {M : Mc} (ds : List Int) (h : Clg 2 M) : Clg 2 (midM M ds) := fun k hk => by
  unfold midM
  rw [endM_far hk]
  show (upd M.v 2 _ k).opn = false
  rw [upd_other hk]
  exact h k hk
end Go.Proofs.YtlfmkacafppmlaaDoor.su
namespace Go.Proofs.YtlfmkacafppmlaaDoor.su
open Go.Proofs.YtlfmkacafppmlaaDoor.sto (sT sF Ky Sp kyP kyEq kyEq_iff nk)
open Go.Proofs.YtlfmkacafppmlaaDoor.ac (Pg pgZ)
open Go.Proofs.YtlfmkacafppmlaaDoor.dec
open Go.Proofs.YtlfmkacafppmlaaDoor.pge (Hx)
open Go Go.Nx Go.Proofs.YtlfmkacafppmlaaDoor.pk Go.Proofs.YtlfmkacafppmlaaDoor.mac Go.Proofs.YtlfmkacafppmlaaDoor.bm
def subsL (L : List Pg) : List Int := L.map fun p => p.sb
def only (L : List Pg) : Prop := ∀ p ∈ L, p.mg = 2 ∧ p.pn = 52
theorem kyP_two {p : Pg} (h : p.mg = 2 ∧ p.pn = 52) : kyP p = (2, 52, p.sb) := by show (p.mg, p.pn, p.sb) = _; rw [h.1, h.2]
theorem subs_nd {L : List Pg} (ho : only L) (hn : (L.map kyP).Nodup) : (subsL L).Nodup := by
  have e : L.map kyP = (subsL L).map fun s => ((2 : Int), (52 : Int), s) := by
    unfold subsL
    rw [List.map_map]
    exact List.map_congr_left fun p hp => kyP_two (ho p hp)
  rw [e] at hn
  refine List.Pairwise.of_map _ (fun a b hab he => ?_) hn
  exact hab (by rw [he])
theorem mem_subs {L : List Pg} {y : Int} : y ∈ subsL L ↔ ∃ p ∈ L, p.sb = y := List.mem_map
theorem nk_two {p : Pg} (h : p.mg = 2 ∧ p.pn = 52) (y : Int) : nk (2, 52, y) p = true ↔ p.sb ≠ y := by
  unfold nk
  rw [kyP_two h]
  cases he : kyEq (2, 52, p.sb) (2, 52, y) with
  | true =>
    have := kyEq_iff.1 he
    have : p.sb = y := congrArg (fun k => k.2.2) this
    simp [this]
  | false =>
    refine ⟨fun _ hh => ?_, fun _ => rfl⟩
    rw [hh] at he
    rw [kyEq_iff.2 rfl] at he
    cases he
theorem put_few {x : Sp} {p : Pg} (h : x.L.length < 20) (hm : x.most = 20) : (x.put p).L = x.L.filter (nk (kyP p)) ++ [p] ∧ (x.put p).most = 20 := by
  have hl : (x.L.filter (nk (kyP p))).length ≤ x.L.length := List.length_filter_le _ _
  have e : decide ((((x.drop (kyP p)).push p).L.length : Int) ≤ x.most) = true := by
    refine decide_eq_true ?_
    show (((x.L.filter (nk (kyP p)) ++ [p]).length : Nat) : Int) ≤ x.most
    rw [List.length_append, hm]
    have : ([p] : List Pg).length = 1 := rfl
    omega
  unfold Sp.put
  rw [e]
  exact ⟨rfl, hm⟩
theorem mem_put {L : List Pg} {p : Pg} {last : Int} (ho : only L) (hp : p.mg = 2 ∧ p.pn = 52) (hs : p.sb = last) (y : Int) : y ∈ subsL (L.filter (nk (kyP p)) ++ [p]) ↔ y ∈ subsL L ∨ y = last := by
  have ek : kyP p = (2, 52, last) := by rw [kyP_two hp, hs]
  rw [ek]
  constructor
  · intro h
    obtain ⟨q, hq, rfl⟩ := mem_subs.1 h
    rcases List.mem_append.1 hq with hq | hq
    · exact .inl (mem_subs.2 ⟨q, (List.mem_filter.1 hq).1, rfl⟩)
    · rw [List.mem_singleton] at hq
      exact .inr (hq ▸ hs)
  · intro h
    by_cases e : y = last
    · exact mem_subs.2 ⟨p, List.mem_append.2 (.inr (List.mem_singleton.2 rfl)), by rw [hs, e]⟩
    · rcases h with h | h
      · obtain ⟨q, hq, hy⟩ := mem_subs.1 h
        refine mem_subs.2 ⟨q, List.mem_append.2 (.inl (List.mem_filter.2 ⟨hq, ?_⟩)), hy⟩
        exact (nk_two (ho q hq) last).2 (by rw [hy]; exact e)
      · exact absurd h e
structure Iv (S : List Int) (last : Int) (M : Mc) : Prop where
  good : M.good
  cl : Clg 2 M
  mst : M.st.most = 20
  wf : M.allP Wf
  onl : only M.st.L
  nd : S.Nodup
  rel : ((M.v 2).opn = false ∧ ∀ x, x ∈ S ↔ x ∈ subsL M.st.L) ∨ ((M.v 2).opn = true ∧ ((M.v 2).p.mg = 2 ∧ (M.v 2).p.pn = 52 ∧ (M.v 2).p.sb = last) ∧ ∀ x, x ∈ S ↔ x ∈ subsL M.st.L ∨ x = last)
structure St2 (S : List Int) (last : Int) (o : Bool) (x : Sp) : Prop where
  mst : x.most = 20
  onl : only x.L
  mem : ∀ y, y ∈ S ↔ y ∈ subsL x.L
  lst : o = true → ∃ p L', x.L = L' ++ [p] ∧ p.sb = last
theorem st_of {S : List Int} {last : Int} {M : Mc} (h : Iv S last M) (hS : S.length ≤ 12) : St2 S last (M.v 2).opn (stE M) := by
  rcases h.rel with ⟨ho, hm⟩ | ⟨ho, hp, hm⟩
  · unfold stE
    rw [ho]
    exact ⟨h.mst, h.onl, hm, fun hc => by cases hc⟩
  · have hnd := subs_nd h.onl h.good.nd
    have hl : M.st.L.length ≤ 12 := by
      have := len_sub hnd fun x hx => (hm x).2 (.inl hx)
      unfold subsL at this
      rw [List.length_map] at this
      omega
    have pf := put_few (x := M.st) (p := (M.v 2).p) (by omega) h.mst
    unfold stE
    rw [ho]
    refine ⟨pf.2, ?_, fun y => ?_, fun _ => ⟨(M.v 2).p, _, pf.1, hp.2.2⟩⟩
    · show only (M.st.put (M.v 2).p).L
      rw [pf.1]
      intro q hq
      rcases List.mem_append.1 hq with hq | hq
      · exact h.onl q (List.mem_filter.1 hq).1
      · rw [List.mem_singleton] at hq
        rw [hq]
        exact ⟨hp.1, hp.2.1⟩
    · show y ∈ S ↔ y ∈ subsL (M.st.put (M.v 2).p).L
      rw [pf.1, mem_put h.onl ⟨hp.1, hp.2.1⟩ hp.2.2]
      exact hm y
def addS (S : List Int) (s : Int) : List Int := match S.contains s with
  | true => S
  | false => S ++ [s]
theorem mem_add {S : List Int} {s x : Int} : x ∈ addS S s ↔ x ∈ S ∨ x = s := by
  unfold addS
  cases hc : S.contains s with
  | true =>
    have hs : s ∈ S := List.contains_iff_mem.1 hc
    exact ⟨.inl, fun h => h.elim id fun e => e ▸ hs⟩
  | false => rw [List.mem_append, List.mem_singleton]
theorem add_nd {S : List Int} {s : Int} (h : S.Nodup) : (addS S s).Nodup := by
  unfold addS
  cases hc : S.contains s with
  | true => exact h
  | false =>
    refine List.nodup_append.2 ⟨h, List.nodup_cons.2 ⟨List.not_mem_nil, List.nodup_nil⟩, fun a ha b hb => ?_⟩
    rw [List.mem_singleton] at hb
    intro e
    subst e hb
    rw [List.contains_iff_mem.2 ha] at hc
    cases hc
theorem dfP_ky (m : Mv) (p : Pg) : (dfP m p).mg = p.mg ∧ (dfP m p).pn = p.pn ∧ (dfP m p).sb = p.sb := by
  unfold dfP
  split <;> exact ⟨rfl, rfl, rfl⟩
theorem wf0 : Wf pgZ := wf_kept.z
theorem iv_new : Iv [] 0 (mcN 20) := ⟨mcN_good (by decide) (by decide), fun _ _ => rfl, rfl, allP_nw wf0 _ rfl rfl, fun p hp => (List.not_mem_nil hp).elim, List.nodup_nil, .inl ⟨rfl, fun x => Iff.rfl⟩⟩
theorem iv_step {S : List Int} {last : Int} {M : Mc} (h : Iv S last M) (hS : S.length ≤ 12) {s : Int} (hs : okS s) : Iv (addS S s) s (M.step (hB 52 s)).1 := by
  have r := st_of h hS
  have hg := step_good h.good (hB_in 52 s)
  have hw := step_all wf_kept h.wf (hB 52 s)
  obtain ⟨d1, d2, d3⟩ := hd_52 s hs
  have e : (M.step (hB 52 s)).1 = (midM M (dsB 52 s)).set 2 (dfP ((midM M (dsB 52 s)).v 2) (opP (midM M (dsB 52 s)).st (hdV 2 (dsB 52 s)) (txV (dsB 52 s)))) := by
    rw [step_52]
    show M.hdM 2 (dsB 52 s) = _
    rw [hdM_two _ h.cl]
    unfold Mc.open'
    rw [d2]
    rfl
  rw [e] at hg hw ⊢
  have es := mid_st M (dsB 52 s)
  have ec := mid_cl (dsB 52 s) h.cl
  generalize hB2 : dfP ((midM M (dsB 52 s)).v 2) (opP (midM M (dsB 52 s)).st (hdV 2 (dsB 52 s)) (txV (dsB 52 s))) = B at *
  have eB : B.mg = 2 ∧ B.pn = 52 ∧ B.sb = s := by
    obtain ⟨k1, k2, k3⟩ := dfP_ky ((midM M (dsB 52 s)).v 2) (opP (midM M (dsB 52 s)).st (hdV 2 (dsB 52 s)) (txV (dsB 52 s)))
    rw [hB2] at k1 k2 k3
    exact ⟨k1.trans d1, k2.trans d2, k3.trans d3⟩
  have ev : ((midM M (dsB 52 s)).set 2 B).v 2 = { (midM M (dsB 52 s)).v 2 with opn := true, p := B } := upd_same (midM M (dsB 52 s)).v 2 { (midM M (dsB 52 s)).v 2 with opn := true, p := B }
  refine ⟨hg, fun k hk => ?_, ?_, hw, ?_, add_nd h.nd, .inr ⟨by rw [ev], by rw [ev]; exact eB, fun x => ?_⟩⟩
  · show (upd (midM M (dsB 52 s)).v 2 _ k).opn = false
    rw [upd_other hk]
    exact ec k hk
  · show (midM M (dsB 52 s)).st.most = 20
    rw [es]
    exact r.mst
  · show only (midM M (dsB 52 s)).st.L
    rw [es]
    exact r.onl
  · show x ∈ addS S s ↔ x ∈ subsL (midM M (dsB 52 s)).st.L ∨ x = s
    rw [es, mem_add, r.mem x]
structure Fi (S : List Int) (last : Int) (M : Mc) : Prop where
  good : M.good
  wf : M.allP Wf
  onl : only M.st.L
  nd : S.Nodup
  mem : ∀ y, y ∈ S ↔ y ∈ subsL M.st.L
  lst : ∃ p L', M.st.L = L' ++ [p] ∧ p.sb = last
theorem step1_255 (M : Mc) : (M.step (hB 255 0)).1 = M.hdM 2 (dsB 255 0) := by rw [step_255]
attribute [local irreducible] dsB hB in
theorem fi_of {S : List Int} {last : Int} {M : Mc} (h : Iv S last M) (hS : S.length ≤ 12) (ho : (M.v 2).opn = true) : Fi S last (M.step (hB 255 0)).1 := by
  have r := st_of h hS
  have hg := step_good h.good (hB_in 255 0)
  have hw := step_all wf_kept h.wf (hB 255 0)
  have e : (M.step (hB 255 0)).1 = midM M (dsB 255 0) := by
    rw [step1_255, hdM_two _ h.cl]
    unfold Mc.open'
    rw [pk_255.2.2]
    rfl
  rw [e] at hg hw ⊢
  have es := mid_st M (dsB 255 0)
  exact ⟨hg, hw, by rw [es]; exact r.onl, h.nd, fun y => by rw [es]; exact r.mem y, by rw [es]; exact r.lst ho⟩
theorem hit_two {p : Pg} (h : p.mg = 2 ∧ p.pn = 52) (s : Int) : hitF (2, 52, s) p = true := by
  unfold hitF
  rw [h.1, h.2]
  rfl
theorem fi_last {S : List Int} {last : Int} {M : Mc} (h : Fi S last M) : ∃ p, M.find (2, 52, 16255) = (p, true) ∧ p.sb = last := by
  obtain ⟨p, L', hL, hp⟩ := h.lst
  have ho : p.mg = 2 ∧ p.pn = 52 := h.onl p (by rw [hL]; exact List.mem_append.2 (.inr (List.mem_singleton.2 rfl)))
  have e : lastF (2, 52, 16255) M.st.L = some p := by
    unfold lastF
    rw [hL, List.foldl_append]
    show stepF (2, 52, 16255) _ p = some p
    unfold stepF
    rw [hit_two ho]
  refine ⟨p, ?_, hp⟩
  show ((lastF (2, 52, 16255) M.st.L).getD pgZ, (lastF (2, 52, 16255) M.st.L).isSome) = (p, true)
  rw [e]
  rfl
theorem fi_get {S : List Int} {last : Int} {M : Mc} (h : Fi S last M) {y : Pg} (hy : y ∈ M.st.L) (hs : y.sb ≠ 16255) : M.find (kyP y) = (y, true) := by
  have ho := h.onl y hy
  unfold Mc.find
  have e : ((kyP y).2.2 != 16255) = true := bne_iff_ne.2 hs
  rw [e]
  show M.st.get (kyP y) = (y, true)
  unfold Sp.get
  obtain ⟨n, hn, he⟩ := List.getElem_of_mem hy
  have := find_nd hn h.good.nd
  rw [he] at this
  rw [this]
theorem fi_none {S : List Int} {last : Int} {M : Mc} (h : Fi S last M) {s : Int} (hs : s ∉ S) (h2 : s ≠ 16255) : (M.find (2, 52, s)).2 = false := by
  unfold Mc.find
  have e : (((2, 52, s) : Ky).2.2 != 16255) = true := bne_iff_ne.2 h2
  rw [e]
  show (M.st.get (2, 52, s)).2 = false
  unfold Sp.get
  cases hf : M.st.L.find? (fun p => kyEq (2, 52, s) (kyP p)) with
  | none => rfl
  | some p =>
    exfalso
    have hp := List.mem_of_find?_eq_some hf
    have hk := List.find?_some hf
    have := kyEq_iff.1 hk
    rw [kyP_two (h.onl p hp)] at this
    have e2 : s = p.sb := congrArg (fun k => k.2.2) this
    exact hs ((h.mem s).2 (mem_subs.2 ⟨p, hp, e2.symm⟩))
def Jn.spec (k : Int) (P : List Pg) : Jn → Prop
  | .z => P = []
  | .a p => p ∈ P ∧ (∀ x ∈ P, p.sb ≤ x.sb) ∧ ∀ x ∈ P, ¬ x.sb > k
  | .s p => p ∈ P ∧ (∀ x ∈ P, p.sb ≤ x.sb) ∧ p.sb > k
  | .d p q => (p ∈ P ∧ ∀ x ∈ P, p.sb ≤ x.sb) ∧ q ∈ P ∧ q.sb > k ∧ ∀ x ∈ P, x.sb > k → q.sb ≤ x.sb
theorem all_snoc {P : List Pg} {x : Pg} {Q : Pg → Prop} (h : ∀ y ∈ P, Q y) (hx : Q x) : ∀ y ∈ P ++ [x], Q y := fun y hy => (List.mem_append.1 hy).elim (h y) fun e => by rw [List.mem_singleton] at e; exact e ▸ hx
theorem mem_l {P : List Pg} {x p : Pg} (h : p ∈ P) : p ∈ P ++ [x] := List.mem_append.2 (.inl h)
theorem mem_r (P : List Pg) (x : Pg) : x ∈ P ++ [x] := List.mem_append.2 (.inr (List.mem_singleton.2 rfl))
theorem spec_hit {a b k : Int} {P : List Pg} {x : Pg} : ∀ {J : Jn}, Jn.spec k P J → Jn.spec k (P ++ [x]) (J.hit (a, b, k) x)
  | .z, h => by
    have h : P = [] := h
    subst h
    dsimp only [Jn.hit]
    by_cases c : x.sb > k
    · rw [decide_eq_true c]
      exact ⟨mem_r _ _, fun y hy => by rw [List.mem_singleton.1 hy]; exact Int.le_refl _, c⟩
    · rw [decide_eq_false c]
      exact ⟨mem_r _ _, fun y hy => by rw [List.mem_singleton.1 hy]; exact Int.le_refl _, fun y hy => by rw [List.mem_singleton.1 hy]; exact c⟩
  | .a p, ⟨h1, h2, h3⟩ => by
    dsimp only [Jn.hit]
    by_cases c1 : x.sb < p.sb
    · rw [decide_eq_true c1]
      have hl : ∀ y ∈ P ++ [x], x.sb ≤ y.sb := all_snoc (fun y hy => by have := h2 y hy; omega) (Int.le_refl _)
      have c2 : ¬ x.sb > k := fun hc => h3 p h1 (by omega)
      rw [decide_eq_false c2]
      exact ⟨mem_r _ _, hl, all_snoc h3 c2⟩
    · rw [decide_eq_false c1]
      by_cases c2 : x.sb > k
      · rw [decide_eq_true c2]
        exact ⟨⟨mem_l h1, all_snoc h2 (by omega)⟩, mem_r _ _, c2, all_snoc (fun y hy hk => absurd hk (h3 y hy)) (fun _ => Int.le_refl _)⟩
      · rw [decide_eq_false c2]
        exact ⟨mem_l h1, all_snoc h2 (by omega), all_snoc h3 c2⟩
  | .s p, ⟨h1, h2, h3⟩ => by
    dsimp only [Jn.hit]
    by_cases c1 : x.sb < p.sb
    · rw [decide_eq_true c1]
      have hl : ∀ y ∈ P ++ [x], x.sb ≤ y.sb := all_snoc (fun y hy => by have := h2 y hy; omega) (Int.le_refl _)
      by_cases c2 : x.sb > k
      · rw [decide_eq_true c2]
        exact ⟨mem_r _ _, hl, c2⟩
      · rw [decide_eq_false c2]
        exact ⟨⟨mem_r _ _, hl⟩, mem_l h1, h3, all_snoc (fun y hy _ => h2 y hy) (fun hk => absurd hk c2)⟩
    · rw [decide_eq_false c1]
      exact ⟨mem_l h1, all_snoc h2 (by omega), h3⟩
  | .d p q, ⟨⟨h1, h2⟩, h3, h4, h5⟩ => by
    dsimp only [Jn.hit]
    by_cases c1 : x.sb < p.sb
    · rw [decide_eq_true c1]
      have hl : ∀ y ∈ P ++ [x], x.sb ≤ y.sb := all_snoc (fun y hy => by have := h2 y hy; omega) (Int.le_refl _)
      have hpq := h2 q h3
      by_cases c2 : x.sb > k
      · rw [decide_eq_true c2, decide_eq_true (show x.sb < q.sb by omega)]
        exact ⟨mem_r _ _, hl, c2⟩
      · rw [decide_eq_false c2, Bool.false_and]
        exact ⟨⟨mem_r _ _, hl⟩, mem_l h3, h4, all_snoc h5 (fun hk => absurd hk c2)⟩
    · rw [decide_eq_false c1]
      have hl : ∀ y ∈ P ++ [x], p.sb ≤ y.sb := all_snoc h2 (by omega)
      by_cases c2 : x.sb > k
      · by_cases c3 : x.sb < q.sb
        · rw [decide_eq_true c2, decide_eq_true c3]
          exact ⟨⟨mem_l h1, hl⟩, mem_r _ _, c2, all_snoc (fun y hy hk => by have := h5 y hy hk; omega) (fun _ => Int.le_refl _)⟩
        · rw [decide_eq_true c2, decide_eq_false c3]
          exact ⟨⟨mem_l h1, hl⟩, mem_l h3, h4, all_snoc h5 (fun _ => by omega)⟩
      · rw [decide_eq_false c2, Bool.false_and]
        exact ⟨⟨mem_l h1, hl⟩, mem_l h3, h4, all_snoc h5 (fun hk => absurd hk c2)⟩
theorem spec_fold {k : Int} : ∀ (l P : List Pg) (J : Jn), only l → Jn.spec k P J → Jn.spec k (P ++ l) (l.foldl (Jn.step (2, 52, k)) J)
  | [], P, J, _, h => by rw [List.append_nil]; exact h
  | x :: l, P, J, ho, h => by
    have e : Jn.step (2, 52, k) J x = J.hit (2, 52, k) x := by
      unfold Jn.step
      rw [hit_two (ho x (List.mem_cons_self ..))]
      rfl
    have := spec_fold l (P ++ [x]) (J.hit (2, 52, k) x) (fun p hp => ho p (List.mem_cons_of_mem _ hp)) (spec_hit h)
    rw [List.append_assoc] at this
    rw [List.foldl_cons, e]
    exact this
theorem fi_next {S : List Int} {last : Int} {M : Mc} (h : Fi S last M) {s : Int} (hs : s ∈ S) : ∃ y, M.next (2, 52, s) = (y, true) ∧ y ∈ M.st.L ∧ rk S y.sb = (rk S s + 1) % S.length := by
  have hsp := spec_fold (k := s) M.st.L [] .z h.onl rfl
  rw [List.nil_append] at hsp
  have hne : M.st.L ≠ [] := fun e => by
    have := (h.mem s).1 hs
    rw [e] at this
    cases this
  have above : ∀ q ∈ M.st.L, q.sb > s → (∀ x ∈ M.st.L, x.sb > s → q.sb ≤ x.sb) → rk S q.sb = (rk S s + 1) % S.length := fun q hq hgt hmin => by
    have hqS := (h.mem q.sb).2 (mem_subs.2 ⟨q, hq, rfl⟩)
    have e := rk_next h.nd hs hgt fun z hz hz2 => by
      obtain ⟨p, hp, rfl⟩ := mem_subs.1 ((h.mem z).1 hz)
      exact hmin p hp hz2
    have := rk_lt h.nd hqS
    rw [e] at this ⊢
    rw [Nat.mod_eq_of_lt this]
  show ∃ y, (M.nxJ (2, 52, s)).res = (y, true) ∧ _
  unfold Mc.nxJ
  generalize M.st.L.foldl (Jn.step (2, 52, s)) .z = J at hsp
  cases J with
  | z => exact absurd hsp hne
  | a p =>
    obtain ⟨h1, h2, h3⟩ := hsp
    refine ⟨p, rfl, h1, ?_⟩
    have e1 := rk_last h.nd hs fun z hz hz2 => by
      obtain ⟨q, hq, rfl⟩ := mem_subs.1 ((h.mem z).1 hz)
      exact h3 q hq hz2
    have e2 : rk S p.sb = 0 := rk_least fun z hz => by
      obtain ⟨q, hq, rfl⟩ := mem_subs.1 ((h.mem z).1 hz)
      exact h2 q hq
    rw [e1, e2, Nat.mod_self]
  | s p =>
    obtain ⟨h1, h2, h3⟩ := hsp
    exact ⟨p, rfl, h1, above p h1 h3 fun x hx _ => h2 x hx⟩
  | d p q =>
    obtain ⟨-, h3, h4, h5⟩ := hsp
    exact ⟨q, rfl, h3, above q h3 h4 h5⟩
end Go.Proofs.YtlfmkacafppmlaaDoor.su
namespace Go.Proofs.YtlfmkacafppmlaaDoor.sp
open Go.Proofs.YtlfmkacafppmlaaDoor.sto (sT sF Ky Sp kyP pgV)
open Go.Proofs.YtlfmkacafppmlaaDoor.ac (Pg pgZ K1 K3)
open Go Go.Nx Go.Proofs.YtlfmkacafppmlaaDoor.pk Go.Proofs.YtlfmkacafppmlaaDoor.mac
noncomputable abbrev f_has := Tryd.f8
noncomputable def X_has : Cx := { P := Tryd.prog, con := fun _ => Option.none, glob := GL, m := 0, loops := [] }
noncomputable def sHas (xs : List Int) (n i : Int) : St := { fr := frame 18 [(0, .v (.c (.l .i64 xs))), (1, .v (.c (.i .i64 n))), (5, .v (.c (.i .i64 i)))], rg := [] }
noncomputable def yHas : St := { fr := frame 18 [(4, .v (.c (.b true)))], rg := [] }
noncomputable def nHas : St := { fr := frame 18 [], rg := [] }
theorem round_has (xs : List Int) (n i : Int) (R : RO → Prop) : (roundT X_has 0 [0, 1, 5] [4] (bodyLoop f_has 0) (sHas xs n i)).run R =
    sel (decide (i < (xs.length : Int))) (sel (decide (0 ≤ i)) (sel (decide (i < (xs.length : Int))) (sel (decide (i.toNat < xs.length)) (sel (xs.getD i.toNat 0 == n) (R (.done .ret yHas)) (R (.next (sHas xs n (IntKind.i64.wrap (i + 1)))))) False) False) False) (R (.done .normal nHas)) := by kernel_rfl
def hasV (xs : List Int) (n : Int) : Bool := xs.any fun x => x == n
structure AHas where
  xs : List Int
  n : Int
  i : Nat
def preHas (x : AHas) (R : NExit × St → Prop) : Prop := (x.i ≤ x.xs.length ∧ x.xs.length ≤ 1000000) ∧ sel (hasV (x.xs.drop x.i) x.n) (R (.ret, yHas)) (R (.normal, nHas))
noncomputable def lHas (s : St) : Tr (NExit × St) := match s.fr[(0 : Nat)]?, s.fr[(1 : Nat)]? with
  | some (.v (.c (.l _ xs))), some (.v (.c (.i _ n))) => .must (s = sHas xs n 0 ∧ xs.length ≤ 1000000) (.br (hasV xs n) (.ret (.ret, yHas)) (.ret (.normal, nHas)))
  | _, _ => .fail
set_option maxRecDepth 100000 in
theorem loop_has : LOk Tryd.prog GL 0 0 (bodyLoop f_has 0) lHas := by
  refine loop_ok (X := X_has) con_none mixed (LAll.none (by kernel_rfl)) [0, 1, 5] [4] (fun x : AHas => sHas x.xs x.n (x.i : Int)) (fun x => x.xs.length - x.i) preHas ?_ ?_
  · intro s R h
    unfold lHas at h
    split at h
    case h_2 => exact h.elim
    rename_i xs _ n h1 h2
    obtain ⟨⟨hs, hl⟩, hR⟩ := h
    exact ⟨⟨xs, n, 0⟩, hs, ⟨Nat.zero_le _, hl⟩, hR⟩
  · intro x R h
    obtain ⟨xs, n, i⟩ := x
    obtain ⟨⟨hle, hl⟩, hR⟩ := h
    simp only at hle hl hR
    refine Tr.run_mono _ (fun o ho => ho) (Box.of_eq (round_has xs n (i : Int) _) ?_).out
    by_cases hlt : i < xs.length
    · have hw : IntKind.i64.wrap ((i : Int) + 1) = ((i + 1 : Nat) : Int) := by rw [IntKind.wrap_i64]; omega
      refine sT (decide_eq_true (by omega)) (sT (decide_eq_true (by omega)) (sT (decide_eq_true (by omega)) (sT (decide_eq_true (by omega)) ?_)))
      have hd : xs.drop i = xs.getD i 0 :: xs.drop (i + 1) := by
        rw [List.drop_eq_getElem_cons hlt, List.getD_eq_getElem?_getD, List.getElem?_eq_getElem hlt]
        rfl
      rw [hd] at hR
      rw [Int.toNat_natCast, hw]
      unfold hasV at hR
      rw [List.any_cons] at hR
      cases hc : xs.getD i 0 == n with
      | true => rw [hc, Bool.true_or] at hR; exact sT rfl hR
      | false =>
        rw [hc, Bool.false_or] at hR
        exact sF rfl ⟨⟨xs, n, i + 1⟩, rfl, by simp only; omega, ⟨by simp only; omega, hl⟩, hR⟩
    · rw [List.drop_eq_nil_iff.2 (by omega)] at hR
      exact sF (decide_eq_false (by omega)) hR
noncomputable def t_has : Con := fun args regs => if regs.length = 0 then nfun Tryd.prog GL (fun _ => Option.none) [(0, [0, 1, 5], lHas)] f_has args regs else .fail
theorem k_has : Known Tryd.prog GL 8 t_has := known_loops 0 Tryd.func8 rfl (by kernel_rfl) mixed con_none (LAll.one (id := 0) (body := bodyLoop f_has 0) (by kernel_rfl) rfl loop_has)
noncomputable def oBo (b : Bool) : Out := ⟨.v (.c (.b b)), []⟩
theorem has_tree (xs : List Int) (n : Int) (R : Out → Prop) : (t_has [.c (.l .i64 xs), .c (.i .i64 n)] []).run R = ((sHas xs n 0 = sHas xs n 0 ∧ xs.length ≤ 1000000) ∧ sel (hasV xs n) (R (oBo true)) (R (oBo false))) := by kernel_rfl
noncomputable def tHas0 : Con := fun args regs => match args, regs with
  | [.c (.l _ xs), .c (.i _ n)], [] => .must (args = [.c (.l .i64 xs), .c (.i .i64 n)] ∧ xs.length ≤ 1000000) (.ret (oBo (hasV xs n)))
  | _, _ => .fail
attribute [local irreducible] t_has in
set_option maxRecDepth 100000 in
theorem kHas0 : Known Tryd.prog GL 8 tHas0 := by
  refine k_has.less fun args regs R h => ?_
  unfold tHas0 at h
  split at h
  case h_2 => exact h.elim
  rename_i _ xs _ n
  obtain ⟨⟨h1, hl⟩, h⟩ := h
  rw [h1]
  refine (Box.of_eq (has_tree xs n R) ⟨⟨rfl, hl⟩, ?_⟩).out
  have h : R (oBo (hasV xs n)) := h
  cases hc : hasV xs n with
  | true => rw [hc] at h; exact sT rfl h
  | false => rw [hc] at h; exact sF rfl h
def argT (ls : List (Nat × Nat × Nat × NC)) (T : Con) : Con := fun args regs => T (mapVs (nilOf ls) 0 args) regs
theorem Known_args {P : Program} {gl : List Nat} {f : FuncId} {T : Con} (h : Known P gl f T) (ls : List (Nat × Nat × Nat × NC)) : Known P gl f (argT ls T) :=
  ⟨h.goes, fun args regs R hr Γ w vs hw hg ha ho => h.sound (mapVs (nilOf ls) 0 args) regs R hr Γ w vs hw hg (mapVs_soft args vs 0 (fun i j k y _ => nilOf_soft Γ ls i j k y) ha) ho⟩
noncomputable def tHas : Con := argT [(0, 0, 0, .l .i64 [])] tHas0
theorem kHas : Known Tryd.prog GL 8 tHas := Known_args kHas0 _
noncomputable abbrev f_sp := Tryd.f13
noncomputable def t_st1 : Con := fun args regs => nfun Tryd.prog GL (fun _ => Option.none) [] Tryd.f58 args regs
theorem k_st1 : Known Tryd.prog GL 58 t_st1 := known_inl Tryd.func58 rfl (by kernel_rfl) mixed con_none (by kernel_rfl)
noncomputable def X_sp : Cx := { P := Tryd.prog, con := fun _ => Option.none, glob := GL, m := 0, loops := [] }
noncomputable def sI (p : Pg) (i k : Int) : St := { fr := frame 70 [(2, .v (.c (.p 0 0 0))), (3, .v (.c (.p 1 0 0))), (5, .v (.c (.i .i64 i))), (6, .v (.c (.i .i64 k)))], rg := [some (pge.pgReg p (.lr K3 p.ex)), some (pge.pgReg p (.lr K3 p.ex))] }
noncomputable def rI (s : St) : Tr RO := roundT X_sp 2 [2, 3, 5, 6] [2, 3, 4, 5] (bodyLoop f_sp 2) s
noncomputable def dI (p : Pg) (i : Int) : St := { fr := frame 70 [(2, .v (.c (.p 0 0 0))), (3, .v (.c (.p 1 0 0))), (5, .v (.c (.i .i64 i)))], rg := [some (pge.pgReg p (.lr K3 p.ex)), some (pge.pgReg p (.lr K3 p.ex))] }
noncomputable def nI (p : Pg) (i : Int) : St := { fr := frame 70 [(2, .v (.c (.p 0 0 0))), (3, .v (.c (.p 1 0 0))), (4, .v (.c (.b false))), (5, .v (.c (.i .i64 i)))], rg := [some (pge.pgReg p (.lr K3 p.ex)), some (pge.pgReg p (.lr K3 p.ex))] }
def jx (i k : Int) (N : Prop) : Prop := sel (decide (0 ≤ i)) (sel (decide (i < 25)) (sel (decide (0 ≤ k)) (sel (decide (k < 40)) (sel (decide (i.toNat * 40 + k.toNat < 1000)) N False) False) False) False) False
def vI (p : Pg) (i k : Int) : Int := p.rows.getD (i.toNat * 40 + k.toNat) 0
theorem round_I (p : Pg) (i k : Int) (R : RO → Prop) : (rI (sI p i k)).run R = sel (decide (k < 40)) (jx i k (jx i k (sel (vI p i k != vI p i k) (R (.done .ret (nI p i))) (R (.next (sI p i (IntKind.i64.wrap (k + 1)))))))) (R (.done .normal (dI p i))) := by kernel_rfl
noncomputable def rdP2 (s : St) : Option (Pg × Int) := match s.rg, s.fr[(5 : Nat)]? with
  | some ⟨_, _, .sg l⟩ :: _, some (.v (.c (.i _ i))) => (match sto.rdPg (.sg l) with
    | some p => some (p, i)
    | none => none)
  | _, _ => none
noncomputable def lI (s : St) : Tr (NExit × St) := match rdP2 s with
  | some (p, i) => .must (s = sI p i 0 ∧ 0 ≤ i ∧ i < 25) (.ret (.normal, dI p i))
  | none => .fail
structure AI where
  p : Pg
  i : Int
  k : Nat
def preI (x : AI) (R : NExit × St → Prop) : Prop := ((0 ≤ x.i ∧ x.i < 25) ∧ x.k ≤ 40) ∧ R (.normal, dI x.p x.i)
theorem jx_in {i k : Int} {N : Prop} (hi : 0 ≤ i ∧ i < 25) (hk : 0 ≤ k ∧ k < 40) (h : N) : jx i k N := sT (decide_eq_true hi.1) (sT (decide_eq_true hi.2) (sT (decide_eq_true hk.1) (sT (decide_eq_true hk.2) (sT (decide_eq_true (by omega)) h))))
set_option maxRecDepth 100000 in
theorem loop_I : LOk Tryd.prog GL 0 2 (bodyLoop f_sp 2) lI := by
  refine loop_ok (X := X_sp) con_none mixed (LAll.none (by kernel_rfl)) [2, 3, 5, 6] [2, 3, 4, 5] (fun x : AI => sI x.p x.i (x.k : Int)) (fun x => 40 - x.k) preI ?_ ?_
  · intro s R h
    unfold lI at h
    split at h
    case h_2 => exact h.elim
    rename_i p i hx
    obtain ⟨⟨hs, hi⟩, hR⟩ := h
    exact ⟨⟨p, i, 0⟩, hs, ⟨hi, by simp only; omega⟩, hR⟩
  · intro x R h
    obtain ⟨p, i, k⟩ := x
    obtain ⟨⟨hi, hk⟩, hR⟩ := h
    simp only at hi hk hR
    refine Tr.run_mono _ (fun o ho => ho) (Box.of_eq (round_I p i (k : Int) _) ?_).out
    by_cases hlt : k < 40
    · have hw : IntKind.i64.wrap ((k : Int) + 1) = ((k + 1 : Nat) : Int) := by rw [IntKind.wrap_i64]; omega
      rw [hw]
      exact sT (decide_eq_true (by omega)) (jx_in hi (by omega) (jx_in hi (by omega) (sF (bne_self_eq_false _) ⟨⟨p, i, k + 1⟩, rfl, by simp only; omega, ⟨hi, by simp only; omega⟩, hR⟩)))
    · exact sF (decide_eq_false (by omega)) hR
noncomputable def X_so : Cx := { P := Tryd.prog, con := fun _ => Option.none, glob := GL, m := 0, loops := [(2, [2, 3, 5, 6], lI)] }
noncomputable def dO (p : Pg) : St := { fr := frame 70 [(2, .v (.c (.p 0 0 0))), (3, .v (.c (.p 1 0 0)))], rg := [some (pge.pgReg p (.lr K3 p.ex)), some (pge.pgReg p (.lr K3 p.ex))] }
noncomputable def nO (p : Pg) : St := { fr := frame 70 [(2, .v (.c (.p 0 0 0))), (3, .v (.c (.p 1 0 0))), (4, .v (.c (.b false)))], rg := [some (pge.pgReg p (.lr K3 p.ex)), some (pge.pgReg p (.lr K3 p.ex))] }
noncomputable def rO (s : St) : Tr RO := roundT X_so 0 [2, 3, 5] [2, 3, 4] (bodyLoop f_sp 0) s
def tx (i : Int) (N : Prop) : Prop := sel (decide (0 ≤ i)) (sel (decide (i < 25)) (sel (decide (i.toNat < 25)) N False) False) False
def thI (p : Pg) (i : Int) : Bool := ((p.th.getD i.toNat []).getD 0 (.i 0)).t
theorem round_O (p : Pg) (i : Int) (R : RO → Prop) : (rO (dI p i)).run R = sel (decide (i < 25)) (tx i (tx i (sel (!(thI p i == thI p i)) (R (.done .ret (nO p))) ((sI p i 0 = sI p i 0 ∧ 0 ≤ i ∧ i < 25) ∧ R (.next (dI p (IntKind.i64.wrap (i + 1)))))))) (R (.done .normal (dO p))) := by kernel_rfl
noncomputable def lO (s : St) : Tr (NExit × St) := match rdP2 s with
  | some (p, _) => .must (s = dI p 0) (.ret (.normal, dO p))
  | none => .fail
structure AO where
  p : Pg
  i : Nat
def preO (x : AO) (R : NExit × St → Prop) : Prop := x.i ≤ 25 ∧ R (.normal, dO x.p)
theorem tx_in {i : Int} {N : Prop} (hi : 0 ≤ i ∧ i < 25) (h : N) : tx i N := sT (decide_eq_true hi.1) (sT (decide_eq_true hi.2) (sT (decide_eq_true (by omega)) h))
set_option maxRecDepth 100000 in
theorem loop_O : LOk Tryd.prog GL 0 0 (bodyLoop f_sp 0) lO := by
  refine loop_ok (X := X_so) con_none mixed (LAll.one (id := 2) (body := bodyLoop f_sp 2) (by kernel_rfl) rfl loop_I) [2, 3, 5] [2, 3, 4] (fun x : AO => dI x.p (x.i : Int)) (fun x => 25 - x.i) preO ?_ ?_
  · intro s R h
    unfold lO at h
    split at h
    case h_2 => exact h.elim
    rename_i p _ hx
    obtain ⟨hs, hR⟩ := h
    exact ⟨⟨p, 0⟩, hs, by simp only; omega, hR⟩
  · intro x R h
    obtain ⟨p, i⟩ := x
    obtain ⟨hi, hR⟩ := h
    simp only at hi hR
    refine Tr.run_mono _ (fun o ho => ho) (Box.of_eq (round_O p (i : Int) _) ?_).out
    by_cases hlt : i < 25
    · have hw : IntKind.i64.wrap ((i : Int) + 1) = ((i + 1 : Nat) : Int) := by rw [IntKind.wrap_i64]; omega
      rw [hw]
      exact sT (decide_eq_true (by omega)) (tx_in (by omega) (tx_in (by omega) (sF (by rw [beq_self_eq_true]; rfl) ⟨⟨rfl, by omega, by omega⟩, ⟨p, i + 1⟩, rfl, by simp only; omega, by simp only; omega, hR⟩)))
    · exact sF (decide_eq_false (by omega)) hR
def hdC (m p s : Int) (c : List (List Sc)) (o : Int) : NV := .ag ([.i .i64 m, .i .i64 p, .i .i64 s] ++ rowsNC K1 c ++ [.i .i64 o])
def fl (r : List Sc) : Bool := (r.getD 0 (.i 0)).t
def shE (R : Out → Prop) (A : Prop) : List Bool → Prop
  | [] => A
  | a :: l => sel (!(a == a)) (R (oBo false)) (shE R A l)
theorem sh_tree (m p s o : Int) (c0 c1 c2 c3 c4 c5 c6 c7 c8 c9 c10 : List Sc) (R : Out → Prop) : (hd.t_samehead [hdC m p s [c0, c1, c2, c3, c4, c5, c6, c7, c8, c9, c10] o, hdC m p s [c0, c1, c2, c3, c4, c5, c6, c7, c8, c9, c10] o] []).run R =
    shE R (sel (m == m) (sel (p == p) (sel (s == s) (R (oBo (o == o))) (R (oBo false))) (R (oBo false))) (R (oBo false))) [fl c0, fl c1, fl c2, fl c3, fl c4, fl c5, fl c6, fl c7, fl c8, fl c9, fl c10] := by kernel_rfl
theorem shE_in {R : Out → Prop} {A : Prop} (hA : A) : ∀ {l : List Bool}, shE R A l
  | [] => hA
  | b :: l => sF (by rw [beq_self_eq_true]; rfl) (shE_in hA (l := l))
theorem list11 {α : Type} {l : List α} (h : l.length = 11) : ∃ c0 c1 c2 c3 c4 c5 c6 c7 c8 c9 c10, l = [c0, c1, c2, c3, c4, c5, c6, c7, c8, c9, c10] := by
  match l, h with
  | [c0, c1, c2, c3, c4, c5, c6, c7, c8, c9, c10], _ => exact ⟨c0, c1, c2, c3, c4, c5, c6, c7, c8, c9, c10, rfl⟩
noncomputable def tSH (c : List (List Sc)) : Con := fun args regs => match args, regs with
  | [.ag (.i _ m :: .i _ p :: .i _ s :: _), _], [] => .must (∃ o, args = [hdC m p s c o, hdC m p s c o] ∧ c.length = 11) (.ret (oBo true))
  | _, _ => .fail
attribute [local irreducible] hd.t_samehead in
set_option maxRecDepth 100000 in
theorem kSH (c : List (List Sc)) : Known Tryd.prog GL 29 (tSH c) := by
  refine hd.k_samehead.less fun args regs R h => ?_
  unfold tSH at h
  split at h
  case h_2 => exact h.elim
  rename_i k1 m k2 p k3 s tl v
  obtain ⟨⟨o, h1, hc⟩, h⟩ := h
  rw [h1]
  obtain ⟨c0, c1, c2, c3, c4, c5, c6, c7, c8, c9, c10, rfl⟩ := list11 hc
  refine (Box.of_eq (sh_tree m p s o c0 c1 c2 c3 c4 c5 c6 c7 c8 c9 c10 R) (shE_in ?_)).out
  refine sT (beq_self_eq_true _) (sT (beq_self_eq_true _) (sT (beq_self_eq_true _) ?_))
  rw [beq_self_eq_true]
  exact h
def lkC (l : List (List Sc)) : NV := .ag (rowsNC K3 l)
noncomputable def c_slk : FuncId → Option Con := conOf [(57, hd.tSamePT)]
theorem kc_slk : ∀ f T, c_slk f = some T → Known Tryd.prog GL f T := (Knowns.cons hd.kSamePT .nil).get
noncomputable def X_slk : Cx := { P := Tryd.prog, con := c_slk, glob := GL, m := 0, loops := [] }
noncomputable def t_slk : Con := fun args regs => if regs.length = 0 then nfun Tryd.prog GL c_slk [(0, [2, 3, 5], unroll X_slk 0 [2, 3, 5] [4] (bodyLoop Tryd.f31 0) 7)] Tryd.f31 args regs else .fail
theorem k_slk : Known Tryd.prog GL 31 t_slk := known_loops 0 Tryd.func31 rfl (by kernel_rfl) mixed kc_slk (LAll.one (id := 0) (body := bodyLoop Tryd.f31 0) (by kernel_rfl) rfl (unroll_ok (X := X_slk) kc_slk mixed (LAll.none (by kernel_rfl)) [2, 3, 5] [4] 7))
theorem slk_tree (r0 r1 r2 r3 r4 r5 : List Sc) (R : Out → Prop) : (t_slk [lkC [r0, r1, r2, r3, r4, r5], lkC [r0, r1, r2, r3, r4, r5]] []).run R = ((((r0.getD 0 (.i 0)).n = (r0.getD 0 (.i 0)).n) ∧ ((r0.getD 1 (.i 0)).n = (r0.getD 1 (.i 0)).n) ∧ ((r0.getD 2 (.i 0)).n = (r0.getD 2 (.i 0)).n)) ∧ ((((r1.getD 0 (.i 0)).n = (r1.getD 0 (.i 0)).n) ∧ ((r1.getD 1 (.i 0)).n = (r1.getD 1 (.i 0)).n) ∧ ((r1.getD 2 (.i 0)).n = (r1.getD 2 (.i 0)).n)) ∧ ((((r2.getD 0 (.i 0)).n = (r2.getD 0 (.i 0)).n) ∧ ((r2.getD 1 (.i 0)).n = (r2.getD 1 (.i 0)).n) ∧ ((r2.getD 2 (.i 0)).n = (r2.getD 2 (.i 0)).n)) ∧ ((((r3.getD 0 (.i 0)).n = (r3.getD 0 (.i 0)).n) ∧ ((r3.getD 1 (.i 0)).n = (r3.getD 1 (.i 0)).n) ∧ ((r3.getD 2 (.i 0)).n = (r3.getD 2 (.i 0)).n)) ∧ ((((r4.getD 0 (.i 0)).n = (r4.getD 0 (.i 0)).n) ∧ ((r4.getD 1 (.i 0)).n = (r4.getD 1 (.i 0)).n) ∧ ((r4.getD 2 (.i 0)).n = (r4.getD 2 (.i 0)).n)) ∧ ((((r5.getD 0 (.i 0)).n = (r5.getD 0 (.i 0)).n) ∧ ((r5.getD 1 (.i 0)).n = (r5.getD 1 (.i 0)).n) ∧ ((r5.getD 2 (.i 0)).n = (r5.getD 2 (.i 0)).n)) ∧ R (oBo true))))))) := by kernel_rfl
theorem list6 {α : Type} {l : List α} (h : l.length = 6) : ∃ r0 r1 r2 r3 r4 r5, l = [r0, r1, r2, r3, r4, r5] := by
  match l, h with
  | [r0, r1, r2, r3, r4, r5], _ => exact ⟨r0, r1, r2, r3, r4, r5, rfl⟩
noncomputable def tSL (l : List (List Sc)) : Con := fun args regs => match regs with
  | [] => .must (args = [lkC l, lkC l] ∧ l.length = 6) (.ret (oBo true))
  | _ => .fail
attribute [local irreducible] t_slk in
set_option maxRecDepth 100000 in
theorem kSL (l : List (List Sc)) : Known Tryd.prog GL 31 (tSL l) := by
  refine k_slk.less fun args regs R h => ?_
  unfold tSL at h
  split at h
  case h_2 => exact h.elim
  obtain ⟨⟨h1, hl⟩, h⟩ := h
  rw [h1]
  obtain ⟨r0, r1, r2, r3, r4, r5, rfl⟩ := list6 hl
  exact (Box.of_eq (slk_tree r0 r1 r2 r3 r4 r5 R) ⟨⟨rfl, rfl, rfl⟩, ⟨rfl, rfl, rfl⟩, ⟨rfl, rfl, rfl⟩, ⟨rfl, rfl, rfl⟩, ⟨rfl, rfl, rfl⟩, ⟨rfl, rfl, rfl⟩, h⟩).out
def t3 (r : List Sc) : NV := .ag (rowCells K3 r)
theorem st1_tree (a b c : Int) (R : Out → Prop) : (t_st1 [.ag [.i .i64 a, .i .i64 b, .i .i64 c], .ag [.i .i64 a, .i .i64 b, .i .i64 c]] []).run R = sel (a == a) (sel (b == b) (R (oBo (c == c))) (R (oBo false))) (R (oBo false)) := by kernel_rfl
noncomputable def tST1 : Con := fun args regs => match args, regs with
  | [.ag [.i _ a, .i _ b, .i _ c], _], [] => .must (args = [.ag [.i .i64 a, .i .i64 b, .i .i64 c], .ag [.i .i64 a, .i .i64 b, .i .i64 c]]) (.ret (oBo true))
  | _, _ => .fail
attribute [local irreducible] t_st1 in
set_option maxRecDepth 100000 in
theorem kST1 : Known Tryd.prog GL 58 tST1 := by
  refine k_st1.less fun args regs R h => ?_
  unfold tST1 at h
  split at h
  case h_2 => exact h.elim
  rename_i k1 a k2 b k3 c v
  obtain ⟨h1, h⟩ := h
  rw [h1]
  refine (Box.of_eq (st1_tree a b c R) (sT (beq_self_eq_true _) (sT (beq_self_eq_true _) ?_))).out
  rw [beq_self_eq_true]
  exact h
noncomputable abbrev f_sts := Tryd.f30
noncomputable def c_sts : FuncId → Option Con := conOf [(58, tST1)]
theorem kc_sts : ∀ f T, c_sts f = some T → Known Tryd.prog GL f T := (Knowns.cons kST1 .nil).get
noncomputable def X_sts : Cx := { P := Tryd.prog, con := c_sts, glob := GL, m := 0, loops := [] }
noncomputable def sTs (xs : List (List Sc)) (i : Int) : St := { fr := frame 29 [(0, .v (.c (.lr K3 xs))), (1, .v (.c (.lr K3 xs))), (5, .v (.c (.i .i64 i)))], rg := [] }
noncomputable def nTs : St := { fr := frame 29 [], rg := [] }
def ix3 (n : Nat) (i : Int) (N : Prop) : Prop := sel (decide (0 ≤ i)) (sel (decide (i < (n : Int))) (sel (decide (i.toNat < n)) N False) False) False
theorem round_sts (xs : List (List Sc)) (i : Int) (R : RO → Prop) : (roundT X_sts 0 [0, 1, 5] [4] (bodyLoop f_sts 0) (sTs xs i)).run R =
    sel (decide (i < (xs.length : Int))) (ix3 xs.length i (ix3 xs.length i ([t3 (xs.getD i.toNat []), t3 (xs.getD i.toNat [])] = [t3 (xs.getD i.toNat []), t3 (xs.getD i.toNat [])] ∧ R (.next (sTs xs (IntKind.i64.wrap (i + 1))))))) (R (.done .normal nTs)) := by kernel_rfl
structure ATs where
  xs : List (List Sc)
  i : Nat
def preTs (x : ATs) (R : NExit × St → Prop) : Prop := (x.i ≤ x.xs.length ∧ x.xs.length ≤ 1000000) ∧ R (.normal, nTs)
noncomputable def lTs (s : St) : Tr (NExit × St) := match s.fr[(0 : Nat)]? with
  | some (.v (.c (.lr _ xs))) => .must (s = sTs xs 0 ∧ xs.length ≤ 1000000) (.ret (.normal, nTs))
  | _ => .fail
theorem ix3_in {n : Nat} {i : Int} {N : Prop} (h0 : 0 ≤ i) (h1 : i < (n : Int)) (h : N) : ix3 n i N := sT (decide_eq_true h0) (sT (decide_eq_true h1) (sT (decide_eq_true (by omega)) h))
set_option maxRecDepth 100000 in
theorem loop_sts : LOk Tryd.prog GL 0 0 (bodyLoop f_sts 0) lTs := by
  refine loop_ok (X := X_sts) kc_sts mixed (LAll.none (by kernel_rfl)) [0, 1, 5] [4] (fun x : ATs => sTs x.xs (x.i : Int)) (fun x => x.xs.length - x.i) preTs ?_ ?_
  · intro s R h
    unfold lTs at h
    split at h
    case h_2 => exact h.elim
    rename_i xs hx
    obtain ⟨⟨hs, hl⟩, hR⟩ := h
    exact ⟨⟨xs, 0⟩, hs, ⟨Nat.zero_le _, hl⟩, hR⟩
  · intro x R h
    obtain ⟨xs, i⟩ := x
    obtain ⟨⟨hi, hl⟩, hR⟩ := h
    simp only at hi hl hR
    refine Tr.run_mono _ (fun o ho => ho) (Box.of_eq (round_sts xs (i : Int) _) ?_).out
    by_cases hlt : i < xs.length
    · have hw : IntKind.i64.wrap ((i : Int) + 1) = ((i + 1 : Nat) : Int) := by rw [IntKind.wrap_i64]; omega
      rw [hw]
      exact sT (decide_eq_true (by omega)) (ix3_in (by omega) (by omega) (ix3_in (by omega) (by omega) ⟨rfl, ⟨xs, i + 1⟩, rfl, by simp only; omega, ⟨by simp only; omega, hl⟩, hR⟩))
    · exact sF (decide_eq_false (by omega)) hR
noncomputable def t_sts : Con := fun args regs => if regs.length = 0 then nfun Tryd.prog GL c_sts [(0, [0, 1, 5], lTs)] f_sts args regs else .fail
theorem k_sts : Known Tryd.prog GL 30 t_sts := known_loops 0 Tryd.func30 rfl (by kernel_rfl) mixed kc_sts (LAll.one (id := 0) (body := bodyLoop f_sts 0) (by kernel_rfl) rfl loop_sts)
theorem sts_tree (xs : List (List Sc)) (R : Out → Prop) : (t_sts [.c (.lr K3 xs), .c (.lr K3 xs)] []).run R = sel ((xs.length : Int) != (xs.length : Int)) (R (oBo false)) ((sTs xs 0 = sTs xs 0 ∧ xs.length ≤ 1000000) ∧ R (oBo true)) := by kernel_rfl
noncomputable def tSTs : Con := fun args regs => match args, regs with
  | [.c (.lr _ xs), _], [] => .must (args = [.c (.lr K3 xs), .c (.lr K3 xs)] ∧ xs.length ≤ 1000000) (.ret (oBo true))
  | _, _ => .fail
attribute [local irreducible] t_sts in
set_option maxRecDepth 100000 in
theorem kSTs : Known Tryd.prog GL 30 tSTs := by
  refine k_sts.less fun args regs R h => ?_
  unfold tSTs at h
  split at h
  case h_2 => exact h.elim
  rename_i _ xs v
  obtain ⟨⟨h1, hl⟩, h⟩ := h
  rw [h1]
  exact (Box.of_eq (sts_tree xs R) (sF (bne_self_eq_false _) ⟨⟨rfl, hl⟩, h⟩)).out
noncomputable def c_sp (p : Pg) : FuncId → Option Con := conOf [(29, tSH p.c), (30, tSTs), (31, tSL p.lk)]
theorem kc_sp (p : Pg) : ∀ f T, c_sp p f = some T → Known Tryd.prog GL f T := (Knowns.cons (kSH p.c) (.cons kSTs (.cons (kSL p.lk) .nil))).get
noncomputable def t_sp (p : Pg) : Con := fun args regs => if regs.length = 0 then nfun Tryd.prog GL (c_sp p) [(0, [2, 3, 5], lO)] f_sp args regs else .fail
theorem k_sp (p : Pg) : Known Tryd.prog GL 13 (t_sp p) := known_loops 0 Tryd.func13 rfl (by kernel_rfl) mixed (kc_sp p) (LAll.one (id := 0) (body := bodyLoop f_sp 0) (by kernel_rfl) rfl loop_O)
noncomputable def spT (p : Pg) (R : Out → Prop) : Prop := dI p 0 = dI p 0 ∧ ((∃ o, [hdC p.mg p.pn p.sb p.c p.op, hdC p.mg p.pn p.sb p.c p.op] = [hdC p.mg p.pn p.sb p.c o, hdC p.mg p.pn p.sb p.c o] ∧ p.c.length = 11) ∧ (([NV.c (.lr K3 p.ex), .c (.lr K3 p.ex)] = [.c (.lr K3 p.ex), .c (.lr K3 p.ex)] ∧ p.ex.length ≤ 1000000) ∧ (([lkC p.lk, lkC p.lk] = [lkC p.lk, lkC p.lk] ∧ p.lk.length = 6) ∧ sel (p.ld == p.ld) (R (oBo (p.df == p.df))) (R (oBo false)))))
def cl (p : Pg) (c l : List (List Sc)) : Pg := { p with c := c, lk := l }
theorem sp_tree (p : Pg) (c0 c1 c2 c3 c4 c5 c6 c7 c8 c9 c10 r0 r1 r2 r3 r4 r5 : List Sc) (R : Out → Prop) : (t_sp (cl p [c0, c1, c2, c3, c4, c5, c6, c7, c8, c9, c10] [r0, r1, r2, r3, r4, r5]) [pgV (cl p [c0, c1, c2, c3, c4, c5, c6, c7, c8, c9, c10] [r0, r1, r2, r3, r4, r5]), pgV (cl p [c0, c1, c2, c3, c4, c5, c6, c7, c8, c9, c10] [r0, r1, r2, r3, r4, r5])] []).run R = spT (cl p [c0, c1, c2, c3, c4, c5, c6, c7, c8, c9, c10] [r0, r1, r2, r3, r4, r5]) R := by kernel_rfl
noncomputable def tSp : Con := fun args regs => match args, regs with
  | [v, _], [] => (match sto.rdPg v with
    | some p => .must (args = [pgV p, pgV p] ∧ Wf p ∧ fits p) (.ret (oBo true))
    | none => .fail)
  | _, _ => .fail
attribute [local irreducible] t_sp in
set_option maxRecDepth 100000 in
theorem kSp : Known Tryd.prog GL 13 tSp := by
  refine Known_any (T := t_sp) pgZ k_sp fun args regs R h => ?_
  unfold tSp at h
  split at h
  case h_2 => exact h.elim
  split at h
  case h_2 => exact h.elim
  rename_i p _
  obtain ⟨⟨h1, hw, hf⟩, h⟩ := h
  rw [h1]
  obtain ⟨c0, c1, c2, c3, c4, c5, c6, c7, c8, c9, c10, ec⟩ := list11 hw.c
  obtain ⟨r0, r1, r2, r3, r4, r5, el⟩ := list6 hw.lk
  have e : p = cl p [c0, c1, c2, c3, c4, c5, c6, c7, c8, c9, c10] [r0, r1, r2, r3, r4, r5] := by unfold cl; rw [← ec, ← el]
  have t := sp_tree p c0 c1 c2 c3 c4 c5 c6 c7 c8 c9 c10 r0 r1 r2 r3 r4 r5 R
  rw [← e] at t
  refine ⟨p, (Box.of_eq t ⟨rfl, ⟨p.op, rfl, hw.c⟩, ⟨rfl, ?_⟩, ⟨rfl, hw.lk⟩, sT (beq_self_eq_true _) ?_⟩).out⟩
  · unfold fits at hf
    omega
  · rw [beq_self_eq_true]
    exact h
end Go.Proofs.YtlfmkacafppmlaaDoor.sp
namespace Go.Proofs.YtlfmkacafppmlaaDoor.mac
open Go Go.Nx Go.Proofs.YtlfmkacafppmlaaDoor.pk Go.Proofs.YtlfmkacafppmlaaDoor.ac Go.Proofs.YtlfmkacafppmlaaDoor.sto Go.Proofs.YtlfmkacafppmlaaDoor.pge Go.Proofs.YtlfmkacafppmlaaDoor.dec
noncomputable def c_f14 : FuncId → Option Con := conOf [(5, tNewM), (10, tPgs), (7, tPk), (14, t_is)]
theorem kc_f14 : ∀ f T, c_f14 f = some T → Known Tryd.prog GL f T := (Knowns.cons kNewM (.cons kPgs (.cons kPk (.cons k_is .nil)))).get
noncomputable def t_f14 : Con := fun args regs => nfun Tryd.prog GL c_f14 [] Tryd.f4 args regs
theorem k_f14 : Known Tryd.prog GL 4 t_f14 := known_inl Tryd.func4 rfl (by kernel_rfl) mixed kc_f14 (by kernel_rfl)
noncomputable def f14T (R : Out → Prop) : Prop := ([NV.c (.i .i64 5)] = [NV.c (.i .i64 5)]) ∧ ((inM (mcN 5) = inM (bk (mcN 5)) ∧ (bk (mcN 5)).ok) ∧ ((inM (bk (mcN 5)) = inM (bk (bk (mcN 5))) ∧ (bk (bk (mcN 5))).ok) ∧ R ⟨.v (.c (.b true)), []⟩))
theorem f14_tree (R : Out → Prop) : (t_f14 [] []).run R = f14T R := by kernel_rfl
noncomputable def tF14 : Con := fun args regs => match args, regs with
  | [], [] => .ret ⟨.v (.c (.b true)), []⟩
  | _, _ => .fail
attribute [local irreducible] t_f14 in
set_option maxRecDepth 100000 in
theorem kF14 : Known Tryd.prog GL 4 tF14 := by
  refine k_f14.less fun args regs R h => ?_
  unfold tF14 at h
  split at h
  case h_2 => exact h.elim
  have hg := mcN_good (n := 5) (by omega) (by omega)
  refine (Box.of_eq (f14_tree R) ?_).out
  unfold f14T
  rw [hg.bk, hg.bk]
  exact ⟨rfl, ⟨rfl, hg.ok⟩, ⟨rfl, hg.ok⟩, h⟩
end Go.Proofs.YtlfmkacafppmlaaDoor.mac
namespace Go.Proofs.YtlfmkacafppmlaaDoor.su
open Go.Proofs.YtlfmkacafppmlaaDoor.sto (sT sF Ky Sp kyP kyEq kyEq_iff nk pgV kyNC)
open Go.Proofs.YtlfmkacafppmlaaDoor.ac (Pg pgZ)
open Go.Proofs.YtlfmkacafppmlaaDoor.dec
open Go.Proofs.YtlfmkacafppmlaaDoor.pge (Hx)
open Go.Proofs.YtlfmkacafppmlaaDoor.sp (tHas kHas tSp kSp hasV)
open Go Go.Nx Go.Proofs.YtlfmkacafppmlaaDoor.pk Go.Proofs.YtlfmkacafppmlaaDoor.mac Go.Proofs.YtlfmkacafppmlaaDoor.bm
noncomputable abbrev f_su := Tryd.f3
noncomputable def c_su : FuncId → Option Con := conOf [(4, tF14), (5, tNewM), (6, tHB), (7, tPkN), (8, tHas), (9, tFd), (10, tPgs), (11, num.tNumV), (12, tNx), (13, tSp)]
theorem kc_su : ∀ f T, c_su f = some T → Known Tryd.prog GL f T := (Knowns.cons kF14 (.cons kNewM (.cons kHB (.cons kPkN (.cons kHas (.cons kFd (.cons kPgs (.cons (known_gl num.kNumV) (.cons kNx (.cons kSp .nil)))))))))).get
noncomputable def X_su : Cx := { P := Tryd.prog, con := c_su, glob := GL, m := 0, loops := [] }
def arI (xs : List Int) : Reg := ⟨1, 3, .ints .i64 xs⟩
def slC (r : Nat) : Option (List Int × Nat) → NC
  | none => .sn
  | some x => .h r 0 x.2
def slR : Option (List Int × Nat) → List (Option Reg)
  | none => []
  | some x => [some (arI x.1)]
noncomputable def s0 (P : List Int) (fm : Int) (M : Mc) (S : Option (List Int × Nat)) (la i : Int) : St := { fr := frame 205 [(0, .v (.c (.l .i64 P))), (1, .v (.c (.i .i64 fm))), (5, .v (.c (.b true))), (6, .v (.c (.p 0 0 0))), (8, .v (.c (slC 4 S))), (9, .v (.c (.i .i64 la))), (10, .v (.c (.i .i64 i)))], rg := (inM M).map some ++ slR S }
noncomputable def d0 (fm : Int) (M : Mc) (S : Option (List Int × Nat)) (la : Int) : St := { fr := frame 205 [(1, .v (.c (.i .i64 fm))), (5, .v (.c (.b true))), (6, .v (.c (.p 0 0 0))), (8, .v (.c (slC 4 S))), (9, .v (.c (.i .i64 la)))], rg := (inM M).map some ++ slR S }
noncomputable def r0 (s : St) : Tr RO := roundT X_su 0 [0, 1, 5, 6, 8, 9, 10] [1, 4, 5, 6, 8, 9] (bodyLoop f_su 0) s
def ixP (P : List Int) (i : Int) (N : Prop) : Prop := sel (decide (0 ≤ i)) (sel (decide (i < (P.length : Int))) (sel (decide (i.toNat < P.length)) N False) False) False
noncomputable def sV (P : List Int) (i : Int) : Int := bits .andNot .i64 (bits .and .i64 (P.getD i.toNat 0) 16255) 1
noncomputable def hdA (M : Mc) (pn s : Int) (N : Prop) : Prop := ([NV.ag (hS pn s).nc, .c (.l .u8 zs)] = [NV.ag (hS pn s).nc, .c (.l .u8 zs)] ∧ right 2 pn s ∧ zs.length = 32) ∧ ((inM M = inM (mac.bk M) ∧ (mac.bk M).ok) ∧ (([NV.c (.p 0 0 0), .c (.l .u8 (hB pn s))] = [NV.c (.p 0 0 0), .c (.l .u8 (hB pn s))] ∧ (mac.bk M).good ∧ (∀ b ∈ hB pn s, 0 ≤ b ∧ b < 256) ∧ ((mac.bk M).step (hB pn s)).2 = none) ∧ N))
noncomputable def nxM (M : Mc) (pn s : Int) : Mc := ((mac.bk M).step (hB pn s)).1
def hasA (xs : List Int) (n : Int) (N : Prop) : Prop := ([NV.c (.l .i64 xs), .c (.i .i64 n)] = [NV.c (.l .i64 xs), .c (.i .i64 n)] ∧ xs.length ≤ 1000000) ∧ N
def hasH (ys : List Int) (n : Nat) (s : Int) (N : Prop) : Prop := sel (decide (0 + n ≤ ys.length)) (hasA (List.take n (List.drop 0 ys)) s N) False
def apI (o m n : Nat) (N : Prop) : Prop := sel (decide (o + m ≤ n)) (sel (decide ((m + 1) * bytesT Tryd.prog 3 ≤ 140737488355328)) (sel (decide (m + 1 ≤ 9223372036854775807)) N False) False) False
theorem round_0n (P : List Int) (fm : Int) (M : Mc) (la i : Int) (R : RO → Prop) : (r0 (s0 P fm M none la i)).run R =
    sel (decide (i < (P.length : Int))) (ixP P i (hdA M 52 (sV P i) (hasA [] (sV P i) (R (.next (s0 P fm (nxM M 52 (sV P i)) (some ([sV P i], 1)) (sV P i) (IntKind.i64.wrap (i + 1)))))))) (R (.done .normal (d0 fm M none la))) := by kernel_rfl
theorem round_0h (P : List Int) (fm : Int) (M : Mc) (ys : List Int) (n : Nat) (la i : Int) (R : RO → Prop) : (r0 (s0 P fm M (some (ys, n)) la i)).run R =
    sel (decide (i < (P.length : Int))) (ixP P i (hdA M 52 (sV P i) (hasH ys n (sV P i) (sel (!hasV (List.take n (List.drop 0 ys)) (sV P i)) (apI 0 n ys.length (R (.next (s0 P fm (nxM M 52 (sV P i)) (some (List.take n ys ++ [sV P i], n + 1)) (sV P i) (IntKind.i64.wrap (i + 1))))))
      (R (.next (s0 P fm (nxM M 52 (sV P i)) (some (ys, n)) (sV P i) (IntKind.i64.wrap (i + 1))))))))) (R (.done .normal (d0 fm M (some (ys, n)) la))) := by kernel_rfl
noncomputable def s2 (fm : Int) (M : Mc) (S : List Int × Nat) (k : Ky) (E : Option (List Int × Nat)) (i : Int) : St := { fr := frame 205 [(1, .v (.c (.i .i64 fm))), (5, .v (.c (.b true))), (6, .v (.c (.p 0 0 0))), (8, .v (.c (.h 4 0 S.2))), (18, .v (.c (.p 5 0 0))), (19, .v (.c (slC 6 E))), (20, .v (.c (.i .i64 i)))], rg := (inM M).map some ++ [some (arI S.1), some (sto.plReg k)] ++ slR E }
noncomputable def d2 (fm : Int) (M : Mc) (S : List Int × Nat) (k : Ky) (E : Option (List Int × Nat)) : St := { fr := frame 205 [(1, .v (.c (.i .i64 fm))), (5, .v (.c (.b true))), (6, .v (.c (.p 0 0 0))), (8, .v (.c (.h 4 0 S.2))), (18, .v (.c (.p 5 0 0))), (19, .v (.c (slC 6 E)))], rg := (inM M).map some ++ [some (arI S.1), some (sto.plReg k)] ++ slR E }
noncomputable def n2 (fm : Int) (M : Mc) (S : List Int × Nat) (k : Ky) (E : Option (List Int × Nat)) : St := { fr := frame 205 [(1, .v (.c (.i .i64 fm))), (4, .v (.c (.b false))), (5, .v (.c (.b true))), (6, .v (.c (.p 0 0 0))), (8, .v (.c (.h 4 0 S.2))), (18, .v (.c (.p 5 0 0))), (19, .v (.c (slC 6 E)))], rg := (inM M).map some ++ [some (arI S.1), some (sto.plReg k)] ++ slR E }
noncomputable def r2 (s : St) : Tr RO := roundT X_su 2 [1, 5, 6, 8, 18, 19, 20] [1, 4, 5, 6, 8, 18, 19] (bodyLoop f_su 2) s
noncomputable def nxA (M : Mc) (k : Ky) (no : Prop) (N : Pg → Mc → Prop) : Prop :=
  (inM M = inM (mac.bk M) ∧ (mac.bk M).ok) ∧ (([NV.c (.p 0 0 0), .ag (kyNC k)] = [NV.c (.p 0 0 0), .ag (kyNC k)] ∧ (mac.bk M).good) ∧
    ((inM (mac.bk M) = inM (mac.bk (mac.bk M)) ∧ (mac.bk (mac.bk M)).ok) ∧ (([NV.c (.p 0 0 0), .ag (kyNC (kyP ((mac.bk M).next k).1))] = [NV.c (.p 0 0 0), .ag (kyNC (kyP ((mac.bk M).next k).1))] ∧ (mac.bk (mac.bk M)).good) ∧
      sel (!((mac.bk M).next k).2) no (sel (!((mac.bk (mac.bk M)).find (kyP ((mac.bk M).next k).1)).2) no
        (([pgV ((mac.bk M).next k).1, pgV ((mac.bk (mac.bk M)).find (kyP ((mac.bk M).next k).1)).1] = [pgV ((mac.bk M).next k).1, pgV ((mac.bk M).next k).1] ∧ Wf ((mac.bk M).next k).1 ∧ fits ((mac.bk M).next k).1) ∧ N ((mac.bk M).next k).1 (mac.bk (mac.bk M)))))))
theorem round_2n (fm : Int) (M : Mc) (ys : List Int) (n : Nat) (a b c : Int) (i : Int) (R : RO → Prop) : (r2 (s2 fm M (ys, n) (a, b, c) none i)).run R =
    sel (decide (i < (n : Int))) (nxA M (a, b, c) (R (.done .ret (n2 fm (mac.bk (mac.bk M)) (ys, n) (a, b, c) none))) fun y M2 => hasA [] y.sb (R (.next (s2 fm M2 (ys, n) (kyP y) (some ([y.sb], 1)) (IntKind.i64.wrap (i + 1)))))) (R (.done .normal (d2 fm M (ys, n) (a, b, c) none))) := by kernel_rfl
theorem round_2h (fm : Int) (M : Mc) (ys : List Int) (n : Nat) (a b c : Int) (E : List Int) (m : Nat) (i : Int) (R : RO → Prop) : (r2 (s2 fm M (ys, n) (a, b, c) (some (E, m)) i)).run R =
    sel (decide (i < (n : Int))) (nxA M (a, b, c) (R (.done .ret (n2 fm (mac.bk (mac.bk M)) (ys, n) (a, b, c) (some (E, m))))) fun y M2 => hasH E m y.sb (sel (hasV (List.take m (List.drop 0 E)) y.sb) (R (.done .ret (n2 fm M2 (ys, n) (a, b, c) (some (E, m))))) (apI 0 m E.length (R (.next (s2 fm M2 (ys, n) (kyP y) (some (List.take m E ++ [y.sb], m + 1)) (IntKind.i64.wrap (i + 1)))))))) (R (.done .normal (d2 fm M (ys, n) (a, b, c) (some (E, m))))) := by kernel_rfl
theorem hasV_iff {S : List Int} {s : Int} : hasV S s = true ↔ s ∈ S := by
  unfold hasV
  rw [List.any_eq_true]
  constructor
  · rintro ⟨x, hx, he⟩
    rw [beq_iff_eq] at he
    exact he ▸ hx
  · exact fun h => ⟨s, h, beq_self_eq_true _⟩
theorem hasV_eq (S : List Int) (s : Int) : hasV S s = S.contains s := by
  rw [Bool.eq_iff_iff, hasV_iff, List.contains_iff_mem]
theorem bytesI : bytesT Tryd.prog 3 = 8 := by kernel_rfl
theorem apI_in {o m n : Nat} {N : Prop} (h : o + m ≤ n) (hm : m ≤ 2000) (hN : N) : apI o m n N := by
  unfold apI
  rw [bytesI]
  exact sT (decide_eq_true h) (sT (decide_eq_true (by omega)) (sT (decide_eq_true (by omega)) hN))
theorem hasH_in {ys : List Int} {s : Int} {N : Prop} (hl : ys.length ≤ 1000) (h : N) : hasH ys ys.length s N := by
  unfold hasH
  refine sT (decide_eq_true (by omega)) ⟨⟨rfl, ?_⟩, h⟩
  rw [List.drop_zero, List.take_length]
  omega
theorem andNot_all : ∀ a < 128, ∀ b < 128, bits .andNot .i64 (Int.ofNat (128 * a + b)) 1 = Int.ofNat ((128 * a + b) / 2 * 2) := by decide +kernel
theorem andNot_1 {y : Int} (h : 0 ≤ y ∧ y < 16384) : bits .andNot .i64 y 1 = y / 2 * 2 := by
  have := andNot_all (y.toNat / 128) (by omega) (y.toNat % 128) (by omega)
  have e : 128 * (y.toNat / 128) + y.toNat % 128 = y.toNat := by omega
  rw [e] at this
  have e2 : Int.ofNat y.toNat = y := by show ((y.toNat : Nat) : Int) = y; omega
  rw [e2] at this
  rw [this]
  show (((y.toNat / 2 * 2 : Nat)) : Int) = y / 2 * 2
  omega
noncomputable def sN (x : Int) : Int := bits .andNot .i64 (bits .and .i64 x 16255) 1
theorem sN_ok (x : Int) : okS (sN x) := by
  have h : 0 ≤ bits .and .i64 x 16255 ∧ bits .and .i64 x 16255 < 16384 ∧ bits .and .i64 x 16255 / 128 % 2 = 0 := hd.any_in x
  unfold okS sN
  rw [andNot_1 ⟨h.1, h.2.1⟩]
  omega
theorem right_of {s : Int} (h : okS s) : right 2 52 s := by
  obtain ⟨⟨h0, h1, h2⟩, -⟩ := h
  exact ⟨⟨by decide, by decide⟩, ⟨by decide, by decide⟩, h0, (hd.andNot_iff s ⟨by omega, by omega⟩).2 ⟨h0, by omega, h2⟩⟩
theorem hdA_in {M : Mc} {pn s : Int} {N : Prop} (hg : M.good) (hr : right 2 pn s) (he : (M.step (hB pn s)).2 = none) (h : N) : hdA M pn s N := by
  unfold hdA
  rw [hg.bk]
  exact ⟨⟨rfl, hr, rfl⟩, ⟨rfl, hg.ok⟩, ⟨rfl, hg, hB_in pn s, he⟩, h⟩
theorem nxM_eq {M : Mc} (hg : M.good) (pn s : Int) : nxM M pn s = (M.step (hB pn s)).1 := by unfold nxM; rw [hg.bk]
noncomputable def run0 : List Int → Mc × List Int × Int → Mc × List Int × Int
  | [], x => x
  | p :: l, x => run0 l ((x.1.step (hB 52 (sN p))).1, addS x.2.1 (sN p), sN p)
def sO : List Int → Option (List Int × Nat)
  | [] => none
  | x :: l => some (x :: l, (x :: l).length)
theorem sO_some {S : List Int} (h : S ≠ []) : sO S = some (S, S.length) := by cases S with | nil => exact absurd rfl h | cons x l => rfl
structure A0 where
  P : List Int
  fm : Int
  M : Mc
  S : List Int
  la : Int
  i : Nat
noncomputable def h0 (x : A0) : St := s0 x.P x.fm x.M (sO x.S) x.la (x.i : Int)
noncomputable def e0 (fm : Int) (x : Mc × List Int × Int) : NExit × St := (.normal, d0 fm x.1 (some (x.2.1, x.2.1.length)) x.2.2)
def pre0 (x : A0) (R : NExit × St → Prop) : Prop := (x.i ≤ x.P.length ∧ x.P.length ≤ 12 ∧ x.P ≠ []) ∧ Iv x.S x.la x.M ∧ (x.S.length ≤ x.i ∧ (x.i ≠ 0 → x.S ≠ [])) ∧ R (e0 x.fm (run0 (x.P.drop x.i) (x.M, x.S, x.la)))
def nxt0 (x : A0) (R : NExit × St → Prop) (q : RO) : Prop := match q with
  | .next s => ∃ y, s = h0 y ∧ y.P.length - y.i < x.P.length - x.i ∧ pre0 y R
  | .done e s => R (e, s)
theorem add_len {S : List Int} {s : Int} : (addS S s).length ≤ S.length + 1 := by
  unfold addS
  split
  · omega
  · rw [List.length_append]; exact Nat.le_refl _
theorem add_ne {S : List Int} {s : Int} : addS S s ≠ [] := fun e => by
  have : s ∈ addS S s := mem_add.2 (.inr rfl)
  rw [e] at this
  cases this
attribute [local irreducible] s0 d0 hB in
theorem in_0 (x : A0) (R : NExit × St → Prop) (h : pre0 x R) : Box ((r0 (h0 x)).run (nxt0 x R)) := by
  obtain ⟨P, fm, M, S, la, i⟩ := x
  obtain ⟨⟨hi, hP, hne⟩, hv, ⟨hl, hn⟩, hR⟩ := h
  simp only at hi hP hne hv hl hn hR
  have done : ¬ i < P.length → R (.normal, d0 fm M (sO S) la) := fun hlt => by
    have h0 : i ≠ 0 := fun e => hlt (by rw [e]; exact List.length_pos_iff.2 hne)
    rw [List.drop_eq_nil_iff.2 (by omega)] at hR
    rw [sO_some (hn h0)]
    exact hR
  have step : ∀ hlt : i < P.length, okS (sV P (i : Int)) ∧ ((M.step (hB 52 (sV P (i : Int)))).2 = none ∧ nxt0 ⟨P, fm, M, S, la, i⟩ R (.next (s0 P fm (nxM M 52 (sV P (i : Int))) (sO (addS S (sV P (i : Int)))) (sV P (i : Int)) (IntKind.i64.wrap ((i : Int) + 1))))) := fun hlt => by
    have es : sV P (i : Int) = sN P[i] := by
      unfold sV sN
      rw [Int.toNat_natCast, List.getD_eq_getElem?_getD, List.getElem?_eq_getElem hlt]
      rfl
    have hw : IntKind.i64.wrap ((i : Int) + 1) = ((i + 1 : Nat) : Int) := by rw [IntKind.wrap_i64]; omega
    have hok := sN_ok P[i]
    rw [es, hw, nxM_eq hv.good]
    refine ⟨hok, by rw [step_52], ⟨P, fm, (M.step (hB 52 (sN P[i]))).1, addS S (sN P[i]), sN P[i], i + 1⟩, rfl, by simp only; omega, ⟨by simp only; omega, hP, hne⟩, iv_step hv (by omega) hok, ⟨?_, fun _ => add_ne⟩, ?_⟩
    · have := add_len (S := S) (s := sN P[i])
      simp only
      omega
    · rw [List.drop_eq_getElem_cons hlt] at hR
      exact hR
  show Box ((r0 (s0 P fm M (sO S) la (i : Int))).run (nxt0 ⟨P, fm, M, S, la, i⟩ R))
  cases S with
  | nil =>
    refine Box.of_eq (round_0n P fm M la (i : Int) _) ?_
    by_cases hlt : i < P.length
    · obtain ⟨k1, k2, k3⟩ := step hlt
      refine sT (decide_eq_true (by omega)) (sT (decide_eq_true (by omega)) (sT (decide_eq_true (by omega)) (sT (decide_eq_true (by omega)) (hdA_in hv.good (right_of k1) k2 ⟨⟨rfl, Nat.zero_le _⟩, k3⟩))))
    · exact sF (decide_eq_false (by omega)) (done hlt)
  | cons a l =>
    refine Box.of_eq (round_0h P fm M (a :: l) (a :: l).length la (i : Int) _) ?_
    by_cases hlt : i < P.length
    · obtain ⟨k1, k2, k3⟩ := step hlt
      refine sT (decide_eq_true (by omega)) (sT (decide_eq_true (by omega)) (sT (decide_eq_true (by omega)) (sT (decide_eq_true (by omega)) (hdA_in hv.good (right_of k1) k2 (hasH_in (by omega) ?_)))))
      rw [List.drop_zero, List.take_length, hasV_eq]
      unfold addS at k3
      cases hc : (a :: l).contains (sV P (i : Int)) with
      | true => rw [hc] at k3; exact sF rfl k3
      | false =>
        rw [hc] at k3
        refine sT rfl (apI_in (by omega) (by omega) ?_)
        have e : sO ((a :: l) ++ [sV P (i : Int)]) = some ((a :: l) ++ [sV P (i : Int)], (a :: l).length + 1) := by
          rw [sO_some (by simp), List.length_append]
          rfl
        rw [← e]
        exact k3
    · exact sF (decide_eq_false (by omega)) (done hlt)
noncomputable def l0 (s : St) : Tr (NExit × St) := match s.fr[(0 : Nat)]?, s.fr[(1 : Nat)]? with
  | some (.v (.c (.l _ P))), some (.v (.c (.i _ fm))) => .must (s = s0 P fm (mcN 20) none 0 0 ∧ P.length ≤ 12 ∧ P ≠ []) (.ret (e0 fm (run0 P (mcN 20, [], 0))))
  | _, _ => .fail
set_option maxRecDepth 100000 in
theorem loop_0 : LOk Tryd.prog GL 0 0 (bodyLoop f_su 0) l0 := by
  refine loop_ok (X := X_su) kc_su mixed (LAll.none (by kernel_rfl)) [0, 1, 5, 6, 8, 9, 10] [1, 4, 5, 6, 8, 9] h0 (fun x => x.P.length - x.i) pre0 ?_ ?_
  · intro s R h
    unfold l0 at h
    split at h
    case h_2 => exact h.elim
    rename_i P _ fm h1 h2
    obtain ⟨⟨hs, hl, hne⟩, hR⟩ := h
    exact ⟨⟨P, fm, mcN 20, [], 0, 0⟩, hs, ⟨Nat.zero_le _, hl, hne⟩, iv_new, ⟨Nat.le_refl _, fun h => absurd rfl h⟩, hR⟩
  · intro x R h
    exact Tr.run_mono _ (fun q hq => hq) (in_0 x R h).out
noncomputable def trail (M : Mc) : Nat → Int → List Int
  | 0, _ => []
  | n + 1, a => (M.next (2, 52, a)).1.sb :: trail M n (M.next (2, 52, a)).1.sb
structure Rd (M : Mc) (S : List Int) : Prop where
  fi : ∃ la, Fi S la M
  ev : ∀ s ∈ S, s % 2 = 0
  le : S.length ≤ 12
structure A2 where
  fm : Int
  M : Mc
  S : List Int
  a0 : Int
  a : Int
  E : List Int
  i : Nat
noncomputable def h2 (x : A2) : St := s2 x.fm x.M (x.S, x.S.length) (2, 52, x.a) (sO x.E) (x.i : Int)
noncomputable def e2 (fm : Int) (M : Mc) (S : List Int) (a : Int) : NExit × St := (.normal, d2 fm M (S, S.length) (2, 52, a) (some (trail M S.length a, S.length)))
structure Go2 (x : A2) : Prop where
  rd : Rd x.M x.S
  i : x.i ≤ x.S.length
  el : x.E.length = x.i
  a0 : x.a0 ∈ x.S
  a : x.a ∈ x.S
  ra : rk x.S x.a = (rk x.S x.a0 + x.i) % x.S.length
  re : ∀ j (h : j < x.E.length), rk x.S x.E[j] = (rk x.S x.a0 + (j + 1)) % x.S.length
  tr : x.E ++ trail x.M (x.S.length - x.i) x.a = trail x.M x.S.length x.a0
def pre2 (x : A2) (R : NExit × St → Prop) : Prop := Go2 x ∧ R (e2 x.fm x.M x.S x.a0)
def nxt2 (x : A2) (R : NExit × St → Prop) (q : RO) : Prop := match q with
  | .next s => ∃ y, s = h2 y ∧ y.S.length - y.i < x.S.length - x.i ∧ pre2 y R
  | .done e s => R (e, s)
theorem mod_ne {r i j n : Nat} (h : j < i) (hi : i < n) : (r + (j + 1)) % n ≠ (r + (i + 1)) % n := fun e => by
  have := Nat.sub_mod_eq_zero_of_mod_eq e.symm
  have e2 : r + (i + 1) - (r + (j + 1)) = i - j := by omega
  rw [e2, Nat.mod_eq_of_lt (by omega)] at this
  omega
theorem nxA_in {M : Mc} {S : List Int} {a : Int} {no : Prop} {N : Pg → Mc → Prop} (h : Rd M S) (ha : a ∈ S) (hN : ∀ y ∈ M.st.L, M.next (2, 52, a) = (y, true) → rk S y.sb = (rk S a + 1) % S.length → N y M) : nxA M (2, 52, a) no N := by
  obtain ⟨la, hf⟩ := h.fi
  obtain ⟨y, h1, h2, h3⟩ := fi_next hf ha
  have hyS : y.sb ∈ S := (hf.mem y.sb).2 (mem_subs.2 ⟨y, h2, rfl⟩)
  have hev := h.ev _ hyS
  have h4 := fi_get hf h2 (by omega)
  unfold nxA
  rw [hf.good.bk, hf.good.bk, h1]
  refine ⟨⟨rfl, hf.good.ok⟩, ⟨rfl, hf.good⟩, ⟨rfl, hf.good.ok⟩, ⟨rfl, hf.good⟩, ?_⟩
  show sel (!true) no (sel (!(M.find (kyP y)).2) no (([pgV y, pgV (M.find (kyP y)).1] = [pgV y, pgV y] ∧ Wf y ∧ fits y) ∧ N y M))
  rw [h4]
  exact ⟨⟨rfl, hf.wf.st y h2, hf.good.fit y h2⟩, hN y h2 h1 h3⟩
attribute [local irreducible] s2 d2 in
theorem in_2 (x : A2) (R : NExit × St → Prop) (h : pre2 x R) : Box ((r2 (h2 x)).run (nxt2 x R)) := by
  obtain ⟨fm, M, S, a0, a, E, i⟩ := x
  obtain ⟨hG, hR⟩ := h
  have hrd := hG.rd
  have hi : i ≤ S.length := hG.i
  have hel : E.length = i := hG.el
  have ha : a ∈ S := hG.a
  have hra : rk S a = (rk S a0 + i) % S.length := hG.ra
  have hre : ∀ j (h : j < E.length), rk S E[j] = (rk S a0 + (j + 1)) % S.length := hG.re
  have htr : E ++ trail M (S.length - i) a = trail M S.length a0 := hG.tr
  have ha0 : a0 ∈ S := hG.a0
  have hle : S.length ≤ 12 := hrd.le
  have hR : R (e2 fm M S a0) := hR
  obtain ⟨la, hf⟩ := hrd.fi
  have hn1 : 1 ≤ S.length := List.length_pos_of_mem ha
  have hrk0 : rk S a0 < S.length := rk_lt hf.nd ha0
  have done : ¬ i < S.length → R (.normal, d2 fm M (S, S.length) (2, 52, a) (sO E)) := fun hlt => by
    have e : i = S.length := by omega
    have ea : a = a0 := by
      refine rk_inj hf.nd ha ha0 ?_
      rw [hra, e, Nat.add_mod_right, Nat.mod_eq_of_lt hrk0]
    have eE : E = trail M S.length a0 := by
      rw [e, Nat.sub_self] at htr
      rw [← htr]
      exact (List.append_nil E).symm
    have hE : E ≠ [] := fun hh => by rw [hh] at hel; simp at hel; omega
    rw [sO_some hE, hel, e, ea, eE]
    exact hR
  have step : i < S.length → ∀ y ∈ M.st.L, M.next (2, 52, a) = (y, true) → rk S y.sb = (rk S a + 1) % S.length → hasV E y.sb = false ∧ nxt2 ⟨fm, M, S, a0, a, E, i⟩ R (.next (s2 fm M (S, S.length) (kyP y) (sO (E ++ [y.sb])) (IntKind.i64.wrap ((i : Int) + 1)))) := fun hlt y hy hny hry => by
    have hyS : y.sb ∈ S := (hf.mem y.sb).2 (mem_subs.2 ⟨y, hy, rfl⟩)
    have hry2 : rk S y.sb = (rk S a0 + (i + 1)) % S.length := by
      rw [hry, hra, Nat.mod_add_mod]
      rfl
    have hw : IntKind.i64.wrap ((i : Int) + 1) = ((i + 1 : Nat) : Int) := by rw [IntKind.wrap_i64]; omega
    refine ⟨?_, ?_⟩
    · cases hc : hasV E y.sb with
      | false => rfl
      | true =>
        exfalso
        obtain ⟨j, hj, he⟩ := List.getElem_of_mem (hasV_iff.1 hc)
        have := hre j hj
        rw [he, hry2] at this
        exact mod_ne (r := rk S a0) (n := S.length) (show j < i by omega) hlt this.symm
    · rw [hw, kyP_two (hf.onl y hy)]
      refine ⟨⟨fm, M, S, a0, y.sb, E ++ [y.sb], i + 1⟩, rfl, by simp only; omega, ⟨hrd, by simp only; omega, by simp only [List.length_append, hel]; rfl, ha0, hyS, hry2, fun j hj => ?_, ?_⟩, hR⟩
      · simp only at hj ⊢
        by_cases hj2 : j < E.length
        · rw [List.getElem_append_left hj2]
          exact hre j hj2
        · rw [List.length_append] at hj
          have e1 : ([y.sb] : List Int).length = 1 := rfl
          have ej : j = E.length := by omega
          subst ej
          rw [List.getElem_append_right (Nat.le_refl _)]
          simp only [Nat.sub_self, List.getElem_cons_zero]
          rw [hry2, hel]
      · have e1 : S.length - i = (S.length - (i + 1)) + 1 := by omega
        rw [e1] at htr
        show (E ++ [y.sb]) ++ trail M (S.length - (i + 1)) y.sb = trail M S.length a0
        rw [← htr, List.append_assoc]
        show E ++ y.sb :: trail M (S.length - (i + 1)) y.sb = E ++ (M.next (2, 52, a)).1.sb :: trail M (S.length - (i + 1)) (M.next (2, 52, a)).1.sb
        rw [hny]
  show Box ((r2 (s2 fm M (S, S.length) (2, 52, a) (sO E) (i : Int))).run (nxt2 ⟨fm, M, S, a0, a, E, i⟩ R))
  cases E with
  | nil =>
    refine Box.of_eq (round_2n fm M S S.length 2 52 a (i : Int) _) ?_
    by_cases hlt : i < S.length
    · refine sT (decide_eq_true (by omega)) (nxA_in hrd ha fun y hy h1 h2 => ⟨⟨rfl, Nat.zero_le _⟩, ?_⟩)
      exact (step hlt y hy h1 h2).2
    · exact sF (decide_eq_false (by omega)) (done hlt)
  | cons z E =>
    refine Box.of_eq (round_2h fm M S S.length 2 52 a (z :: E) (z :: E).length (i : Int) _) ?_
    by_cases hlt : i < S.length
    · refine sT (decide_eq_true (by omega)) (nxA_in hrd ha fun y hy h1 h2 => ?_)
      obtain ⟨k1, k2⟩ := step hlt y hy h1 h2
      refine hasH_in (by omega) ?_
      rw [List.drop_zero, List.take_length, k1]
      refine sF rfl (apI_in (by omega) (by omega) ?_)
      have e : sO ((z :: E) ++ [y.sb]) = some ((z :: E) ++ [y.sb], (z :: E).length + 1) := by
        rw [sO_some (by simp), List.length_append]
        rfl
      rw [← e]
      exact k2
    · exact sF (decide_eq_false (by omega)) (done hlt)
def rd2 (s : St) : Option (Int × Mc × List Int × Int) := match s.fr[(1 : Nat)]?, s.rg with
  | some (.v (.c (.i _ fm))), some a :: some b :: some c :: some d :: some ⟨_, _, .ints _ S⟩ :: some ⟨_, _, .cells [_, _, .i _ x]⟩ :: _ => (match rdMc [a, b, c, d] with
    | some M => some (fm, M, S, x)
    | none => none)
  | _, _ => none
noncomputable def l2 (s : St) : Tr (NExit × St) := match rd2 s with
  | some (fm, M, S, a) => .must (s = s2 fm M (S, S.length) (2, 52, a) none 0 ∧ Rd M S ∧ a ∈ S) (.ret (e2 fm M S a))
  | none => .fail
attribute [local irreducible] s2 d2 rk trail in
set_option maxRecDepth 100000 in
theorem loop_2 : LOk Tryd.prog GL 0 2 (bodyLoop f_su 2) l2 := by
  refine loop_ok (X := X_su) kc_su mixed (LAll.none (by kernel_rfl)) [1, 5, 6, 8, 18, 19, 20] [1, 4, 5, 6, 8, 18, 19] h2 (fun x => x.S.length - x.i) pre2 ?_ ?_
  · intro s R h
    unfold l2 at h
    split at h
    case h_2 => exact h.elim
    rename_i fm M S a hx
    obtain ⟨⟨hs, hrd, ha⟩, hR⟩ := h
    obtain ⟨la, hf⟩ := hrd.fi
    exact ⟨⟨fm, M, S, a, a, [], 0⟩, hs, ⟨hrd, Nat.zero_le _, rfl, ha, ha, (Nat.mod_eq_of_lt (rk_lt hf.nd ha)).symm, fun j hj => absurd hj (Nat.not_lt_zero _), rfl⟩, hR⟩
  · intro x R h
    refine Tr.run_mono _ (fun q hq => ?_) (in_2 x R h).out
    cases q with
    | done e s => exact hq
    | next s =>
      obtain ⟨y, h1, h2, h3⟩ := hq
      exact ⟨y, h1, h2, h3⟩
noncomputable def t_su : Con := fun args regs => if regs.length = 0 then nfun Tryd.prog GL c_su [(0, [0, 1, 5, 6, 8, 9, 10], l0), (2, [1, 5, 6, 8, 18, 19, 20], l2)] f_su args regs else .fail
theorem k_su : Known Tryd.prog GL 3 t_su := known_loops 0 Tryd.func3 rfl (by kernel_rfl) mixed kc_su (LAll.two (i1 := 0) (i2 := 2) (b1 := bodyLoop f_su 0) (b2 := bodyLoop f_su 2) (by kernel_rfl) rfl (by decide) loop_0 loop_2)
noncomputable def oBl (b : Bool) : Out := ⟨.v (.c (.b b)), []⟩
def nmA (n : Int) (N : Prop) : Prop := ((0 : Int) < n ∧ n < 4611686018427387904) ∧ N
def ixS (S : List Int) (r : Int) (N : Prop) : Prop := sel (decide (0 ≤ r)) (sel (decide (r < (S.length : Int))) (sel (decide (0 + r.toNat < S.length)) N False) False) False
noncomputable def fdA (M : Mc) (k : Ky) (N : Pg × Bool → Prop) : Prop := (inM M = inM (mac.bk M) ∧ (mac.bk M).ok) ∧ (([NV.c (.p 0 0 0), .ag (kyNC k)] = [NV.c (.p 0 0 0), .ag (kyNC k)] ∧ (mac.bk M).good) ∧ N ((mac.bk M).find k))
noncomputable def endT (fm : Int) (M : Mc) (S : List Int) (a : Int) (R : Out → Prop) : Prop := fdA M (2, 52, 1) fun x =>
  sel ((S.length : Int) == (S.length : Int)) (nmA (S.length : Int) (ixS S (fm % (S.length : Int)) (sel (a == S.getD (0 + (fm % (S.length : Int)).toNat) 0) (R (oBl (!x.2))) (R (oBl false))))) (R (oBl false))
noncomputable def midT (fm : Int) (M : Mc) (S : List Int) (R : Out → Prop) : Prop := nmA (S.length : Int) (ixS S (fm % (S.length : Int))
  ((s2 fm M (S, S.length) (2, 52, S.getD (0 + (fm % (S.length : Int)).toNat) 0) none 0 = s2 fm (mac.bk M) (S, S.length) (2, 52, S.getD (0 + (fm % (S.length : Int)).toNat) 0) none 0 ∧ Rd (mac.bk M) S ∧ S.getD (0 + (fm % (S.length : Int)).toNat) 0 ∈ S) ∧
    endT fm (mac.bk M) S (S.getD (0 + (fm % (S.length : Int)).toNat) 0) R))
noncomputable def suT2 (fm : Int) (M : Mc) (S : List Int) (la : Int) (R : Out → Prop) : Prop := hdA M 255 0 (fdA (nxM M 255 0) (2, 52, 16255) fun x =>
  sel (!x.2) (R (oBl false)) (sel (x.1.sb != la) (R (oBl false)) ((inM (mac.bk (nxM M 255 0)) = inM (mac.bk (mac.bk (nxM M 255 0))) ∧ (mac.bk (mac.bk (nxM M 255 0))).ok) ∧
    sel (((sto.kyRows ((mac.bk (mac.bk (nxM M 255 0))).st.L.map kyP)).length : Int) != (S.length : Int)) (R (oBl false)) (midT fm (mac.bk (mac.bk (nxM M 255 0))) S R))))
noncomputable def suT (P : List Int) (fm : Int) (R : Out → Prop) : Prop := sel ((P.length : Int) == 0) (R (oBl true)) (sel (decide ((P.length : Int) > 12)) (R (oBl true)) ([NV.c (.i .i64 20)] = [NV.c (.i .i64 20)] ∧ ((s0 P fm (mcN 20) none 0 0 = s0 P fm (mcN 20) none 0 0 ∧ P.length ≤ 12 ∧ P ≠ []) ∧
  suT2 fm (run0 P (mcN 20, [], 0)).1 (run0 P (mcN 20, [], 0)).2.1 (run0 P (mcN 20, [], 0)).2.2 R)))
theorem su_tree (P : List Int) (fm : Int) (R : Out → Prop) : (t_su [.c (.l .i64 P), .c (.i .i64 fm)] []).run R = suT P fm R := by kernel_rfl
theorem step_opn {S : List Int} {la : Int} {M : Mc} (h : Iv S la M) {s : Int} (hs : okS s) : ((M.step (hB 52 s)).1.v 2).opn = true := by
  obtain ⟨d1, d2, d3⟩ := hd_52 s hs
  have e : (M.step (hB 52 s)).1 = (midM M (dsB 52 s)).set 2 (dfP ((midM M (dsB 52 s)).v 2) (opP (midM M (dsB 52 s)).st (hdV 2 (dsB 52 s)) (txV (dsB 52 s)))) := by
    rw [step_52]
    show M.hdM 2 (dsB 52 s) = _
    rw [hdM_two _ h.cl]
    unfold Mc.open'
    rw [d2]
    rfl
  rw [e]
  generalize dfP ((midM M (dsB 52 s)).v 2) (opP (midM M (dsB 52 s)).st (hdV 2 (dsB 52 s)) (txV (dsB 52 s))) = B
  have ev : ((midM M (dsB 52 s)).set 2 B).v 2 = { (midM M (dsB 52 s)).v 2 with opn := true, p := B } := upd_same (midM M (dsB 52 s)).v 2 { (midM M (dsB 52 s)).v 2 with opn := true, p := B }
  rw [ev]
structure Ru (x : Mc × List Int × Int) : Prop where
  iv : Iv x.2.1 x.2.2 x.1
  le : x.2.1.length ≤ 12
  ev : ∀ s ∈ x.2.1, s % 2 = 0
theorem run0_ru : ∀ (P : List Int) {x : Mc × List Int × Int}, Ru x → x.2.1.length + P.length ≤ 12 → Ru (run0 P x)
  | [], _, h, _ => h
  | p :: P, x, h, hl => by
    have hok := sN_ok p
    rw [List.length_cons] at hl
    have hal := add_len (S := x.2.1) (s := sN p)
    exact run0_ru P (x := ((x.1.step (hB 52 (sN p))).1, addS x.2.1 (sN p), sN p)) ⟨iv_step h.iv h.le hok, by show (addS x.2.1 (sN p)).length ≤ 12; omega, fun s hs => (mem_add.1 hs).elim (h.ev s) fun e => e ▸ hok.2⟩ (by show (addS x.2.1 (sN p)).length + P.length ≤ 12; omega)
theorem run0_open : ∀ (P : List Int) {x : Mc × List Int × Int}, Ru x → x.2.1.length + P.length ≤ 12 → P ≠ [] → ((run0 P x).1.v 2).opn = true ∧ (run0 P x).2.1 ≠ []
  | [], _, _, _, hne => absurd rfl hne
  | [p], x, h, _, _ => ⟨step_opn h.iv (sN_ok p), add_ne⟩
  | p :: q :: P, x, h, hl, _ => by
    have hok := sN_ok p
    rw [List.length_cons] at hl
    have hal := add_len (S := x.2.1) (s := sN p)
    exact run0_open (q :: P) (x := ((x.1.step (hB 52 (sN p))).1, addS x.2.1 (sN p), sN p)) ⟨iv_step h.iv h.le hok, by show (addS x.2.1 (sN p)).length ≤ 12; omega, fun s hs => (mem_add.1 hs).elim (h.ev s) fun e => e ▸ hok.2⟩ (by show (addS x.2.1 (sN p)).length + (q :: P).length ≤ 12; omega) (List.cons_ne_nil _ _)
theorem ru_new : Ru (mcN 20, [], 0) := ⟨iv_new, Nat.zero_le _, fun s hs => (List.not_mem_nil hs).elim⟩
theorem nmA_in {n : Nat} {N : Prop} (h : 1 ≤ n ∧ n ≤ 12) (hN : N) : nmA (n : Int) N := ⟨⟨by omega, by omega⟩, hN⟩
theorem ixS_in {S : List Int} {r : Int} {N : Prop} (h : 0 ≤ r ∧ r < (S.length : Int)) (hN : N) : ixS S r N := sT (decide_eq_true h.1) (sT (decide_eq_true h.2) (sT (decide_eq_true (by omega)) hN))
theorem fdA_in {M : Mc} {k : Ky} {N : Pg × Bool → Prop} (hg : M.good) (h : N (M.find k)) : fdA M k N := by
  unfold fdA
  rw [hg.bk]
  exact ⟨⟨rfl, hg.ok⟩, ⟨rfl, hg⟩, h⟩
theorem end_in {fm : Int} {M : Mc} {S : List Int} {R : Out → Prop} (h : Rd M S) (hn : 1 ≤ S.length) (hR : R (oBl true)) : endT fm M S (S.getD (0 + (fm % (S.length : Int)).toNat) 0) R := by
  obtain ⟨la, hf⟩ := h.fi
  have hle := h.le
  have h0 := Int.emod_nonneg fm (show (S.length : Int) ≠ 0 by omega)
  have h1 := Int.emod_lt_of_pos fm (show (0 : Int) < (S.length : Int) by omega)
  have hno : (M.find (2, 52, 1)).2 = false := fi_none hf (fun hc => by have := h.ev 1 hc; omega) (by decide)
  unfold endT
  refine fdA_in hf.good (sT (beq_self_eq_true _) (nmA_in ⟨hn, hle⟩ (ixS_in ⟨h0, h1⟩ (sT (beq_self_eq_true _) ?_))))
  rw [hno]
  exact hR
attribute [local irreducible] s2 in
theorem mid_in {fm : Int} {M : Mc} {S : List Int} {R : Out → Prop} (h : Rd M S) (hn : 1 ≤ S.length) (hR : R (oBl true)) : midT fm M S R := by
  obtain ⟨la, hf⟩ := h.fi
  have hle := h.le
  have h0 := Int.emod_nonneg fm (show (S.length : Int) ≠ 0 by omega)
  have h1 := Int.emod_lt_of_pos fm (show (0 : Int) < (S.length : Int) by omega)
  unfold midT
  rw [hf.good.bk]
  refine nmA_in ⟨hn, hle⟩ (ixS_in ⟨h0, h1⟩ ⟨⟨rfl, h, ?_⟩, end_in h hn hR⟩)
  have hlt : 0 + (fm % (S.length : Int)).toNat < S.length := by omega
  rw [List.getD_eq_getElem?_getD, List.getElem?_eq_getElem hlt]
  exact List.getElem_mem hlt
theorem right255 : right 2 255 0 := ⟨⟨by decide, by decide⟩, ⟨by decide, by decide⟩, by decide, by decide +kernel⟩
theorem su2_in {fm : Int} {x : Mc × List Int × Int} {R : Out → Prop} (h : Ru x) (ho : (x.1.v 2).opn = true) (hne : x.2.1 ≠ []) (hR : R (oBl true)) : suT2 fm x.1 x.2.1 x.2.2 R := by
  have hn : 1 ≤ x.2.1.length := List.length_pos_iff.2 hne
  have hf := fi_of h.iv h.le ho
  have hrd : Rd (x.1.step (hB 255 0)).1 x.2.1 := ⟨⟨_, hf⟩, h.ev, h.le⟩
  unfold suT2
  rw [nxM_eq h.iv.good]
  refine hdA_in h.iv.good right255 (by rw [step_255]) ?_
  generalize (x.1.step (hB 255 0)).1 = M at hf hrd
  rw [hf.good.bk, hf.good.bk]
  refine fdA_in hf.good ?_
  obtain ⟨p, e, hp⟩ := fi_last hf
  rw [e]
  refine sF rfl (sF (by rw [show p.sb = x.2.2 from hp]; exact bne_self_eq_false _) ⟨⟨rfl, hf.good.ok⟩, sF ?_ (mid_in hrd hn hR)⟩)
  have hlen : M.st.L.length = x.2.1.length := by
    have := len_same (subs_nd hf.onl hf.good.nd) hf.nd fun y => (hf.mem y).symm
    unfold subsL at this
    rw [List.length_map] at this
    exact this
  rw [sto.kyRows_length, List.length_map, hlen]
  exact bne_self_eq_false _
attribute [local irreducible] s0 run0 in
theorem su_in (P : List Int) (fm : Int) {R : Out → Prop} (hR : R (oBl true)) : suT P fm R := by
  unfold suT
  cases h0 : ((P.length : Int) == 0) with
  | true => exact sT rfl hR
  | false =>
    have hne : P ≠ [] := fun e => by rw [e] at h0; cases h0
    by_cases hl : (P.length : Int) > 12
    · exact sF rfl (sT (decide_eq_true hl) hR)
    · refine sF rfl (sF (decide_eq_false hl) ⟨rfl, ⟨rfl, by omega, hne⟩, ?_⟩)
      have hP : (mcN 20, ([] : List Int), (0 : Int)).2.1.length + P.length ≤ 12 := by
        show 0 + P.length ≤ 12
        omega
      have hr := run0_ru P ru_new hP
      have ho := run0_open P ru_new hP hne
      exact su2_in hr ho.1 ho.2 hR
attribute [local irreducible] t_su in
theorem su_yes (P : List Int) (fm : Int) : Holds (t_su [.c (.l .i64 P), .c (.i .i64 fm)] []) fun q => q.res = .v (.c (.b true)) := ⟨Box.out (Box.of_eq (su_tree P fm _) (su_in P fm rfl))⟩
def shsSu : List Sh := [.row .i64, .i .i64]
theorem su_law (xs : List NV) (h : R2 ShOk shsSu xs) : Holds (t_su xs []) fun o => o.res = .v (.c (.b true)) := by
  cases h with
  | cons h1 h =>
    cases h with
    | cons h2 h =>
      cases h
      cases h1 with
      | @row _ P _ =>
        cases h2 with
        | @i _ fm _ => exact su_yes P fm
end Go.Proofs.YtlfmkacafppmlaaDoor.su
