/-
  Who sends, when, in the document: bytes, signs, digits, the bytes of a packet.
-/
import Derived.Test.YthjdlanmfiofdaaDoorSxB
import Derived.Test.YthjdlanmfiofdaaDoorSxA
namespace Go.Proofs.YthjdlanmfiofdaaDoor.sv
open Go Go.Nx Go.Proofs.YthjdlanmfiofdaaDoor.pk Go.Proofs.YthjdlanmfiofdaaDoor.ln Go.Proofs.YthjdlanmfiofdaaDoor.hd Go.Proofs.YthjdlanmfiofdaaDoor.lb

theorem byT {x : Int} (h : 0 ≤ x ∧ x < 256) : ∃ m, m < 256 ∧ x = Int.ofNat m := ⟨x.toNat, by omega, by show x = ((x.toNat : Nat) : Int); omega⟩
noncomputable def c_rodd : FuncId → Option Con := conOf [(102, ones.tOnes)]
theorem kc_rodd : ∀ f T, c_rodd f = some T → Known Tryd.prog GL f T := (Knowns.cons (known_gl ones.kOnes) .nil).get
noncomputable def t_rodd : Con := fun args regs => nfun Tryd.prog GL c_rodd [] Tryd.f113 args regs
theorem k_rodd : Known Tryd.prog GL 113 t_rodd := known_inl Tryd.func113 rfl (by kernel_rfl) mixed kc_rodd (by kernel_rfl)
theorem rodd_tree (b : Int) (R : Out → Prop) : (t_rodd [.c (.i .u8 b)] []).run R = ((0 ≤ IntKind.i64.wrap b ∧ IntKind.i64.wrap b < 9223372036854775808) ∧ R (oB ((ones.bl (IntKind.i64.wrap b).toNat : Int).tmod 2 == 1))) := by kernel_rfl
theorem rodd_all : ∀ m < 256, ones.par m 8 = odd (Int.ofNat m) := by decide +kernel
noncomputable def tROdd : Con := fun args regs => match args, regs with
  | [.c (.i .u8 b)], [] => .must (0 ≤ b ∧ b < 256) (.ret (oB (odd b)))
  | _, _ => .fail
theorem rodd_in {b : Int} (h : 0 ≤ b ∧ b < 256) : ((ones.bl (IntKind.i64.wrap b).toNat : Int).tmod 2 == 1) = odd b := by
  obtain ⟨m, hm, rfl⟩ := byT h
  have hw : IntKind.i64.wrap (Int.ofNat m) = Int.ofNat m := by rw [IntKind.wrap_i64]; show ((m : Int) + _) % _ - _ = (m : Int); omega
  rw [hw, show (Int.ofNat m).toNat = m from rfl, ← rodd_all m hm]
  have hp := ones.bl_par 8 m (by omega)
  rw [Int.tmod_eq_emod_of_nonneg (by omega)]
  cases h2 : ones.par m 8 with
  | true =>
    rw [h2] at hp
    have hp : ones.bl m % 2 = 1 := hp
    rw [beq_iff_eq]
    omega
  | false =>
    rw [h2] at hp
    have hp : ones.bl m % 2 = 0 := hp
    rw [beq_eq_false_iff_ne]
    omega
set_option maxRecDepth 100000 in
theorem kROdd : Known Tryd.prog GL 113 tROdd := by
  refine k_rodd.less fun args regs R h => Box.out ?_
  unfold tROdd at h
  split at h
  case h_2 => exact h.elim
  rename_i b
  have h1 := h.1
  have h2 : R (oB (odd b)) := h.2
  clear h
  refine Box.of_eq (rodd_tree b R) ⟨?_, by rw [rodd_in h1]; exact h2⟩
  rw [IntKind.wrap_i64]
  omega
noncomputable def c_rmk : FuncId → Option Con := conOf [(113, tROdd)]
theorem kc_rmk : ∀ f T, c_rmk f = some T → Known Tryd.prog GL f T := (Knowns.cons kROdd .nil).get
noncomputable def t_rmk : Con := fun args regs => nfun Tryd.prog GL c_rmk [] Tryd.f95 args regs
theorem k_rmk : Known Tryd.prog GL 95 t_rmk := known_inl Tryd.func95 rfl (by kernel_rfl) mixed kc_rmk (by kernel_rfl)
theorem rmk_tree (c : Int) (R : Out → Prop) : (t_rmk [.c (.i .u8 c)] []).run R = ((0 ≤ aU c 127 ∧ aU c 127 < 256) ∧ sel (odd (aU c 127)) (R ⟨.v (.c (.i .u8 (aU c 127))), []⟩) (R ⟨.v (.c (.i .u8 (oU (aU c 127) 128))), []⟩)) := by kernel_rfl
set_option maxRecDepth 100000 in
theorem kRMkO : Known Tryd.prog GL 95 tMkO := by
  refine k_rmk.less fun args regs R h => Box.out ?_
  unfold tMkO at h
  split at h
  case h_2 => exact h.elim
  rename_i c
  have h2 : R ⟨.v (.c (.i .u8 (mkO c))), []⟩ := h
  clear h
  refine Box.of_eq (rmk_tree c R) ⟨aU_in _ _, ?_⟩
  unfold mkO at h2
  cases hc : odd (aU c 127) with
  | true => rw [hc] at h2; exact selT rfl h2
  | false => rw [hc] at h2; exact selF rfl h2
noncomputable def c_sign : FuncId → Option Con := conOf [(113, tROdd)]
theorem kc_sign : ∀ f T, c_sign f = some T → Known Tryd.prog GL f T := (Knowns.cons kROdd .nil).get
noncomputable def t_sign : Con := fun args regs => nfun Tryd.prog GL c_sign [] Tryd.f90 args regs
theorem k_sign : Known Tryd.prog GL 90 t_sign := known_inl Tryd.func90 rfl (by kernel_rfl) mixed kc_sign (by kernel_rfl)
theorem sign_tree (b : Int) (R : Out → Prop) : (t_sign [.c (.i .u8 b)] []).run R = ((0 ≤ b ∧ b < 256) ∧ sel (!odd b) (R ⟨.v (.c (.i .u8 32)), []⟩) (sel (decide (aU b 127 < 32)) (R ⟨.v (.c (.i .u8 32)), []⟩) (R ⟨.v (.c (.i .u8 (aU b 127))), []⟩))) := by kernel_rfl
noncomputable def tSign : Con := fun args regs => match args, regs with
  | [.c (.i .u8 b)], [] => .must (0 ≤ b ∧ b < 256) (.ret ⟨.v (.c (.i .u8 (sgn b))), []⟩)
  | _, _ => .fail
set_option maxRecDepth 100000 in
theorem kSign : Known Tryd.prog GL 90 tSign := by
  refine k_sign.less fun args regs R h => Box.out ?_
  unfold tSign at h
  split at h
  case h_2 => exact h.elim
  rename_i b
  have h1 := h.1
  have h2 : R ⟨.v (.c (.i .u8 (sgn b))), []⟩ := h.2
  clear h
  refine Box.of_eq (sign_tree b R) ⟨h1, ?_⟩
  unfold sgn at h2
  cases hc : (!odd b) with
  | true => rw [hc] at h2; exact selT rfl h2
  | false =>
    rw [hc] at h2
    refine selF rfl ?_
    cases hd : decide (aU b 127 < 32) with
    | true => rw [hd] at h2; exact selT rfl h2
    | false => rw [hd] at h2; exact selF rfl h2
noncomputable def X_rturn : Cx := { P := Tryd.prog, con := (fun _ => Option.none), glob := GL, m := 0, loops := [] }
noncomputable def t_rturn : Con := fun args regs => if regs.length = 0 then nfun Tryd.prog GL (fun _ => Option.none) [(0, [0, 3, 4], unroll X_rturn 0 [0, 3, 4] [3] (bodyLoop Tryd.f89 0) 9)] Tryd.f89 args regs else .fail
theorem k_rturn : Known Tryd.prog GL 89 t_rturn := known_loops 0 Tryd.func89 rfl (by kernel_rfl) mixed con_none (LAll.one (id := 0) (body := bodyLoop Tryd.f89 0) (by kernel_rfl) rfl (unroll_ok (X := X_rturn) con_none mixed (LAll.none (by kernel_rfl)) [0, 3, 4] [3] 9))
noncomputable def rvE (b : Int) : Int := oU (oU (oU (oU (oU (oU (oU (oU (0) (shlv .u8 (aU (shrv .u8 b 0) 1) 7)) (shlv .u8 (aU (shrv .u8 b 1) 1) 6)) (shlv .u8 (aU (shrv .u8 b 2) 1) 5)) (shlv .u8 (aU (shrv .u8 b 3) 1) 4)) (shlv .u8 (aU (shrv .u8 b 4) 1) 3)) (shlv .u8 (aU (shrv .u8 b 5) 1) 2)) (shlv .u8 (aU (shrv .u8 b 6) 1) 1)) (shlv .u8 (aU (shrv .u8 b 7) 1) 0)
theorem rturn_tree (b : Int) (R : Out → Prop) : (t_rturn [.c (.i .u8 b)] []).run R = R ⟨.v (.c (.i .u8 (rvE b))), []⟩ := by kernel_rfl
theorem rvE_all : ∀ m < 256, rvE (Int.ofNat m) = rv (Int.ofNat m) := by decide +kernel
set_option maxRecDepth 100000 in
theorem kRTurn : Known Tryd.prog GL 89 tTurn := by
  refine k_rturn.less fun args regs R h => Box.out ?_
  unfold tTurn at h
  split at h
  case h_2 => exact h.elim
  rename_i b
  have h1 := h.1
  have h2 : R ⟨.v (.c (.i .u8 (rv b))), []⟩ := h.2
  clear h
  refine Box.of_eq (rturn_tree b R) ?_
  obtain ⟨m, hm, rfl⟩ := byT h1
  rw [rvE_all m hm]
  exact h2
noncomputable def t_rtwo : Con := fun args regs => nfun Tryd.prog GL (fun _ => Option.none) [] Tryd.f94 args regs
theorem k_rtwo : Known Tryd.prog GL 94 t_rtwo := known_inl Tryd.func94 rfl (by kernel_rfl) mixed con_none (by kernel_rfl)
noncomputable def twoR (x : Int) : Int := u8i (IntKind.i64.wrap (bits .or .i64 (shlv .i64 (IntKind.i64.wrap ((IntKind.i64.wrap (x.tdiv 10)).tmod 10 + 1)) 4) (x.tmod 10) + 1))
theorem rtwo_tree (x : Int) (R : Out → Prop) : (t_rtwo [.c (.i .i64 x)] []).run R = R ⟨.v (.c (.i .u8 (twoR x))), []⟩ := by kernel_rfl
/-! ### the digits -/
noncomputable abbrev fRI := Tryd.f50
noncomputable def X_ri : Cx := { P := Tryd.prog, con := fun _ => Option.none, glob := GL, m := 0, loops := [] }
noncomputable def rDg2 (A : List Int) : Option Reg := some ⟨1, 3, .ints .i64 A⟩
noncomputable def rIf (a b e n o d h m s : Int) (z : ByteArray) : Option Reg := some ⟨10, 88, .cells (infC a b e n o d h m s z)⟩
noncomputable def r0 : Option Reg := rIf 0 0 0 0 0 0 0 0 0 ⟨#[]⟩
noncomputable def sDi (ds : List Int) (a b e n o d h m s : Int) (z : ByteArray) (A : List Int) (q : Nat) (k : Int) : St := { fr := frame 209 [(2, .v (.c (.p 0 0 0))), (4, .v (.c (.l .u8 ds))), (7, .v (.c (.p 1 0 0))), (8, .v (.c (.h 2 0 q))), (10, .v (.c (.i .i64 k)))], rg := [r0, rIf a b e n o d h m s z, rDg2 A] }
noncomputable def dDi (ds : List Int) (a b e n o d h m s : Int) (z : ByteArray) (A : List Int) (q : Nat) : St := { fr := frame 209 [(2, .v (.c (.p 0 0 0))), (4, .v (.c (.l .u8 ds))), (7, .v (.c (.p 1 0 0))), (8, .v (.c (.h 2 0 q)))], rg := [r0, rIf a b e n o d h m s z, rDg2 A] }
noncomputable def xDi (ds : List Int) (a b e n o d h m s : Int) (z : ByteArray) (A : List Int) (q : Nat) : St := { fr := frame 209 [(2, .v (.c (.p 0 0 0))), (3, .v (.c (.i .i64 101))), (4, .v (.c (.l .u8 ds))), (7, .v (.c (.p 1 0 0))), (8, .v (.c (.h 2 0 q)))], rg := [r0, rIf a b e n o d h m s z, rDg2 A] }
noncomputable def a2 (A : List Int) (k : Int) : List Int := setI A (0 + k.toNat) (IntKind.i64.wrap (A.getD (0 + k.toNat) 0 - 1)) 0
def ixD (A : List Int) (q : Nat) (k : Int) (X : Prop) : Prop := sel (decide (0 ≤ k)) (sel (decide (k < (q : Int))) (sel (decide (0 + k.toNat < A.length)) X False) False) False
theorem round_di (ds : List Int) (a b e n o d h m s : Int) (z : ByteArray) (A : List Int) (q : Nat) (k : Int) (R : RO → Prop) : (roundT X_ri 2 [2, 4, 7, 8, 10] [2, 3, 4, 7, 8] (bodyLoop fRI 2) (sDi ds a b e n o d h m s z A q k)).run R =
    sel (decide (k < (q : Int))) (ixD A q k (ixD A q k (ixD (a2 A k) q k (sel (decide ((a2 A k).getD (0 + k.toNat) 0 < 0)) (R (.done .ret (xDi ds a b e n o d h m s z (a2 A k) q))) (ixD (a2 A k) q k (sel (decide ((a2 A k).getD (0 + k.toNat) 0 > 9)) (R (.done .ret (xDi ds a b e n o d h m s z (a2 A k) q))) (R (.next (sDi ds a b e n o d h m s z (a2 A k) q (IntKind.i64.wrap (k + 1)))))))))))
      (R (.done .normal (dDi ds a b e n o d h m s z A q))) := by kernel_rfl
end Go.Proofs.YthjdlanmfiofdaaDoor.sv

namespace Go.Proofs.YthjdlanmfiofdaaDoor.sv
open Go Go.Nx Go.Proofs.YthjdlanmfiofdaaDoor.pk Go.Proofs.YthjdlanmfiofdaaDoor.ln Go.Proofs.YthjdlanmfiofdaaDoor.hd Go.Proofs.YthjdlanmfiofdaaDoor.lb

/-- One digit less by one. -/
noncomputable def stp (A : List Int) (k : Nat) : List Int := A.set k (IntKind.i64.wrap (A.getD k 0 - 1))
noncomputable def goR : Nat → Nat → List Int → Bool × List Int
  | 0, _, A => (true, A)
  | r + 1, k, A => bif okd ((stp A k).getD k 0) then goR r (k + 1) (stp A k) else (false, stp A k)
noncomputable def stpN : Nat → Nat → List Int → List Int
  | 0, _, A => A
  | r + 1, k, A => stpN r (k + 1) (stp A k)
theorem goR_all : ∀ (r k : Nat) (A : List Int), (goR r k A).1 = true → (goR r k A).2 = stpN r k A
  | 0, _, _, _ => rfl
  | r + 1, k, A, h => by
    have e : goR (r + 1) k A = bif okd ((stp A k).getD k 0) then goR r (k + 1) (stp A k) else (false, stp A k) := rfl
    rw [e] at h ⊢
    cases ho : okd ((stp A k).getD k 0) with
    | true => rw [ho] at h; exact goR_all r (k + 1) (stp A k) h
    | false => rw [ho] at h; cases h
noncomputable def dec1 (_ : Nat) (x : Int) : Int := IntKind.i64.wrap (x - 1)
theorem stpN_map : ∀ (r k : Nat) (A : List Int), k + r = A.length → stpN r k A = mapF dec1 k 0 A
  | 0, k, A, h => (mapF_stop dec1 k 0 A (by omega)).symm
  | r + 1, k, A, h => by
    have hl : (stp A k).length = A.length := by unfold stp; rw [List.length_set]
    have e : stpN (r + 1) k A = stpN r (k + 1) (stp A k) := rfl
    rw [e, stpN_map r (k + 1) (stp A k) (by omega)]
    exact mapF_set dec1 k _ 0 A k (by omega) (by omega) rfl
noncomputable def pDi : List Pat := pats 209 [(2, .p 0 0 0), (4, .l .u8), (7, .p 1 0 0), (8, .h 2 0), (10, .i .i64)]
def rDi : List RPat := [.cells 10 88 [.i .i64, .i .i64, .i .i64, .i .i64, .i .i64, .i .i64, .i .i64, .i .i64, .i .i64, .s], .cells 10 88 [.i .i64, .i .i64, .i .i64, .i .i64, .i .i64, .i .i64, .i .i64, .i .i64, .i .i64, .s], .ints 1 3 .i64]
def zeroL (l : List Leaf) : Prop := l = [.i 0, .i 0, .i 0, .i 0, .i 0, .i 0, .i 0, .i 0, .i 0, .s ⟨#[]⟩]
noncomputable def lDi : List Leaf × List (List Leaf) → Tr (NExit × St) := fun x => match x with
  | ([.l ds, .n q, .i k], [zs, [.i a, .i b, .i e, .i n, .i o, .i d, .i h, .i m, .i s, .s z], [.l A]]) => .must (zeroL zs ∧ A.length = q ∧ q < 1000 ∧ 0 ≤ k ∧ k ≤ (q : Int)) (.br (goR (q - k.toNat) k.toNat A).1 (.ret (.normal, dDi ds a b e n o d h m s z (mapF dec1 k.toNat 0 A) q)) (.ret (.ret, xDi ds a b e n o d h m s z (goR (q - k.toNat) k.toNat A).2 q)))
  | _ => .fail
def muDi : List Leaf × List (List Leaf) → Nat := fun x => match x with
  | ([.l _, .n q, .i k], _) => ((q : Int) - k).toNat
  | _ => 0
theorem mk_di (ds : List Int) (a b e n o d h m s : Int) (z : ByteArray) (A : List Int) (q : Nat) (k : Int) : mkSt pDi rDi ([.l ds, .n q, .i k], [[.i 0, .i 0, .i 0, .i 0, .i 0, .i 0, .i 0, .i 0, .i 0, .s ⟨#[]⟩], [.i a, .i b, .i e, .i n, .i o, .i d, .i h, .i m, .i s, .s z], [.l A]]) = sDi ds a b e n o d h m s z A q k := by kernel_rfl
def mDi (A : List Int) (q : Nat) (k : Int) : Prop := A.length = q ∧ q < 1000 ∧ 0 ≤ k ∧ k ≤ (q : Int)
set_option maxRecDepth 100000 in
theorem lDi_inv {x : List Leaf × List (List Leaf)} {R : NExit × St → Prop} (hx : (lDi x).run R) : ∃ (ds : List Int) (a b e n o d h m s : Int) (z : ByteArray) (A : List Int) (q : Nat) (k : Int), x = ([.l ds, .n q, .i k], [[.i 0, .i 0, .i 0, .i 0, .i 0, .i 0, .i 0, .i 0, .i 0, .s ⟨#[]⟩], [.i a, .i b, .i e, .i n, .i o, .i d, .i h, .i m, .i s, .s z], [.l A]]) ∧ mDi A q k ∧ sel (goR (q - k.toNat) k.toNat A).1 (R (.normal, dDi ds a b e n o d h m s z (stpN (q - k.toNat) k.toNat A) q)) (R (.ret, xDi ds a b e n o d h m s z (goR (q - k.toNat) k.toNat A).2 q)) := by
  unfold lDi at hx
  split at hx
  case h_2 => exact hx.elim
  have h1 := hx.1
  have h2 := hx.2
  clear hx
  have hz := h1.1
  have h3 := h1.2
  clear h1
  unfold zeroL at hz
  subst hz
  refine ⟨_, _, _, _, _, _, _, _, _, _, _, _, _, _, rfl, h3, ?_⟩
  obtain ⟨g1, g2, g3, g4⟩ := h3
  rw [stpN_map _ _ _ (by omega)]
  exact h2
theorem a2_stp (A : List Int) (k : Int) : a2 A k = stp A k.toNat := by
  unfold a2 stp
  rw [setI_set, Nat.zero_add]
set_option maxRecDepth 100000 in
theorem loop_di : LOk Tryd.prog GL 0 2 (bodyLoop fRI 2) (sumP pDi rDi lDi) := by
  refine sumP_ok (X := X_ri) con_none mixed (LAll.none (by kernel_rfl)) [2, 4, 7, 8, 10] [2, 3, 4, 7, 8] _ _ _ muDi ?_
  intro x R hx
  obtain ⟨ds, a, b, e, n, o, d, h, m, s, z, A, q, k, rfl, h1, h2⟩ := lDi_inv hx
  clear hx
  have hA := h1.1
  have hq := h1.2.1
  have hk0 := h1.2.2.1
  have hk := h1.2.2.2
  clear h1
  rw [mk_di, round_di]
  refine sel_by (fun hlt => ?_) fun hge => ?_
  · have w2 : IntKind.i64.wrap (k + 1) = k + 1 := by rw [IntKind.wrap_i64]; omega
    have hl2 : (stp A k.toNat).length = A.length := by unfold stp; rw [List.length_set]
    obtain ⟨r, hr⟩ : ∃ r, q - k.toNat = r + 1 := ⟨q - k.toNat - 1, by omega⟩
    have er : q - (k + 1).toNat = r := by omega
    have ekn : (k + 1).toNat = k.toNat + 1 := by omega
    rw [w2, a2_stp, Nat.zero_add]
    have iA : ∀ X : Prop, X → ixD A q k X := fun X h => selT (dT hk0) (selT (dT hlt) (selT (dT (by omega)) h))
    have iB : ∀ X : Prop, X → ixD (stp A k.toNat) q k X := fun X h => selT (dT hk0) (selT (dT hlt) (selT (dT (by omega)) h))
    rw [hr] at h2
    have eu : goR (r + 1) k.toNat A = bif okd ((stp A k.toNat).getD k.toNat 0) then goR r (k.toNat + 1) (stp A k.toNat) else (false, stp A k.toNat) := rfl
    have es : stpN (r + 1) k.toNat A = stpN r (k.toNat + 1) (stp A k.toNat) := rfl
    rw [eu, es] at h2
    refine iA _ (iA _ (iB _ ?_))
    unfold okd at h2
    cases e1 : decide ((stp A k.toNat).getD k.toNat 0 < 0) with
    | true => rw [e1] at h2; exact selT rfl h2
    | false =>
      refine selF rfl (iB _ ?_)
      cases e2 : decide ((stp A k.toNat).getD k.toNat 0 > 9) with
      | true => rw [e1, e2] at h2; exact selT rfl h2
      | false =>
        rw [e1, e2] at h2
        refine selF rfl ⟨([.l ds, .n q, .i (k + 1)], [[.i 0, .i 0, .i 0, .i 0, .i 0, .i 0, .i 0, .i 0, .i 0, .s ⟨#[]⟩], [.i a, .i b, .i e, .i n, .i o, .i d, .i h, .i m, .i s, .s z], [.l (stp A k.toNat)]]), (mk_di ..).symm, by show ((q : Int) - (k + 1)).toNat < ((q : Int) - k).toNat; omega, ⟨rfl, by omega, hq, by omega, by omega⟩, ?_⟩
        show sel (goR (q - (k + 1).toNat) (k + 1).toNat (stp A k.toNat)).1 (R (.normal, dDi ds a b e n o d h m s z (mapF dec1 (k + 1).toNat 0 (stp A k.toNat)) q)) (R (.ret, xDi ds a b e n o d h m s z (goR (q - (k + 1).toNat) (k + 1).toNat (stp A k.toNat)).2 q))
        rw [← stpN_map (q - (k + 1).toNat) _ _ (by omega), er, ekn]
        exact h2
  · have e0 : q - k.toNat = 0 := by omega
    rw [e0] at h2
    exact h2
noncomputable def c_rinfo : FuncId → Option Con := conOf [(88, ls.tRnib), (65, ls.tRlink), (89, tTurn), (90, tSign)]
theorem kc_rinfo : ∀ f T, c_rinfo f = some T → Known Tryd.prog GL f T := (Knowns.cons ls.kRnib (.cons ls.kRlink (.cons kRTurn (.cons kSign .nil)))).get
noncomputable def X_rinfo : Cx := { P := Tryd.prog, con := c_rinfo, glob := GL, m := 0, loops := [] }
noncomputable def t_rinfo : Con := fun args regs => if regs.length = 0 then nfun Tryd.prog GL c_rinfo [(0, [2, 4, 7, 8, 9], unroll X_rinfo 0 [2, 4, 7, 8, 9] [2, 4, 7, 8] (bodyLoop Tryd.f50 0) 6), (2, [2, 4, 7, 8, 10], sumP pDi rDi lDi), (4, [2, 4, 7, 11, 12], unroll X_rinfo 4 [2, 4, 7, 11, 12] [2, 7, 11] (bodyLoop Tryd.f50 4) 21)] Tryd.f50 args regs else .fail
theorem k_rinfo : Known Tryd.prog GL 50 t_rinfo := known_loops 0 Tryd.func50 rfl (by kernel_rfl) mixed kc_rinfo (LAll.three (i1 := 0) (i2 := 2) (i3 := 4) (b1 := bodyLoop Tryd.f50 0) (b2 := bodyLoop Tryd.f50 2) (b3 := bodyLoop Tryd.f50 4) (by kernel_rfl) rfl (by decide) (unroll_ok (X := X_rinfo) kc_rinfo mixed (LAll.none (by kernel_rfl)) [2, 4, 7, 8, 9] [2, 4, 7, 8] 6) loop_di (unroll_ok (X := X_rinfo) kc_rinfo mixed (LAll.none (by kernel_rfl)) [2, 4, 7, 11, 12] [2, 7, 11] 21))
end Go.Proofs.YthjdlanmfiofdaaDoor.sv

namespace Go.Proofs.YthjdlanmfiofdaaDoor.sv
open Go Go.Nx Go.Proofs.YthjdlanmfiofdaaDoor.pk Go.Proofs.YthjdlanmfiofdaaDoor.ln Go.Proofs.YthjdlanmfiofdaaDoor.hd Go.Proofs.YthjdlanmfiofdaaDoor.lb

noncomputable abbrev fIB := Tryd.f54
noncomputable def c_ib : FuncId → Option Con := conOf [(95, tMkO)]
theorem kc_ib : ∀ f T, c_ib f = some T → Known Tryd.prog GL f T := (Knowns.cons kRMkO .nil).get
noncomputable def X_ib : Cx := { P := Tryd.prog, con := c_ib, glob := GL, m := 0, loops := [] }
noncomputable def rIu (A : List Int) : Option Reg := some ⟨1, 5, .ints .u8 A⟩
noncomputable def sIb (a b e n o d h m s : Int) (z : ByteArray) (A : List Int) (q : Nat) (k : Int) : St := { fr := frame 167 [(1, .v (.c (.p 0 0 0))), (5, .v (.c (.h 1 0 q))), (6, .v (.c (.i .i64 k)))], rg := [rIf a b e n o d h m s z, rIu A] }
noncomputable def dIb (A : List Int) (q : Nat) : St := { fr := frame 167 [(5, .v (.c (.h 0 0 q)))], rg := [rIu A] }
noncomputable def xIb (A : List Int) (q : Nat) : St := { fr := frame 167 [(2, .v (.c .sn)), (3, .v (.c (.i .i64 101))), (5, .v (.c (.h 0 0 q)))], rg := [rIu A] }
noncomputable def signI (a b e n o d h m s : Int) (z : ByteArray) (A : List Int) (q : Nat) (k c : Int) (R : RO → Prop) : Prop := sel (decide (c < 32)) (R (.done .ret (xIb A q))) (sel (decide (c > 127)) (R (.done .ret (xIb A q))) (appS q A (R (.next (sIb a b e n o d h m s z (List.take q (List.drop 0 A) ++ [mkO c]) (q + 1) (IntKind.i64.wrap (k + 1)))))))
theorem round_ib (a b e n o d h m s : Int) (z : ByteArray) (A : List Int) (q : Nat) (k : Int) (R : RO → Prop) : (roundT X_ib 0 [1, 5, 6] [2, 3, 5] (bodyLoop fIB 0) (sIb a b e n o d h m s z A q k)).run R =
    sel (decide (k < 20)) (sel (decide (k < (z.size : Int))) (sel (decide (0 ≤ k)) (sel (decide (k < (z.size : Int))) (signI a b e n o d h m s z A q k (byteAt z k.toNat) R) False) False) (signI a b e n o d h m s z A q k 32 R)) (R (.done .normal (dIb A q))) := by kernel_rfl
noncomputable def sgs (z : ByteArray) (k r : Nat) : List Int := (List.range r).map fun j => mkO (txc z (k + j))
theorem sgs_cons (z : ByteArray) (k r : Nat) : sgs z k (r + 1) = mkO (txc z k) :: sgs z (k + 1) r := by
  unfold sgs
  rw [List.range_succ_eq_map, List.map_cons, List.map_map]
  congr 1
  refine List.map_congr_left fun j _ => ?_
  show mkO (txc z (k + (j + 1))) = mkO (txc z (k + 1 + j))
  rw [show k + (j + 1) = k + 1 + j by omega]
theorem fst_ge (z : ByteArray) : ∀ (r k : Nat), (fst z r k).isNone = false → k ≤ (fst z r k).getD 0
  | 0, _, h => by cases h
  | r + 1, k, h => by
    have e : fst z (r + 1) k = bif badz z k then some k else fst z r (k + 1) := rfl
    rw [e] at h ⊢
    cases hb : badz z k with
    | true => exact Nat.le_refl _
    | false =>
      rw [hb] at h
      have := fst_ge z r (k + 1) h
      show k ≤ (fst z r (k + 1)).getD 0
      omega
noncomputable def pIb : List Pat := pats 167 [(1, .p 0 0 0), (5, .h 1 0), (6, .i .i64)]
def rIbp : List RPat := [.cells 10 88 [.i .i64, .i .i64, .i .i64, .i .i64, .i .i64, .i .i64, .i .i64, .i .i64, .i .i64, .s], .ints 1 5 .u8]
noncomputable def lIb : List Leaf × List (List Leaf) → Tr (NExit × St) := fun x => match x with
  | ([.n q, .i k], [[.i _, .i _, .i _, .i _, .i _, .i _, .i _, .i _, .i _, .s z], [.l A]]) => .must (A.length = q ∧ (q : Int) < 1000 + k ∧ 0 ≤ k ∧ k ≤ 20) (.br (fst z (20 - k.toNat) k.toNat).isNone (.ret (.normal, dIb (A ++ sgs z k.toNat (20 - k.toNat)) (q + (20 - k.toNat)))) (.ret (.ret, xIb (A ++ sgs z k.toNat ((fst z (20 - k.toNat) k.toNat).getD 0 - k.toNat)) (q + ((fst z (20 - k.toNat) k.toNat).getD 0 - k.toNat)))))
  | _ => .fail
def muIb : List Leaf × List (List Leaf) → Nat := fun x => match x with
  | ([.n _, .i k], _) => (20 - k).toNat
  | _ => 0
theorem mk_ib (a b e n o d h m s : Int) (z : ByteArray) (A : List Int) (q : Nat) (k : Int) : mkSt pIb rIbp ([.n q, .i k], [[.i a, .i b, .i e, .i n, .i o, .i d, .i h, .i m, .i s, .s z], [.l A]]) = sIb a b e n o d h m s z A q k := by kernel_rfl
noncomputable def outI (z : ByteArray) (A : List Int) (q k : Nat) (R : NExit × St → Prop) : Prop := sel (fst z (20 - k) k).isNone (R (.normal, dIb (A ++ sgs z k (20 - k)) (q + (20 - k)))) (R (.ret, xIb (A ++ sgs z k ((fst z (20 - k) k).getD 0 - k)) (q + ((fst z (20 - k) k).getD 0 - k))))
def mIb (A : List Int) (q : Nat) (k : Int) : Prop := A.length = q ∧ (q : Int) < 1000 + k ∧ 0 ≤ k ∧ k ≤ 20
set_option maxRecDepth 100000 in
theorem lIb_inv {x : List Leaf × List (List Leaf)} {R : NExit × St → Prop} (hx : (lIb x).run R) : ∃ (a b e n o d h m s : Int) (z : ByteArray) (A : List Int) (q : Nat) (k : Int), x = ([.n q, .i k], [[.i a, .i b, .i e, .i n, .i o, .i d, .i h, .i m, .i s, .s z], [.l A]]) ∧ mIb A q k ∧ outI z A q k.toNat R := by
  unfold lIb at hx
  split at hx
  case h_2 => exact hx.elim
  exact ⟨_, _, _, _, _, _, _, _, _, _, _, _, _, rfl, hx.1, hx.2⟩
theorem step_ib {z : ByteArray} {A : List Int} {q k : Nat} {R : NExit × St → Prop} (hk : k < 20) (h : outI z A q k R) : (badz z k = true → R (.ret, xIb A q)) ∧ (badz z k = false → outI z (A ++ [mkO (txc z k)]) (q + 1) (k + 1) R) := by
  unfold outI at h
  obtain ⟨r, hr⟩ : ∃ r, 20 - k = r + 1 := ⟨20 - k - 1, by omega⟩
  have er : 20 - (k + 1) = r := by omega
  rw [hr] at h
  have eu : fst z (r + 1) k = bif badz z k then some k else fst z r (k + 1) := rfl
  rw [eu] at h
  refine ⟨fun hb => ?_, fun hb => ?_⟩
  · rw [hb] at h
    have h : R (.ret, xIb (A ++ sgs z k (k - k)) (q + (k - k))) := h
    rw [Nat.sub_self] at h
    have e : A ++ sgs z k 0 = A := List.append_nil A
    rw [e] at h
    exact h
  · rw [hb] at h
    have h : sel (fst z r (k + 1)).isNone (R (.normal, dIb (A ++ sgs z k (r + 1)) (q + (r + 1)))) (R (.ret, xIb (A ++ sgs z k ((fst z r (k + 1)).getD 0 - k)) (q + ((fst z r (k + 1)).getD 0 - k)))) := h
    unfold outI
    rw [er]
    cases hn : (fst z r (k + 1)).isNone with
    | true =>
      rw [hn] at h
      have h : R (.normal, dIb (A ++ sgs z k (r + 1)) (q + (r + 1))) := h
      rw [sgs_cons] at h
      refine selT rfl ?_
      rw [List.append_assoc, show q + 1 + r = q + (r + 1) by omega]
      exact h
    | false =>
      rw [hn] at h
      have hg := fst_ge z r (k + 1) hn
      have h : R (.ret, xIb (A ++ sgs z k ((fst z r (k + 1)).getD 0 - k)) (q + ((fst z r (k + 1)).getD 0 - k))) := h
      generalize (fst z r (k + 1)).getD 0 = j at h hg
      obtain ⟨t, ht⟩ : ∃ t, j - k = t + 1 := ⟨j - k - 1, by omega⟩
      rw [ht, sgs_cons] at h
      refine selF rfl ?_
      rw [show j - (k + 1) = t by omega, List.append_assoc, show q + 1 + t = q + (t + 1) by omega]
      exact h
set_option maxRecDepth 100000 in
theorem loop_ib : LOk Tryd.prog GL 0 0 (bodyLoop fIB 0) (sumP pIb rIbp lIb) := by
  refine sumP_ok (X := X_ib) kc_ib mixed (LAll.none (by kernel_rfl)) [1, 5, 6] [2, 3, 5] _ _ _ muIb ?_
  intro x R hx
  obtain ⟨a, b, e, n, o, d, h, m, s, z, A, q, k, rfl, h1, h2⟩ := lIb_inv hx
  clear hx
  have hA := h1.1
  have hq := h1.2.1
  have hk0 := h1.2.2.1
  have hk := h1.2.2.2
  clear h1
  rw [mk_ib, round_ib]
  refine sel_by (fun hlt => ?_) fun hge => ?_
  · have w2 : IntKind.i64.wrap (k + 1) = k + 1 := by rw [IntKind.wrap_i64]; omega
    have ekn : (k + 1).toNat = k.toNat + 1 := by omega
    obtain ⟨hb, hg⟩ := step_ib (k := k.toNat) (by omega) h2
    have ea : List.take q (List.drop 0 A) = A := by rw [List.drop_zero, List.take_of_length_le (by omega)]
    have go : badz z k.toNat = false → ∃ y, sIb a b e n o d h m s z (List.take q (List.drop 0 A) ++ [mkO (txc z k.toNat)]) (q + 1) (IntKind.i64.wrap (k + 1)) = mkSt pIb rIbp y ∧ muIb y < muIb ([.n q, .i k], [[.i a, .i b, .i e, .i n, .i o, .i d, .i h, .i m, .i s, .s z], [.l A]]) ∧ (lIb y).run R := fun hc => by
      rw [ea, w2]
      refine ⟨([.n (q + 1), .i (k + 1)], [[.i a, .i b, .i e, .i n, .i o, .i d, .i h, .i m, .i s, .s z], [.l (A ++ [mkO (txc z k.toNat)])]]), (mk_ib ..).symm, by show (20 - (k + 1)).toNat < (20 - k).toNat; omega, ⟨by rw [List.length_append]; show A.length + 1 = q + 1; omega, ?_, by omega, by omega⟩, ?_⟩
      · omega
      · have := hg hc
        rw [← ekn] at this
        exact this
    have app : ∀ X : Prop, X → appS q A X := fun X hX => selT (dT (by omega)) (selT (dT (by omega)) (selT (dT (by omega)) hX))
    refine sel_by (fun hz => selT (dT hk0) (selT (dT hz) ?_)) fun hz => ?_
    · have ez : txc z k.toNat = byteAt z k.toNat := by unfold txc; rw [dT (by omega)]; rfl
      unfold badz at hb go
      rw [ez] at hb go
      exact bad_in hb fun hc => app _ (go hc)
    · have ez : txc z k.toNat = 32 := by unfold txc; rw [dF (by omega)]; rfl
      unfold badz at hb go
      rw [ez] at hb go
      exact bad_in hb fun hc => app _ (go hc)
  · have hk2 : k.toNat = 20 := by omega
    rw [hk2] at h2
    have h2 : R (.normal, dIb (A ++ []) (q + 0)) := h2
    rw [List.append_nil] at h2
    exact h2
noncomputable def c_rib : FuncId → Option Con := conOf [(33, ls.tRright), (73, tRPut), (74, ls.tRplaced), (89, tTurn), (94, t_rtwo), (95, tMkO), (75, ls.t_rpacked)]
theorem kc_rib : ∀ f T, c_rib f = some T → Known Tryd.prog GL f T := (Knowns.cons ls.kRright (.cons (known_gl kRPut) (.cons ls.kRplaced (.cons kRTurn (.cons k_rtwo (.cons kRMkO (.cons ls.k_rpacked .nil))))))).get
noncomputable def X_rib : Cx := { P := Tryd.prog, con := c_rib, glob := GL, m := 0, loops := [] }
noncomputable def t_rib : Con := fun args regs => if regs.length = 0 then nfun Tryd.prog GL c_rib [(0, [1, 5, 6], sumP pIb rIbp lIb)] Tryd.f54 args regs else .fail
theorem k_rib : Known Tryd.prog GL 54 t_rib := known_loops 0 Tryd.func54 rfl (by kernel_rfl) mixed kc_rib (LAll.one (id := 0) (body := bodyLoop Tryd.f54 0) (by kernel_rfl) rfl loop_ib)
noncomputable def oI1 : Out := ⟨.tu [.c .sn, .c (.i .i64 101)], []⟩
noncomputable def oIY (L : List Int) : Out := ⟨.tu [.c (.h 0 0 42), .c (.i .i64 0)], [some ⟨1, 5, .ints .u8 L⟩]⟩
noncomputable def md9R (neg : Bool) (n o d h mi s : Int) : List Int := [rv (u8i (shrv .i64 n 8)), rv (u8i n), ofB neg o, u8i (IntKind.i64.wrap (IntKind.i64.wrap (d.tdiv 10000) + 1)), twoR ((IntKind.i64.wrap (d.tdiv 100)).tmod 100), twoR (d.tmod 100), twoR h, twoR mi, twoR s, 0, 0, 0, 0]
noncomputable def hdR (neg : Bool) (a b e n o d h mi s : Int) : List Int := put 0 :: (ls.plN b e (a.tmod 8) ++ md9R neg n o d h mi s)
noncomputable def LR (neg : Bool) (a b e n o d h mi s : Int) (z : ByteArray) : List Int := 21 :: 234 :: (hdR neg a b e n o d h mi s ++ sgs z 0 20)
noncomputable def ibE (neg : Bool) (a b e n o d h mi s : Int) (z : ByteArray) (R : Out → Prop) : Prop := ls.in16 0 ∧ ((0 ≤ b ∧ b ≤ 255 ∧ 0 ≤ a.tmod 8 ∧ a.tmod 8 < 8) ∧ (mBy (u8i (shrv .i64 n 8)) ∧ (mBy (u8i n) ∧ (((hdR neg a b e n o d h mi s).length = 20 ∧ ((20 : Nat) : Int) < 1000 + 0 ∧ 0 ≤ (0 : Int) ∧ (0 : Int) ≤ 20) ∧ sel (fst z 20 0).isNone (ls.in16 0 ∧ (ls.in16 15 ∧ R (oIY (LR neg a b e n o d h mi s z)))) (R oI1)))))
theorem rib_tree (a b e n o d h mi s : Int) (z : ByteArray) (R : Out → Prop) : (t_rib [.ag (infC a b e n o d h mi s z)] []).run R =
    sel (!ls.rightB a b e) (R oI1) (sel (decide (n < 0)) (R oI1) (sel (decide (n > 65535)) (R oI1) (sel (decide (o < -31)) (R oI1) (sel (decide (o > 31)) (R oI1) (sel (decide (d < 0)) (R oI1) (sel (decide (d > 99999)) (R oI1) (sel (decide (h < 0)) (R oI1) (sel (decide (h > 23)) (R oI1) (sel (decide (mi < 0)) (R oI1) (sel (decide (mi > 59)) (R oI1) (sel (decide (s < 0)) (R oI1) (sel (decide (s > 59)) (R oI1) (sel (decide ((z.size : Int) > 20)) (R oI1) (sel (decide (o < 0)) (ibE true a b e n o d h mi s z R) (ibE false a b e n o d h mi s z R))))))))))))))) := by kernel_rfl
end Go.Proofs.YthjdlanmfiofdaaDoor.sv

namespace Go.Proofs.YthjdlanmfiofdaaDoor.sv
open Go Go.Nx Go.Proofs.YthjdlanmfiofdaaDoor.pk Go.Proofs.YthjdlanmfiofdaaDoor.ln Go.Proofs.YthjdlanmfiofdaaDoor.hd Go.Proofs.YthjdlanmfiofdaaDoor.lb

/-- The document's bytes: when there are some. -/
noncomputable def okIb (a b e n o d h mi s : Int) (z : ByteArray) : Bool := ls.rightB a b e && (!decide (n < 0) && (!decide (n > 65535) && (!decide (o < -31) && (!decide (o > 31) && (!decide (d < 0) && (!decide (d > 99999) && (!decide (h < 0) && (!decide (h > 23) && (!decide (mi < 0) && (!decide (mi > 59) && (!decide (s < 0) && (!decide (s > 59) && (!decide ((z.size : Int) > 20) && (fst z 20 0).isNone)))))))))))))
noncomputable def tRib : Con := fun args regs => match args, regs with
  | [.ag [.i .i64 a, .i .i64 b, .i .i64 e, .i .i64 n, .i .i64 o, .i .i64 d, .i .i64 h, .i .i64 mi, .i .i64 s, .s z]], [] => .br (okIb a b e n o d h mi s z) (.ret (oIY (LR (decide (o < 0)) a b e n o d h mi s z))) (.ret oI1)
  | _, _ => .fail
theorem ibE_in {neg : Bool} {a b e n o d h mi s : Int} {z : ByteArray} {R : Out → Prop} (hb : 0 ≤ b ∧ b ≤ 255 ∧ 0 ≤ a.tmod 8 ∧ a.tmod 8 < 8) (hR : sel (fst z 20 0).isNone (R (oIY (LR neg a b e n o d h mi s z))) (R oI1)) : ibE neg a b e n o d h mi s z R := by
  refine ⟨⟨by decide, by decide⟩, hb, u8i_in _, u8i_in _, ⟨rfl, by decide, by decide, by decide⟩, ?_⟩
  cases hn : (fst z 20 0).isNone with
  | true => rw [hn] at hR; exact selT rfl ⟨⟨by decide, by decide⟩, ⟨by decide, by decide⟩, hR⟩
  | false => rw [hn] at hR; exact selF rfl hR
theorem rib_in {a b e n o d h mi s : Int} {z : ByteArray} {R : Out → Prop} (hR : sel (okIb a b e n o d h mi s z) (R (oIY (LR (decide (o < 0)) a b e n o d h mi s z))) (R oI1)) :
    sel (!ls.rightB a b e) (R oI1) (sel (decide (n < 0)) (R oI1) (sel (decide (n > 65535)) (R oI1) (sel (decide (o < -31)) (R oI1) (sel (decide (o > 31)) (R oI1) (sel (decide (d < 0)) (R oI1) (sel (decide (d > 99999)) (R oI1) (sel (decide (h < 0)) (R oI1) (sel (decide (h > 23)) (R oI1) (sel (decide (mi < 0)) (R oI1) (sel (decide (mi > 59)) (R oI1) (sel (decide (s < 0)) (R oI1) (sel (decide (s > 59)) (R oI1) (sel (decide ((z.size : Int) > 20)) (R oI1) (sel (decide (o < 0)) (ibE true a b e n o d h mi s z R) (ibE false a b e n o d h mi s z R))))))))))))))) := by
  unfold okIb at hR
  cases hr : ls.rightB a b e with
  | false => rw [hr] at hR; exact selT rfl hR
  | true =>
    rw [hr] at hR
    have hp := ls.right_in hr
    have ht : a.tmod 8 = a % 8 := Int.tmod_eq_emod_of_nonneg (by omega)
    have hb : 0 ≤ b ∧ b ≤ 255 ∧ 0 ≤ a.tmod 8 ∧ a.tmod 8 < 8 := by rw [ht]; omega
    refine selF rfl (nb_in hR fun hR => nb_in hR fun hR => nb_in hR fun hR => nb_in hR fun hR => nb_in hR fun hR => nb_in hR fun hR => nb_in hR fun hR => nb_in hR fun hR => nb_in hR fun hR => nb_in hR fun hR => nb_in hR fun hR => nb_in hR fun hR => nb_in hR fun hR => ?_)
    cases ho : decide (o < 0) with
    | true => rw [ho] at hR; exact selT rfl (ibE_in hb hR)
    | false => rw [ho] at hR; exact selF rfl (ibE_in hb hR)
set_option maxRecDepth 100000 in
theorem kRib : Known Tryd.prog GL 54 tRib := by
  refine k_rib.less fun args regs R h => Box.out ?_
  unfold tRib at h
  split at h
  case h_2 => exact h.elim
  exact Box.of_eq (rib_tree _ _ _ _ _ _ _ _ _ _ R) (rib_in h)
/-! ### the same bytes -/
theorem andB (x y : Bool) : (x && y) = (y && x) := Bool.and_comm x y
theorem bool_iff {x y : Bool} (h : x = true ↔ y = true) : x = y := by
  cases x <;> cases y <;> simp_all
theorem ok_same {a b e n o d h mi s : Int} {z : ByteArray} (he : fairB a b e = ls.rightB a b e) : okBt a b e n o d h mi s z = okIb a b e n o d h mi s z := by
  refine bool_iff ?_
  unfold okBt okIb okTx fairV
  rw [he]
  simp only [Bool.and_eq_true, Bool.not_eq_true', decide_eq_false_iff_not, decide_eq_true_eq]
  constructor
  · rintro ⟨⟨h1, h2⟩, h3, h4, h5, h6, h7, h8, h9, h10, h11, h12, h13, h14, h15⟩
    exact ⟨h3, h4, h5, h6, h7, by omega, by omega, by omega, by omega, by omega, by omega, by omega, by omega, h1, h2⟩
  · rintro ⟨h3, h4, h5, h6, h7, h8, h9, h10, h11, h12, h13, h14, h15, h1, h2⟩
    exact ⟨⟨h1, h2⟩, h3, h4, h5, h6, h7, by omega, by omega, by omega, by omega, by omega, by omega, by omega, by omega⟩
theorem twoR_all : ∀ m < 100, twoR (Int.ofNat m) = two (Int.ofNat m) := by decide +kernel
theorem twoR_of {x : Int} (h : 0 ≤ x ∧ x < 100) : twoR x = two x := by
  have := twoR_all x.toNat (by omega)
  rwa [show Int.ofNat x.toNat = x by show ((x.toNat : Nat) : Int) = x; omega] at this
theorem sgs_txA (z : ByteArray) : sgs z 0 20 = txA z 20 := by
  unfold sgs txA
  refine List.map_congr_left fun j _ => ?_
  rw [Nat.zero_add]
theorem in_ok {a b e n o d h mi s : Int} {z : ByteArray} (hk : okIb a b e n o d h mi s z = true) : (1 ≤ a ∧ a ≤ 8) ∧ (0 ≤ b ∧ b ≤ 255) ∧ (0 ≤ d ∧ d ≤ 99999) ∧ (0 ≤ h ∧ h ≤ 23) ∧ (0 ≤ mi ∧ mi ≤ 59) ∧ (0 ≤ s ∧ s ≤ 59) := by
  unfold okIb at hk
  simp only [Bool.and_eq_true, Bool.not_eq_true', decide_eq_false_iff_not] at hk
  obtain ⟨h3, h4, h5, h6, h7, h8, h9, h10, h11, h12, h13, h14, h15, h1, h2⟩ := hk
  have hp := ls.right_in h3
  omega
theorem LB_same {a b e n o d h mi s : Int} {z : ByteArray} {neg : Bool} (hk : okIb a b e n o d h mi s z = true) : LB neg a b e n o d h mi s z = LR neg a b e n o d h mi s z := by
  obtain ⟨ha, hb, hd, hh, hm, hs⟩ := in_ok hk
  have e2 : (IntKind.i64.wrap (d.tdiv 100)).tmod 100 = d / 100 % 100 := by
    rw [Int.tdiv_eq_ediv_of_nonneg hd.1, IntKind.wrap_i64, Int.tmod_eq_emod_of_nonneg (by omega)]
    omega
  have e3 : d.tmod 100 = d % 100 := Int.tmod_eq_emod_of_nonneg hd.1
  unfold LB LR hdR md9 md9R
  rw [e2, e3, twoR_of (x := d / 100 % 100) (by omega), twoR_of (x := d % 100) (by omega), twoR_of (x := h) (by omega), twoR_of (x := mi) (by omega), twoR_of (x := s) (by omega), sgs_txA]
  have e8 : a.tmod 8 = aI a 7 := by rw [aI_7, Int.tmod_eq_emod_of_nonneg (by omega)]
  rw [e8]
  rfl
end Go.Proofs.YthjdlanmfiofdaaDoor.sv
