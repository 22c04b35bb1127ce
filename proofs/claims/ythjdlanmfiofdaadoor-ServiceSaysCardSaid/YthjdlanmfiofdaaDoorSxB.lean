/-
  Who sends, when: what is read, the bytes, by value.
-/
import Derived.Test.YthjdlanmfiofdaaDoorSxA
namespace Go.Proofs.YthjdlanmfiofdaaDoor.sv
open Go Go.Nx Go.Proofs.YthjdlanmfiofdaaDoor.pk Go.Proofs.YthjdlanmfiofdaaDoor.ln Go.Proofs.YthjdlanmfiofdaaDoor.hd Go.Proofs.YthjdlanmfiofdaaDoor.lb

/-! ### bytes -/
def odd (x : Int) : Bool := !isEv x
noncomputable def aU (a b : Int) : Int := bits .and .u8 a b
noncomputable def oU (a b : Int) : Int := bits .or .u8 a b
theorem podd_tree (b : Int) (R : Out → Prop) : (t_podd [.c (.i .u8 b)] []).run R = sel (decide (0 ≤ b)) (sel (decide (b < (tab.size : Int))) (R (oB ((IntKind.i64.wrap (byteAt tab b.toNat)).tmod 2 == 1))) False) False := by kernel_rfl
theorem tab_odd : ∀ n < 256, ((IntKind.i64.wrap (byteAt tab n)).tmod 2 == 1) = odd (Int.ofNat n) := by decide +kernel
noncomputable def tOddV : Con := fun args regs => match args, regs with
  | [.c (.i .u8 b)], [] => .must (0 ≤ b ∧ b < 256) (.ret (oB (odd b)))
  | _, _ => .fail
set_option maxRecDepth 100000 in
theorem kOddV : Known Tryd.prog GL 121 tOddV := by
  refine (known_gl k_podd).less fun args regs R h => Box.out ?_
  unfold tOddV at h
  split at h
  case h_2 => exact h.elim
  rename_i b
  have h1 := h.1
  have h2 : R (oB (odd b)) := h.2
  clear h
  refine Box.of_eq (podd_tree b R) (selT (dT h1.1) (selT (dT (by rw [tab_size]; exact h1.2)) ?_))
  obtain ⟨n, hn, rfl⟩ := byte_nat h1
  rw [show (Int.ofNat n).toNat = n from rfl, tab_odd n hn]
  exact h2
noncomputable def mkO (c : Int) : Int := bif odd (aU c 127) then aU c 127 else oU (aU c 127) 128
theorem aU_in (a b : Int) : 0 ≤ aU a b ∧ aU a b < 256 := by
  unfold aU bits
  rw [IntKind.wrap_u8]
  omega
theorem oU_in (a b : Int) : 0 ≤ oU a b ∧ oU a b < 256 := by
  unfold oU bits
  rw [IntKind.wrap_u8]
  omega
theorem mkO_in (c : Int) : 0 ≤ mkO c ∧ mkO c < 256 := by
  unfold mkO
  cases odd (aU c 127) with
  | true => exact aU_in _ _
  | false => exact oU_in _ _
noncomputable def c_mk2 : FuncId → Option Con := conOf [(121, tOddV)]
theorem kc_mk2 : ∀ f T, c_mk2 f = some T → Known Tryd.prog GL f T := (Knowns.cons kOddV .nil).get
noncomputable def t_mk2 : Con := fun args regs => nfun Tryd.prog GL c_mk2 [] Tryd.f114 args regs
theorem k_mk2 : Known Tryd.prog GL 114 t_mk2 := known_inl Tryd.func114 rfl (by kernel_rfl) mixed kc_mk2 (by kernel_rfl)
theorem mk2_tree (c : Int) (R : Out → Prop) : (t_mk2 [.c (.i .u8 c)] []).run R = ((0 ≤ aU c 127 ∧ aU c 127 < 256) ∧ sel (odd (aU c 127)) (R ⟨.v (.c (.i .u8 (aU c 127))), []⟩) (R ⟨.v (.c (.i .u8 (oU (aU c 127) 128))), []⟩)) := by kernel_rfl
noncomputable def tMkO : Con := fun args regs => match args, regs with
  | [.c (.i .u8 c)], [] => .ret ⟨.v (.c (.i .u8 (mkO c))), []⟩
  | _, _ => .fail
set_option maxRecDepth 100000 in
theorem kMkO : Known Tryd.prog GL 114 tMkO := by
  refine k_mk2.less fun args regs R h => Box.out ?_
  unfold tMkO at h
  split at h
  case h_2 => exact h.elim
  rename_i c
  have h2 : R ⟨.v (.c (.i .u8 (mkO c))), []⟩ := h
  clear h
  refine Box.of_eq (mk2_tree c R) ⟨aU_in _ _, ?_⟩
  unfold mkO at h2
  cases hc : odd (aU c 127) with
  | true => rw [hc] at h2; exact selT rfl h2
  | false => rw [hc] at h2; exact selF rfl h2
/-- A byte with its bits the other way round. -/
def revN (x : Nat) : Nat := (List.range 8).foldl (fun a i => a + (x / 2 ^ i % 2) * 2 ^ (7 - i)) 0
def rv (b : Int) : Int := (revN b.toNat : Int)
noncomputable def rtab : ByteArray := ⟨((List.range 256).map fun i => UInt8.ofNat (revN i)).toArray⟩
theorem turn_tree (b : Int) (R : Out → Prop) : (t_pturn [.c (.i .u8 b)] []).run R = sel (decide (0 ≤ b)) (sel (decide (b < (rtab.size : Int))) (R ⟨.v (.c (.i .u8 (byteAt rtab b.toNat))), []⟩) False) False := by kernel_rfl
theorem rtab_size : rtab.size = 256 := by decide +kernel
theorem rtab_rev : ∀ n < 256, byteAt rtab n = rv (Int.ofNat n) := by decide +kernel
noncomputable def tTurn : Con := fun args regs => match args, regs with
  | [.c (.i .u8 b)], [] => .must (0 ≤ b ∧ b < 256) (.ret ⟨.v (.c (.i .u8 (rv b))), []⟩)
  | _, _ => .fail
set_option maxRecDepth 100000 in
theorem kTurn : Known Tryd.prog GL 84 tTurn := by
  refine k_pturn.less fun args regs R h => Box.out ?_
  unfold tTurn at h
  split at h
  case h_2 => exact h.elim
  rename_i b
  have h1 := h.1
  have h2 : R ⟨.v (.c (.i .u8 (rv b))), []⟩ := h.2
  clear h
  refine Box.of_eq (turn_tree b R) (selT (dT h1.1) (selT (dT (by rw [rtab_size]; exact h1.2)) ?_))
  obtain ⟨n, hn, rfl⟩ := byte_nat h1
  rw [show (Int.ofNat n).toNat = n from rfl, rtab_rev n hn]
  exact h2
/-! ### digits -/
noncomputable abbrev fDigs := Tryd.f110
noncomputable def X_dg : Cx := { P := Tryd.prog, con := fun _ => Option.none, glob := GL, m := 0, loops := [] }
noncomputable def sDg (bs : List Int) (n k : Int) : St := { fr := frame 41 [(0, .v (.c (.l .u8 bs))), (6, .v (.c (.i .i64 n))), (7, .v (.c (.i .i64 k)))], rg := [] }
noncomputable def dDg (n : Int) : St := { fr := frame 41 [(6, .v (.c (.i .i64 n)))], rg := [] }
noncomputable def rDg (n : Int) : St := { fr := frame 41 [(4, .v (.c (.i .i64 0))), (5, .v (.c (.b false))), (6, .v (.c (.i .i64 n)))], rg := [] }
noncomputable def kD (k : Int) : Int := IntKind.i64.wrap (k.tdiv 2)
noncomputable def shD (k : Int) : Int := IntKind.i64.wrap (4 - IntKind.i64.wrap (4 * k.tmod 2))
noncomputable def dAt (bs : List Int) (k : Int) : Int := IntKind.i64.wrap (IntKind.i64.wrap (aU (shrv .u8 (bs.getD (kD k).toNat 0) (shD k)) 15) - 1)
noncomputable def ac (n d : Int) : Int := IntKind.i64.wrap (IntKind.i64.wrap (10 * n) + d)
theorem round_dg (bs : List Int) (n k : Int) (R : RO → Prop) : (roundT X_dg 0 [0, 6, 7] [4, 5, 6] (bodyLoop fDigs 0) (sDg bs n k)).run R =
    sel (decide (k < IntKind.i64.wrap (2 * (bs.length : Int)))) (sel (decide (0 ≤ kD k)) (sel (decide (kD k < (bs.length : Int))) (sel (decide ((kD k).toNat < bs.length)) (sel (decide (0 ≤ shD k)) (sel (decide (dAt bs k < 0)) (R (.done .ret (rDg n))) (sel (decide (dAt bs k > 9)) (R (.done .ret (rDg n))) (R (.next (sDg bs (ac n (dAt bs k)) (IntKind.i64.wrap (k + 1))))))) False) False) False) False) (R (.done .normal (dDg n))) := by kernel_rfl
def okd (d : Int) : Bool := !(decide (d < 0) || decide (d > 9))
noncomputable def goD (bs : List Int) : Nat → Nat → Int → Bool × Int
  | 0, _, n => (true, n)
  | r + 1, k, n => bif okd (dAt bs (k : Int)) then goD bs r (k + 1) (ac n (dAt bs (k : Int))) else (false, n)
noncomputable def pDg : List Pat := pats 41 [(0, .l .u8), (6, .i .i64), (7, .i .i64)]
noncomputable def lDg : List Leaf × List (List Leaf) → Tr (NExit × St) := fun x => match x with
  | ([.l bs, .i n, .i k], []) => .must (bs.length < 1000 ∧ 0 ≤ k ∧ k ≤ 2 * (bs.length : Int)) (.br (goD bs (2 * bs.length - k.toNat) k.toNat n).1 (.ret (.normal, dDg (goD bs (2 * bs.length - k.toNat) k.toNat n).2)) (.ret (.ret, rDg (goD bs (2 * bs.length - k.toNat) k.toNat n).2)))
  | _ => .fail
def muDg : List Leaf × List (List Leaf) → Nat := fun x => match x with
  | ([.l bs, .i _, .i k], _) => (2 * (bs.length : Int) - k).toNat
  | _ => 0
set_option maxRecDepth 100000 in
theorem loop_dg : LOk Tryd.prog GL 0 0 (bodyLoop fDigs 0) (sumP pDg [] lDg) := by
  refine sumP_ok (X := X_dg) con_none mixed (LAll.none (by kernel_rfl)) [0, 6, 7] [4, 5, 6] _ _ _ muDg ?_
  rintro ⟨p, q⟩ R h
  unfold lDg at h
  split at h
  case h_2 => exact h.elim
  rename_i bs n k he
  cases he
  have h1 := h.1
  have h2 : sel (goD bs (2 * bs.length - k.toNat) k.toNat n).1 (R (.normal, dDg (goD bs (2 * bs.length - k.toNat) k.toNat n).2)) (R (.ret, rDg (goD bs (2 * bs.length - k.toNat) k.toNat n).2)) := h.2
  clear h
  obtain ⟨hl, hk0, hk⟩ := h1
  show (roundT X_dg 0 [0, 6, 7] [4, 5, 6] (bodyLoop fDigs 0) (sDg bs n k)).run _
  rw [round_dg]
  have w1 : IntKind.i64.wrap (2 * (bs.length : Int)) = 2 * (bs.length : Int) := by rw [IntKind.wrap_i64]; omega
  rw [w1]
  refine sel_by (fun hlt => ?_) fun hge => ?_
  · have ek : kD k = k / 2 := by
      unfold kD
      rw [Int.tdiv_eq_ediv_of_nonneg hk0, IntKind.wrap_i64]
      omega
    have es : shD k = 4 - 4 * (k % 2) := by
      unfold shD
      rw [Int.tmod_eq_emod_of_nonneg hk0, IntKind.wrap_i64, IntKind.wrap_i64]
      omega
    have w2 : IntKind.i64.wrap (k + 1) = k + 1 := by rw [IntKind.wrap_i64]; omega
    rw [ek, es, w2]
    refine selT (dT (by omega)) (selT (dT (by omega)) (selT (dT (by omega)) (selT (dT (by omega)) ?_)))
    obtain ⟨r, hr⟩ : ∃ r, 2 * bs.length - k.toNat = r + 1 := ⟨2 * bs.length - k.toNat - 1, by omega⟩
    have er : 2 * bs.length - (k + 1).toNat = r := by omega
    have ekn : (k + 1).toNat = k.toNat + 1 := by omega
    rw [hr] at h2
    have eu : goD bs (r + 1) k.toNat n = bif okd (dAt bs (k.toNat : Int)) then goD bs r (k.toNat + 1) (ac n (dAt bs (k.toNat : Int))) else (false, n) := rfl
    rw [eu, show ((k.toNat : Nat) : Int) = k by omega] at h2
    unfold okd at h2
    cases e1 : decide (dAt bs k < 0) with
    | true => rw [e1] at h2; exact selT rfl h2
    | false =>
      refine selF rfl ?_
      cases e2 : decide (dAt bs k > 9) with
      | true => rw [e1, e2] at h2; exact selT rfl h2
      | false =>
        rw [e1, e2] at h2
        have h2 : sel (goD bs r (k.toNat + 1) (ac n (dAt bs k))).1 (R (.normal, dDg (goD bs r (k.toNat + 1) (ac n (dAt bs k))).2)) (R (.ret, rDg (goD bs r (k.toNat + 1) (ac n (dAt bs k))).2)) := h2
        refine selF rfl ⟨([.l bs, .i (ac n (dAt bs k)), .i (k + 1)], []), rfl, by show (2 * (bs.length : Int) - (k + 1)).toNat < (2 * (bs.length : Int) - k).toNat; omega, ⟨hl, by omega, by omega⟩, ?_⟩
        rw [er, ekn]
        exact h2
  · have e0 : 2 * bs.length - k.toNat = 0 := by omega
    rw [e0] at h2
    exact h2
noncomputable def X_digs : Cx := { P := Tryd.prog, con := (fun _ => Option.none), glob := GL, m := 0, loops := [] }
noncomputable def t_digs : Con := fun args regs => if regs.length = 0 then nfun Tryd.prog GL (fun _ => Option.none) [(0, [0, 6, 7], sumP pDg [] lDg)] Tryd.f110 args regs else .fail
theorem k_digs : Known Tryd.prog GL 110 t_digs := known_loops 0 Tryd.func110 rfl (by kernel_rfl) mixed con_none (LAll.one (id := 0) (body := bodyLoop Tryd.f110 0) (by kernel_rfl) rfl loop_dg)
noncomputable def oDg (b : Bool) (n : Int) : Out := ⟨.tu [.c (.i .i64 (bif b then n else 0)), .c (.b b)], []⟩
theorem digs_tree (bs : List Int) (k : Int) (R : Out → Prop) : (t_digs [.c (.l .u8 bs), .c (.i .i64 k)] []).run R = ((bs.length < 1000 ∧ 0 ≤ k ∧ k ≤ 2 * (bs.length : Int)) ∧ sel (goD bs (2 * bs.length - k.toNat) k.toNat 0).1 (R (oDg true (goD bs (2 * bs.length - k.toNat) k.toNat 0).2)) (R (oDg false 0))) := by kernel_rfl
noncomputable def okD (bs : List Int) (k : Int) : Bool := (goD bs (2 * bs.length - k.toNat) k.toNat 0).1
noncomputable def vaD (bs : List Int) (k : Int) : Int := (goD bs (2 * bs.length - k.toNat) k.toNat 0).2
noncomputable def tDigV : Con := fun args regs => match args, regs with
  | [.c (.l .u8 bs), .c (.i .i64 k)], [] => .must (bs.length < 1000 ∧ 0 ≤ k ∧ k ≤ 2 * (bs.length : Int)) (.ret (oDg (okD bs k) (vaD bs k)))
  | _, _ => .fail
set_option maxRecDepth 100000 in
theorem kDigV : Known Tryd.prog GL 110 tDigV := by
  refine k_digs.less fun args regs R h => Box.out ?_
  unfold tDigV at h
  split at h
  case h_2 => exact h.elim
  rename_i bs k
  have h1 := h.1
  have h2 : R (oDg (okD bs k) (vaD bs k)) := h.2
  clear h
  refine Box.of_eq (digs_tree bs k R) ⟨h1, ?_⟩
  unfold okD vaD at h2
  cases e : (goD bs (2 * bs.length - k.toNat) k.toNat 0).1 with
  | true => rw [e] at h2; exact selT rfl h2
  | false => rw [e] at h2; exact selF rfl h2
/-! ### text -/
noncomputable abbrev fText := Tryd.f91
noncomputable abbrev fWords := Tryd.f87
noncomputable def c_tx : FuncId → Option Con := conOf [(114, tMkO)]
theorem kc_tx : ∀ f T, c_tx f = some T → Known Tryd.prog GL f T := (Knowns.cons kMkO .nil).get
noncomputable def X_tx : Cx := { P := Tryd.prog, con := c_tx, glob := GL, m := 0, loops := [] }
def txc (z : ByteArray) (k : Nat) : Int := bif decide ((k : Int) < (z.size : Int)) then byteAt z k else 32
def badC (c : Int) : Bool := decide (c < 32) || decide (c > 127)
noncomputable def txA (z : ByteArray) (k : Nat) : List Int := (List.range k).map fun j => mkO (txc z j)
def badV : Nat → NS
  | 0 => .v (.c .sn)
  | k + 1 => .v (.c (.h 0 0 (k + 1)))
noncomputable def badR (z : ByteArray) : Nat → List (Option Reg)
  | 0 => []
  | k + 1 => [some ⟨1, 5, .ints .u8 (txA z (k + 1))⟩]
noncomputable def badS (z : ByteArray) (k : Nat) : St := { fr := frame 33 [(2, .v (.c .sn)), (3, .v (.c (.b false))), (4, badV k)], rg := badR z k }
noncomputable def sTx0 (z : ByteArray) : St := { fr := frame 33 [(0, .v (.c (.s z))), (4, .v (.c .sn)), (10, .v (.c (.i .i64 0)))], rg := [] }
noncomputable def sTx (z : ByteArray) (A : List Int) (q : Nat) (k : Int) : St := { fr := frame 33 [(0, .v (.c (.s z))), (4, .v (.c (.h 0 0 q))), (10, .v (.c (.i .i64 k)))], rg := [some ⟨1, 5, .ints .u8 A⟩] }
noncomputable def dTx (A : List Int) (q : Nat) : St := { fr := frame 33 [(4, .v (.c (.h 0 0 q)))], rg := [some ⟨1, 5, .ints .u8 A⟩] }
noncomputable def rTx (A : List Int) (q : Nat) : St := { fr := frame 33 [(2, .v (.c .sn)), (3, .v (.c (.b false))), (4, .v (.c (.h 0 0 q)))], rg := [some ⟨1, 5, .ints .u8 A⟩] }
noncomputable def sign0 (z : ByteArray) (c : Int) (R : RO → Prop) : Prop := sel (decide (c < 32)) (R (.done .ret (badS z 0))) (sel (decide (c > 127)) (R (.done .ret (badS z 0))) (R (.next (sTx z [mkO c] 1 1))))
theorem round_tx0 (z : ByteArray) (R : RO → Prop) : (roundT X_tx 0 [0, 4, 10] [2, 3, 4] (bodyLoop fText 0) (sTx0 z)).run R =
    sel (decide ((0 : Int) < (z.size : Int))) (sel (decide ((0 : Int) < (z.size : Int))) (sign0 z (byteAt z 0) R) False) (sign0 z 32 R) := by kernel_rfl
noncomputable def appS (q : Nat) (A : List Int) (X : Prop) : Prop := sel (decide (0 + q ≤ A.length)) (sel (decide ((q + 1) * 1 ≤ 140737488355328)) (sel (decide (q + 1 ≤ 9223372036854775807)) X False) False) False
noncomputable def sign1 (z : ByteArray) (A : List Int) (q : Nat) (k c : Int) (R : RO → Prop) : Prop := sel (decide (c < 32)) (R (.done .ret (rTx A q))) (sel (decide (c > 127)) (R (.done .ret (rTx A q))) (appS q A (R (.next (sTx z (List.take q (List.drop 0 A) ++ [mkO c]) (q + 1) (IntKind.i64.wrap (k + 1)))))))
theorem round_tx (z : ByteArray) (A : List Int) (q : Nat) (k : Int) (R : RO → Prop) : (roundT X_tx 0 [0, 4, 10] [2, 3, 4] (bodyLoop fText 0) (sTx z A q k)).run R =
    sel (decide (k < 20)) (sel (decide (k < (z.size : Int))) (sel (decide (0 ≤ k)) (sel (decide (k < (z.size : Int))) (sign1 z A q k (byteAt z k.toNat) R) False) False) (sign1 z A q k 32 R)) (R (.done .normal (dTx A q))) := by kernel_rfl
noncomputable def badz (z : ByteArray) (k : Nat) : Bool := badC (txc z k)
/-- The first sign that may not be. -/
noncomputable def fst (z : ByteArray) : Nat → Nat → Option Nat
  | 0, _ => none
  | r + 1, k => bif badz z k then some k else fst z r (k + 1)
noncomputable def gTx (z : ByteArray) (k : Nat) : St := match k with
  | 0 => sTx0 z
  | k + 1 => sTx z (txA z (k + 1)) (k + 1) ((k + 1 : Nat) : Int)
noncomputable def preTx (z : ByteArray) (k : Nat) (R : NExit × St → Prop) : Prop := k ≤ 20 ∧ sel (fst z (20 - k) k).isNone (R (.normal, dTx (txA z 20) 20)) (R (.ret, badS z ((fst z (20 - k) k).getD 0)))
noncomputable def pTx0 : List Pat := pats 33 [(0, .s), (4, .sn), (10, .i .i64)]
noncomputable def lTx : List Leaf × List (List Leaf) → Tr (NExit × St) := fun x => match x with
  | ([.s z, .i k], []) => .must (k = 0) (.br (fst z 20 0).isNone (.ret (.normal, dTx (txA z 20) 20)) (.ret (.ret, badS z ((fst z 20 0).getD 0))))
  | _ => .fail
theorem mk_tx0 (z : ByteArray) : mkSt pTx0 [] ([.s z, .i 0], []) = sTx0 z := by kernel_rfl
theorem txA_len (z : ByteArray) (k : Nat) : (txA z k).length = k := by unfold txA; rw [List.length_map, List.length_range]
theorem txA_next (z : ByteArray) (k : Nat) : List.take k (List.drop 0 (txA z k)) ++ [mkO (txc z k)] = txA z (k + 1) := by
  rw [List.drop_zero, List.take_of_length_le (by rw [txA_len]; omega)]
  unfold txA
  rw [List.range_succ, List.map_append]
  rfl
set_option maxRecDepth 100000 in
theorem lTx_inv {x : List Leaf × List (List Leaf)} {R : NExit × St → Prop} (h : (lTx x).run R) : ∃ z, x = ([.s z, .i 0], []) ∧ preTx z 0 R := by
  unfold lTx at h
  split at h
  case h_2 => exact h.elim
  have h1 := h.1
  have h2 := h.2
  clear h
  subst h1
  exact ⟨_, rfl, by decide, h2⟩
/-- What a sign that may be, or may not, leads to. -/
theorem pre_step {z : ByteArray} {k : Nat} {R : NExit × St → Prop} (hk : k < 20) (h : preTx z k R) : (badz z k = true → R (.ret, badS z k)) ∧ (badz z k = false → preTx z (k + 1) R) := by
  obtain ⟨_, h⟩ := h
  obtain ⟨r, hr⟩ : ∃ r, 20 - k = r + 1 := ⟨20 - k - 1, by omega⟩
  have er : 20 - (k + 1) = r := by omega
  rw [hr] at h
  have eu : fst z (r + 1) k = bif badz z k then some k else fst z r (k + 1) := rfl
  rw [eu] at h
  refine ⟨fun hb => ?_, fun hb => ⟨by omega, ?_⟩⟩
  · rw [hb] at h
    exact h
  · rw [hb] at h
    rw [er]
    exact h
theorem bad_in {c : Int} {A : Prop} {B : Prop} (h1 : badC c = true → A) (h2 : badC c = false → B) : sel (decide (c < 32)) A (sel (decide (c > 127)) A B) := by
  unfold badC at h1 h2
  cases e1 : decide (c < 32) with
  | true => rw [e1] at h1; exact selT rfl (h1 rfl)
  | false =>
    rw [e1] at h1 h2
    refine selF rfl ?_
    cases e2 : decide (c > 127) with
    | true => rw [e2] at h1; exact selT rfl (h1 rfl)
    | false => rw [e2] at h2; exact selF rfl (h2 rfl)
set_option maxRecDepth 100000 in
theorem loop_tx : LOk Tryd.prog GL 0 0 (bodyLoop fText 0) (sumP pTx0 [] lTx) := by
  refine loop_ok (X := X_tx) kc_tx mixed (LAll.none (by kernel_rfl)) [0, 4, 10] [2, 3, 4] (fun x : ByteArray × Nat => gTx x.1 x.2) (fun x => 20 - x.2) (fun x R => preTx x.1 x.2 R) (fun s R h => ?_) ?_
  · unfold sumP at h
    split at h
    · rename_i p q h1 h2
      obtain ⟨z, he, hp⟩ := lTx_inv h
      refine ⟨(z, 0), ?_, hp⟩
      show s = sTx0 z
      rw [← mk_tx0 z, ← he]
      unfold mkSt
      rw [readL_spec (fun p x l h => Pat.readS_spec h) h1, readRg_spec h2]
    · exact h.elim
  · rintro ⟨z, k⟩ R hp
    have hp : preTx z k R := hp
    cases k with
    | zero =>
      show (roundT X_tx 0 [0, 4, 10] [2, 3, 4] (bodyLoop fText 0) (sTx0 z)).run _
      rw [round_tx0]
      obtain ⟨hb, hg⟩ := pre_step (by decide) hp
      have go : badz z 0 = false → ∃ y : ByteArray × Nat, sTx z [mkO (txc z 0)] 1 1 = gTx y.1 y.2 ∧ 20 - y.2 < 20 - 0 ∧ preTx y.1 y.2 R := fun h => ⟨(z, 1), rfl, by show 20 - 1 < 20 - 0; decide, hg h⟩
      refine sel_by (fun h => selT (dT h) ?_) fun h => ?_
      · have e : txc z 0 = byteAt z 0 := by unfold txc; rw [dT (by simpa using h)]; rfl
        unfold badz at hb go
        rw [e] at hb go
        exact bad_in hb go
      · have e : txc z 0 = 32 := by unfold txc; rw [dF (by simpa using h)]; rfl
        unfold badz at hb go
        rw [e] at hb go
        exact bad_in hb go
    | succ k =>
      show (roundT X_tx 0 [0, 4, 10] [2, 3, 4] (bodyLoop fText 0) (sTx z (txA z (k + 1)) (k + 1) ((k + 1 : Nat) : Int))).run _
      rw [round_tx]
      refine sel_by (fun hlt => ?_) fun hge => ?_
      · have hk : k + 1 < 20 := by omega
        obtain ⟨hb, hg⟩ := pre_step hk hp
        have w2 : IntKind.i64.wrap (((k + 1 : Nat) : Int) + 1) = ((k + 1 + 1 : Nat) : Int) := by rw [IntKind.wrap_i64]; omega
        have en : (((k + 1 : Nat) : Int)).toNat = k + 1 := by omega
        have go : badz z (k + 1) = false → ∃ y : ByteArray × Nat, sTx z (List.take (k + 1) (List.drop 0 (txA z (k + 1))) ++ [mkO (txc z (k + 1))]) (k + 1 + 1) (IntKind.i64.wrap (((k + 1 : Nat) : Int) + 1)) = gTx y.1 y.2 ∧ 20 - y.2 < 20 - (k + 1) ∧ preTx y.1 y.2 R := fun h => by
          rw [txA_next, w2]
          exact ⟨(z, k + 1 + 1), rfl, by show 20 - (k + 1 + 1) < 20 - (k + 1); omega, hg h⟩
        have app : ∀ X : Prop, X → appS (k + 1) (txA z (k + 1)) X := fun X hX => selT (dT (by rw [txA_len]; omega)) (selT (dT (by omega)) (selT (dT (by omega)) hX))
        refine sel_by (fun h => selT (dT (by omega)) (selT (dT h) ?_)) fun h => ?_
        · have e : txc z (k + 1) = byteAt z (k + 1) := by unfold txc; rw [dT h]; rfl
          rw [en]
          unfold badz at hb go
          rw [e] at hb go
          exact bad_in hb fun hc => app _ (go hc)
        · have e : txc z (k + 1) = 32 := by unfold txc; rw [dF h]; rfl
          unfold badz at hb go
          rw [e] at hb go
          exact bad_in hb fun hc => app _ (go hc)
      · have hk : k + 1 = 20 := by have := hp.1; omega
        have h := hp.2
        rw [hk] at h ⊢
        exact h
noncomputable def c_txt : FuncId → Option Con := conOf [(114, tMkO)]
theorem kc_txt : ∀ f T, c_txt f = some T → Known Tryd.prog GL f T := (Knowns.cons kMkO .nil).get
noncomputable def X_txt : Cx := { P := Tryd.prog, con := c_txt, glob := GL, m := 0, loops := [] }
noncomputable def t_txt : Con := fun args regs => if regs.length = 0 then nfun Tryd.prog GL c_txt [(0, [0, 4, 10], sumP pTx0 [] lTx)] Tryd.f91 args regs else .fail
theorem k_txt : Known Tryd.prog GL 91 t_txt := known_loops 0 Tryd.func91 rfl (by kernel_rfl) mixed kc_txt (LAll.one (id := 0) (body := bodyLoop Tryd.f91 0) (by kernel_rfl) rfl loop_tx)
noncomputable def oTxN : Out := ⟨.tu [.c .sn, .c (.b false)], []⟩
noncomputable def oTxY (z : ByteArray) : Out := ⟨.tu [.c (.h 0 0 20), .c (.b true)], [some ⟨1, 5, .ints .u8 (txA z 20)⟩]⟩
theorem txt_tree (z : ByteArray) (R : Out → Prop) : (t_txt [.c (.s z)] []).run R = sel (decide ((z.size : Int) > 20)) (R oTxN) (0 = (0 : Int) ∧ sel (fst z 20 0).isNone (R (oTxY z)) (R oTxN)) := by kernel_rfl
noncomputable def okTx (z : ByteArray) : Bool := !decide ((z.size : Int) > 20) && (fst z 20 0).isNone
noncomputable def tTxt : Con := fun args regs => match args, regs with
  | [.c (.s z)], [] => .br (okTx z) (.ret (oTxY z)) (.ret oTxN)
  | _, _ => .fail
set_option maxRecDepth 100000 in
theorem kTxt : Known Tryd.prog GL 91 tTxt := by
  refine k_txt.less fun args regs R h => Box.out ?_
  unfold tTxt at h
  split at h
  case h_2 => exact h.elim
  rename_i z
  have h2 : sel (okTx z) (R (oTxY z)) (R oTxN) := h
  clear h
  refine Box.of_eq (txt_tree z R) ?_
  unfold okTx at h2
  cases e1 : decide ((z.size : Int) > 20) with
  | true => rw [e1] at h2; exact selT rfl h2
  | false => rw [e1] at h2; exact selF rfl ⟨rfl, h2⟩
end Go.Proofs.YthjdlanmfiofdaaDoor.sv

namespace Go.Proofs.YthjdlanmfiofdaaDoor.sv
open Go Go.Nx Go.Proofs.YthjdlanmfiofdaaDoor.pk Go.Proofs.YthjdlanmfiofdaaDoor.ln Go.Proofs.YthjdlanmfiofdaaDoor.hd Go.Proofs.YthjdlanmfiofdaaDoor.lb

noncomputable def c_ptx : FuncId → Option Con := conOf [(121, tOddV)]
theorem kc_ptx : ∀ f T, c_ptx f = some T → Known Tryd.prog GL f T := (Knowns.cons kOddV .nil).get
noncomputable def X_ptx : Cx := { P := Tryd.prog, con := c_ptx, glob := GL, m := 0, loops := [] }
noncomputable def t_ptx : Con := fun args regs => if regs.length = 0 then nfun Tryd.prog GL c_ptx [(0, [4, 5, 8, 9, 10], unroll X_ptx 0 [4, 5, 8, 9, 10] [4, 5] (bodyLoop Tryd.f111 0) 21)] Tryd.f111 args regs else .fail
theorem k_ptx : Known Tryd.prog GL 111 t_ptx := known_loops 0 Tryd.func111 rfl (by kernel_rfl) mixed kc_ptx (LAll.one (id := 0) (body := bodyLoop Tryd.f111 0) (by kernel_rfl) rfl (unroll_ok (X := X_ptx) kc_ptx mixed (LAll.none (by kernel_rfl)) [4, 5, 8, 9, 10] [4, 5] 21))
noncomputable def oPT (bs : List Int) : Out := ⟨.tu [.c (.h 0 0 20), .c (.h 1 0 20)], [some ⟨1, 5, .ints .u8 (bs.map fun x => aU x 127)⟩, some ⟨1, 4, .recs [.b] (bs.map fun x => [Sc.b (odd x)])⟩]⟩
theorem ptx_tree (g : Nat → Int) (R : Out → Prop) : (t_ptx [.c (.l .u8 ((List.range 20).map g))] []).run R = ((0 ≤ g 0 ∧ g 0 < 256) ∧ ((0 ≤ g 1 ∧ g 1 < 256) ∧ ((0 ≤ g 2 ∧ g 2 < 256) ∧ ((0 ≤ g 3 ∧ g 3 < 256) ∧ ((0 ≤ g 4 ∧ g 4 < 256) ∧ ((0 ≤ g 5 ∧ g 5 < 256) ∧ ((0 ≤ g 6 ∧ g 6 < 256) ∧ ((0 ≤ g 7 ∧ g 7 < 256) ∧ ((0 ≤ g 8 ∧ g 8 < 256) ∧ ((0 ≤ g 9 ∧ g 9 < 256) ∧ ((0 ≤ g 10 ∧ g 10 < 256) ∧ ((0 ≤ g 11 ∧ g 11 < 256) ∧ ((0 ≤ g 12 ∧ g 12 < 256) ∧ ((0 ≤ g 13 ∧ g 13 < 256) ∧ ((0 ≤ g 14 ∧ g 14 < 256) ∧ ((0 ≤ g 15 ∧ g 15 < 256) ∧ ((0 ≤ g 16 ∧ g 16 < 256) ∧ ((0 ≤ g 17 ∧ g 17 < 256) ∧ ((0 ≤ g 18 ∧ g 18 < 256) ∧ ((0 ≤ g 19 ∧ g 19 < 256) ∧ R (oPT ((List.range 20).map g)))))))))))))))))))))) := by kernel_rfl
noncomputable def tPT : Con := fun args regs => match args, regs with
  | [.c (.l .u8 bs)], [] => .must (bs.length = 20 ∧ ∀ x ∈ bs, 0 ≤ x ∧ x < 256) (.ret (oPT bs))
  | _, _ => .fail
theorem range_n {ds : List Int} {n : Nat} (h : ds.length = n) : ds = (List.range n).map fun i => ds.getD i 0 := by
  refine List.ext_getElem (by simp [h]) fun j h1 h2 => ?_
  rw [List.getElem_map, List.getElem_range, List.getD_eq_getElem?_getD, List.getElem?_eq_getElem h1]
  rfl
theorem g_in {g : Nat → Int} {n : Nat} (h : ∀ x ∈ (List.range n).map g, 0 ≤ x ∧ x < 256) (j : Nat) (hj : j < n) : 0 ≤ g j ∧ g j < 256 := h _ (List.mem_map.2 ⟨j, List.mem_range.2 hj, rfl⟩)
theorem ptx_in {bs : List Int} {R : Out → Prop} (hl : bs.length = 20) (hb : ∀ x ∈ bs, 0 ≤ x ∧ x < 256) (h : R (oPT bs)) : Box ((t_ptx [.c (.l .u8 bs)] []).run R) := by
  have e := range_n hl
  generalize (fun i => bs.getD i 0) = g at e
  subst e
  have hi := g_in hb
  exact Box.of_eq (ptx_tree g R) ⟨hi 0 (by decide), hi 1 (by decide), hi 2 (by decide), hi 3 (by decide), hi 4 (by decide), hi 5 (by decide), hi 6 (by decide), hi 7 (by decide), hi 8 (by decide), hi 9 (by decide), hi 10 (by decide), hi 11 (by decide), hi 12 (by decide), hi 13 (by decide), hi 14 (by decide), hi 15 (by decide), hi 16 (by decide), hi 17 (by decide), hi 18 (by decide), hi 19 (by decide), h⟩
set_option maxRecDepth 100000 in
theorem kPT : Known Tryd.prog GL 111 tPT := by
  refine k_ptx.less fun args regs R h => Box.out ?_
  unfold tPT at h
  split at h
  case h_2 => exact h.elim
  have h1 := h.1
  have h2 := h.2
  clear h
  exact ptx_in h1.1 h1.2 h2
theorem mapF_stop (g : Nat → Int → Int) (i : Nat) : ∀ (k : Nat) (xs : List Int), k + xs.length ≤ i → mapF g i k xs = xs
  | _, [], _ => rfl
  | k, x :: xs, h => by
    have h : k + (xs.length + 1) ≤ i := h
    show (bif Nat.blt k i then x else _) :: mapF g i (k + 1) xs = _
    rw [blt_t (by omega), mapF_stop g i (k + 1) xs (by omega)]
    rfl
theorem set_self (xs : List Int) (i : Nat) (h : i < xs.length) : xs.set i (xs.getD i 0) = xs := by
  rw [List.getD_eq_getElem?_getD, List.getElem?_eq_getElem h]
  exact List.set_getElem_self h
noncomputable def X_wd : Cx := { P := Tryd.prog, con := fun _ => Option.none, glob := GL, m := 0, loops := [] }
noncomputable def sWd (A : List Int) (B : List (List Sc)) (q q2 : Nat) (n i : Int) : St := { fr := frame 34 [(3, .v (.c (.h 0 0 q))), (4, .v (.c (.h 1 0 q2))), (12, .v (.c (.i .i64 n))), (13, .v (.c (.i .i64 i)))], rg := [some ⟨1, 5, .ints .u8 A⟩, some ⟨1, 4, .recs [.b] B⟩] }
noncomputable def dWd (A : List Int) (q : Nat) : St := { fr := frame 34 [(3, .v (.c (.h 0 0 q)))], rg := [some ⟨1, 5, .ints .u8 A⟩] }
def bW (B : List (List Sc)) (j : Nat) : Bool := ((B.getD j []).getD 0 (Sc.i 0)).t
def inW (A : List Int) (q : Nat) (i : Int) (X : Prop) : Prop := sel (decide (0 ≤ i)) (sel (decide (i < (q : Int))) (sel (decide (0 + i.toNat < A.length)) X False) False) False
def inWB (B : List (List Sc)) (q : Nat) (i : Int) (X : Prop) : Prop := sel (decide (0 ≤ i)) (sel (decide (i < (q : Int))) (sel (decide (0 + i.toNat < B.length)) X False) False) False
theorem round_wd (A : List Int) (B : List (List Sc)) (q q2 : Nat) (n i : Int) (R : RO → Prop) : (roundT X_wd 0 [3, 4, 12, 13] [3] (bodyLoop fWords 0) (sWd A B q q2 n i)).run R =
    sel (decide (i < n)) (inWB B q2 i (sel (!bW B (0 + i.toNat)) (inW A q i (R (.next (sWd (setI A (0 + i.toNat) 32 0) B q q2 n (IntKind.i64.wrap (i + 1)))))) (inW A q i (sel (decide (A.getD (0 + i.toNat) 0 < 32)) (inW A q i (R (.next (sWd (setI A (0 + i.toNat) 32 0) B q q2 n (IntKind.i64.wrap (i + 1)))))) (R (.next (sWd A B q q2 n (IntKind.i64.wrap (i + 1))))))))) (R (.done .normal (dWd A q))) := by kernel_rfl
noncomputable def wdG (B : List (List Sc)) (k : Nat) (x : Int) : Int := bif !bW B k || decide (x < 32) then 32 else x
noncomputable def pWd : List Pat := pats 34 [(3, .h 0 0), (4, .h 1 0), (12, .i .i64), (13, .i .i64)]
def rWd : List RPat := [.ints 1 5 .u8, .recs 1 4 [.b]]
noncomputable def lWd : List Leaf × List (List Leaf) → Tr (NExit × St) := fun x => match x with
  | ([.n q, .n q2, .i n, .i i], [[.l A], [.r B]]) => .must (q = A.length ∧ q2 = A.length ∧ B.length = A.length ∧ n = (A.length : Int) ∧ A.length < 1000 ∧ 0 ≤ i ∧ i ≤ n) (.ret (.normal, dWd (mapF (wdG B) i.toNat 0 A) q))
  | _ => .fail
def muWd : List Leaf × List (List Leaf) → Nat := fun x => match x with
  | ([.n _, .n _, .i n, .i i], _) => (n - i).toNat
  | _ => 0
set_option maxRecDepth 100000 in
theorem loop_wd : LOk Tryd.prog GL 0 0 (bodyLoop fWords 0) (sumP pWd rWd lWd) := by
  refine sumP_ok (X := X_wd) con_none mixed (LAll.none (by kernel_rfl)) [3, 4, 12, 13] [3] _ _ _ muWd ?_
  rintro ⟨p, q⟩ R h
  unfold lWd at h
  split at h
  case h_2 => exact h.elim
  rename_i q q2 n i A B he
  cases he
  have h1 := h.1
  have h2 : R (.normal, dWd (mapF (wdG B) i.toNat 0 A) q) := h.2
  clear h
  obtain ⟨hq, hq2, hB, hn, hA, hi0, hi⟩ := h1
  show (roundT X_wd 0 [3, 4, 12, 13] [3] (bodyLoop fWords 0) (sWd A B q q2 n i)).run _
  rw [round_wd]
  refine sel_by (fun hlt => ?_) fun hge => ?_
  · have w2 : IntKind.i64.wrap (i + 1) = i + 1 := by rw [IntKind.wrap_i64]; omega
    have hx : i.toNat < A.length := by omega
    have et : (i + 1).toNat = i.toNat + 1 := by omega
    rw [w2, Nat.zero_add]
    have iA : ∀ X : Prop, X → inW A q i X := fun X h => selT (dT hi0) (selT (dT (by omega)) (selT (dT (by omega)) h))
    have iB : ∀ X : Prop, X → inWB B q2 i X := fun X h => selT (dT hi0) (selT (dT (by omega)) (selT (dT (by omega)) h))
    have go : ∀ A2 : List Int, A2.length = A.length → mapF (wdG B) (i.toNat + 1) 0 A2 = mapF (wdG B) i.toNat 0 A → ∃ y, sWd A2 B q q2 n (i + 1) = mkSt pWd rWd y ∧ muWd y < muWd ([.n q, .n q2, .i n, .i i], [[.l A], [.r B]]) ∧ (lWd y).run R := by
      intro A2 hl hm
      refine ⟨([.n q, .n q2, .i n, .i (i + 1)], [[.l A2], [.r B]]), rfl, by show (n - (i + 1)).toNat < (n - i).toNat; omega, ⟨by omega, by omega, by omega, by omega, by omega, by omega, by omega⟩, ?_⟩
      show R (.normal, dWd (mapF (wdG B) (i + 1).toNat 0 A2) q)
      rw [et, hm]
      exact h2
    have st : wdG B i.toNat (A.getD i.toNat 0) = 32 → ∃ y, sWd (setI A i.toNat 32 0) B q q2 n (i + 1) = mkSt pWd rWd y ∧ muWd y < muWd ([.n q, .n q2, .i n, .i i], [[.l A], [.r B]]) ∧ (lWd y).run R := fun hg => by
      rw [setI_set]
      exact go _ (List.length_set ..) (mapF_set (wdG B) i.toNat 32 0 A i.toNat (by omega) hx hg.symm)
    refine iB _ ?_
    cases hb : bW B i.toNat with
    | false => exact selT rfl (iA _ (st (by unfold wdG; rw [hb]; rfl)))
    | true =>
      refine selF rfl (iA _ ?_)
      cases hc : decide (A.getD i.toNat 0 < 32) with
      | true => exact selT rfl (iA _ (st (by unfold wdG; rw [hb, hc]; rfl)))
      | false =>
        refine selF rfl (go A rfl ?_)
        have hm := mapF_set (wdG B) i.toNat (A.getD i.toNat 0) 0 A i.toNat (by omega) hx (by unfold wdG; rw [hb, hc]; rfl)
        rwa [set_self A i.toNat hx] at hm
  · have e0 : mapF (wdG B) i.toNat 0 A = A := mapF_stop (wdG B) i.toNat 0 A (by omega)
    rw [e0] at h2
    exact h2
noncomputable def c_wds : FuncId → Option Con := conOf [(111, tPT)]
theorem kc_wds : ∀ f T, c_wds f = some T → Known Tryd.prog GL f T := (Knowns.cons kPT .nil).get
noncomputable def X_wds : Cx := { P := Tryd.prog, con := c_wds, glob := GL, m := 0, loops := [] }
noncomputable def t_wds : Con := fun args regs => if regs.length = 0 then nfun Tryd.prog GL c_wds [(0, [3, 4, 12, 13], sumP pWd rWd lWd)] Tryd.f87 args regs else .fail
theorem k_wds : Known Tryd.prog GL 87 t_wds := known_loops 0 Tryd.func87 rfl (by kernel_rfl) mixed kc_wds (LAll.one (id := 0) (body := bodyLoop Tryd.f87 0) (by kernel_rfl) rfl loop_wd)
/-- A byte of text: its sign, or a blank. -/
noncomputable def sgn (x : Int) : Int := bif !odd x || decide (aU x 127 < 32) then 32 else aU x 127
noncomputable def wdA (bs : List Int) : List Int := bs.map fun x => aU x 127
noncomputable def wdB (bs : List Int) : List (List Sc) := bs.map fun x => [Sc.b (odd x)]
theorem wds_tree (g : Nat → Int) (R : Out → Prop) : (t_wds [.c (.l .u8 ((List.range 20).map g))] []).run R = ((((List.range 20).map g).length = 20 ∧ ∀ x ∈ ((List.range 20).map g), 0 ≤ x ∧ x < 256) ∧ (20 = (wdA ((List.range 20).map g)).length ∧ 20 = (wdA ((List.range 20).map g)).length ∧ (wdB ((List.range 20).map g)).length = (wdA ((List.range 20).map g)).length ∧ 20 = ((wdA ((List.range 20).map g)).length : Int) ∧ (wdA ((List.range 20).map g)).length < 1000 ∧ 0 ≤ (0 : Int) ∧ (0 : Int) ≤ 20) ∧ R ⟨.v (.c (.s (strOfNums (((List.range 20).map g).map sgn)))), []⟩) := by kernel_rfl
noncomputable def tWds : Con := fun args regs => match args, regs with
  | [.c (.l .u8 bs)], [] => .must (bs.length = 20 ∧ ∀ x ∈ bs, 0 ≤ x ∧ x < 256) (.ret ⟨.v (.c (.s (strOfNums (bs.map sgn)))), []⟩)
  | _, _ => .fail
theorem wds_in {bs : List Int} {R : Out → Prop} (hl : bs.length = 20) (hb : ∀ x ∈ bs, 0 ≤ x ∧ x < 256) (h : R ⟨.v (.c (.s (strOfNums (bs.map sgn)))), []⟩) : Box ((t_wds [.c (.l .u8 bs)] []).run R) := by
  have e := range_n hl
  generalize (fun i => bs.getD i 0) = g at e
  subst e
  exact Box.of_eq (wds_tree g R) ⟨⟨hl, hb⟩, ⟨rfl, rfl, rfl, rfl, by show 20 < 1000; decide, by decide, by decide⟩, h⟩
set_option maxRecDepth 100000 in
theorem kWds : Known Tryd.prog GL 87 tWds := by
  refine k_wds.less fun args regs R h => Box.out ?_
  unfold tWds at h
  split at h
  case h_2 => exact h.elim
  have h1 := h.1
  have h2 := h.2
  clear h
  exact wds_in h1.1 h1.2 h2
end Go.Proofs.YthjdlanmfiofdaaDoor.sv

namespace Go.Proofs.YthjdlanmfiofdaaDoor.sv
open Go Go.Nx Go.Proofs.YthjdlanmfiofdaaDoor.pk Go.Proofs.YthjdlanmfiofdaaDoor.ln Go.Proofs.YthjdlanmfiofdaaDoor.hd Go.Proofs.YthjdlanmfiofdaaDoor.lb

noncomputable def infC (a b c n o d h m s : Int) (z : ByteArray) : List NC := [.i .i64 a, .i .i64 b, .i .i64 c, .i .i64 n, .i .i64 o, .i .i64 d, .i .i64 h, .i .i64 m, .i .i64 s, .s z]
def fairV (d h m s : Int) : Bool := decide (d ≥ 0) && (decide (d ≤ 99999) && (decide (h ≥ 0) && (decide (h ≤ 23) && (decide (m ≥ 0) && (decide (m ≤ 59) && (decide (s ≥ 0) && decide (s ≤ 59)))))))
theorem sfair_tree (a b c n o d h m s : Int) (z : ByteArray) (R : Out → Prop) : (t_sfair [.ag (infC a b c n o d h m s z)] []).run R =
    sel (decide (d ≥ 0)) (sel (decide (d ≤ 99999)) (sel (decide (h ≥ 0)) (sel (decide (h ≤ 23)) (sel (decide (m ≥ 0)) (sel (decide (m ≤ 59)) (sel (decide (s ≥ 0)) (R (oB (decide (s ≤ 59)))) (R (oB false))) (R (oB false))) (R (oB false))) (R (oB false))) (R (oB false))) (R (oB false))) (R (oB false)) := by kernel_rfl
noncomputable def tFairV : Con := fun args regs => match args, regs with
  | [.ag [.i .i64 _, .i .i64 _, .i .i64 _, .i .i64 _, .i .i64 _, .i .i64 d, .i .i64 h, .i .i64 m, .i .i64 s, .s _]], [] => .ret (oB (fairV d h m s))
  | _, _ => .fail
theorem and_in {x y : Bool} {R : Out → Prop} {X : Prop} (h : R (oB (x && y))) (hX : R (oB y) → X) : sel x X (R (oB false)) := by
  cases x with
  | true => exact selT rfl (hX h)
  | false => exact selF rfl h
set_option maxRecDepth 100000 in
theorem kFairV : Known Tryd.prog GL 92 tFairV := by
  refine k_sfair.less fun args regs R h => Box.out ?_
  unfold tFairV at h
  split at h
  case h_2 => exact h.elim
  rename_i a b c n o d hr m s z
  have h2 : R (oB (fairV d hr m s)) := h
  clear h
  refine Box.of_eq (sfair_tree a b c n o d hr m s z R) ?_
  unfold fairV at h2
  exact and_in h2 fun h => and_in h fun h => and_in h fun h => and_in h fun h => and_in h fun h => and_in h fun h => and_in h fun h => h
noncomputable def c_clk : FuncId → Option Con := conOf [(62, t_partU), (110, tDigV), (92, tFairV)]
theorem kc_clk : ∀ f T, c_clk f = some T → Known Tryd.prog GL f T := (Knowns.cons k_partU (.cons kDigV (.cons kFairV .nil))).get
noncomputable def X_clk : Cx := { P := Tryd.prog, con := c_clk, glob := GL, m := 1, loops := [] }
noncomputable def t_clk : Con := fun args regs => if regs.length = 1 then nfun Tryd.prog GL c_clk [] Tryd.f86 args regs else .fail
theorem k_clk : Known Tryd.prog GL 86 t_clk := known_loops 1 Tryd.func86 rfl (by kernel_rfl) mixed kc_clk (LAll.none (by kernel_rfl))
def mDg (bs : List Int) (k : Int) : Prop := bs.length < 1000 ∧ 0 ≤ k ∧ k ≤ 2 * (bs.length : Int)
noncomputable def vD (bs : List Int) (k : Int) : Int := bif okD bs k then vaD bs k else 0
noncomputable def oClk (a b e n o : Int) (z : ByteArray) (D H M S : Int) (x : Bool) : Out := ⟨.v (.c (.b x)), [some ⟨10, 85, .cells (infC a b e n o D H M S z)⟩]⟩
noncomputable def clkG (g : Nat → Int) : Bool := okD [g 9, g 10, g 11] 1 && (okD [g 12] 0 && (okD [g 13] 0 && (okD [g 14] 0 && fairV (vD [g 9, g 10, g 11] 1) (vD [g 12] 0) (vD [g 13] 0) (vD [g 14] 0))))
noncomputable def oCk (a b e n o : Int) (z : ByteArray) (g : Nat → Int) (x : Bool) : Out := oClk a b e n o z (vD [g 9, g 10, g 11] 1) (vD [g 12] 0) (vD [g 13] 0) (vD [g 14] 0) x
theorem clk_tree (g : Nat → Int) (m r k c a b e n o d h mi s : Int) (z : ByteArray) (R : Out → Prop) : (t_clk [.c (.p 0 0 0), .ag [.i .i64 m, .i .i64 r, .i .i64 k, .i .i64 c, .l .u8 ((List.range 39).map g)]] [⟨10, 85, .cells (infC a b e n o d h mi s z)⟩]).run R =
    (mDg [g 9, g 10, g 11] 1 ∧ (mDg [g 12] 0 ∧ (mDg [g 13] 0 ∧ (mDg [g 14] 0 ∧ sel (okD [g 9, g 10, g 11] 1) (sel (okD [g 12] 0) (sel (okD [g 13] 0) (sel (okD [g 14] 0) (R (oCk a b e n o z g (fairV (vD [g 9, g 10, g 11] 1) (vD [g 12] 0) (vD [g 13] 0) (vD [g 14] 0)))) (R (oCk a b e n o z g false))) (R (oCk a b e n o z g false))) (R (oCk a b e n o z g false))) (R (oCk a b e n o z g false)))))) := by kernel_rfl
noncomputable def gD (ds : List Int) : Nat → Int := fun i => ds.getD i 0
noncomputable def tClk : Con := fun args regs => match args, regs with
  | [.c (.p 0 0 0), .ag [.i .i64 _, .i .i64 _, .i .i64 _, .i .i64 _, .l .u8 ds]], [⟨10, 85, .cells [.i .i64 a, .i .i64 b, .i .i64 e, .i .i64 n, .i .i64 o, .i .i64 _, .i .i64 _, .i .i64 _, .i .i64 _, .s z]⟩] => .must (ds.length = 39) (.ret (oCk a b e n o z (gD ds) (clkG (gD ds))))
  | _, _ => .fail
theorem mDg3 (a b c : Int) : mDg [a, b, c] 1 := ⟨by show 3 < 1000; decide, by decide, by show (1 : Int) ≤ 2 * 3; decide⟩
theorem mDg1 (a : Int) : mDg [a] 0 := ⟨by show 1 < 1000; decide, by decide, by show (0 : Int) ≤ 2 * 1; decide⟩
theorem ck_in {x y : Bool} {F : Bool → Prop} {X : Prop} (h : F (x && y)) (hX : F y → X) : sel x X (F false) := by
  cases x with
  | true => exact selT rfl (hX h)
  | false => exact selF rfl h
theorem clk_in {ds : List Int} {m r k c a b e n o d h mi s : Int} {z : ByteArray} {R : Out → Prop} (hl : ds.length = 39) (hR : R (oCk a b e n o z (gD ds) (clkG (gD ds)))) : Box ((t_clk [.c (.p 0 0 0), .ag [.i .i64 m, .i .i64 r, .i .i64 k, .i .i64 c, .l .u8 ds]] [⟨10, 85, .cells (infC a b e n o d h mi s z)⟩]).run R) := by
  have eq := range_n hl
  have eg : (fun i => ds.getD i 0) = gD ds := rfl
  rw [eg] at eq
  generalize gD ds = g at eq hR
  subst eq
  refine Box.of_eq (clk_tree g m r k c a b e n o d h mi s z R) ⟨mDg3 _ _ _, mDg1 _, mDg1 _, mDg1 _, ?_⟩
  unfold clkG at hR
  exact ck_in (F := fun x => R (oCk a b e n o z g x)) hR fun h => ck_in (F := fun x => R (oCk a b e n o z g x)) h fun h => ck_in (F := fun x => R (oCk a b e n o z g x)) h fun h => ck_in (F := fun x => R (oCk a b e n o z g x)) h fun h => h
set_option maxRecDepth 100000 in
theorem kClk : Known Tryd.prog GL 86 tClk := by
  refine k_clk.less fun args regs R h => Box.out ?_
  unfold tClk at h
  split at h
  case h_2 => exact h.elim
  exact clk_in h.1 h.2
/-! ### parts -/
def partL (ds : List Int) (f n : Int) : List Int := (List.range n.toNat).map fun i => ds.getD (f.toNat + i) 0
noncomputable def oPt (ds : List Int) (f n : Int) : Out := ⟨.v (.c (.h 0 0 n.toNat)), [some ⟨1, 5, .ints .u8 (partL ds f n)⟩]⟩
theorem part_0 (m r k c : Int) (g : Nat → Int) (R : Out → Prop) : (t_partU [.ag [.i .i64 m, .i .i64 r, .i .i64 k, .i .i64 c, .l .u8 ((List.range 39).map g)], .c (.i .i64 0), .c (.i .i64 6)] []).run R = R (oPt ((List.range 39).map g) 0 6) := by kernel_rfl
theorem part_19 (m r k c : Int) (g : Nat → Int) (R : Out → Prop) : (t_partU [.ag [.i .i64 m, .i .i64 r, .i .i64 k, .i .i64 c, .l .u8 ((List.range 39).map g)], .c (.i .i64 19), .c (.i .i64 20)] []).run R = R (oPt ((List.range 39).map g) 19 20) := by kernel_rfl
theorem part_9 (m r k c : Int) (g : Nat → Int) (R : Out → Prop) : (t_partU [.ag [.i .i64 m, .i .i64 r, .i .i64 k, .i .i64 c, .l .u8 ((List.range 39).map g)], .c (.i .i64 9), .c (.i .i64 3)] []).run R = R (oPt ((List.range 39).map g) 9 3) := by kernel_rfl
theorem part_12 (m r k c : Int) (g : Nat → Int) (R : Out → Prop) : (t_partU [.ag [.i .i64 m, .i .i64 r, .i .i64 k, .i .i64 c, .l .u8 ((List.range 39).map g)], .c (.i .i64 12), .c (.i .i64 3)] []).run R = R (oPt ((List.range 39).map g) 12 3) := by kernel_rfl
noncomputable def tPartV : Con := fun args regs => match args, regs with
  | [.ag [.i .i64 _, .i .i64 _, .i .i64 _, .i .i64 _, .l .u8 ds], .c (.i .i64 f), .c (.i .i64 n)], [] => .must (ds.length = 39 ∧ ((f = 0 ∧ n = 6) ∨ (f = 19 ∧ n = 20) ∨ (f = 9 ∧ n = 3) ∨ (f = 12 ∧ n = 3))) (.ret (oPt ds f n))
  | _, _ => .fail
theorem part_in {m r k c f n : Int} {ds : List Int} {R : Out → Prop} (hl : ds.length = 39) (hf : (f = 0 ∧ n = 6) ∨ (f = 19 ∧ n = 20) ∨ (f = 9 ∧ n = 3) ∨ (f = 12 ∧ n = 3)) (h : R (oPt ds f n)) : Box ((t_partU [.ag [.i .i64 m, .i .i64 r, .i .i64 k, .i .i64 c, .l .u8 ds], .c (.i .i64 f), .c (.i .i64 n)] []).run R) := by
  have e := range_n hl
  generalize (fun i => ds.getD i 0) = g at e
  subst e
  rcases hf with ⟨rfl, rfl⟩ | ⟨rfl, rfl⟩ | ⟨rfl, rfl⟩ | ⟨rfl, rfl⟩
  · exact Box.of_eq (part_0 m r k c g R) h
  · exact Box.of_eq (part_19 m r k c g R) h
  · exact Box.of_eq (part_9 m r k c g R) h
  · exact Box.of_eq (part_12 m r k c g R) h
set_option maxRecDepth 100000 in
theorem kPartV : Known Tryd.prog GL 62 tPartV := by
  refine k_partU.less fun args regs R h => Box.out ?_
  unfold tPartV at h
  split at h
  case h_2 => exact h.elim
  have h1 := h.1
  have h2 := h.2
  clear h
  exact part_in h1.1 h1.2 h2
theorem at_6 (m r k c : Int) (g : Nat → Int) (R : Out → Prop) : (t_at [.ag [.i .i64 m, .i .i64 r, .i .i64 k, .i .i64 c, .l .u8 ((List.range 39).map g)], .c (.i .i64 6)] []).run R = R ⟨.v (.c (.i .u8 (((List.range 39).map g).getD 6 0))), []⟩ := by kernel_rfl
theorem at_7 (m r k c : Int) (g : Nat → Int) (R : Out → Prop) : (t_at [.ag [.i .i64 m, .i .i64 r, .i .i64 k, .i .i64 c, .l .u8 ((List.range 39).map g)], .c (.i .i64 7)] []).run R = R ⟨.v (.c (.i .u8 (((List.range 39).map g).getD 7 0))), []⟩ := by kernel_rfl
theorem at_8 (m r k c : Int) (g : Nat → Int) (R : Out → Prop) : (t_at [.ag [.i .i64 m, .i .i64 r, .i .i64 k, .i .i64 c, .l .u8 ((List.range 39).map g)], .c (.i .i64 8)] []).run R = R ⟨.v (.c (.i .u8 (((List.range 39).map g).getD 8 0))), []⟩ := by kernel_rfl
noncomputable def tAtV : Con := fun args regs => match args, regs with
  | [.ag [.i .i64 _, .i .i64 _, .i .i64 _, .i .i64 _, .l .u8 ds], .c (.i .i64 k)], [] => .must (ds.length = 39 ∧ (k = 6 ∨ k = 7 ∨ k = 8)) (.ret ⟨.v (.c (.i .u8 (ds.getD k.toNat 0))), []⟩)
  | _, _ => .fail
theorem at_in {m r kd c k : Int} {ds : List Int} {R : Out → Prop} (hl : ds.length = 39) (hf : k = 6 ∨ k = 7 ∨ k = 8) (h : R ⟨.v (.c (.i .u8 (ds.getD k.toNat 0))), []⟩) : Box ((t_at [.ag [.i .i64 m, .i .i64 r, .i .i64 kd, .i .i64 c, .l .u8 ds], .c (.i .i64 k)] []).run R) := by
  have e := range_n hl
  generalize (fun i => ds.getD i 0) = g at e
  subst e
  rcases hf with rfl | rfl | rfl
  · exact Box.of_eq (at_6 m r kd c g R) h
  · exact Box.of_eq (at_7 m r kd c g R) h
  · exact Box.of_eq (at_8 m r kd c g R) h
set_option maxRecDepth 100000 in
theorem kAtV : Known Tryd.prog GL 85 tAtV := by
  refine k_at.less fun args regs R h => Box.out ?_
  unfold tAtV at h
  split at h
  case h_2 => exact h.elim
  have h1 := h.1
  have h2 := h.2
  clear h
  exact at_in h1.1 h1.2 h2
/-! ### read -/
noncomputable def c_srd : FuncId → Option Con := conOf [(62, tPartV), (58, tOpn), (63, t_of), (64, tLMag), (84, tTurn), (85, tAtV), (86, tClk), (87, tWds)]
theorem kc_srd : ∀ f T, c_srd f = some T → Known Tryd.prog GL f T := (Knowns.cons kPartV (.cons kOpn (.cons k_of (.cons kLMag (.cons kTurn (.cons kAtV (.cons kClk (.cons kWds .nil)))))))).get
noncomputable def t_srd : Con := fun args regs => nfun Tryd.prog GL c_srd [] Tryd.f49 args regs
theorem k_srd : Known Tryd.prog GL 49 t_srd := known_inl Tryd.func49 rfl (by kernel_rfl) mixed kc_srd (by kernel_rfl)
end Go.Proofs.YthjdlanmfiofdaaDoor.sv

namespace Go.Proofs.YthjdlanmfiofdaaDoor.sv
open Go Go.Nx Go.Proofs.YthjdlanmfiofdaaDoor.pk Go.Proofs.YthjdlanmfiofdaaDoor.ln Go.Proofs.YthjdlanmfiofdaaDoor.hd Go.Proofs.YthjdlanmfiofdaaDoor.lb

noncomputable def nb (ds : List Int) (i : Nat) : Int := getN (ds.getD i 0)
noncomputable def mgV (ds : List Int) : Int := magOf (oI (shrv .i64 (nb ds 3) 3) (shlv .i64 (shrv .i64 (nb ds 5) 2) 1))
noncomputable def pgV (ds : List Int) : Int := oI (nb ds 0) (shlv .i64 (nb ds 1) 4)
noncomputable def sbV (ds : List Int) : Int := oI (oI (oI (nb ds 2) (shlv .i64 (aI (nb ds 3) 7) 4)) (shlv .i64 (nb ds 4) 8)) (shlv .i64 (aI (nb ds 5) 3) 12)
noncomputable def nwV (ds : List Int) : Int := oI (shlv .i64 (IntKind.i64.wrap (rv (ds.getD 6 0))) 8) (IntKind.i64.wrap (rv (ds.getD 7 0)))
noncomputable def ofV (ds : List Int) : Int := aI (shrv .i64 (IntKind.i64.wrap (ds.getD 8 0)) 1) 31
noncomputable def sgV (ds : List Int) : Bool := aI (shrv .i64 (IntKind.i64.wrap (ds.getD 8 0)) 6) 1 == 1
noncomputable def dyV (ds : List Int) : Int := vD [gD ds 9, gD ds 10, gD ds 11] 1
noncomputable def hrV (ds : List Int) : Int := vD [gD ds 12] 0
noncomputable def miV (ds : List Int) : Int := vD [gD ds 13] 0
noncomputable def seV (ds : List Int) : Int := vD [gD ds 14] 0
noncomputable def txV (ds : List Int) : ByteArray := strOfNums ((partL ds 19 20).map sgn)
noncomputable def oIn (ds : List Int) (of : Int) : Out := ⟨.tu [.ag (infC (mgV ds) (pgV ds) (sbV ds) (nwV ds) of (dyV ds) (hrV ds) (miV ds) (seV ds) (txV ds)), .c .en], []⟩
def oIE (k : Nat) : Out := ⟨.tu [.ag [.i .i64 0, .i .i64 0, .i .i64 0, .i .i64 0, .i .i64 0, .i .i64 0, .i .i64 0, .i .i64 0, .i .i64 0, .s ⟨#[]⟩], .c (.e k)], []⟩
noncomputable def all6 (ds : List Int) : Bool := [ds.getD 0 0, ds.getD 1 0, ds.getD 2 0, ds.getD 3 0, ds.getD 4 0, ds.getD 5 0].all getB
def mPt (ds : List Int) (f n : Int) : Prop := ds.length = 39 ∧ ((f = 0 ∧ n = 6) ∨ (f = 19 ∧ n = 20) ∨ (f = 9 ∧ n = 3) ∨ (f = 12 ∧ n = 3))
def mAt (ds : List Int) (k : Int) : Prop := ds.length = 39 ∧ (k = 6 ∨ k = 7 ∨ k = 8)
def mBy (x : Int) : Prop := 0 ≤ x ∧ x < 256
noncomputable def rdE (ds : List Int) (of : Int) (R : Out → Prop) : Prop := ds.length = 39 ∧ sel (!clkG (gD ds)) (R (oIE 3)) (mPt ds 19 20 ∧ (((partL ds 19 20).length = 20 ∧ ∀ x ∈ partL ds 19 20, 0 ≤ x ∧ x < 256) ∧ R (oIn ds of)))
noncomputable def rdX (ds : List Int) (R : Out → Prop) : Prop :=
  mPt ds 0 6 ∧ sel (all6 ds) (mAt ds 6 ∧ (mBy (ds.getD 6 0) ∧ (mAt ds 7 ∧ (mBy (ds.getD 7 0) ∧ (mAt ds 8 ∧ sel (sgV ds) (rdE ds (IntKind.i64.wrap (0 - ofV ds)) R) (rdE ds (ofV ds) R)))))) (R (oIE 1))
theorem srd_tree (m r k c : Int) (ds : List Int) (R : Out → Prop) : (t_srd [.ag [.i .i64 m, .i .i64 r, .i .i64 k, .i .i64 c, .l .u8 ds]] []).run R =
    sel (k != 7) (R (oIE 2)) (sel (m != 8) (R (oIE 2)) (sel (c != 0) (sel (c != 1) (R (oIE 2)) (rdX ds R)) (rdX ds R))) := by kernel_rfl
def okK (m k c : Int) : Bool := k == 7 && (m == 8 && (c == 0 || c == 1))
noncomputable def ofS (ds : List Int) : Int := bif sgV ds then IntKind.i64.wrap (0 - ofV ds) else ofV ds
noncomputable def tSrd : Con := fun args regs => match args, regs with
  | [.ag [.i .i64 m, .i .i64 _, .i .i64 k, .i .i64 c, .l .u8 ds]], [] => .must (okK m k c = true → ds.length = 39 ∧ ∀ x ∈ ds, 0 ≤ x ∧ x < 256) (.br (okK m k c) (.br (all6 ds) (.br (clkG (gD ds)) (.ret (oIn ds (ofS ds))) (.ret (oIE 3))) (.ret (oIE 1))) (.ret (oIE 2)))
  | _, _ => .fail
theorem get_in {ds : List Int} (h : ∀ x ∈ ds, 0 ≤ x ∧ x < 256) (j : Nat) : 0 ≤ ds.getD j 0 ∧ ds.getD j 0 < 256 := by
  rw [List.getD_eq_getElem?_getD]
  cases e : ds[j]? with
  | none => exact ⟨by decide, by decide⟩
  | some x => exact h x (List.mem_of_getElem? e)
theorem part_by {ds : List Int} (h : ∀ x ∈ ds, 0 ≤ x ∧ x < 256) (f n : Int) : ∀ x ∈ partL ds f n, 0 ≤ x ∧ x < 256 := by
  intro x hx
  unfold partL at hx
  rw [List.mem_map] at hx
  obtain ⟨i, _, rfl⟩ := hx
  exact get_in h _
theorem rdE_in {ds : List Int} {of : Int} {R : Out → Prop} (hl : ds.length = 39) (hb : ∀ x ∈ ds, 0 ≤ x ∧ x < 256) (h : sel (clkG (gD ds)) (R (oIn ds of)) (R (oIE 3))) : rdE ds of R := by
  refine ⟨hl, ?_⟩
  cases e : clkG (gD ds) with
  | true => rw [e] at h; exact selF rfl ⟨⟨hl, .inr (.inl ⟨rfl, rfl⟩)⟩, ⟨rfl, part_by hb _ _⟩, h⟩
  | false => rw [e] at h; exact selT rfl h
theorem rdX_in {ds : List Int} {R : Out → Prop} (hl : ds.length = 39) (hb : ∀ x ∈ ds, 0 ≤ x ∧ x < 256) (h : sel (all6 ds) (sel (clkG (gD ds)) (R (oIn ds (ofS ds))) (R (oIE 3))) (R (oIE 1))) : rdX ds R := by
  refine ⟨⟨hl, .inl ⟨rfl, rfl⟩⟩, ?_⟩
  cases e : all6 ds with
  | false => rw [e] at h; exact selF rfl h
  | true =>
    rw [e] at h
    refine selT rfl ⟨⟨hl, .inl rfl⟩, get_in hb 6, ⟨hl, .inr (.inl rfl)⟩, get_in hb 7, ⟨hl, .inr (.inr rfl)⟩, ?_⟩
    unfold ofS at h
    cases es : sgV ds with
    | true => rw [es] at h; exact selT rfl (rdE_in hl hb h)
    | false => rw [es] at h; exact selF rfl (rdE_in hl hb h)
theorem srd_in {m k c : Int} {ds : List Int} {R : Out → Prop} (hm : okK m k c = true → ds.length = 39 ∧ ∀ x ∈ ds, 0 ≤ x ∧ x < 256) (h : sel (okK m k c) (sel (all6 ds) (sel (clkG (gD ds)) (R (oIn ds (ofS ds))) (R (oIE 3))) (R (oIE 1))) (R (oIE 2))) :
    sel (k != 7) (R (oIE 2)) (sel (m != 8) (R (oIE 2)) (sel (c != 0) (sel (c != 1) (R (oIE 2)) (rdX ds R)) (rdX ds R))) := by
  unfold okK at hm h
  cases e1 : (k == 7) with
  | false => rw [e1] at h; exact selT (by simp [bne, e1]) h
  | true =>
    rw [e1] at h hm
    refine selF (by simp [bne, e1]) ?_
    cases e2 : (m == 8) with
    | false => rw [e2] at h; exact selT (by simp [bne, e2]) h
    | true =>
      rw [e2] at h hm
      refine selF (by simp [bne, e2]) ?_
      cases e3 : (c == 0) with
      | true =>
        rw [e3] at h hm
        exact selF (by simp [bne, e3]) (rdX_in (hm rfl).1 (hm rfl).2 h)
      | false =>
        rw [e3] at h hm
        refine selT (by simp [bne, e3]) ?_
        cases e4 : (c == 1) with
        | true =>
          rw [e4] at h hm
          exact selF (by simp [bne, e4]) (rdX_in (hm rfl).1 (hm rfl).2 h)
        | false => rw [e4] at h; exact selT (by simp [bne, e4]) h
set_option maxRecDepth 100000 in
theorem kSrd : Known Tryd.prog GL 49 tSrd := by
  refine k_srd.less fun args regs R h => Box.out ?_
  unfold tSrd at h
  split at h
  case h_2 => exact h.elim
  rename_i m r k c ds
  have h1 := h.1
  have h2 := h.2
  clear h
  exact Box.of_eq (srd_tree m r k c ds R) (srd_in h1 h2)
noncomputable def c_sbt : FuncId → Option Con := conOf [(91, tTxt), (70, tFairB), (92, tFairV), (69, t_row7), (71, t_nib), (84, tTurn), (93, t_stwo), (72, t_concat4), (28, tBytes)]
theorem kc_sbt : ∀ f T, c_sbt f = some T → Known Tryd.prog GL f T := (Knowns.cons kTxt (.cons kFairB (.cons kFairV (.cons k_row7 (.cons k_nib (.cons kTurn (.cons k_stwo (.cons k_concat4 (.cons kBytes .nil))))))))).get
noncomputable def t_sbt : Con := fun args regs => nfun Tryd.prog GL c_sbt [] Tryd.f53 args regs
theorem k_sbt : Known Tryd.prog GL 53 t_sbt := known_inl Tryd.func53 rfl (by kernel_rfl) mixed kc_sbt (by kernel_rfl)
end Go.Proofs.YthjdlanmfiofdaaDoor.sv

namespace Go.Proofs.YthjdlanmfiofdaaDoor.sv
open Go Go.Nx Go.Proofs.YthjdlanmfiofdaaDoor.pk Go.Proofs.YthjdlanmfiofdaaDoor.ln Go.Proofs.YthjdlanmfiofdaaDoor.hd Go.Proofs.YthjdlanmfiofdaaDoor.lb

noncomputable def u8i (n : Int) : Int := IntKind.u8.wrap n
noncomputable def two (x : Int) : Int := u8i (IntKind.i64.wrap (bits .or .i64 (shlv .i64 (IntKind.i64.wrap (IntKind.i64.wrap (x.tdiv 10) + 1)) 4) (x.tmod 10) + 1))
noncomputable def mx (o : Int) : Int := bif decide (IntKind.i64.wrap (0 - o) > o) then IntKind.i64.wrap (0 - o) else o
noncomputable def ofB (neg : Bool) (o : Int) : Int := bif neg then oU (u8i (shlv .i64 (mx o) 1)) 64 else u8i (shlv .i64 (mx o) 1)
noncomputable def hd7 (a b e : Int) : List Int := [put 0, put (aI b 15), put (shrv .i64 b 4), put (aI e 15), put (oI (aI (shrv .i64 e 4) 7) (shlv .i64 (aI (aI a 7) 1) 3)), put (aI (shrv .i64 e 8) 15), put (oI (aI (shrv .i64 e 12) 3) (shlv .i64 (shrv .i64 (aI a 7) 1) 2))]
noncomputable def md9 (neg : Bool) (n o d h mi s : Int) : List Int := [rv (u8i (shrv .i64 n 8)), rv (u8i n), ofB neg o, u8i (IntKind.i64.wrap (IntKind.i64.wrap (d.tdiv 10000) + 1)), two ((IntKind.i64.wrap (d.tdiv 100)).tmod 100), two (d.tmod 100), two h, two mi, two s, 0, 0, 0, 0]
noncomputable def LB (neg : Bool) (a b e n o d h mi s : Int) (z : ByteArray) : List Int := 21 :: 234 :: (hd7 a b e ++ (md9 neg n o d h mi s ++ txA z 20))
noncomputable def oBt (L : List Int) : Out := ⟨.tu [.c (.h 0 0 42), .c .en], [some ⟨1, 5, .ints .u8 L⟩]⟩
noncomputable def sbE (neg : Bool) (a b e n o d h mi s : Int) (z : ByteArray) (R : Out → Prop) : Prop := mBy (u8i (shrv .i64 n 8)) ∧ (mBy (u8i n) ∧ R (oBt (LB neg a b e n o d h mi s z)))
theorem sbt_tree (a b e n o d h mi s : Int) (z : ByteArray) (R : Out → Prop) : (t_sbt [.ag (infC a b e n o d h mi s z)] []).run R =
    sel (okTx z) (sel (!fairB a b e) (R (oEr 3)) (sel (decide (n < 0)) (R (oEr 3)) (sel (decide (n > 65535)) (R (oEr 3)) (sel (decide (o < -31)) (R (oEr 3)) (sel (decide (o > 31)) (R (oEr 3)) (sel (!fairV d h mi s) (R (oEr 3)) (sel (decide (o < 0)) (sbE true a b e n o d h mi s z R) (sbE false a b e n o d h mi s z R)))))))) (R (oEr 3)) := by kernel_rfl
noncomputable def okBt (a b e n o d h mi s : Int) (z : ByteArray) : Bool := okTx z && (fairB a b e && (!decide (n < 0) && (!decide (n > 65535) && (!decide (o < -31) && (!decide (o > 31) && fairV d h mi s)))))
noncomputable def tSbt : Con := fun args regs => match args, regs with
  | [.ag [.i .i64 a, .i .i64 b, .i .i64 e, .i .i64 n, .i .i64 o, .i .i64 d, .i .i64 h, .i .i64 mi, .i .i64 s, .s z]], [] => .br (okBt a b e n o d h mi s z) (.ret (oBt (LB (decide (o < 0)) a b e n o d h mi s z))) (.ret (oEr 3))
  | _, _ => .fail
theorem u8i_in (n : Int) : mBy (u8i n) := by
  unfold mBy u8i
  rw [IntKind.wrap_u8]
  omega
theorem bn_in {x : Bool} {y : Bool} {A E X : Prop} (h : sel (x && y) A E) (hX : sel y A E → X) : sel (!x) E X := by
  cases x with
  | true => exact selF rfl (hX h)
  | false => exact selT rfl h
theorem nb_in {x : Bool} {y : Bool} {A E X : Prop} (h : sel (!x && y) A E) (hX : sel y A E → X) : sel x E X := by
  cases x with
  | true => exact selT rfl h
  | false => exact selF rfl (hX h)
theorem sbt_in {a b e n o d h mi s : Int} {z : ByteArray} {R : Out → Prop} (hR : sel (okBt a b e n o d h mi s z) (R (oBt (LB (decide (o < 0)) a b e n o d h mi s z))) (R (oEr 3))) :
    sel (okTx z) (sel (!fairB a b e) (R (oEr 3)) (sel (decide (n < 0)) (R (oEr 3)) (sel (decide (n > 65535)) (R (oEr 3)) (sel (decide (o < -31)) (R (oEr 3)) (sel (decide (o > 31)) (R (oEr 3)) (sel (!fairV d h mi s) (R (oEr 3)) (sel (decide (o < 0)) (sbE true a b e n o d h mi s z R) (sbE false a b e n o d h mi s z R)))))))) (R (oEr 3)) := by
  unfold okBt at hR
  cases h0 : okTx z with
  | false => rw [h0] at hR; exact selF rfl hR
  | true =>
    rw [h0] at hR
    refine selT rfl (bn_in hR fun hR => nb_in hR fun hR => nb_in hR fun hR => nb_in hR fun hR => nb_in hR fun hR => ?_)
    cases h1 : fairV d h mi s with
    | false => rw [h1] at hR; exact selT rfl hR
    | true =>
      rw [h1] at hR
      have hR : R (oBt (LB (decide (o < 0)) a b e n o d h mi s z)) := hR
      refine selF rfl ?_
      cases h2 : decide (o < 0) with
      | true => rw [h2] at hR; exact selT rfl ⟨u8i_in _, u8i_in _, hR⟩
      | false => rw [h2] at hR; exact selF rfl ⟨u8i_in _, u8i_in _, hR⟩
set_option maxRecDepth 100000 in
theorem kSbt : Known Tryd.prog GL 53 tSbt := by
  refine k_sbt.less fun args regs R h => Box.out ?_
  unfold tSbt at h
  split at h
  case h_2 => exact h.elim
  exact Box.of_eq (sbt_tree _ _ _ _ _ _ _ _ _ _ R) (sbt_in h)
noncomputable def c_same : FuncId → Option Con := conOf [(27, tSamePT)]
theorem kc_same : ∀ f T, c_same f = some T → Known Tryd.prog GL f T := (Knowns.cons kSamePT .nil).get
noncomputable def t_same : Con := fun args regs => nfun Tryd.prog GL c_same [] Tryd.f52 args regs
theorem k_same : Known Tryd.prog GL 52 t_same := known_inl Tryd.func52 rfl (by kernel_rfl) mixed kc_same (by kernel_rfl)
noncomputable def t_plain : Con := fun args regs => nfun Tryd.prog GL (fun _ => Option.none) [] Tryd.f55 args regs
theorem k_plain : Known Tryd.prog GL 55 t_plain := known_inl Tryd.func55 rfl (by kernel_rfl) mixed con_none (by kernel_rfl)
end Go.Proofs.YthjdlanmfiofdaaDoor.sv
